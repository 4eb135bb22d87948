/- The contract of the reference's JoinCursors. -/
import Derived.Test.YtmdjmaijennmkaaSi
import Derived.Test.YtmdjmaijennmkaaQl
import Derived.Deep.DeepCutAuto
set_option linter.unusedVariables false
set_option linter.unusedSimpArgs false
namespace Go.Proofs.Ytmdjmaijennmkaa
open Go.RowKit Go.Sort
/-- Block M holds the cursor c. -/
def Box (w : World) (M : Nat) (c : Int × Int) : Prop := w.heap[M]? = some (.cells #[.int .i64 c.1, .int .i64 c.2] 44 (0, 0))
section
variable {w w' : World} {M : Nat} {c : Int × Int}
theorem Box.new (w : World) (c : Int × Int) : Box (w.alloc (.cells #[.int .i64 c.1, .int .i64 c.2] 44)) w.heap.size c := heap_alloc_new w _
theorem Box.lt (h : Box w M c) : M < w.heap.size := (Array.getElem?_eq_some_iff.1 h).1
theorem Box.below {B : Nat} (h : Box w M c) (hb : Below B w w') (hM : M < B) : Box w' M c := (hb.block M hM).trans h
theorem Box.grown {row : Option Nat} (h : Box w M c) (hg : w.grownBy w' row) (hne : some M ≠ row) : Box w' M c := (hg.block M h.lt hne).trans h
theorem Box.c0 (h : Box w M c) : w.cell? ⟨M, 0, none⟩ = some (.int .i64 c.1) := cell_of_row _ _ 0 _ _ (0, 0) h
theorem Box.c1 (h : Box w M c) : w.cell? ⟨M, 1, none⟩ = some (.int .i64 c.2) := cell_of_row _ _ 1 _ _ (0, 0) h
theorem Box.frozen (h : Box w M c) (j : Nat) : w.frozen? ⟨M, j, none⟩ = false := by
  unfold Box at h
  simp [World.frozen?, h]
theorem Box.store (h : Box w M c) (a b : Int) : Box ((w.setCell ⟨M, 0, none⟩ (.int .i64 a)).setCell ⟨M, 1, none⟩ (.int .i64 b)) M (a, b) := by
  unfold Box at h ⊢
  simp [World.setCell, Array.getElem?_modify, h]
theorem Box.other (h : Box w M c) {p : Addr} (hp : p.block ≠ M) (v : Value) : Box (w.setCell p v) M c := (Below.heap_setCell w p v M (fun e => hp e.symm)).trans h
end
set_option maxRecDepth 100000 in
set_option maxHeartbeats 4000000 in
theorem sJC_any (s : ByteArray) (A : Option Addr) (n c : Nat) (ps : List (Int × Int)) (w : World) (hs : s.size ≤ maxLen) (h : Row w w.heap.size A (pairs ps)) (hn : ps.length = n) (hmax : n ≤ 3000000) :
    Calls Try.prog 25 #[.string s, .slice A n c] w (PairsPost (jcL s ps) w) := by
  have hs' := hs
  unfold maxLen at hs'
  subst hn
  have mixed : Try.prog.follows .mixedOrders = true := by kernel_rfl
  have hmade : ∀ W : World, w.heap.size ≤ W.heap.size → (W.alloc (.cells #[] 44)).ownsRow w.heap.size 44 2 (.slice (some ⟨W.heap.size, 0, none⟩) 0 0) 0 [] := fun W hW => World.ownsRow_made W #[] 0 hW (by decide) rfl
  by_cases hok : valid s.data.toList = true ∧ ps.length ≤ 8
  · obtain ⟨hv, h8⟩ := hok
    have hyes : allIn s.size ps = true → jcL s ps = joinR ps := fun ha => by unfold jcL plV; rw [hv, ha, decide_eq_true h8]; rfl
    have hno : allIn s.size ps = false → jcL s ps = [] := fun ha => by unfold jcL plV; rw [hv, ha]; rfl
    have HYN := Lib.hid (And.intro hyes hno)
    have h8' : decide ((8 : Int) < (ps.length : Int)) = false := decide_eq_false (by omega)
    obtain ⟨i0, hi, hz0, hz1, hz2⟩ := info_parts infoPair
    have HM := Lib.hid (And.intro (hmade w (Nat.le_refl _)) ((Below.refl w.heap.size w).alloc (Nat.le_refl _) (.cells #[] 44)))
    have hmsz : w.heap.size ≤ (w.alloc (.cells #[] 44)).heap.size := by simp
    clear hyes hno
    go_enter Try.func25, Try.ntmps25
    go_wp2_with fail
    refine (sTV_any _ _ hs).mono ?_
    rintro e w' ⟨rfl, rfl⟩
    rw [hv]
    go_wp2_with fail
    go_loopw [5, 6] (fun ov iv wr => ∃ (k : Nat) (o : List (Int × Int)), k ≤ ps.length ∧ iv = .int .i64 k ∧ Hid (o = joinR (ps.take k) ∧ allIn s.size (ps.drop k) = allIn s.size ps) ∧ o.length ≤ k ∧ wr.ownsRow w.heap.size 44 2 ov o.length (pairs o) ∧ Below w.heap.size w wr ∧ w.heap.size ≤ wr.heap.size) (fun _ iv _ => ps.length - (intOf iv).toNat)
    case atStart => exact ⟨0, [], Nat.zero_le _, rfl, Lib.hid ⟨rfl, rfl⟩, Nat.le_refl _, HM.out.1, HM.out.2, hmsz⟩
    case round =>
      obtain ⟨k, o, hk, rfl, HK, hol, hown, hbw, hsz⟩ := hrel
      obtain ⟨w0, hw0⟩ : ∃ w0, w0 = wr := ⟨wr, rfl⟩
      subst hw0
      by_cases hkn : k < ps.length
      · obtain ⟨g, q, rfl, hgz, c0, c1⟩ := ((h.below hbw)).pair hkn
        have HI := Lib.hid (allIn_drop s.size hkn)
        have HT := Lib.hid (And.intro (show joinR (ps.take (k + 1)) = insC (joinR (ps.take k)) (ps[k]'hkn) by rw [List.take_succ_eq_append_getElem hkn, joinR_snoc]) (joinR_apart (ps.take k)))
        generalize (ps[k]'hkn) = y at c0 c1 HI HT
        obtain ⟨y1, y2⟩ := y
        simp only at c0 c1
        have hk' : (k : Int) < (ps.length : Int) := by omega
        have hk0 : (0 : Int) ≤ (k : Int) := by omega
        have hlc := fun W => l7Lo_below y1 y2 W
        have hhc := fun W => l7Hi_below y1 y2 W
        have hin : inC s.size (y1, y2) = (decide (0 ≤ loC (y1, y2)) && decide (hiC (y1, y2) ≤ s.size)) := rfl
        generalize loC (y1, y2) = ly at hin hlc
        generalize hiC (y1, y2) = hy at hin hhc
        have HC := Lib.hid (And.intro hlc hhc)
        have HIN := Lib.hid hin
        have HW := Lib.hid (And.intro hown hbw)
        clear hlc hhc hin hown hbw h HM
        have hret : Hid ((ly < 0 ∨ (s.size : Int) < hy) → ∀ W : World, Below w.heap.size w W → w.heap.size ≤ W.heap.size → ∀ v, v = Value.slice (some ⟨W.heap.size, 0, none⟩) 0 0 → PairsPost (jcL s ps) w (.returned v) (W.alloc (.cells #[] 44))) := Lib.hid (fun hor W hb hz v hv => by
          subst hv
          have hf : allIn s.size ps = false := by
            rw [← HK.out.2, HI.out, HIN.out]
            rcases hor with h | h
            · rw [decide_eq_false (show ¬ 0 ≤ ly by omega)]; rfl
            · rw [decide_eq_false (show ¬ hy ≤ s.size by omega)]; simp
          rw [HYN.out.2 hf]
          exact ⟨_, 0, rfl, hmade W hz, hb.alloc hz _⟩)
        by_cases h1 : ly < 0
        · go_wp2_with fail
          refine (HC.out.1 _).mono ?_
          rintro e Wa ⟨rfl, hba⟩
          have HF := Lib.hid (hret.out (.inl h1) Wa ((HW.out.2.alloc hsz _).trans (hba.mono (by simp; omega))) (by have := hba.size; simp at this; omega) _ rfl)
          clear hba hret
          go_wp2_with fail
          go_ret
          exact HF.out
        · have h1' : decide (ly < 0) = false := decide_eq_false h1
          go_wp2_with fail
          refine (HC.out.1 _).mono ?_
          rintro e Wa ⟨rfl, hba⟩
          have hx0 := (Box.new w0 (y1, y2)).below hba (by simp)
          have ha0 := hx0.c0
          have ha1 := hx0.c1
          have hMa : w0.heap.size + 1 ≤ Wa.heap.size := by have := hba.size; simpa using this
          have HBA := Lib.hid (And.intro ((HW.out.2.alloc hsz _).trans (hba.mono (by simp; omega))) (And.intro (((Below.refl w0.heap.size w0).alloc (Nat.le_refl _) _).trans (hba.mono (by simp))) hx0))
          clear hba hx0 c0 c1
          simp only at ha0 ha1
          go_wp2_with fail
          refine (HC.out.2 _).mono ?_
          rintro e Wb ⟨rfl, hbb⟩
          have hMb : w0.heap.size + 1 ≤ Wb.heap.size := Nat.le_trans hMa hbb.size
          have hbx := HBA.out.2.2.below hbb (by omega)
          have hbw := HBA.out.1.trans (hbb.mono (by omega))
          have hbm := HBA.out.2.1.trans (hbb.mono (by omega))
          by_cases h2 : (s.size : Int) < hy
          · have HF := Lib.hid (hret.out (.inr h2) Wb hbw (by omega) _ rfl)
            clear hbb hbx hbw hbm hret HBA ha0 ha1
            go_wp2_with fail
            go_ret
            exact HF.out
          · have h2' : decide ((s.size : Int) < hy) = false := decide_eq_false h2
            have hnx : (Wb.alloc (.cells #[] 44)).ownsRow (w0.heap.size + 1) 44 2 (.slice (some ⟨Wb.heap.size, 0, none⟩) 0 0) 0 (pairs []) := World.ownsRow_made Wb #[] 0 (by omega) (by decide) rfl
            have ho0 : ∃ g' q', True := ⟨0, 0, trivial⟩
            have HS := Lib.hid (And.intro hnx (And.intro (hbx.below ((Below.refl Wb.heap.size Wb).alloc (Nat.le_refl _) (.cells #[] 44)) (by omega)) (hbm.alloc (by omega) (.cells #[] 44))))
            have hzc : w0.heap.size + 1 ≤ (Wb.alloc (.cells #[] 44)).heap.size := by simp; omega
            obtain ⟨Ao, co, hu5⟩ := own_form2 HW.out.1
            have hro : Row w0 w0.heap.size Ao (pairs o) := by have := HW.out.1; rw [hu5] at this; exact Row.of_own2 this
            subst hu5
            have HRO := Lib.hid hro
            clear hbb hbx hbw hbm hret HBA ha0 ha1 hnx hro
            go_wp2_with fail
            go_loopw [8, 9] (fun nv jv wx => ∃ (j : Nat) (cu : Int × Int) (nx : List (Int × Int)) (gn cap : Nat), j ≤ o.length ∧ jv = .int .i64 j ∧ nv = .slice (some ⟨gn, 0, none⟩) nx.length cap ∧ nx.length ≤ j ∧ Hid (SInv o (y1, y2) j cu nx) ∧ wx.ownsRow (w0.heap.size + 1) 44 2 (.slice (some ⟨gn, 0, none⟩) nx.length cap) nx.length (pairs nx) ∧ Box wx w0.heap.size cu ∧ Below w0.heap.size w0 wx ∧ w0.heap.size + 1 ≤ wx.heap.size) (fun _ jv _ => o.length - (intOf jv).toNat)
            case atStart => exact ⟨0, (y1, y2), [], Wb.heap.size, 0, Nat.zero_le _, rfl, rfl, Nat.le_refl _, Lib.hid (SInv.start o (y1, y2)), HS.out.1, HS.out.2.1, HS.out.2.2, hzc⟩
            case round =>
              obtain ⟨j, cu, nx, gn, cap, hj, rfl, rfl, hnl, HSI, hown, hbox, hbx, hzx⟩ := hrel
              by_cases hjn : j < o.length
              ·
                have hbs : Row wr w0.heap.size Ao (pairs o) := HRO.out.below hbx
                obtain ⟨go, qo, rfl, hgo, p0, p1⟩ := hbs.pair hjn
                have hmeet := fun h1 h2 => HSI.out.meet hjn h1 h2
                have hmiss := fun h1 => HSI.out.miss (by rw [HK.out.1]; exact HT.out.2) hjn h1
                generalize (o[j]'hjn) = x at p0 p1 hmeet hmiss
                obtain ⟨x1, x2⟩ := x
                obtain ⟨d1, d2⟩ := cu
                simp only at p0 p1
                have hj' : (j : Int) < (o.length : Int) := by omega
                have hj0 : (0 : Int) ≤ (j : Int) := by omega
                have b0 := hbox.c0
                have b1 := hbox.c1
                simp only at b0 b1
                have hX := Box.new wr (x1, x2)
                have hbox2 := hbox.below ((Below.refl wr.heap.size wr).alloc (Nat.le_refl _) (.cells #[.int .i64 x1, .int .i64 x2] 44)) hbox.lt
                have e0 := fun n os => cell_grown (by simp) hX.c0 n os
                have e1 := fun n os => cell_grown (by simp) hX.c1 n os
                have f0 := fun n os => cell_grown (by simp; omega) hbox2.c0 n os
                have f1 := fun n os => cell_grown (by simp; omega) hbox2.c1 n os
                simp only at e0 e1 f0 f1
                have HB := Lib.hid (And.intro hown (And.intro hbox (And.intro hbox2 (And.intro hbx hX))))
                have hhu : hull (x1, x2) (d1, d2) = (min (loC (x1, x2)) (loC (d1, d2)), max (hiC (x1, x2)) (hiC (d1, d2))) := rfl
                rw [hhu] at hmeet
                have hg1 := fun W n os => l7Lo_grow x1 x2 W n os
                have hg2 := fun W n os => l7Hi_grow x1 x2 W n os
                have hg3 := fun W n os => l7Lo_grow d1 d2 W n os
                have hg4 := fun W n os => l7Hi_grow d1 d2 W n os
                have hl1 := fun W => l7Lo_below x1 x2 W
                have hl2 := fun W => l7Hi_below x1 x2 W
                have hl3 := fun W => l7Lo_below d1 d2 W
                have hl4 := fun W => l7Hi_below d1 d2 W
                clear hhu
                generalize loC (x1, x2) = lx at *
                generalize hiC (x1, x2) = hx at *
                generalize loC (d1, d2) = ld at *
                generalize hiC (d1, d2) = hd at *
                have HSM := Lib.hid (And.intro hmeet hmiss)
                have HL := Lib.hid (And.intro hl1 (And.intro hl2 (And.intro hl3 hl4)))
                clear hmeet hmiss hown hbox hbox2 hbx hX hbs hl1 hl2 hl3 hl4
                by_cases hov : lx ≤ hd ∧ ld ≤ hx
                · obtain ⟨ho1, ho2⟩ := hov
                  go_wp2_with fail
                  refine wp_region_quiet_grown (by assumption) (by kernel_rfl) ?_
                  repeat (go_big_quiet_step (first | (go_at_call 41; first | with_reducible exact hg1 _ _ _ | with_reducible exact hg3 _ _ _) | (go_at_call 42; first | with_reducible exact hg2 _ _ _ | with_reducible exact hg4 _ _ _)))
                  refine wpQuiet_nil ?_
                  intro _ hw'
                  obtain ⟨⟨nq, osq⟩, hw''⟩ := hw'
                  subst hw''
                  have hq := below_grow (wr.alloc (.cells #[.int .i64 x1, .int .i64 x2] 44)) nq osq
                  have hbX := HB.out.2.2.2.2.below hq (by simp)
                  have hbM := HB.out.2.2.1.below hq (by simp; omega)
                  have hq2 := ((Below.refl wr.heap.size wr).alloc (Nat.le_refl _) (.cells #[.int .i64 x1, .int .i64 x2] 44)).trans (hq.mono (by simp))
                  have hown1 := own_below HB.out.1 hq2
                  have hbx1 := below_on HB.out.2.2.2.1 hq2
                  have hsz1 : wr.heap.size + 1 ≤ (grow ((wr.alloc (.cells #[.int .i64 x1, .int .i64 x2] 44)).drewN nq) osq).heap.size := by simp
                  clear e0 e1 f0 f1 b0 b1 hq hq2 HB
                  generalize grow ((wr.alloc (.cells #[.int .i64 x1, .int .i64 x2] 44)).drewN nq) osq = W1 at *
                  have m0 := hbM.c0
                  have m1 := hbM.c1
                  have mf0 := hbM.frozen 0
                  have mf1 := hbM.frozen 1
                  have n0 := hbX.c0
                  have n1 := hbX.c1
                  simp only at m0 m1 n0 n1
                  have zx : wr.heap.size < W1.heap.size := by omega
                  have zm : w0.heap.size < W1.heap.size := by omega
                  go_wp2_with fail
                  have e0 := fun n os => cell_grown (by show wr.heap.size < _; omega) hbX.c0 n os
                  have e1 := fun n os => cell_grown (by show wr.heap.size < _; omega) hbX.c1 n os
                  have f0 := fun n os => cell_grown (by show w0.heap.size < _; omega) hbM.c0 n os
                  have f1 := fun n os => cell_grown (by show w0.heap.size < _; omega) hbM.c1 n os
                  simp only at e0 e1 f0 f1
                  refine wp_region_last (C := fun w' => ∃ p : GrownBy, w' = grow (W1.drewN p.n) p.os) (l := [_, _, _, _, _, _, _, _, _, _, _]) (s := _) rfl (by assumption) (by kernel_rfl) ⟨⟨1, #[]⟩, by rw [grow_empty]; rfl⟩ ?_
                  repeat (go_big_quiet_step (first | (go_at_call 41; first | with_reducible exact hg1 _ _ _ | with_reducible exact hg3 _ _ _) | (go_at_call 42; first | with_reducible exact hg2 _ _ _ | with_reducible exact hg4 _ _ _)))
                  refine wpQuiet_nil ?_
                  rintro _ ⟨⟨nq, osq⟩, rfl⟩
                  have hq := below_grow W1 nq osq
                  have hbM2 := hbM.below hq (by omega)
                  have hown2 := own_below hown1 hq
                  have hbx2 := below_on hbx1 hq
                  have hsz2 : wr.heap.size + 1 ≤ (grow (W1.drewN nq) osq).heap.size := Nat.le_trans hsz1 hq.size
                  clear e0 e1 f0 f1 hg1 hg2 hg3 hg4 hq m0 m1 mf0 mf1 n0 n1 hbX hbM hown1 hbx1
                  show Oper.wp _ _ _ (grow (W1.drewN nq) osq) _ _
                  generalize grow (W1.drewN nq) osq = W2 at *
                  have m0 := hbM2.c0
                  have m1 := hbM2.c1
                  have mf0 := hbM2.frozen 0
                  have mf1 := hbM2.frozen 1
                  simp only at m0 m1
                  have hgS : W2.grownBy ((W2.setCell ⟨w0.heap.size, 0, none⟩ (.int .i64 (min lx ld))).setCell ⟨w0.heap.size, 1, none⟩ (.int .i64 (max hx hd))) (some w0.heap.size) := Beside.set (Beside.set (Beside.refl w0.heap.size W2) (p := ⟨w0.heap.size, 0, none⟩) (.inl rfl) _) (p := ⟨w0.heap.size, 1, none⟩) (.inl rfl) _
                  have hownS := hown2.kept hgS (.inr (by intro e; have := (hown2.lt _ e).1; omega))
                  have HRS := Lib.hid (And.intro (HSM.out.1 ho1 ho2) (And.intro hownS (And.intro (hbM2.store (min lx ld) (max hx hd)) ((hbx2.setCell (p := ⟨w0.heap.size, 0, none⟩) (Nat.le_refl _) (.int .i64 (min lx ld))).setCell (p := ⟨w0.heap.size, 1, none⟩) (Nat.le_refl _) (.int .i64 (max hx hd))))))
                  clear hgS hownS hown2 hbM2 hbx2
                  go_simp
                  go_wp2_with fail
                  go_roundw
                  case rel => exact ⟨j + 1, _, nx, gn, cap, by omega, by go_num, rfl, by omega, Lib.hid HRS.out.1, HRS.out.2.1, HRS.out.2.2.1, HRS.out.2.2.2, by simp [World.setCell]; omega⟩
                  case measure => (simp [intOf] <;> omega)
                · have HMS := Lib.hid (HSM.out.2 hov)
                  have HSP := Lib.hid (pairs_snoc nx x1 x2)
                  have hfin : Hid (∀ W1 : World, (∃ nq osq, W1 = grow ((wr.alloc (.cells #[.int .i64 x1, .int .i64 x2] 44)).drewN nq) osq) → Box W1 wr.heap.size (x1, x2) ∧ Box W1 w0.heap.size (d1, d2) ∧ W1.ownsRow (w0.heap.size + 1) 44 2 (.slice (some ⟨gn, 0, none⟩) nx.length cap) nx.length (pairs nx) ∧ Below w0.heap.size w0 W1 ∧ wr.heap.size + 1 ≤ W1.heap.size) := Lib.hid (by
                    rintro _ ⟨nq, osq, rfl⟩
                    have hq := below_grow (wr.alloc (.cells #[.int .i64 x1, .int .i64 x2] 44)) nq osq
                    have hq2 := ((Below.refl wr.heap.size wr).alloc (Nat.le_refl _) (.cells #[.int .i64 x1, .int .i64 x2] 44)).trans (hq.mono (by simp))
                    exact ⟨HB.out.2.2.2.2.below hq (by simp), HB.out.2.2.1.below hq (by simp; omega), own_below HB.out.1 hq2, below_on HB.out.2.2.2.1 hq2, by simp⟩)
                  clear HSM b0 b1 HB
                  by_cases ho1 : lx ≤ hd
                  · have ho2 : ¬ ld ≤ hx := fun h => hov ⟨ho1, h⟩
                    have ho2' : decide (ld ≤ hx) = false := decide_eq_false ho2
                    clear hov
                    go_wp2_with fail
                    refine wp_region_quiet_grown (by assumption) (by kernel_rfl) ?_
                    repeat (go_big_quiet_step (first | (go_at_call 41; first | with_reducible exact hg1 _ _ _ | with_reducible exact hg3 _ _ _) | (go_at_call 42; first | with_reducible exact hg2 _ _ _ | with_reducible exact hg4 _ _ _)))
                    refine wpQuiet_nil ?_
                    intro _ hw'
                    obtain ⟨⟨nq, osq⟩, hw''⟩ := hw'
                    subst hw''
                    have hF := hfin.out _ ⟨nq, osq, rfl⟩
                    clear hfin e0 e1 f0 f1 hg1 hg2 hg3 hg4
                    generalize grow ((wr.alloc (.cells #[.int .i64 x1, .int .i64 x2] 44)).drewN nq) osq = W1 at *
                    obtain ⟨hbX, hbM, hown1, hbx1, hsz1⟩ := hF
                    have n0 := hbX.c0
                    have n1 := hbX.c1
                    simp only at n0 n1
                    have hMF := Lib.hid (And.intro hbM hbx1)
                    clear hbX hbM hbx1
                    go_wp2_with (first | (at_builtin; refine wpList_append_lies _ rfl _ _ 25 rfl (w0.heap.size + 1) 44 i0 (.agg #[.int .i64 0, .int .i64 0]) 2 16 Try.underlying25 hi hz0 hz1 hz2 rfl (by decide) _ nx.length (pairs nx) rfl (hown1.alloc _) ⟨W1.heap.size, 0, none⟩ 1 1 [.int .i64 x1, .int .i64 x2] rfl rfl (news2 _ _ _ _) (ones2 _ _) (by omega) (by unfold maxLen; omega) (by omega) (by simp; omega) (W1.heap.size + 1) (by simp) ?_))
                    intro gg cap' w3 hown3 hgrow hat hlt
                    have hgm : some w0.heap.size ≠ (Value.slice (some ⟨gn, 0, none⟩) nx.length cap).ownBlock := by intro e; have := (hown1.lt _ e.symm).1; omega
                    have hbM3 := (hMF.out.1.below ((Below.refl W1.heap.size W1).alloc (Nat.le_refl _) _) (by omega)).grown hgrow hgm
                    have hbx3 : Below w0.heap.size w0 w3 := (hMF.out.2.alloc (by omega) _).grown hgrow (by simp; omega) (fun q hq => by have := (hown1.lt q hq).1; omega)
                    have hzw3 : w0.heap.size + 1 ≤ w3.heap.size := by have := hgrow.size; simp at this; omega
                    rw [← HSP.out] at hown3
                    have el : (nx ++ [(x1, x2)]).length = nx.length + 1 := by simp
                    have HZ := Lib.hid (And.intro hown3 (And.intro hbM3 (And.intro hbx3 hzw3)))
                    clear hown3 hbM3 hbx3 hgrow hat hgm hown1 hMF n0 n1
                    go_wp2_with fail
                    go_roundw
                    case rel => exact ⟨j + 1, (d1, d2), nx ++ [(x1, x2)], gg, cap', by omega, by go_num, by rw [el], by rw [el]; omega, Lib.hid HMS.out, by rw [el]; exact HZ.out.1, HZ.out.2.1, HZ.out.2.2.1, HZ.out.2.2.2⟩
                    case measure => (simp [intOf] <;> omega)
                  · have ho1' : decide (lx ≤ hd) = false := decide_eq_false ho1
                    clear hov
                    go_wp2_with fail
                    refine wp_region_quiet_grown (by assumption) (by kernel_rfl) ?_
                    repeat (go_big_quiet_step (first | (go_at_call 41; first | with_reducible exact hg1 _ _ _ | with_reducible exact hg3 _ _ _) | (go_at_call 42; first | with_reducible exact hg2 _ _ _ | with_reducible exact hg4 _ _ _)))
                    refine wpQuiet_nil ?_
                    intro _ hw'
                    obtain ⟨⟨nq, osq⟩, hw''⟩ := hw'
                    subst hw''
                    have hF := hfin.out _ ⟨nq, osq, rfl⟩
                    clear hfin e0 e1 f0 f1 hg1 hg2 hg3 hg4
                    generalize grow ((wr.alloc (.cells #[.int .i64 x1, .int .i64 x2] 44)).drewN nq) osq = W1 at *
                    obtain ⟨hbX, hbM, hown1, hbx1, hsz1⟩ := hF
                    have n0 := hbX.c0
                    have n1 := hbX.c1
                    simp only at n0 n1
                    have hMF := Lib.hid (And.intro hbM hbx1)
                    clear hbX hbM hbx1
                    go_wp2_with (first | (at_builtin; refine wpList_append_lies _ rfl _ _ 25 rfl (w0.heap.size + 1) 44 i0 (.agg #[.int .i64 0, .int .i64 0]) 2 16 Try.underlying25 hi hz0 hz1 hz2 rfl (by decide) _ nx.length (pairs nx) rfl (hown1.alloc _) ⟨W1.heap.size, 0, none⟩ 1 1 [.int .i64 x1, .int .i64 x2] rfl rfl (news2 _ _ _ _) (ones2 _ _) (by omega) (by unfold maxLen; omega) (by omega) (by simp; omega) (W1.heap.size + 1) (by simp) ?_))
                    intro gg cap' w3 hown3 hgrow hat hlt
                    have hgm : some w0.heap.size ≠ (Value.slice (some ⟨gn, 0, none⟩) nx.length cap).ownBlock := by intro e; have := (hown1.lt _ e.symm).1; omega
                    have hbM3 := (hMF.out.1.below ((Below.refl W1.heap.size W1).alloc (Nat.le_refl _) _) (by omega)).grown hgrow hgm
                    have hbx3 : Below w0.heap.size w0 w3 := (hMF.out.2.alloc (by omega) _).grown hgrow (by simp; omega) (fun q hq => by have := (hown1.lt q hq).1; omega)
                    have hzw3 : w0.heap.size + 1 ≤ w3.heap.size := by have := hgrow.size; simp at this; omega
                    rw [← HSP.out] at hown3
                    have el : (nx ++ [(x1, x2)]).length = nx.length + 1 := by simp
                    have HZ := Lib.hid (And.intro hown3 (And.intro hbM3 (And.intro hbx3 hzw3)))
                    clear hown3 hbM3 hbx3 hgrow hat hgm hown1 hMF n0 n1
                    go_wp2_with fail
                    go_roundw
                    case rel => exact ⟨j + 1, (d1, d2), nx ++ [(x1, x2)], gg, cap', by omega, by go_num, by rw [el], by rw [el]; omega, Lib.hid HMS.out, by rw [el]; exact HZ.out.1, HZ.out.2.1, HZ.out.2.2.1, HZ.out.2.2.2⟩
                    case measure => (simp [intOf] <;> omega)
              · have hje : o.length ≤ j := by omega
                obtain ⟨p, hp, hins, hlo, hhi⟩ := HSI.out.done hje
                obtain ⟨d1, d2⟩ := cu
                have hcap : nx.length ≤ cap := by
                  rcases hown.2 with ⟨e, _⟩ | ⟨g', c', cur, e, _, _, h4, _⟩
                  · cases e
                  · injection e with _ _ e3
                    omega
                have hRow := Row.of_own2 hown
                have hld := fun W n os => l7Lo_grow d1 d2 W n os
                generalize hdl : loC (d1, d2) = ld at hlo hhi hld
                have HP := Lib.hid (And.intro hins (And.intro hlo hhi))
                have HB := Lib.hid (And.intro hown (And.intro hbox hbx))
                have HLD := Lib.hid hld
                obtain ⟨w1, hw1⟩ : ∃ w1, w1 = wr := ⟨wr, rfl⟩
                subst hw1
                clear hins hlo hhi hown hbox hbx hld hdl HS HRO
                go_wp2_with fail
                go_loopw [11] (fun av wx => ∃ m : Nat, p ≤ m ∧ m ≤ nx.length ∧ av = .int .i64 m ∧ Below w1.heap.size w1 wx) (fun av _ => (intOf av).toNat)
                case atStart => exact ⟨nx.length, hp, Nat.le_refl _, rfl, Below.refl _ _⟩
                case round =>
                  obtain ⟨m, hpm, hm, rfl, hbx⟩ := hrel
                  have hbM := HB.out.2.1.below hbx HB.out.2.1.lt
                  have f0 := fun n os => cell_grown hbM.lt hbM.c0 n os
                  have f1 := fun n os => cell_grown hbM.lt hbM.c1 n os
                  simp only at f0 f1
                  by_cases hmp : p < m
                  ·
                    obtain ⟨m', rfl⟩ : ∃ m', m = m' + 1 := ⟨m - 1, by omega⟩
                    have hml : m' < nx.length := by omega
                    obtain ⟨b, q', hA, hb, e0, e1⟩ := (row_on hRow hbx).pairQ (Nat.le_refl _) (j := m') hml
                    injection hA with hA
                    injection hA with hA1 hA2
                    subst hA1 hA2
                    have hgt := HP.out.2.2 m' hml (by omega)
                    generalize (nx[m']'hml) = x at e0 e1 hgt
                    obtain ⟨x1, x2⟩ := x
                    simp only [Nat.zero_add] at e0 e1
                    have hlx := fun W n os => l7Lo_grow x1 x2 W n os
                    generalize loC (x1, x2) = lx at hgt hlx
                    have hld := HLD.out
                    have hm0 : (0 : Int) ≤ (m' : Int) := by omega
                    have hm1 : (m' : Int) < (nx.length : Int) := by omega
                    have hgt' : ld < lx := hgt
                    have hmz : decide ((0 : Int) < (m' : Int) + 1) = true := decide_eq_true (by omega)
                    have hmz2 : (0 : Int) < (m' : Int) + 1 := by omega
                    have HBX := Lib.hid hbx
                    clear hbx
                    go_wp2_with fail
                    refine wp_region_quiet_grown (by assumption) (by kernel_rfl) ?_
                    repeat (go_big_quiet_step (first | (go_at_call 41; first | with_reducible exact hlx _ _ _ | with_reducible exact hld _ _ _)))
                    refine wpQuiet_nil ?_
                    intro _ hw'
                    obtain ⟨⟨nq, osq⟩, hw''⟩ := hw'
                    subst hw''
                    go_wp2_with fail
                    go_roundw
                    case rel => exact ⟨m', by omega, by omega, by first | rfl | go_num | (congr 1; omega), HBX.out.trans ((below_grow wr nq osq).mono HBX.out.size)⟩
                    case measure => (simp [intOf] <;> omega)
                  · obtain rfl : m = p := by omega
                    have hBm : w0.heap.size + 1 ≤ w1.heap.size := hzx
                    have HBX := Lib.hid hbx
                    go_upto_region 19 with fail
                    go_cut [96] (fun s96 wx => s96 = .bool false ∧ Below w1.heap.size w1 wx)
                    case first =>
                      rcases Nat.eq_zero_or_pos m with hz | hz
                      · have hq0 : decide ((0 : Int) < (m : Int)) = false := decide_eq_false (by omega)
                        have hq1 : decide (0 < m) = false := decide_eq_false (by omega)
                        clear hbx hz
                        go_wp2_with fail
                        refine wp_region_quiet_grown (by assumption) (by kernel_rfl) ?_
                        repeat (go_big_quiet_step (fail))
                        refine wpQuiet_nil ?_
                        intro _ hw'
                        obtain ⟨⟨nq, osq⟩, hw''⟩ := hw'
                        subst hw''
                        go_wp2_with fail
                        go_meet
                        exact ⟨rfl, HBX.out.trans ((below_grow wr nq osq).mono HBX.out.size)⟩
                      · obtain ⟨m', rfl⟩ : ∃ m', m = m' + 1 := ⟨m - 1, by omega⟩
                        have hml : m' < nx.length := by omega
                        obtain ⟨b, q', hA, hb, e0, e1⟩ := (row_on hRow hbx).pairQ (Nat.le_refl _) (j := m') hml
                        injection hA with hA
                        injection hA with hA1 hA2
                        subst hA1 hA2
                        have hgt := HP.out.2.1 m' hml (by omega)
                        generalize (nx[m']'hml) = x at e0 e1 hgt
                        obtain ⟨x1, x2⟩ := x
                        simp only [Nat.zero_add] at e0 e1
                        have hlx := fun W n os => l7Lo_grow x1 x2 W n os
                        generalize loC (x1, x2) = lx at hgt hlx
                        have hld := HLD.out
                        have hm0 : (0 : Int) ≤ (m' : Int) := by omega
                        have hm1 : (m' : Int) < (nx.length : Int) := by omega
                        have hgt' : decide (ld < lx) = false := decide_eq_false (by omega)
                        have hmz : decide ((0 : Int) < (m' : Int) + 1) = true := decide_eq_true (by omega)
                        have hmz2 : (0 : Int) < (m' : Int) + 1 := by omega
                        clear hbx hgt
                        go_wp2_with fail
                        refine wp_region_quiet_grown (by assumption) (by kernel_rfl) ?_
                        repeat (go_big_quiet_step (first | (go_at_call 41; first | with_reducible exact hlx _ _ _ | with_reducible exact hld _ _ _)))
                        refine wpQuiet_nil ?_
                        intro _ hw'
                        obtain ⟨⟨nq, osq⟩, hw''⟩ := hw'
                        subst hw''
                        go_wp2_with fail
                        go_meet
                        exact ⟨rfl, HBX.out.trans ((below_grow wr nq osq).mono HBX.out.size)⟩
                    case rest =>
                      obtain ⟨rfl, hbx2⟩ := hcut
                      obtain ⟨W2, hW2e⟩ : ∃ W2, W2 = wc := ⟨wc, rfl⟩
                      subst hW2e
                      clear f0 f1 HBX HLD hbM hbx
                      have hown2 := own_below HB.out.1 hbx2
                      have hbM2 := HB.out.2.1.below hbx2 HB.out.2.1.lt
                      have hbw2 := HB.out.2.2.trans (hbx2.mono HB.out.2.2.size)
                      have hmm : (m : Int) ≤ (nx.length : Int) := by omega
                      have hm00 : (0 : Int) ≤ (m : Int) := by omega
                      have hcc : (nx.length : Int) ≤ (cap : Int) := by omega
                      have hW2 : w0.heap.size + 1 ≤ W2.heap.size := Nat.le_trans hBm hbx2.size
                      have hOm := World.ownsRow_made (base := w0.heap.size + 1) (e := 44) (size := 2) W2 #[] 0 hW2 (by decide) rfl
                      have hnw := news_drop ((hown2.alloc (.cells #[] 44))) m
                      have hdl := pairs_drop_len nx m
                      have hres : ∀ (v3 : Value) (W3 : World) (n3 : Nat) (xs3 : List Value), n3 = nx.length - m → xs3 = pairs (nx.drop m) → W3.ownsRow (w0.heap.size + 1) 44 2 v3 n3 xs3 → (W2.alloc (.cells #[] 44)).grownBy W3 (some W2.heap.size) → v3 ≠ .slice none 0 0 → ∃ (gt ct : Nat), v3 = .slice (some ⟨gt, 0, none⟩) (nx.length - m) ct ∧ W3.ownsRow (w0.heap.size + 1) 44 2 (.slice (some ⟨gt, 0, none⟩) (nx.length - m) ct) (nx.length - m) (pairs (nx.drop m)) ∧ Below W2.heap.size W2 W3 := by
                        rintro v3 W3 n3 xs3 rfl rfl h3 hg3 hv3
                        have hb3 : Below W2.heap.size W2 W3 := ((Below.refl W2.heap.size W2).alloc (Nat.le_refl _) _).grown hg3 (by simp) (fun q hq => by injection hq with hq; omega)
                        rcases h3.2 with ⟨h4, _⟩ | ⟨g3, c3, _, h4, _⟩
                        · exact absurd h4 hv3
                        · subst h4
                          exact ⟨g3, c3, rfl, h3, hb3⟩
                      have HRES := Lib.hid hres
                      clear hres
                      go_upto_region 21 with fail
                      go_cut [12] (fun s12 wx => ∃ (gt ct : Nat), s12 = .slice (some ⟨gt, 0, none⟩) (nx.length - m) ct ∧ wx.ownsRow (w0.heap.size + 1) 44 2 (.slice (some ⟨gt, 0, none⟩) (nx.length - m) ct) (nx.length - m) (pairs (nx.drop m)) ∧ Below W2.heap.size W2 wx)
                      case first =>
                        by_cases hcm : cap = m
                        · have hnm : nx.length - m = 0 := by omega
                          have hdn : pairs (nx.drop m) = [] := by rw [List.drop_of_length_le (by omega)]; rfl
                          have HDN := Lib.hid (And.intro hnm hdn)
                          clear hnm hdn hdl hnw
                          subst hcm
                          go_wp2_with (first | (at_builtin; refine wpList_append_own _ rfl _ _ 25 rfl (w0.heap.size + 1) 44 i0 (.agg #[.int .i64 0, .int .i64 0]) 2 16 Try.underlying25 hi hz0 hz1 hz2 rfl (by decide) _ 0 [] rfl hOm ⟨gn, 0, none⟩ 0 0 [] rfl rfl (fun j u hj => by simp at hj) (fun u hu => by simp at hu) (by unfold maxLen; omega) (by omega) (by simp; omega) ?_))
                          intro v3 W3 hown3 hg3 hnn3
                          have hR := HRES.out v3 W3 _ _ HDN.out.1.symm HDN.out.2.symm hown3 hg3 (fun e => hnn3 e)
                          obtain ⟨gt, ct, rfl, hR2, hR3⟩ := hR
                          have HR := Lib.hid (And.intro hR2 hR3)
                          clear hown3 hg3 hnn3 hR2 hR3
                          go_wp2_with fail
                          go_meet
                          exact ⟨gt, ct, rfl, HR.out⟩
                        · go_wp2_with (first | (at_builtin; refine wpList_append_own _ rfl _ _ 25 rfl (w0.heap.size + 1) 44 i0 (.agg #[.int .i64 0, .int .i64 0]) 2 16 Try.underlying25 hi hz0 hz1 hz2 rfl (by decide) _ 0 [] rfl hOm ⟨gn, m * 2, none⟩ (nx.length - m) (cap - m) (pairs (nx.drop m)) rfl hdl hnw (pairs_ones _) (by unfold maxLen; omega) (by omega) (by simp; omega) ?_))
                          intro v3 W3 hown3 hg3 hnn3
                          have hR := HRES.out v3 W3 _ _ (by omega) (by simp) hown3 hg3 (fun e => hnn3 e)
                          obtain ⟨gt, ct, rfl, hR2, hR3⟩ := hR
                          have HR := Lib.hid (And.intro hR2 hR3)
                          clear hown3 hg3 hnn3 hR2 hR3
                          go_wp2_with fail
                          go_meet
                          exact ⟨gt, ct, rfl, HR.out⟩
                      case rest =>
                        obtain ⟨gt, ct, rfl, hownT, hbT⟩ := hcut
                        obtain ⟨W3, hW3e⟩ : ∃ W3, W3 = wc := ⟨wc, rfl⟩
                        subst hW3e
                        have hown3 := own_below hown2 hbT
                        have hbM3 := hbM2.below hbT hbM2.lt
                        have hbw3 := hbw2.trans (hbT.mono (by omega))
                        have hM3 : w0.heap.size + 1 ≤ W3.heap.size := Nat.le_trans hW2 hbT.size
                        have hbW3 : Below w.heap.size w W3 := HW.out.2.trans (hbw3.mono hsz)
                        have hmc : (m : Int) ≤ (cap : Int) := by omega
                        have hb_a : Below W3.heap.size W3 (W3.alloc (.cells #[] 44)) := (Below.refl _ _).alloc (Nat.le_refl _) (.cells #[] 44)
                        have hb_b : Below W3.heap.size W3 ((W3.alloc (.cells #[] 44)).alloc (.cells #[.int .i64 d1, .int .i64 d2] 44)) := hb_a.alloc (by simp) (.cells #[.int .i64 d1, .int .i64 d2] 44)
                        have hb_c : Below W3.heap.size W3 (W3.alloc (.cells #[.int .i64 d1, .int .i64 d2] 44)) := (Below.refl _ _).alloc (Nat.le_refl _) (.cells #[.int .i64 d1, .int .i64 d2] 44)
                        have hb_d : Below W3.heap.size W3 ((W3.alloc (.cells #[.int .i64 d1, .int .i64 d2] 44)).alloc (.cells #[] 44)) := hb_c.alloc (by simp) (.cells #[] 44)
                        have hc0 : ∀ W', Below W3.heap.size W3 W' → W'.cell? ⟨w0.heap.size, 0, none⟩ = some (.int .i64 d1) := fun W' hb => (hbM3.below hb (by omega)).c0
                        have hc1 : ∀ W', Below W3.heap.size W3 W' → W'.cell? ⟨w0.heap.size, 1, none⟩ = some (.int .i64 d2) := fun W' hb => (hbM3.below hb (by omega)).c1
                        have a0 := hc0 _ (Below.refl _ _)
                        have a1 := hc1 _ (Below.refl _ _)
                        have a0' := hc0 _ hb_a
                        have a1' := hc1 _ hb_a
                        have b0' := hc0 _ hb_b
                        have b1' := hc1 _ hb_b
                        have c0' := hc0 _ hb_c
                        have c1' := hc1 _ hb_c
                        have d0' := hc0 _ hb_d
                        have d1' := hc1 _ hb_d
                        have hN1 : ∀ W', Below W3.heap.size W3 W' → ∀ j u, (pairs (nx.take m))[j]? = some u → W'.cell? ((⟨gn, 0, none⟩ : Addr).add j) = some u := fun W' hb => news_take (hown3.kept (row := none) ⟨hb.os, hb.tape, hb.output, hb.size, fun i hi _ => hb.block i hi⟩ (.inr (by simp [Value.ownBlock]))) m
                        have hN3 : ∀ W', Below W3.heap.size W3 W' → ∀ j u, (pairs (nx.drop m))[j]? = some u → W'.cell? ((⟨gt, 0, none⟩ : Addr).add j) = some u := fun W' hb j u hj => by
                          have := news_take (hownT.kept (row := none) ⟨hb.os, hb.tape, hb.output, hb.size, fun i hi _ => hb.block i hi⟩ (.inr (by simp [Value.ownBlock]))) (nx.length - m) j u (by rw [List.take_of_length_le (by rw [List.length_drop]; omega)]; exact hj)
                          exact this
                        have hoA : (W3.alloc (.cells #[] 44)).ownsRow W3.heap.size 44 2 (.slice (some ⟨W3.heap.size, 0, none⟩) 0 0) 0 [] := World.ownsRow_made W3 #[] 0 (Nat.le_refl _) (by decide) rfl
                        have hoB : ((W3.alloc (.cells #[] 44)).alloc (.cells #[.int .i64 d1, .int .i64 d2] 44)).ownsRow W3.heap.size 44 2 (.slice (some ⟨W3.heap.size, 0, none⟩) 0 0) 0 [] := hoA.alloc (.cells #[.int .i64 d1, .int .i64 d2] 44)
                        have hoD : ((W3.alloc (.cells #[.int .i64 d1, .int .i64 d2] 44)).alloc (.cells #[] 44)).ownsRow W3.heap.size 44 2 (.slice (some ⟨W3.heap.size + 1, 0, none⟩) 0 0) 0 [] := by
                          have := World.ownsRow_made (base := W3.heap.size) (e := 44) (size := 2) (W3.alloc (.cells #[.int .i64 d1, .int .i64 d2] 44)) #[] 0 (by simp) (by decide) rfl
                          simpa using this
                        have hnB : ∀ j u, [Value.int .i64 d1, .int .i64 d2][j]? = some u → ((W3.alloc (.cells #[] 44)).alloc (.cells #[.int .i64 d1, .int .i64 d2] 44)).cell? ((⟨W3.heap.size + 1, 0, none⟩ : Addr).add j) = some u := fun j u hj => by
                          have := news2 (W3.alloc (.cells #[] 44)) 44 (.int .i64 d1) (.int .i64 d2) j u hj
                          simpa using this
                        have hnD : ∀ j u, [Value.int .i64 d1, .int .i64 d2][j]? = some u → ((W3.alloc (.cells #[.int .i64 d1, .int .i64 d2] 44)).alloc (.cells #[] 44)).cell? ((⟨W3.heap.size, 0, none⟩ : Addr).add j) = some u := fun j u hj => by
                          have := news2 W3 44 (.int .i64 d1) (.int .i64 d2) j u hj
                          rw [Go.WideShapes.add_plain] at this ⊢
                          rw [World.cell?_alloc_past _ _ _ (by simp)]; exact this
                        have htl : (pairs (nx.take m)).length = m * 2 := by rw [pairs_len, List.length_take]; omega
                        have hdl := pairs_drop_len nx m
                        have hfar : ∀ (W W' : World) (v : Value) (bb : Nat), W.grownBy W' v.ownBlock → v.ownBlock ≠ some bb → bb < W.heap.size → (∀ j u, [Value.int .i64 d1, .int .i64 d2][j]? = some u → W.cell? ((⟨bb, 0, none⟩ : Addr).add j) = some u) → ∀ j u, [Value.int .i64 d1, .int .i64 d2][j]? = some u → W'.cell? ((⟨bb, 0, none⟩ : Addr).add j) = some u := fun W W' v bb hg hne hl h j u hj => by
                          have := h j u hj
                          rw [Go.WideShapes.add_plain] at this ⊢
                          exact (hg.cell_far _ hl (Ne.symm hne)).trans this
                        have HK1 := Lib.hid (And.intro hownT (And.intro hown3 (And.intro hbM3 (And.intro hbw3 hbW3))))
                        clear hown2 hbM2 hbw2 hbT hownT hown3 hbM3 hbw3 hbW3
                        go_wp2_with fail
                        go_region_held3 (fun w' => w'.cell? ⟨w0.heap.size, 0, none⟩ = some (.int .i64 d1) ∧ w'.cell? ⟨w0.heap.size, 1, none⟩ = some (.int .i64 d2)) (go_keep)
                          (first
                            | (refine step_append_at (by rfl) _ _ _ (by rfl) W3.heap.size 44 i0 (.agg #[.int .i64 0, .int .i64 0]) 2 16 Try.underlying25 hi hz0 hz1 hz2 rfl (by omega) _ (m + 1) (pairs (nx.take m) ++ [.int .i64 d1, .int .i64 d2]) (by rfl) hown2' ⟨gt, 0, none⟩ (nx.length - m) ct (pairs (nx.drop m)) (by rfl) hdl (hN3 _ hb2) (pairs_ones _) (by unfold maxLen; omega) (by omega) hb2.size ?_; intro A3 cap3 w3 hown3' hg3 hat3;  have hb3 : Below W3.heap.size W3 w3 := hb2.grown hg3 hb2.size (fun q hq => (hown2'.lt q hq).1); have z30 := hc0 _ hb3; have z31 := hc1 _ hb3)
                            | (have hw1 := hb1.size; refine step_append_at (by rfl) _ _ _ (by rfl) W3.heap.size 44 i0 (.agg #[.int .i64 0, .int .i64 0]) 2 16 Try.underlying25 hi hz0 hz1 hz2 rfl (by omega) _ m (pairs (nx.take m)) (by rfl) (hown1'.alloc (.cells #[.int .i64 d1, .int .i64 d2] 44)) ⟨w1.heap.size, 0, none⟩ 1 1 [.int .i64 d1, .int .i64 d2] (by rfl) rfl (news2 w1 44 _ _) (ones2 _ _) (by unfold maxLen; omega) (by omega) (hb1.alloc hb1.size (.cells #[.int .i64 d1, .int .i64 d2] 44)).size ?_; intro A2 cap2 w2 hown2' hg2 hat2;  have hb2 : Below W3.heap.size W3 w2 := (hb1.alloc hb1.size (.cells #[.int .i64 d1, .int .i64 d2] 44)).grown hg2 (hb1.alloc hb1.size (.cells #[.int .i64 d1, .int .i64 d2] 44)).size (fun q hq => (hown1'.lt q hq).1); have z20 := hc0 _ hb2; have z21 := hc1 _ hb2)
                            | (have hw1 := hb1.size; refine step_append_at (by rfl) _ _ _ (by rfl) W3.heap.size 44 i0 (.agg #[.int .i64 0, .int .i64 0]) 2 16 Try.underlying25 hi hz0 hz1 hz2 rfl (by omega) _ m (pairs (nx.take m)) (by rfl) hown1' ⟨W3.heap.size + 1, 0, none⟩ 1 1 [.int .i64 d1, .int .i64 d2] (by rfl) rfl hnB1 (ones2 _ _) (by unfold maxLen; omega) (by omega) hb1.size ?_; intro A2 cap2 w2 hown2' hg2 hat2;  have hb2 : Below W3.heap.size W3 w2 := hb1.grown hg2 hb1.size (fun q hq => (hown1'.lt q hq).1); have z20 := hc0 _ hb2; have z21 := hc1 _ hb2)
                            | (have hw1 := hb1.size; refine step_append_at (by rfl) _ _ _ (by rfl) W3.heap.size 44 i0 (.agg #[.int .i64 0, .int .i64 0]) 2 16 Try.underlying25 hi hz0 hz1 hz2 rfl (by omega) _ m (pairs (nx.take m)) (by rfl) hown1' ⟨W3.heap.size, 0, none⟩ 1 1 [.int .i64 d1, .int .i64 d2] (by rfl) rfl hnD1 (ones2 _ _) (by unfold maxLen; omega) (by omega) hb1.size ?_; intro A2 cap2 w2 hown2' hg2 hat2;  have hb2 : Below W3.heap.size W3 w2 := hb1.grown hg2 hb1.size (fun q hq => (hown1'.lt q hq).1); have z20 := hc0 _ hb2; have z21 := hc1 _ hb2)
                            | (refine step_append_at (by rfl) _ _ _ (by rfl) W3.heap.size 44 i0 (.agg #[.int .i64 0, .int .i64 0]) 2 16 Try.underlying25 hi hz0 hz1 hz2 rfl (by omega) _ 0 [] (by rfl) hoA.drew ⟨gn, 0, none⟩ m cap (pairs (nx.take m)) (by rfl) htl (hN1 _ hb_a.drew) (pairs_ones _) (by unfold maxLen; omega) (by omega) hb_a.size ?_; intro A1 cap1 w1 hown1' hg1 hat1; simp only [Nat.zero_add, List.nil_append] at hown1' ⊢; have hb1 : Below W3.heap.size W3 w1 := (show Below W3.heap.size W3 _ from hb_a.drew).grown hg1 hb_a.size (fun q hq => (hoA.lt q hq).1); have z10 := hc0 _ hb1; have z11 := hc1 _ hb1; have y0 := hc0 _ (hb1.alloc hb1.size (.cells #[.int .i64 d1, .int .i64 d2] 44)); have y1 := hc1 _ (hb1.alloc hb1.size (.cells #[.int .i64 d1, .int .i64 d2] 44)))
                            | (refine step_append_at (by rfl) _ _ _ (by rfl) W3.heap.size 44 i0 (.agg #[.int .i64 0, .int .i64 0]) 2 16 Try.underlying25 hi hz0 hz1 hz2 rfl (by omega) _ 0 [] (by rfl) hoB.drew ⟨gn, 0, none⟩ m cap (pairs (nx.take m)) (by rfl) htl (hN1 _ hb_b.drew) (pairs_ones _) (by unfold maxLen; omega) (by omega) hb_b.size ?_; intro A1 cap1 w1 hown1' hg1 hat1; simp only [Nat.zero_add, List.nil_append] at hown1' ⊢; have hb1 : Below W3.heap.size W3 w1 := (show Below W3.heap.size W3 _ from hb_b.drew).grown hg1 hb_b.size (fun q hq => (hoB.lt q hq).1); have z10 := hc0 _ hb1; have z11 := hc1 _ hb1; have hnB1 := hfar _ _ (.slice (some ⟨W3.heap.size, 0, none⟩) 0 0) (W3.heap.size + 1) hg1 (by simp [Value.ownBlock]) (by simp) hnB)
                            | (refine step_append_at (by rfl) _ _ _ (by rfl) W3.heap.size 44 i0 (.agg #[.int .i64 0, .int .i64 0]) 2 16 Try.underlying25 hi hz0 hz1 hz2 rfl (by omega) _ 0 [] (by rfl) hoD.drew ⟨gn, 0, none⟩ m cap (pairs (nx.take m)) (by rfl) htl (hN1 _ hb_d.drew) (pairs_ones _) (by unfold maxLen; omega) (by omega) hb_d.size ?_; intro A1 cap1 w1 hown1' hg1 hat1; simp only [Nat.zero_add, List.nil_append] at hown1' ⊢; have hb1 : Below W3.heap.size W3 w1 := (show Below W3.heap.size W3 _ from hb_d.drew).grown hg1 hb_d.size (fun q hq => (hoD.lt q hq).1); have z10 := hc0 _ hb1; have z11 := hc1 _ hb1; have hnD1 := hfar _ _ (.slice (some ⟨W3.heap.size + 1, 0, none⟩) 0 0) W3.heap.size hg1 (by simp [Value.ownBlock]) (by simp; omega) hnD))
                        all_goals
                          have el : (nx.take m ++ [(d1, d2)] ++ nx.drop m).length = m + 1 + (nx.length - m) := by simp; omega
                          have ep : pairs (nx.take m ++ [(d1, d2)] ++ nx.drop m) = pairs (nx.take m) ++ [Value.int .i64 d1, .int .i64 d2] ++ pairs (nx.drop m) := by simp [pairs]
                          have hres : Hid (∃ (k' : Nat) (o' : List (Int × Int)), k' ≤ ps.length ∧ Value.int .i64 ((k : Int) + 1) = .int .i64 k' ∧ Hid (o' = joinR (ps.take k') ∧ allIn s.size (ps.drop k') = allIn s.size ps) ∧ o'.length ≤ k' ∧ w3.ownsRow w.heap.size 44 2 (.slice A3 (m + 1 + (nx.length - m)) cap3) o'.length (pairs o') ∧ Below w.heap.size w w3 ∧ w.heap.size ≤ w3.heap.size) := Lib.hid (by
                            refine ⟨k + 1, nx.take m ++ [(d1, d2)] ++ nx.drop m, by omega, by go_num, Lib.hid ⟨?_, cs_go HI.out HK.out.2 HIN.out (by omega) (by omega)⟩, by rw [el]; omega, ?_, HK1.out.2.2.2.2.trans (hb3.mono (by omega)), by have := hb3.size; omega⟩
                            · rw [HT.out.1, ← HK.out.1, HP.out.1]
                            · rw [el, ep]; exact own_le hown3' (by omega))
                          clear hown3' hg3 hat3 hb3
                          go_wp2_with fail
                          go_roundw
                          case rel => exact hres.out
                          case measure => (simp [intOf] <;> omega)
      · obtain rfl : k = ps.length := by omega
        have hall : allIn s.size ps = true := by rw [← HK.out.2]; exact allIn_end s.size (Nat.le_refl _)
        have hres : jcL s ps = o := by rw [HYN.out.1 hall, HK.out.1, List.take_length]
        obtain ⟨Ao, co, rfl⟩ := own_form2 hown
        have HR := Lib.hid (And.intro hres (And.intro hown hbw))
        clear hres hown hbw hall h
        go_wp2_with fail
        go_ret
        rw [HR.out.1]
        exact ⟨Ao, co, rfl, HR.out.2⟩
  · have hj : jcL s ps = [] := by
      unfold jcL plV
      rw [if_neg (by simp only [Bool.and_eq_true, decide_eq_true_eq]; exact fun h => hok ⟨h.1.1, h.2⟩)]
    rw [hj]
    have HF : Hid (PairsPost [] w (.returned (.slice (some ⟨w.heap.size, 0, none⟩) 0 0)) (w.alloc (.cells #[] 44))) := Lib.hid ⟨_, 0, rfl, hmade w (Nat.le_refl _), (Below.refl _ _).alloc (Nat.le_refl _) _⟩
    cases hv : valid s.data.toList
    · clear hok hj hmade
      go_enter Try.func25, Try.ntmps25
      go_wp2_with fail
      refine (sTV_any _ _ hs).mono ?_
      rintro e w' ⟨rfl, rfl⟩
      rw [hv]
      go_wp2_with fail
      go_ret
      exact HF.out
    · have h8 : (8 : Int) < (ps.length : Int) := by
        have : ¬ ps.length ≤ 8 := fun h => hok ⟨hv, h⟩
        omega
      clear hok hj hmade
      go_enter Try.func25, Try.ntmps25
      go_wp2_with fail
      refine (sTV_any _ _ hs).mono ?_
      rintro e w' ⟨rfl, rfl⟩
      rw [hv]
      go_wp2_with fail
      go_ret
      exact HF.out
end Go.Proofs.Ytmdjmaijennmkaa
