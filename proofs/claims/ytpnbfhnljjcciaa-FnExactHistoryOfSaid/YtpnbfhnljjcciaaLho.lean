/- The law that asks for equality with the reference of HistoryOf, walked. -/
import Derived.Test.YtpnbfhnljjcciaaHo
set_option linter.unusedVariables false
set_option linter.unusedSimpArgs false
namespace Go.Proofs.Ytpnbfhnljjcciaa
open Go.RowKit
set_option maxRecDepth 100000 in
theorem heldMomentS_any (A : Option Addr) (m : Nat) (w : World) (h : MoAt w A (mo 1 2 3 (mkT 4) 5 6 (mkT 7))) :
    Calls Try.prog 81 #[.slice A 1 m, .int .i64 1] w fun e w' => e = .returned (.int .i64 8) ∧ Below w.heap.size w w' := by
  obtain ⟨g, rfl, hg, hc⟩ := h
  have c0 := hc 0 _ rfl
  have c1 := hc 1 _ rfl
  have c2 := hc 2 _ rfl
  have c3 := hc 3 _ rfl
  have c4 := hc 4 _ rfl
  have c5 := hc 5 _ rfl
  have c6 := hc 6 _ rfl
  clear hc
  have hB0 := Below.refl w.heap.size w
  have HB0 := Lib.hid hB0
  clear hB0
  go_enter Try.func81, Try.ntmps81
  go_wp2_with fail
  refine wp_loop_rounds 2 ?_
  rw [rounds_succ]
  go_wp2_with fail
  go_region_held3 (fun w' => w'.cell? ⟨g, 3, none⟩ = some (.string (mkT 4))) (go_keep)
    ((go_at_call 105; refine (markText_any 4 _ (by omega)).mono ?_; rintro e w1 ⟨rfl, hb1⟩; have k3 := (hb1.cell (p := ⟨g, 3, none⟩) hg).trans c3; have k4 := (hb1.cell (p := ⟨g, 4, none⟩) hg).trans c4; have k5 := (hb1.cell (p := ⟨g, 5, none⟩) hg).trans c5; have k6 := (hb1.cell (p := ⟨g, 6, none⟩) hg).trans c6))
  all_goals
    have hg1 : g < w1.heap.size := Nat.lt_of_lt_of_le hg hb1.size
    have HB1 := Lib.hid ((Below.drew HB0.out).trans hb1)
    clear c0 c1 c2 c3 c4 c5 c6 hb1 k3
    go_wp2_with fail
    go_region_held3 (fun w' => w'.cell? ⟨g, 6, none⟩ = some (.string (mkT 7))) (go_keep)
      ((go_at_call 105; refine (markText_any 7 _ (by omega)).mono ?_; rintro e w2 ⟨rfl, hb2⟩; have l6 := (hb2.cell (p := ⟨g, 6, none⟩) hg1).trans k6))
    all_goals
      have HB2 := Lib.hid ((Below.drew HB1.out).trans (hb2.mono HB1.out.size))
      clear hb2
      go_wp2_with fail
      rw [rounds_succ]
      go_wp2_with fail
      go_ret
      exact ⟨rfl, HB2.out⟩
theorem heldHistory_any (A : Option Addr) (m : Nat) (w : World) (h : MoAt w A (mo 1 2 3 (mkT 4) 5 6 (mkT 7))) :
    Calls Try.prog 42 #[.agg #[.slice A 1 m, .int .i64 0], .int .i64 1] w fun e w' => e = .returned (.int .i64 8) ∧ Below w.heap.size w w' := by
  have hb : Below w.heap.size w (w.alloc (.cells #[.slice A 1 m, .int .i64 0] 51)) := (Below.refl w.heap.size w).alloc (Nat.le_refl _) _
  have H1 := Lib.hid (h.below hb)
  have HB := Lib.hid hb
  clear hb h
  go_enter Try.func42, Try.ntmps42
  go_wp2_with fail
  refine (heldMomentS_any A m _ H1.out).mono ?_
  rintro e W2 ⟨rfl, hb2⟩
  have HB2 := Lib.hid (HB.out.trans (hb2.mono (by simp)))
  clear hb2
  go_wp2_with fail
  go_ret
  exact ⟨rfl, HB2.out⟩
theorem markHistory_any (g m B : Nat) (p a b : Int) (x : ByteArray) (c d : Int) (y : ByteArray) (w : World) (h : w.ownsRow B 96 7 (.slice (some ⟨g, 0, none⟩) 1 m) 1 (mo p a b x c d y)) (hgB : B ≤ g) (hB : B ≤ w.heap.size) :
    Calls Try.prog 41 #[.agg #[.slice (some ⟨g, 0, none⟩) 1 m, .int .i64 0], .int .i64 1] w fun e w' => e = .returned (.int .i64 8) ∧ (w'.ownsRow B 96 7 (.slice (some ⟨g, 0, none⟩) 1 m) 1 (mo 1 2 3 (mkT 4) 5 6 (mkT 7)) ∧ Below B w w' ∧ Oth g w w') := by
  have hb : Below w.heap.size w (w.alloc (.cells #[.slice (some ⟨g, 0, none⟩) 1 m, .int .i64 0] 51)) := (Below.refl w.heap.size w).alloc (Nat.le_refl _) _
  have h1 := own_below1 h hb
  have HB := Lib.hid (And.intro hb h1)
  clear hb h h1
  go_enter Try.func41, Try.ntmps41
  go_wp2_with fail
  refine (markMomentS_any g m B p a b x c d y _ HB.out.2 hgB (Nat.le_trans hB HB.out.1.size)).mono ?_
  rintro e W2 ⟨rfl, ho, hb2, hx⟩
  have HF := Lib.hid (And.intro ho (And.intro ((HB.out.1.mono hB).trans hb2) (Oth.start HB.out.1 hx)))
  clear ho hb2 hx
  go_wp2_with fail
  go_ret
  exact ⟨rfl, HF.out.1, HF.out.2.1, HF.out.2.2⟩
theorem MoAt.oth {g : Nat} {w w' : World} {f : Nat} {l : List Value} (h : MoAt w (some ⟨f, 0, none⟩) l) (hb : Oth g w w') (hne : f ≠ g) : MoAt w' (some ⟨f, 0, none⟩) l := by
  obtain ⟨f', h1, h2, h3⟩ := h
  injection h1 with h1
  injection h1 with h1
  subst h1
  exact ⟨f, rfl, Nat.lt_of_lt_of_le h2 hb.1, fun j u hj => (hb.2 ⟨f, j, none⟩ h2 hne).trans (h3 j u hj)⟩
set_option maxRecDepth 100000 in
theorem law_FnExactHistoryOf (w : World) :
    Calls Try.prog 10 #[] w fun e w' => e = .returned (.bool true) ∧ Below w.heap.size w w' := by
  go_enter Try.func10, Try.ntmps10
  go_wp2_with fail
  refine (sHO_any _).mono ?_
  rintro e W1 ⟨A1, m1, rfl, ho1, hb1⟩
  have hm1 := MoAt.own ho1
  obtain ⟨g1, rfl, _, hg1, _⟩ := own_g ho1 (by decide)
  have hv1 := HV.new W1 51 (some ⟨g1, 0, none⟩) m1
  have ha1 : Below W1.heap.size W1 (W1.alloc (.cells #[.slice (some ⟨g1, 0, none⟩) 1 m1, .int .i64 0] 51)) := (Below.refl _ _).alloc (Nat.le_refl _) _
  have K1 := Lib.hid (And.intro (hm1.below ha1) (And.intro hv1 (hb1.trans (ha1.mono hb1.size))))
  have hz1 : (W1.alloc (.cells #[.slice (some ⟨g1, 0, none⟩) 1 m1, .int .i64 0] 51)).heap.size = W1.heap.size + 1 := by simp
  have hw1 : w.heap.size ≤ W1.heap.size := hb1.size
  clear ho1 hb1 hm1 hv1 ha1
  go_wp2_with fail
  refine (iHO_any _).mono ?_
  rintro e W2 ⟨A2, m2, rfl, ho2, hb2⟩
  rw [hz1] at ho2
  obtain ⟨g, rfl, hgB, hgl, _⟩ := own_g ho2 (by decide)
  have hsz2 : W1.heap.size + 1 ≤ W2.heap.size := by have := hb2.size; omega
  have ha2 : Below W2.heap.size W2 (W2.alloc (.cells #[.slice (some ⟨g, 0, none⟩) 1 m2, .int .i64 0] 51)) := (Below.refl _ _).alloc (Nat.le_refl _) _
  have hv1 := (K1.out.2.1.below hb2).below ha2
  have hm1 := (K1.out.1.below hb2).below ha2
  have hm2 := (MoAt.own ho2).below ha2
  have ho3 := own_below1 ho2 ha2
  have hv2 := HV.new W2 51 (some ⟨g, 0, none⟩) m2
  have hbw := (K1.out.2.2.trans (hb2.mono K1.out.2.2.size)).trans (ha2.mono (by have := K1.out.2.2.size; omega))
  have x0 := hv1.1
  have HV1 := Lib.hid hv1
  have HV2 := Lib.hid hv2
  have HM1 := Lib.hid hm1
  have HM2 := Lib.hid hm2
  have HO := Lib.hid ho3
  have HB := Lib.hid hbw
  have x1 := HV1.out.2.1
  clear K1 hm1 hm2 ho3 hv2 hbw ha2 ho2 hb2 hv1 hz1
  go_wp2_with fail
  refine (eqHistory_same (some ⟨g, 0, none⟩) (some ⟨g1, 0, none⟩) m2 m1 (-1) 0 0 ⟨#[]⟩ 0 0 ⟨#[]⟩ _ HM2.out HM1.out).mono ?_
  rintro e W3 ⟨rfl, hb3⟩
  have KV1 := Lib.hid (HV1.out.below hb3)
  have KV2 := Lib.hid (HV2.out.below hb3)
  have KM1 := Lib.hid (HM1.out.below hb3)
  have KO := Lib.hid (own_below1 HO.out hb3)
  have KB := Lib.hid (HB.out.trans (hb3.mono HB.out.size))
  have y0 := KV2.out.1
  have y1 := KV2.out.2.1
  have hz3 : W1.heap.size + 1 ≤ W3.heap.size := by have := KV2.out.2.2; omega
  clear HV1 HV2 HM1 HM2 HO HB hb3 x0 x1
  go_wp2_with fail
  refine (markHistory_any g m2 (W1.heap.size + 1) (-1) 0 0 ⟨#[]⟩ 0 0 ⟨#[]⟩ _ KO.out hgB hz3).mono ?_
  rintro e W4 ⟨rfl, ho4, hb4, hx4⟩
  have HV1 := Lib.hid (KV1.out.oth hx4 (by omega))
  have HV2 := Lib.hid (KV2.out.oth hx4 (by omega))
  have HM1 := Lib.hid (KM1.out.oth hx4 (by omega))
  have HM2 := Lib.hid (MoAt.own ho4)
  have HB := Lib.hid (KB.out.trans (hb4.mono (by omega)))
  have x0 := HV2.out.1
  have x1 := HV2.out.2.1
  clear KV1 KV2 KM1 KO KB ho4 hb4 hx4 y0 y1 hz3
  go_wp2_with fail
  refine (heldHistory_any (some ⟨g, 0, none⟩) m2 _ HM2.out).mono ?_
  rintro e W5 ⟨rfl, hb5⟩
  have KV1 := Lib.hid (HV1.out.below hb5)
  have KV2 := Lib.hid (HV2.out.below hb5)
  have KM1 := Lib.hid (HM1.out.below hb5)
  have KM2 := Lib.hid (HM2.out.below hb5)
  have KB := Lib.hid (HB.out.trans (hb5.mono HB.out.size))
  clear HV1 HV2 HM1 HM2 HB hb5 x0 x1
  go_wp2_with fail
  refine (iHO_any _).mono ?_
  rintro e W6 ⟨A6, m6, rfl, ho6, hb6⟩
  obtain ⟨g6, rfl, _, hgl6, _⟩ := own_g ho6 (by decide)
  have ha6 : Below W6.heap.size W6 (W6.alloc (.cells #[.slice (some ⟨g6, 0, none⟩) 1 m6, .int .i64 0] 51)) := (Below.refl _ _).alloc (Nat.le_refl _) _
  have hab : Below W5.heap.size W5 (W6.alloc (.cells #[.slice (some ⟨g6, 0, none⟩) 1 m6, .int .i64 0] 51)) := hb6.trans (ha6.mono hb6.size)
  have HV1 := Lib.hid (KV1.out.below hab)
  have HV2 := Lib.hid (KV2.out.below hab)
  have HM1 := Lib.hid (KM1.out.below hab)
  have HM2 := Lib.hid (KM2.out.below hab)
  have HM6 := Lib.hid ((MoAt.own ho6).below ha6)
  have HB := Lib.hid (KB.out.trans (hab.mono KB.out.size))
  have x0 := HV1.out.1
  have x1 := HV1.out.2.1
  clear KV1 KV2 KM1 KM2 KB ho6 hb6 ha6 hab
  go_wp2_with fail
  refine (eqHistory_same (some ⟨g6, 0, none⟩) (some ⟨g1, 0, none⟩) m6 m1 (-1) 0 0 ⟨#[]⟩ 0 0 ⟨#[]⟩ _ HM6.out HM1.out).mono ?_
  rintro e W7 ⟨rfl, hb7⟩
  have KV2 := Lib.hid (HV2.out.below hb7)
  have KM2 := Lib.hid (HM2.out.below hb7)
  have KB := Lib.hid (HB.out.trans (hb7.mono HB.out.size))
  have y0 := KV2.out.1
  have y1 := KV2.out.2.1
  clear HV1 HV2 HM1 HM2 HM6 HB hb7 x0 x1
  go_wp2_with fail
  refine (heldHistory_any (some ⟨g, 0, none⟩) m2 _ KM2.out).mono ?_
  rintro e W8 ⟨rfl, hb8⟩
  have HF := Lib.hid (KB.out.trans (hb8.mono KB.out.size))
  clear KV2 KM2 KB hb8 y0 y1
  go_wp2_with fail
  go_ret
  exact ⟨rfl, HF.out⟩
end Go.Proofs.Ytpnbfhnljjcciaa
