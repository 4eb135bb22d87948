/- The law on TypeAll, walked. -/
import Derived.Test.YtmdjmaijennmkaaTp
import Derived.Test.YtmdjmaijennmkaaDt
import Derived.Test.YtmdjmaijennmkaaSe
import Derived.Deep.RegionHeld3
set_option linter.unusedVariables false
set_option linter.unusedSimpArgs false
namespace Go.Proofs.Ytmdjmaijennmkaa
open Go.RowKit
theorem ty_bad {s put : ByteArray} {l : List (Int × Int)} (h : tyOk s put l = false) : tyS s put l = ⟨#[]⟩ ∨ tyS s put l = s := by
  unfold tyOk at h
  unfold tyS
  by_cases hv : cuV s l = true
  · rw [hv, Bool.true_and] at h
    rw [if_pos hv, h]; exact .inr rfl
  · rw [if_neg hv]; exact .inl rfl
theorem put_len {put : ByteArray} {xs ys : List (Int × Int)} (h4 : 0 < put.size → xs.length = ys.length) : (put.toList.isEmpty || ((xs.length : Int) == (ys.length : Int))) = true := by
  by_cases h : 0 < put.size
  · rw [h4 h]; simp
  · obtain rfl : put = ⟨#[]⟩ := by
      apply ba_ext
      exact List.eq_nil_of_length_eq_zero (by simpa using h)
    have e : (⟨#[]⟩ : ByteArray).toList = [] := by unfold ByteArray.toList; unfold ByteArray.toList.loop; rfl
    rw [e]; rfl
theorem tyS_size {s put : ByteArray} {l : List (Int × Int)} (hs : s.size ≤ maxLen) (hp : put.size ≤ 1100000) : (tyS s put l).size ≤ maxLen := by
  unfold tyS
  split
  · rename_i h
    split
    · exact ty_size h hp
    · exact hs
  · exact Nat.zero_le _
theorem c_small4 {s : ByteArray} {l : List (Int × Int)} (h : cuV s l = true) : l.length ≤ 8 := (plV_iff.1 (cuV_iff.1 h).2).2.2
theorem tyC_small4 (s put : ByteArray) (l : List (Int × Int)) : (tyC s put l).length ≤ 8 := by
  unfold tyC
  split
  · rename_i h
    split
    · exact Nat.le_trans (joinR_len _) (by rw [cuFrom_len]; simpa using c_small4 h)
    · exact c_small4 h
  · simp
theorem sel_size {s : ByteArray} {l : List (Int × Int)} (h : cuV s l = true) : (seL s l).length = l.length ∧ ∀ k (hk : k < l.length) (hk2 : k < (seL s l).length), (((seL s l)[k]).size : Int) = hiC l[k] - loC l[k] ∧ ((seL s l)[k]).size ≤ s.size := by
  have hl : (seL s l).length = l.length := by unfold seL; rw [if_pos h, List.length_map]
  refine ⟨hl, fun k hk hk2 => ?_⟩
  obtain ⟨a, b, h1, h2, h3, h4, h5⟩ := se_at h hk
  rw [List.getElem?_eq_getElem hk2] at h5
  injection h5 with h5
  rw [h5, h1, h2, ByteArray.size_extract]
  omega
set_option maxHeartbeats 4000000 in
set_option maxRecDepth 100000 in
theorem law_FnTypeAll (A : Option Addr) (n c : Nat) (zs : List Int) (w : World) (h : IsBytes w A n c zs) :
    Calls Try.prog 13 #[.slice A n c] w fun e w' => e = .returned (.bool true) ∧ Below w.heap.size w w' := by
  have hn0 : n ≤ maxLen := by obtain ⟨_, h1, h2, _⟩ := h; omega
  unfold maxLen at hn0
  by_cases hn : n ≤ 1048576
  rotate_left
  · go_enter Try.func13, Try.ntmps13
    go_wp2
    go_ret
    exact ⟨rfl, Below.refl _ _⟩
  have HD := Lib.hid (dDrawTypeAll A n c zs w h)
  clear h
  go_enter Try.func13, Try.ntmps13
  go_wp2_with fail
  refine HD.out.mono ?_
  rintro e W1 ⟨s, A1, c1, ys, put, rfl, hs, hput, hl, hr1, hb1⟩
  have hsm : s.size ≤ maxLen := by unfold maxLen; omega
  have hc1 := fun A c W h => iTA_any s put A c ys W hsm (by omega) h (by omega)
  have hc2 := fun A c W h => sTA_any s put A _ c ys W hsm (by omega) h rfl (by omega)
  have hbad := ty_bad (s := s) (put := put) (l := ys)
  have hgood := ty_good (s := s) (put := put) (l := ys)
  have hsel := sel_size (s := s) (l := ys)
  have hse := fun A c W h => iSe_any s A _ c ys W hsm h rfl (by omega)
  have hzl := tyC_small4 s put ys
  have hxm := tyS_size (s := s) (put := put) (l := ys) hsm (by omega)
  generalize tyS s put ys = x at *
  generalize tyC s put ys = xs at *
  generalize tyOk s put ys = xb at *
  generalize seL s ys = ss at *
  have H1 := Lib.hid hc1
  have H2 := Lib.hid hc2
  have H3 := Lib.hid hse
  have HB := Lib.hid hbad
  have HG := Lib.hid hgood
  have HSEL := Lib.hid hsel
  clear hc1 hc2 hse hbad hgood hsel
  go_wp2_with fail
  refine (H1.out _ _ _ hr1).mono ?_
  rintro e W2 ⟨A2, c2, rfl, ho2, hb2⟩
  have hr12 := row_on hr1 hb2
  have hr2 := Row.of_own2 ho2
  have hbw2 := below_on hb1 hb2
  clear ho2 hr1 hb1 hb2
  go_wp2_with fail
  refine (H2.out _ _ _ hr12).mono ?_
  rintro e W3 ⟨A3, c3, rfl, ho3, hb3⟩
  have hr13 := row_on hr12 hb3
  have hr23 := row_on hr2 hb3
  have hr3 := Row.of_own2 ho3
  have hbw3 := below_on hbw2 hb3
  clear ho3 hr12 hr2 hbw2 hb3 H1 H2
  go_wp2_with fail
  refine (sameCursors_same A2 A3 _ _ c2 c3 xs W3 hr23 hr3 rfl rfl (by omega)).mono ?_
  rintro e w' ⟨rfl, q4, rfl⟩
  have hb4 := drewN_on W3 q4
  generalize W3.drewN q4 = W4 at *
  have hr14 := row_on hr13 hb4
  have hr24 := row_on hr23 hb4
  have hbw4 := below_on hbw3 hb4
  clear hr13 hr23 hr3 hbw3 hb4
  cases xb
  · have hcase := HB.out rfl
    clear HB HG
    rcases hcase with rfl | rfl
    all_goals
      go_wp2_with (go_at_call 33; refine (alive_any _).mono ?_; rintro e w' ⟨rfl, rfl⟩)
      all_goals (go_ret; exact ⟨by first | rfl | simp, hbw4⟩)
  obtain ⟨g1, g2, g3, g4, g5, g6, g7, g8⟩ := HG.out rfl
  obtain ⟨s1, s2⟩ := HSEL.out g8
  have HS := Lib.hid (And.intro s1 s2)
  have HX := Lib.hid (And.intro g1 (And.intro g2 (And.intro g3 (And.intro g4 (And.intro g5 (And.intro g6 (And.intro g7 g8)))))))
  clear g1 g2 g3 g4 g5 g6 g7 g8 s1 s2 HB HG HSEL
  go_wp2_with fail
  refine (H3.out _ _ _ hr14).mono ?_
  rintro e W5 ⟨A5, c5, rfl, ho5, hb5⟩
  have hr5 := Row.of_own ho5
  have hr15 := row_on hr14 hb5
  have hr25 := row_on hr24 hb5
  have hbw5 := below_on hbw4 hb5
  clear hr14 hr24 hbw4 hb5 ho5 H3
  have HR1 := Lib.hid hr15
  have HR2 := Lib.hid hr25
  clear hr15 hr25
  go_wp2_with fail
  go_loopw [12, 14] (fun nv iv wr => ∃ (k : Nat) (v : Int), k ≤ ss.length ∧ nv = .int .i64 v ∧ iv = .int .i64 k ∧ Hid (v = s.size + tySum put.size (ys.take k)) ∧ -200 * (k : Int) ≤ v ∧ v ≤ 200 + 200 * (k : Int) ∧ wr = W5) (fun _ iv _ => ss.length - (intOf iv).toNat)
  case atStart => exact ⟨0, s.size, Nat.zero_le _, rfl, rfl, Lib.hid (by simp [tySum]), by omega, by omega, rfl⟩
  case round =>
    obtain ⟨k, v, hk, rfl, rfl, hv, hv1, hv2, rfl⟩ := hrel
    have hssl : ss.length ≤ 9 := by have := HS.out.1; omega
    by_cases hkx : k < ss.length
    · obtain ⟨g, z, rfl, hgz, cw0⟩ := hr5.str hkx
      have hk' : (k : Int) < (ss.length : Int) := by omega
      have hk0 : (0 : Int) ≤ (k : Int) := by omega
      have hky : k < ys.length := by have := HS.out.1; omega
      obtain ⟨t1, t2⟩ := HS.out.2 k hky hkx
      have hnx : Hid (∀ v' : Int, v' = v - ((ss[k]'hkx).size : Int) + put.size → v' = s.size + tySum put.size (ys.take (k + 1))) := Lib.hid (fun v' hv' => by
        rw [hv', hv.out, List.take_succ_eq_append_getElem hky, tySum_snoc, t1]; omega)
      generalize (ss[k]'hkx) = t at *
      have T1 := Lib.hid t1
      clear t1
      go_wp2_with fail
      go_roundw
      case rel => exact ⟨k + 1, _, by omega, rfl, by go_num, Lib.hid (hnx.out _ rfl), by omega, by omega, by first | rfl | trivial⟩
      case measure => (simp [intOf] <;> omega)
    · have hke : k = ys.length := by have := HS.out.1; omega
      have hvx : v = (x.size : Int) := by
        rw [hv.out, hke, List.take_length, HX.out.1]
      subst hvx
      clear hv hv1 hv2 hke
      obtain ⟨W5, hW⟩ : ∃ W, W = wr := ⟨wr, rfl⟩
      subst hW
      go_wp2_with fail
      go_loopw [15] (fun iv wr => ∃ k : Nat, k ≤ xs.length ∧ iv = .int .i64 k ∧ ∃ q, wr = W5.drewN q) (fun iv _ => xs.length - (intOf iv).toNat)
      case atStart => exact ⟨0, Nat.zero_le _, rfl, 0, rfl⟩
      case round =>
        obtain ⟨j, hj, rfl, q, rfl⟩ := hrel
        by_cases hjx : j < xs.length
        · obtain ⟨g, z, rfl, hgz, cw0, cw1⟩ := HR2.out.pair hjx
          have hj' : (j : Int) < (xs.length : Int) := by omega
          have hj0 : (0 : Int) ≤ (j : Int) := by omega
          have hdg := HX.out.2.1 _ (List.getElem_mem hjx)
          generalize (xs[j]'hjx).1 = b1 at *
          generalize (xs[j]'hjx).2 = b2 at *
          subst hdg
          go_wp2_with fail
          go_quiet (fail)
          go_wp2_with fail
          go_roundw
          case rel => exact ⟨j + 1, by omega, by go_num, _, rfl⟩
          case measure => (simp [intOf] <;> omega)
        · obtain rfl : j = xs.length := by omega
          have hb6 := drewN_on W5 q
          generalize W5.drewN q = W6 at *
          have hr16 := row_on HR1.out hb6
          have hr26 := row_on HR2.out hb6
          have hbw6 := below_on hbw5 hb6
          have hcv := fun W h => iCV_any x A2 _ c2 xs W hxm h rfl (by omega)
          clear hbw5 hb6 HR1 HR2 hr5
          by_cases hy1 : ys.length = 1
          · obtain ⟨y, rfl⟩ := List.length_eq_one_iff.1 hy1
            obtain ⟨p, q, hp, hq, hpq, hqs, hxx, hxs1⟩ := HX.out.2.2.2.2.1 y rfl
            have G6 := HX.out.2.2.2.2.2.1
            have G7 := HX.out.2.2.2.2.2.2.1
            rw [hxx] at G7
            have hac := fun W => applyChange_any s put p q W hs (by omega) G6 hpq hqs G7
            rw [← hxx] at hac
            rw [HX.out.2.2.1] at hcv
            subst hxs1
            have HCV := Lib.hid hcv
            have HAC := Lib.hid hac
            obtain ⟨g, z, rfl, hgz, cw0, cw1⟩ := hr16.pair (j := 0) (by simp)
            obtain ⟨g', z', rfl, hgz', dw0, dw1⟩ := hr26.pair (j := 0) (by simp)
            obtain ⟨y1, y2⟩ := y
            simp only [List.getElem_cons_zero, Nat.zero_mul, Nat.add_zero] at cw0 cw1 dw0 dw1
            have hmin : min y1 y2 = (p : Int) := hp
            have hmax : max y1 y2 = (q : Int) := hq
            clear HX HS hcv hac G6 G7 hp hq hxx
            go_wp2_with fail
            go_quiet (fail)
            have x5 : IntKind.i64.wrap ((q : Int) - (p : Int)) = (q : Int) - (p : Int) := IntWalk.i64_in _ (by omega)
            have hzz : W6.heap.size ≤ (W6.drewN nq).heap.size := Nat.le_refl _
            go_wp2_with fail
            go_region_held3 (fun w' => w'.cell? ⟨g, z, none⟩ = some (.int .i64 y1) ∧ w'.cell? ⟨g, z + 1, none⟩ = some (.int .i64 y2)) (go_keep)
              ((go_at_call 40; refine (HAC.out _).mono ?_; rintro e w1 ⟨rfl, hb1⟩; have k1 := (hb1.cell (p := ⟨g, z, none⟩) hgz).trans cw0; have k2 := (hb1.cell (p := ⟨g, z + 1, none⟩) hgz).trans cw1; have k3 := (hb1.cell (p := ⟨g', z', none⟩) hgz').trans dw0; have k4 := (hb1.cell (p := ⟨g', z' + 1, none⟩) hgz').trans dw1))
            all_goals
              have hbx : Below W6.heap.size W6 w1 := (drewN_on W6 _).trans hb1
              have hr27 := row_on hr26 hbx
              have hbw7 := below_on hbw6 hbx
              clear hb1 hbx cw0 cw1 dw0 dw1 hr26 hbw6
              go_wp2_with fail
              refine (HCV.out _ hr27).mono ?_
              rintro e W7 ⟨rfl, hb7⟩
              have hbw8 := below_on hbw7 hb7
              clear hr27 hb7 hbw7
              go_wp2_with fail
              all_goals (go_ret; exact ⟨by first | rfl | simp, hbw8⟩)
          · have he1 : ((ys.length : Int) == 1) = false := beq_eq_false_iff_ne.mpr (by omega)
            have H4 := Lib.hid HX.out.2.2.2.1
            clear hy1
            rw [HX.out.2.2.1] at hcv
            have HCV := Lib.hid hcv
            clear hcv
            go_wp2_with fail
            refine (HCV.out _ hr26).mono ?_
            rintro e W7 ⟨rfl, hb7⟩
            have hbw7 := below_on hbw6 hb7
            have hpl := put_len H4.out
            have HPL := Lib.hid hpl
            clear HX HS hpl
            go_wp2_with fail
            all_goals (go_ret; exact ⟨by first | rfl | (have h9 := HPL.out; simp at h9 ⊢; exact h9) | simp [HPL.out], hbw7⟩)
end Go.Proofs.Ytmdjmaijennmkaa
