/- The law that asks for equality with the reference of TypeAll, walked. -/
import Derived.Test.YtmdjmaijennmkaaMw
import Derived.Test.YtmdjmaijennmkaaTs
import Derived.Test.YtmdjmaijennmkaaOp
set_option linter.unusedVariables false
set_option linter.unusedSimpArgs false
namespace Go.Proofs.Ytmdjmaijennmkaa
open Go.RowKit
set_option linter.unusedVariables false
theorem c_small {s : ByteArray} {l : List (Int × Int)} (h : cuV s l = true) : l.length ≤ 8 := (plV_iff.1 (cuV_iff.1 h).2).2.2
theorem tyC_small (s put : ByteArray) (l : List (Int × Int)) : (tyC s put l).length ≤ 8 := by
  unfold tyC
  split
  · rename_i h
    split
    · exact Nat.le_trans (joinR_len _) (by rw [cuFrom_len]; simpa using c_small h)
    · exact c_small h
  · simp
set_option maxRecDepth 100000 in
theorem law_FnExactTypeAll (s : ByteArray) (hs : s.size ≤ maxLen) (A : Option Addr) (n c : Nat) (zs : List (Int × Int)) (w : World) (h : IsPairs w A n c zs) (put : ByteArray) (hps : put.size ≤ maxLen) :
    Calls Try.prog 6 #[.string s, .slice A n c, .string put] w fun e w' => e = .returned (.bool true) ∧ Below w.heap.size w w' := by
  obtain ⟨rfl, hn0, _, hrow⟩ := h
  have hs' := hs
  have hps' := hps
  unfold maxLen at hs' hps'
  by_cases h0 : put.size ≤ 1048576
  rotate_left
  · by_cases h1 : s.size ≤ 1048576
    all_goals
      go_enter Try.func6, Try.ntmps6
      go_wp2
      go_ret
      exact ⟨rfl, Below.refl _ _⟩
  by_cases h1 : s.size ≤ 1048576
  · have hsz := szCursorS_any A zs.length c 1048576 w hn0 (by omega) (by omega)
    by_cases h2 : zs.length ≤ 1048576
    · rw [if_neg (by omega)] at hsz
      have hd : decide ((1048576 : Int) - (zs.length : Int) < 0) = false := by simp; omega
      have hn3 : zs.length ≤ 3000000 := by omega
      have hlen := tyC_small s put zs
      have hc1 := fun A c W h => sTA_any s put A _ c zs W hs (by omega) h rfl hn3
      have hc2 := fun A c W h => iTA_any s put A c zs W hs (by omega) h hn3
      generalize tyC s put zs = xs at hlen hc1 hc2
      generalize tyS s put zs = x at hc1 hc2
      generalize tyOk s put zs = b at hc1 hc2
      have H1 := Lib.hid hc1
      have H2 := Lib.hid hc2
      have HT := Lib.hid (fun W h => toCursorS_any A _ c zs W h rfl hn3)
      clear hc1 hc2
      go_enter Try.func6, Try.ntmps6
      go_wp2_with fail
      refine hsz.mono ?_
      rintro e w' ⟨rfl, rfl⟩
      go_wp2_with fail
      refine (HT.out _ hrow).mono ?_
      rintro e W1 ⟨A1, c1, rfl, ho1, hb1⟩
      have hr1 := Row.of_own2 ho1
      clear ho1
      go_wp2_with fail
      refine (H1.out A1 c1 _ hr1).mono ?_
      rintro e W2 ⟨A2, c2, rfl, ho2, hb2⟩
      have hr2 := Row.of_own2 ho2
      have hw2 := below_on hb1 hb2
      clear hr1 ho2
      go_wp2_with fail
      refine (HT.out _ (row_on hrow hw2)).mono ?_
      rintro e W3 ⟨A3, c3, rfl, ho3, hb23⟩
      have hw3 := below_on hw2 hb23
      go_wp2_with fail
      refine (H2.out A3 c3 _ (Row.of_own2 ho3)).mono ?_
      rintro e W4 ⟨A4, c4, rfl, ho4, hb34⟩
      have hlt3 := Lib.hid ho3.lt
      have ho34 := own_below ho3 hb34
      have hb24 := below_on hb23 hb34
      have hw4 := below_on hw3 hb34
      clear ho3
      go_wp2_with fail
      refine (eqCursorS_same A4 A2 _ _ c4 c2 xs W4 (Row.of_own2 ho4) (row_on hr2 hb24) rfl rfl (by omega)).mono ?_
      rintro e W5 ⟨rfl, hb45⟩
      have ho35 := own_below ho34 hb45
      have ho45 := own_below1 ho4 hb45
      have hb35 := below_on hb34 hb45
      have hb25 := below_on hb24 hb45
      have hw5 := below_on hw4 hb45
      clear ho34 ho4 hb34 hb24 hw4
      go_wp2_with fail
      refine (HT.out _ (row_on hrow hw5)).mono ?_
      rintro e W6 ⟨A6, c6, rfl, ho6, hb56⟩
      have ho36 := own_below ho35 hb56
      have ho46 := own_below1 ho45 hb56
      have hb36 := below_on hb35 hb56
      have hb26 := below_on hb25 hb56
      have hw6 := below_on hw5 hb56
      clear ho35 ho45 hb35 hb25 hw5
      go_wp2_with fail
      refine (eqCursorS_same A3 A6 _ _ c3 c6 zs W6 (Row.of_own2 ho36) (Row.of_own2 ho6) rfl rfl (by omega)).mono ?_
      rintro e W7 ⟨rfl, hb67⟩
      have ho37 := own_below ho36 hb67
      have ho47 := own_below1 ho46 hb67
      have hb37 := below_on hb36 hb67
      have hb27 := below_on hb26 hb67
      have hw7 := below_on hw6 hb67
      clear ho6 ho36 ho46 hb36 hb26 hw6 hb67
      go_wp2_with fail
      refine (markCursorS_only A3 _ c3 W2.heap.size zs 1 W7 ho37 (by omega) (by omega) (by omega)).mono ?_
      rintro e W8 ⟨rfl, _, hg⟩
      have hne : (Value.slice A4 xs.length c4).ownBlock = none ∨ (Value.slice A4 xs.length c4).ownBlock ≠ (Value.slice A3 zs.length c3).ownBlock := by
        rcases hq : (Value.slice A4 xs.length c4).ownBlock with _ | g4
        · exact .inl rfl
        · right
          have h4 := (ho47.lt g4 hq).1
          intro e
          have h3 := (hlt3.out g4 e.symm).2
          omega
      have ho48 := ho47.kept hg hne
      have hb28 := hb27.trans (grown_below hg hb27.size (fun k hk => (ho37.lt k hk).1))
      have hw8 := hw7.trans (grown_below hg hw7.size (fun k hk => Nat.le_trans hw2.size (ho37.lt k hk).1))
      have hz38 : W3.heap.size ≤ W8.heap.size := Nat.le_trans hb37.size hg.size
      have hz23 := hb23.size
      clear ho37 ho47 hb27 hw7 hg hne hb37 hlt3
      go_wp2_with fail
      refine (eqCursorS_same A4 A2 _ _ c4 c2 xs W8 (Row.of_own2 ho48) (row_on hr2 hb28) rfl rfl (by omega)).mono ?_
      rintro e W9 ⟨rfl, hb89⟩
      have ho49 := own_below1 ho48 hb89
      have hb29 := below_on hb28 hb89
      have hw9 := below_on hw8 hb89
      have hz39 : W3.heap.size ≤ W9.heap.size := Nat.le_trans hz38 hb89.size
      clear ho48 hb28 hw8 hz38
      go_wp2_with fail
      refine (markCursorS_any A4 xs.length c4 W3.heap.size xs 1 W9 ho49 (by omega) (by omega) (by omega)).mono ?_
      rintro e Wa ⟨rfl, hoa, hba, _⟩
      have hra := Row.of_own2 hoa
      have hb2a := hb29.trans (hba.mono hz23)
      have hwa := hw9.trans (hba.mono hw3.size)
      clear ho49 hoa hb29 hw9
      go_wp2_with fail
      refine (heldCursorS_any A4 xs.length c4 1 Wa hra (by omega) (by omega) (by omega)).mono ?_
      rintro e w' ⟨rfl, qb, rfl⟩
      have hbb := drewN_on Wa qb
      generalize Wa.drewN qb = Wb at *
      have hb2b := below_on hb2a hbb
      have hwb := below_on hwa hbb
      go_wp2_with fail
      refine (HT.out _ (row_on hrow hwb)).mono ?_
      rintro e Wc ⟨Ac, cc, rfl, hoc, hbc⟩
      have hbac := below_on hbb hbc
      have hb2c := below_on hb2b hbc
      have hwc := below_on hwb hbc
      clear hbb hb2b hwb hb2a hwa
      go_wp2_with fail
      refine (H2.out Ac cc _ (Row.of_own2 hoc)).mono ?_
      rintro e Wd ⟨Ad, cd, rfl, hod, hbd⟩
      have hbad := below_on hbac hbd
      have hb2d := below_on hb2c hbd
      have hwd := below_on hwc hbd
      clear hoc hbac hb2c hwc
      go_wp2_with fail
      refine (eqCursorS_same Ad A2 _ _ cd c2 xs Wd (Row.of_own2 hod) (row_on hr2 hb2d) rfl rfl (by omega)).mono ?_
      rintro e We ⟨rfl, hbde⟩
      have hrae := row_on hra (below_on hbad hbde)
      have hwe := below_on hwd hbde
      go_wp2_with fail
      refine (heldCursorS_any A4 xs.length c4 1 We hrae (by omega) (by omega) (by omega)).mono ?_
      rintro e w' ⟨rfl, qf, rfl⟩
      have hfin := below_drewN hwe qf
      go_wp2_with fail
      all_goals (go_ret; exact ⟨by first | rfl | simp, hfin⟩)
    · rw [if_pos (by omega)] at hsz
      go_enter Try.func6, Try.ntmps6
      go_wp2_with fail
      refine hsz.mono ?_
      rintro e w' ⟨rfl, rfl⟩
      go_wp2_with fail
      go_ret
      exact ⟨rfl, Below.refl _ _⟩
  · go_enter Try.func6, Try.ntmps6
    go_wp2
    go_ret
    exact ⟨rfl, Below.refl _ _⟩
end Go.Proofs.Ytmdjmaijennmkaa
