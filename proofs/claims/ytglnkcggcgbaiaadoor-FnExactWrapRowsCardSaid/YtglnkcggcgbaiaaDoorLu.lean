/- The law that asks for equality with the reference of WrapRows, walked. -/
import Derived.Test.YtglnkcggcgbaiaaDoorWj
import Derived.Test.YtglnkcggcgbaiaaDoorWk
set_option linter.unusedVariables false
set_option linter.unusedSimpArgs false
namespace Go.Proofs.YtglnkcggcgbaiaaDoor
open Go.RowKit
set_option linter.unusedVariables false
theorem law_FnExactWrapRows (s : ByteArray) (hs : s.size ≤ maxLen) (W : Int) (hW : (Lit.int .i64 W).wf = true) (w : World) (hM : ML w) :
    Calls Tryd.prog 4 #[.string s, .int .i64 W] w fun e w' => e = .returned (.bool true) ∧ Below w.heap.size w w' := by
  have hs' := hs
  unfold maxLen at hs'
  have hML := hM.lt
  by_cases h2 : s.size ≤ 1048576
  · have hlen := rows_small s W
    have hc1 := fun w => sWR_any s W w hs
    have hc2 := fun w hM => iWR_any s W w hs hM
    generalize rowsL s W = xs at hlen hc1 hc2
    have H1 := Lib.hid hc1
    have H2 := Lib.hid hc2
    clear hc1 hc2
    go_enter Tryd.func4, Tryd.ntmps4
    go_wp2_with fail
    refine (H1.out _).mono ?_
    rintro e W1 ⟨A, c, rfl, ho1, hb1⟩
    have hr1 := Row.of_own2 ho1
    clear ho1
    have hM1 := hM.below hb1 hML
    go_wp2_with fail
    refine (H2.out _ hM1).mono ?_
    rintro e W2 ⟨A2, c2, rfl, ho2, hb2⟩
    have hr2 := Row.of_own2 ho2
    have hr12 := (hr1.below hb2).more hb2.size
    have hbw2 := hb1.trans (hb2.mono hb1.size)
    go_wp2_with fail
    refine (eqRowS_same A2 A _ _ c2 c xs W2 hr2 hr12 rfl rfl (by omega)).mono ?_
    rintro e W3 ⟨rfl, hb3⟩
    have ho3 := own_below ho2 hb3
    have hr13 := (hr12.below hb3).more hb3.size
    have hbw3 := hbw2.trans (hb3.mono hbw2.size)
    clear ho2 hr2 hr12
    go_wp2_with fail
    refine (markRowS_any A2 xs.length c2 W1.heap.size xs 1 W3 ho3 (by omega) (by omega) (by omega)).mono ?_
    rintro e W4 ⟨rfl, ho4, hb4, hz4⟩
    have hr4 := Row.of_own2 ho4
    have hr14 := (((hr1.below hb2).below (hb3.mono hb2.size)).below hb4).more (Nat.le_trans (Nat.le_trans hb2.size hb3.size) hb4.size)
    have hbw4 := hbw3.trans (hb4.mono hb1.size)
    clear ho3 ho4 hr13 hz4
    go_wp2_with fail
    refine (heldRowS_any A2 xs.length c2 1 W4 hr4 (by omega) (by omega) (by omega)).mono ?_
    rintro e w' ⟨rfl, q5, rfl⟩
    have hbw5 := below_drewN hbw4 q5
    go_wp2_with fail
    refine (H2.out _ (hM.below hbw5 hML)).mono ?_
    rintro e W6 ⟨A6, c6, rfl, ho6, hb6⟩
    have hr6 := Row.of_own2 ho6
    have hr16 := ((hr14.drewN q5).below hb6).more hb6.size
    have hr46 := ((hr4.drewN q5).below hb6).more hb6.size
    have hbw6 := hbw5.trans (hb6.mono hbw5.size)
    clear ho6
    go_wp2_with fail
    refine (eqRowS_same A6 A _ _ c6 c xs W6 hr6 hr16 rfl rfl (by omega)).mono ?_
    rintro e W7 ⟨rfl, hb7⟩
    have hr47 := (hr46.below hb7).more hb7.size
    have hbw7 := hbw6.trans (hb7.mono hbw6.size)
    go_wp2_with fail
    refine (heldRowS_any A2 xs.length c2 1 W7 hr47 (by omega) (by omega) (by omega)).mono ?_
    rintro e w' ⟨rfl, q8, rfl⟩
    have hfin := below_drewN hbw7 q8
    go_wp2_with fail
    all_goals (go_ret; exact ⟨by first | rfl | simp, hfin⟩)
  · go_enter Tryd.func4, Tryd.ntmps4
    go_wp2
    go_ret
    exact ⟨rfl, Below.refl _ _⟩
end Go.Proofs.YtglnkcggcgbaiaaDoor
