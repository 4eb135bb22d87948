/- The law that asks for equality with the reference of FillGreedy, walked. -/
import Derived.Test.YtlnldnenkajcdaaDoorFq
import Derived.Test.YtlnldnenkajcdaaDoorMk
set_option linter.unusedVariables false
set_option linter.unusedSimpArgs false
namespace Go.Proofs.YtlnldnenkajcdaaDoor
open Go.RowKit
theorem law_FnExactFillGreedy (s : ByteArray) (hs : s.size ≤ maxLen) (W : Int) (hW : (Lit.int .i64 W).wf = true) (w : World) (hM : Tab w) :
    Calls Tryd.prog 4 #[.string s, .int .i64 W] w fun e w' => e = .returned (.bool true) ∧ Below w.heap.size w w' := by
  have hs' := hs
  unfold maxLen at hs'
  by_cases h2 : s.size ≤ 1048576
  · have hlen : (fgL s W).length ≤ 121 := fg_len s W
    have hc1 := fun w => sFG_any s W w hs
    have hc2 := fun w hM => iFG_any s W w hs hM
    generalize fgL s W = xs at hlen hc1 hc2
    have H1 := Lib.hid hc1
    have H2 := Lib.hid hc2
    clear hc1 hc2
    go_enter Tryd.func4, Tryd.ntmps4
    go_wp2_with fail
    refine (H1.out _).mono ?_
    rintro e W1 ⟨A, c, rfl, ho1, hb1⟩
    have hr1 := Row.of_own ho1
    clear ho1
    have hM1 := hM.below hb1
    go_wp2_with fail
    refine (H2.out _ hM1).mono ?_
    rintro e W2 ⟨A2, c2, rfl, ho2, hb2⟩
    have hr2 := Row.of_own ho2
    have hr12 := (hr1.below hb2).more hb2.size
    have hbw2 := hb1.trans (hb2.mono hb1.size)
    go_wp2_with fail
    refine (eqStringS_same A2 A _ _ c2 c xs W2 hr2 hr12 rfl rfl (by omega)).mono ?_
    rintro e w' ⟨rfl, q3, rfl⟩
    have ho3 : (W2.drewN q3).ownsRow _ _ _ _ _ _ := ho2
    have hbw3 := below_drewN hbw2 q3
    clear ho2 hr2 hr12
    go_wp2_with fail
    refine (markStringS_any A2 xs.length c2 W1.heap.size xs 1 (W2.drewN q3) ho3 hb2.size (by omega) (by omega) (by omega)).mono ?_
    rintro e W4 ⟨rfl, ho4, hb4⟩
    have hr4 := Row.of_own ho4
    have hr14 := ((((hr1.below hb2).drewN q3).below hb4)).more (Nat.le_trans hb2.size hb4.size)
    have hbw4 := hbw3.trans (hb4.mono hb1.size)
    clear ho3 ho4
    go_wp2_with fail
    refine (heldStringS_any A2 xs.length c2 1 W4 hr4 (by omega) (by omega) (by omega)).mono ?_
    rintro e W5 ⟨rfl, hb5⟩
    have hbw5 := hbw4.trans (hb5.mono hbw4.size)
    go_wp2_with fail
    refine (H2.out _ (hM.below hbw5)).mono ?_
    rintro e W6 ⟨A6, c6, rfl, ho6, hb6⟩
    have hr6 := Row.of_own ho6
    have hr16 := (((hr14.below hb5).more hb5.size).below hb6).more hb6.size
    have hr46 := (((hr4.below hb5).more hb5.size).below hb6).more hb6.size
    have hbw6 := hbw5.trans (hb6.mono hbw5.size)
    clear ho6
    go_wp2_with fail
    refine (eqStringS_same A6 A _ _ c6 c xs W6 hr6 hr16 rfl rfl (by omega)).mono ?_
    rintro e w' ⟨rfl, q7, rfl⟩
    have hr47 := hr46.drewN q7
    have hbw7 := below_drewN hbw6 q7
    go_wp2_with fail
    refine (heldStringS_any A2 xs.length c2 1 (W6.drewN q7) hr47 (by omega) (by omega) (by omega)).mono ?_
    rintro e W8 ⟨rfl, hb8⟩
    have hfin := hbw7.trans (hb8.mono hbw7.size)
    go_wp2_with fail
    all_goals (go_ret; exact ⟨by first | rfl | simp, hfin⟩)
  · go_enter Tryd.func4, Tryd.ntmps4
    go_wp2
    go_ret
    exact ⟨rfl, Below.refl _ _⟩
end Go.Proofs.YtlnldnenkajcdaaDoor
