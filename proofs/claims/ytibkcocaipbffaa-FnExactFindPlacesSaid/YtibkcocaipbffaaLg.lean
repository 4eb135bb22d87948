/- The law that asks for equality with the reference of FindPlaces, walked. -/
import Derived.Test.YtibkcocaipbffaaIs
namespace Go.Proofs.Ytibkcocaipbffaa
open Go.RowKit
set_option linter.unusedVariables false
theorem fpRest_len (s what : ByteArray) : ∀ n a, (fpRest s what n a).length ≤ n
  | 0, a => Nat.le_refl _
  | n + 1, a => by
    simp only [fpRest]; split
    · simp
    · have := fpRest_len s what n (fnI s what (a + what.size)); simp; omega
theorem fpL_len (s what : ByteArray) : (fpL s what).length ≤ s.size + 2 := fpRest_len s what _ _
theorem law_FnExactFindPlaces (s : ByteArray) (hs : s.size ≤ maxLen) (what : ByteArray) (hw : what.size ≤ maxLen) (w : World) (hM : ML w) :
    Calls Try.prog 10 #[.string s, .string what] w fun e w' => e = .returned (.bool true) ∧ Below w.heap.size w w' := by
  have hs' := hs
  unfold maxLen at hs'
  have hw' := hw
  unfold maxLen at hw'
  by_cases h1 : s.size ≤ 1048576
  · by_cases h2 : what.size ≤ 1048576
    · have hlen := fpL_len s what
      generalize hxs : fpL s what = xs at hlen
      have HX := Lib.hid hxs
      clear hxs
      have hML := hM.lt
      go_enter Try.func10, Try.ntmps10
      go_wp2_with fail
      refine (sFP_any s what _ hs (by omega)).mono ?_
      rintro e W1 ⟨A, c, rfl, ho1, hb1⟩
      rw [HX.out] at ho1 ⊢
      have hr1 := Row.of_own ho1
      have hM1 := hM.below hb1 hML
      go_wp2_with fail
      refine (iFP_any s what _ hs (by omega) hM1).mono ?_
      rintro e W2 ⟨A2, c2, rfl, ho2, hb2⟩
      rw [HX.out] at ho2 ⊢
      have hr2 := Row.of_own ho2
      have hr12 := (hr1.below hb2).more hb2.size
      clear ho1
      go_wp2_with fail
      refine (eqIntS_same A2 A _ _ c2 c xs W2 hr2 hr12 rfl rfl (by omega)).mono ?_
      rintro e w' ⟨rfl, q3, rfl⟩
      go_wp2_with fail
      refine (markIntS_any A2 xs.length c2 W1.heap.size xs 1 (W2.drewN q3) ho2 (by omega) (by omega) (by omega)).mono ?_
      rintro e W4 ⟨rfl, ho4, hb4, hz4⟩
      have hr4 := Row.of_own ho4
      have hb14 : Below W1.heap.size W1 W4 := (below_drewN hb2 q3).trans hb4
      clear ho2 ho4 hb4 hz4 hr2 hr12
      go_wp2_with fail
      refine (heldIntS_any A2 xs.length c2 1 W4 hr4 (by omega) (by omega) (by omega)).mono ?_
      rintro e w' ⟨rfl, q5, rfl⟩
      have hM5 : ML (W4.drewN q5) := (hM1.below hb14 hM1.lt).drewN q5
      go_wp2_with fail
      refine (iFP_any s what _ hs (by omega) hM5).mono ?_
      rintro e W6 ⟨A6, c6, rfl, ho6, hb6⟩
      rw [HX.out] at ho6 ⊢
      have hr6 := Row.of_own ho6
      have hr16 := ((((hr1.below hb14).more hb14.size).drewN q5).below hb6).more hb6.size
      have hr46 := ((hr4.drewN q5).below hb6).more hb6.size
      have hb16 : Below W1.heap.size W1 W6 := (below_drewN hb14 q5).trans (hb6.mono hb14.size)
      go_wp2_with fail
      refine (eqIntS_same A6 A _ _ c6 c xs W6 hr6 hr16 rfl rfl (by omega)).mono ?_
      rintro e w' ⟨rfl, q7, rfl⟩
      go_wp2_with fail
      refine (heldIntS_any A2 xs.length c2 1 (W6.drewN q7) hr46 (by omega) (by omega) (by omega)).mono ?_
      rintro e w' ⟨rfl, q8, rfl⟩
      have hfin : Below w.heap.size w ((W6.drewN q7).drewN q8) := below_drewN (below_drewN (hb1.trans (hb16.mono hb1.size)) _) _
      go_wp2_with fail
      all_goals (go_ret; exact ⟨by first | rfl | simp, by first | exact hfin | (rw [← drewN_add]; exact hfin)⟩)
    · go_enter Try.func10, Try.ntmps10
      go_wp2
      go_ret
      exact ⟨rfl, Below.refl _ _⟩
  · go_enter Try.func10, Try.ntmps10
    go_wp2
    go_ret
    exact ⟨rfl, Below.refl _ _⟩
end Go.Proofs.Ytibkcocaipbffaa
