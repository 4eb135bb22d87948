/- The laws that ask for equality with the reference of FindNext and FindLast, walked. -/
import Derived.Test.YtibkcocaipbffaaFl
namespace Go.Proofs.Ytibkcocaipbffaa
open Go.RowKit
set_option linter.unusedVariables false
theorem law_FnExactFindNext (s : ByteArray) (hs : s.size ≤ maxLen) (what : ByteArray) (hw : what.size ≤ maxLen) (p : Int) (w1 : (Lit.int .i64 p).wf = true) (w : World) (hM : ML w) :
    Calls Try.prog 9 #[.string s, .string what, .int .i64 p] w fun e w' => e = .returned (.bool true) ∧ Below w.heap.size w w' := by
  have hs' := hs
  unfold maxLen at hs'
  have hw' := hw
  unfold maxLen at hw'
  by_cases h1 : s.size ≤ 1048576
  · by_cases h2 : what.size ≤ 1048576
    · go_enter Try.func9, Try.ntmps9
      go_wp2_with (first
        | (go_at_call 30; refine (sFN_any _ _ _ _ hs (by omega)).mono ?_; rintro e w' ⟨rfl, rfl⟩)
        | (go_at_call 31; refine (iFN_any _ _ _ _ hs hw hM).mono ?_; rintro e w' ⟨rfl, rfl⟩))
      all_goals (go_ret; exact ⟨by first | rfl | simp, Below.refl _ _⟩)
    · go_enter Try.func9, Try.ntmps9
      go_wp2
      go_ret
      exact ⟨rfl, Below.refl _ _⟩
  · go_enter Try.func9, Try.ntmps9
    go_wp2
    go_ret
    exact ⟨rfl, Below.refl _ _⟩
theorem law_FnExactFindLast (s : ByteArray) (hs : s.size ≤ maxLen) (what : ByteArray) (hw : what.size ≤ maxLen) (p : Int) (w1 : (Lit.int .i64 p).wf = true) (w : World) :
    Calls Try.prog 4 #[.string s, .string what, .int .i64 p] w fun e w' => e = .returned (.bool true) ∧ Below w.heap.size w w' := by
  have hs' := hs
  unfold maxLen at hs'
  have hw' := hw
  unfold maxLen at hw'
  by_cases h1 : s.size ≤ 1048576
  · by_cases h2 : what.size ≤ 1048576
    · go_enter Try.func4, Try.ntmps4
      go_wp2_with (first
        | (go_at_call 17; refine (sFL_any _ _ _ _ hs (by omega)).mono ?_; rintro e w' ⟨rfl, rfl⟩)
        | (go_at_call 18; refine (iFL_any _ _ _ _ hs (by omega)).mono ?_; rintro e w' ⟨rfl, rfl⟩))
      all_goals (go_ret; exact ⟨by first | rfl | simp, Below.refl _ _⟩)
    · go_enter Try.func4, Try.ntmps4
      go_wp2
      go_ret
      exact ⟨rfl, Below.refl _ _⟩
  · go_enter Try.func4, Try.ntmps4
    go_wp2
    go_ret
    exact ⟨rfl, Below.refl _ _⟩
end Go.Proofs.Ytibkcocaipbffaa
