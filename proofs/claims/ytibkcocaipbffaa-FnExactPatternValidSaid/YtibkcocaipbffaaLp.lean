/- The law that asks for equality with the reference of PatternValid, walked. -/
import Derived.Test.YtibkcocaipbffaaPv
namespace Go.Proofs.Ytibkcocaipbffaa
open Go.RowKit
set_option linter.unusedVariables false
theorem law_FnExactPatternValid (s : ByteArray) (hs : s.size ≤ maxLen) (w : World) :
    Calls Try.prog 3 #[.string s] w fun e w' => e = .returned (.bool true) ∧ Below w.heap.size w w' := by
  have hs' := hs
  unfold maxLen at hs'
  go_enter Try.func3, Try.ntmps3
  go_wp2_with (first
    | (go_at_call 15; refine (sPV_any _ _ hs).mono ?_; rintro e w' ⟨rfl, rfl⟩)
    | (go_at_call 16; refine (iPV_any _ _ hs).mono ?_; rintro e w' ⟨rfl, rfl⟩))
  all_goals (go_ret; exact ⟨by first | rfl | simp, Below.refl _ _⟩)
end Go.Proofs.Ytibkcocaipbffaa
