/- The laws on the word motions that ask for equality with the reference, walked. -/
import Derived.Test.YtibkcocaipbffaaWz
namespace Go.Proofs.Ytibkcocaipbffaa
open Go.RowKit
set_option linter.unusedVariables false
theorem law_FnExactWordRight (s : ByteArray) (hs : s.size ≤ maxLen) (p : Int) (w1 : (Lit.int .i64 p).wf = true) (w : World) :
    Calls Try.prog 5 #[.string s, .int .i64 p] w fun e w' => e = .returned (.bool true) ∧ Below w.heap.size w w' := by
  have hs' := hs
  unfold maxLen at hs'
  go_enter Try.func5, Try.ntmps5
  go_wp2_with (first
    | (go_at_call 19; refine (sWR_any _ _ _ hs).mono ?_; rintro e w' ⟨rfl, m, rfl⟩)
    | (go_at_call 20; refine (iWR_any _ _ _ hs).mono ?_; rintro e w' ⟨rfl, rfl⟩))
  all_goals (go_ret; exact ⟨by first | rfl | simp, by first | exact Below.refl _ _ | exact below_drewN (Below.refl _ _) _⟩)
theorem law_FnExactWordLeft (s : ByteArray) (hs : s.size ≤ maxLen) (p : Int) (w1 : (Lit.int .i64 p).wf = true) (w : World) :
    Calls Try.prog 6 #[.string s, .int .i64 p] w fun e w' => e = .returned (.bool true) ∧ Below w.heap.size w w' := by
  have hs' := hs
  unfold maxLen at hs'
  go_enter Try.func6, Try.ntmps6
  go_wp2_with (first
    | (go_at_call 21; refine (sWL_any _ _ _ hs).mono ?_; rintro e w' ⟨rfl, rfl⟩)
    | (go_at_call 22; refine (iWL_any _ _ _ hs).mono ?_; rintro e w' ⟨rfl, rfl⟩))
  all_goals (go_ret; exact ⟨by first | rfl | simp, by first | exact Below.refl _ _ | exact below_drewN (Below.refl _ _) _⟩)
theorem law_FnExactWordAround (s : ByteArray) (hs : s.size ≤ maxLen) (p : Int) (w1 : (Lit.int .i64 p).wf = true) (w : World) :
    Calls Try.prog 8 #[.string s, .int .i64 p] w fun e w' => e = .returned (.bool true) ∧ Below w.heap.size w w' := by
  have hs' := hs
  unfold maxLen at hs'
  go_enter Try.func8, Try.ntmps8
  go_wp2_with (first
    | (go_at_call 28; refine (sWA_any _ _ _ hs).mono ?_; rintro e w' ⟨rfl, rfl⟩)
    | (go_at_call 29; refine (iWA_any _ _ _ hs).mono ?_; rintro e w' ⟨rfl, rfl⟩))
  all_goals (go_ret; exact ⟨by first | rfl | simp, by first | exact Below.refl _ _ | exact below_drewN (Below.refl _ _) _⟩)
end Go.Proofs.Ytibkcocaipbffaa
