/- The law that asks for equality with the reference of LineMove, walked. -/
import Derived.Test.YtpnbfhnljjcciaaLb
set_option linter.unusedVariables false
set_option linter.unusedSimpArgs false
namespace Go.Proofs.Ytpnbfhnljjcciaa
open Go.RowKit
set_option linter.unusedVariables false
theorem law_FnExactLineMove (s : ByteArray) (hs : s.size ≤ maxLen) (p : Int) (hp : (Lit.int .i64 p).wf = true) (b : Int) (hb0 : (Lit.int .i64 b).wf = true) (c : Int) (hc0 : (Lit.int .i64 c).wf = true) (w : World) :
    Calls Try.prog 8 #[.string s, .int .i64 p, .int .i64 b, .int .i64 c] w fun e w' => e = .returned (.bool true) ∧ Below w.heap.size w w' := by
  have hs' := hs
  unfold maxLen at hs'
  by_cases h2 : s.size ≤ 1048576
  · have hc1 := fun w => sLV_any s p b c w hs
    have hc2 := fun w => iLV_any s p b c w hs
    generalize lmvI s p b c = x at hc1 hc2
    have H1 := Lib.hid hc1
    have H2 := Lib.hid hc2
    have e0 : (x != x) = false := by simp
    clear hc1 hc2
    go_enter Try.func8, Try.ntmps8
    go_wp2_with fail
    refine (H1.out _).mono ?_
    rintro e W1 ⟨rfl, hb1⟩
    go_wp2_with fail
    refine (H2.out _).mono ?_
    rintro e W2 ⟨rfl, hb2⟩
    have hb := hb1.trans (hb2.mono hb1.size)
    go_wp2_with fail
    go_ret
    exact ⟨rfl, hb⟩
  · go_enter Try.func8, Try.ntmps8
    go_wp2
    go_ret
    exact ⟨rfl, Below.refl _ _⟩
end Go.Proofs.Ytpnbfhnljjcciaa
