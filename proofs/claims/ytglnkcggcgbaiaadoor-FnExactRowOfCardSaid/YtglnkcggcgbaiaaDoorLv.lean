/- The law that asks for equality with the reference of RowOf, walked. -/
import Derived.Test.YtglnkcggcgbaiaaDoorWo
set_option linter.unusedVariables false
set_option linter.unusedSimpArgs false
namespace Go.Proofs.YtglnkcggcgbaiaaDoor
open Go.RowKit
set_option linter.unusedVariables false
theorem law_FnExactRowOf (s : ByteArray) (hs : s.size ≤ maxLen) (W : Int) (hW : (Lit.int .i64 W).wf = true) (p : Int) (hp : (Lit.int .i64 p).wf = true) (w : World) (hM : ML w) :
    Calls Tryd.prog 3 #[.string s, .int .i64 W, .int .i64 p] w fun e w' => e = .returned (.bool true) ∧ Below w.heap.size w w' := by
  have hs' := hs
  unfold maxLen at hs'
  have hML := hM.lt
  by_cases h2 : s.size ≤ 1048576
  · have hc1 := fun w => sRO_any s W p w hs
    have hc2 := fun w hM => iRO_any s W p w hs hM
    generalize roI s W p = x at hc1 hc2
    have H1 := Lib.hid hc1
    have H2 := Lib.hid hc2
    have e0 : (x != x) = false := by simp
    clear hc1 hc2
    go_enter Tryd.func3, Tryd.ntmps3
    go_wp2_with fail
    refine (H1.out _).mono ?_
    rintro e W1 ⟨rfl, hb1⟩
    go_wp2_with fail
    refine (H2.out _ (hM.below hb1 hML)).mono ?_
    rintro e W2 ⟨rfl, hb2⟩
    have hb := hb1.trans (hb2.mono hb1.size)
    go_wp2_with fail
    go_ret
    exact ⟨rfl, hb⟩
  · go_enter Tryd.func3, Tryd.ntmps3
    go_wp2
    go_ret
    exact ⟨rfl, Below.refl _ _⟩
end Go.Proofs.YtglnkcggcgbaiaaDoor
