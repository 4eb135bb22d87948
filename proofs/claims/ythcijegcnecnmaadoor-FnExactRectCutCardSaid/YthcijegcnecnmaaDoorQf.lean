/- The law that asks for equality with the reference of RectCut, walked. -/
import Derived.Test.YthcijegcnecnmaaDoorQe
set_option linter.unusedVariables false
set_option linter.unusedSimpArgs false
namespace Go.Proofs.YthcijegcnecnmaaDoor
open Go.RowKit
theorem law_FnExactRectCut (s : ByteArray) (hs : s.size ≤ maxLen) (a : Int) (ha : (Lit.int .i64 a).wf = true) (b : Int) (hb : (Lit.int .i64 b).wf = true) (w : World) (hM : ML w) :
    Calls Tryd.prog 4 #[.string s, .int .i64 a, .int .i64 b] w fun e w' => e = .returned (.bool true) ∧ Below w.heap.size w w' := by
  have hs' := hs
  unfold maxLen at hs'
  have hML := hM.lt
  by_cases h2 : s.size ≤ 1048576
  · have hc1 := fun w => sRC_any s a b w hs
    have hc2 := fun w hM => iRC_any s a b w hs hM
    generalize rtC s a b = x at hc1 hc2
    have H1 := Lib.hid hc1
    have H2 := Lib.hid hc2
    clear hc1 hc2
    go_enter Tryd.func4, Tryd.ntmps4
    go_wp2_with fail
    refine (H1.out _).mono ?_
    rintro e W1 ⟨rfl, hb1⟩
    have hM1 := hM.below hb1 hML
    go_wp2_with fail
    refine (H2.out _ hM1).mono ?_
    rintro e W2 ⟨rfl, hb2⟩
    have hfin := hb1.trans (hb2.mono hb1.size)
    go_wp2_with fail
    all_goals (go_ret; exact ⟨by first | rfl | simp, hfin⟩)
  · go_enter Tryd.func4, Tryd.ntmps4
    go_wp2
    go_ret
    exact ⟨rfl, Below.refl _ _⟩
end Go.Proofs.YthcijegcnecnmaaDoor
