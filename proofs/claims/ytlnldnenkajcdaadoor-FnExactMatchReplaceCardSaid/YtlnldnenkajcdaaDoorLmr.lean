/- The law that asks for equality with the reference of MatchReplace, walked. -/
import Derived.Test.YtlnldnenkajcdaaDoorMu
import Derived.Test.YtlnldnenkajcdaaDoorMv
set_option linter.unusedVariables false
set_option linter.unusedSimpArgs false
namespace Go.Proofs.YtlnldnenkajcdaaDoor
open Go.RowKit
set_option linter.unusedVariables false
theorem law_FnExactMatchReplace (p : ByteArray) (hp : p.size ≤ maxLen) (s : ByteArray) (hs : s.size ≤ maxLen) (wth : ByteArray) (hw : wth.size ≤ maxLen) (w : World) (hM : ML w) :
    Calls Tryd.prog 5 #[.string p, .string s, .string wth] w fun e w' => e = .returned (.bool true) ∧ Below w.heap.size w w' := by
  have hs' := hs
  unfold maxLen at hs'
  have hp' := hp
  unfold maxLen at hp'
  have hw' := hw
  unfold maxLen at hw'
  by_cases h1 : p.size ≤ 1048576
  · by_cases h2 : s.size ≤ 1048576
    · by_cases h3 : wth.size ≤ 1048576
      · have hc1 := fun W => sMR_any p s wth W hp hs (by omega)
        have hc2 := fun W hM => iMR_any p s wth W hp hs (by omega) hM
        generalize mrS p s wth = x at hc1 hc2
        generalize mrB p s wth = z at hc1 hc2
        have H1 := Lib.hid hc1
        have H2 := Lib.hid hc2
        have HM := Lib.hid hM
        have e0 : (z != z) = false := by simp
        clear hc1 hc2 hM
        go_enter Tryd.func5, Tryd.ntmps5
        go_wp2_with fail
        refine (H1.out _).mono ?_
        rintro e W1 ⟨rfl, hb1⟩
        have HM1 := Lib.hid (HM.out.below hb1 HM.out.lt)
        go_wp2_with fail
        refine (H2.out _ HM1.out).mono ?_
        rintro e W2 ⟨rfl, hb2⟩
        have hb := hb1.trans (hb2.mono hb1.size)
        go_wp2_with fail
        go_ret
        exact ⟨rfl, hb⟩
      · go_enter Tryd.func5, Tryd.ntmps5
        go_wp2
        go_ret
        exact ⟨rfl, Below.refl _ _⟩
    · go_enter Tryd.func5, Tryd.ntmps5
      go_wp2
      go_ret
      exact ⟨rfl, Below.refl _ _⟩
  · go_enter Tryd.func5, Tryd.ntmps5
    go_wp2
    go_ret
    exact ⟨rfl, Below.refl _ _⟩
end Go.Proofs.YtlnldnenkajcdaaDoor
