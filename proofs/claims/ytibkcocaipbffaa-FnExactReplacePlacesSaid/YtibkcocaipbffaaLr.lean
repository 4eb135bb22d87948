/- The law that asks for equality with the reference of ReplacePlaces, walked. -/
import Derived.Test.YtibkcocaipbffaaRi
namespace Go.Proofs.Ytibkcocaipbffaa
open Go.RowKit
set_option linter.unusedVariables false
theorem law_FnExactReplacePlaces (s : ByteArray) (hs : s.size ≤ maxLen) (what : ByteArray) (hw : what.size ≤ maxLen) (wth : ByteArray) (hwt : wth.size ≤ maxLen) (w : World) (hM : ML w) :
    Calls Try.prog 11 #[.string s, .string what, .string wth] w fun e w' => e = .returned (.bool true) ∧ Below w.heap.size w w' := by
  have hs' := hs
  unfold maxLen at hs'
  have hw' := hw
  unfold maxLen at hw'
  have hwt' := hwt
  unfold maxLen at hwt'
  by_cases h1 : s.size ≤ 1048576
  · by_cases h2 : what.size ≤ 1048576
    · by_cases h3 : wth.size ≤ 1048576
      · have hML := hM.lt
        generalize hx : rpS s what wth = x
        generalize hy : rpB s what wth = y
        have HX := Lib.hid (And.intro hx hy)
        clear hx hy
        go_enter Try.func11, Try.ntmps11
        go_wp2_with fail
        refine (sRP_any s what wth _ hs (by omega) (by omega)).mono ?_
        rintro e W1 ⟨rfl, hb1⟩
        rw [HX.out.1, HX.out.2]
        have hM1 := hM.below hb1 hML
        go_wp2_with fail
        refine (iRP_any s what wth _ hs (by omega) (by omega) hM1).mono ?_
        rintro e W2 ⟨rfl, hb2⟩
        rw [HX.out.1, HX.out.2]
        have hfin : Below w.heap.size w W2 := hb1.trans (hb2.mono hb1.size)
        cases y
        all_goals (go_wp2_with fail; go_ret; exact ⟨by first | rfl | simp, hfin⟩)
      · go_enter Try.func11, Try.ntmps11
        go_wp2
        go_ret
        exact ⟨rfl, Below.refl _ _⟩
    · go_enter Try.func11, Try.ntmps11
      go_wp2
      go_ret
      exact ⟨rfl, Below.refl _ _⟩
  · go_enter Try.func11, Try.ntmps11
    go_wp2
    go_ret
    exact ⟨rfl, Below.refl _ _⟩
end Go.Proofs.Ytibkcocaipbffaa
