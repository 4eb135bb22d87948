/- The law that asks for equality with the reference of CursorsValid, walked. -/
import Derived.Test.YtmdjmaijennmkaaTc
import Derived.Test.YtmdjmaijennmkaaCs
import Derived.Test.YtmdjmaijennmkaaOp
set_option linter.unusedVariables false
set_option linter.unusedSimpArgs false
namespace Go.Proofs.Ytmdjmaijennmkaa
open Go.RowKit
set_option linter.unusedVariables false
set_option maxRecDepth 100000 in
theorem law_FnExactCursorsValid (s : ByteArray) (hs : s.size ≤ maxLen) (A : Option Addr) (n c : Nat) (zs : List (Int × Int)) (w : World) (h : IsPairs w A n c zs) :
    Calls Try.prog 3 #[.string s, .slice A n c] w fun e w' => e = .returned (.bool true) ∧ Below w.heap.size w w' := by
  obtain ⟨rfl, hn0, _, hrow⟩ := h
  have hs' := hs
  unfold maxLen at hs'
  by_cases h1 : s.size ≤ 1048576
  · have hsz := szCursorS_any A zs.length c 1048576 w hn0 (by omega) (by omega)
    by_cases h2 : zs.length ≤ 1048576
    · rw [if_neg (by omega)] at hsz
      have hd : decide ((1048576 : Int) - (zs.length : Int) < 0) = false := by simp; omega
      have hn3 : zs.length ≤ 3000000 := by omega
      have hbb : ∀ b : Bool, (b != b) = false := by simp
      go_enter Try.func3, Try.ntmps3
      go_wp2_with fail
      refine hsz.mono ?_
      rintro e w' ⟨rfl, rfl⟩
      go_wp2_with fail
      refine (toCursorS_any A _ c zs _ hrow rfl hn3).mono ?_
      rintro e W1 ⟨A1, c1, rfl, ho1, hb1⟩
      have hr1 := Row.of_own2 ho1
      have hrow1 := (hrow.below hb1).more hb1.size
      clear ho1
      go_wp2_with fail
      refine (sCV_any s A1 _ c1 zs _ hs hr1 rfl (by omega)).mono ?_
      rintro e W2 ⟨rfl, hb2⟩
      have hrow2 := (hrow1.below hb2).more hb2.size
      have hbw2 := hb1.trans (hb2.mono hb1.size)
      clear hr1 hrow1
      go_wp2_with fail
      refine (toCursorS_any A _ c zs _ hrow2 rfl hn3).mono ?_
      rintro e W3 ⟨A3, c3, rfl, ho3, hb3⟩
      have hr3 := Row.of_own2 ho3
      have hrow3 := (hrow2.below hb3).more hb3.size
      have hbw3 := hbw2.trans (hb3.mono hbw2.size)
      clear ho3 hrow2
      go_wp2_with fail
      refine (iCV_any s A3 _ c3 zs _ hs hr3 rfl (by omega)).mono ?_
      rintro e W4 ⟨rfl, hb4⟩
      have hrow4 := (hrow3.below hb4).more hb4.size
      have hr4 := (hr3.below hb4).more hb4.size
      have hbw4 := hbw3.trans (hb4.mono hbw3.size)
      have hcc := hbb (cuV s zs)
      generalize cuV s zs = cv at hcc ⊢
      clear hr3 hrow3
      go_wp2_with fail
      refine (toCursorS_any A _ c zs _ hrow4 rfl hn3).mono ?_
      rintro e W5 ⟨A5, c5, rfl, ho5, hb5⟩
      have hr5 := Row.of_own2 ho5
      have hr45 := (hr4.below hb5).more hb5.size
      have hbw5 := hbw4.trans (hb5.mono hbw4.size)
      clear ho5 hr4
      go_wp2_with fail
      refine (eqCursorS_same A3 A5 _ _ c3 c5 zs W5 hr45 hr5 rfl rfl (by omega)).mono ?_
      rintro e W6 ⟨rfl, hb6⟩
      have hfin := hbw5.trans (hb6.mono hbw5.size)
      go_wp2_with fail
      go_ret
      exact ⟨rfl, hfin⟩
    · rw [if_pos (by omega)] at hsz
      go_enter Try.func3, Try.ntmps3
      go_wp2_with fail
      refine hsz.mono ?_
      rintro e w' ⟨rfl, rfl⟩
      go_wp2_with fail
      go_ret
      exact ⟨rfl, Below.refl _ _⟩
  · go_enter Try.func3, Try.ntmps3
    go_wp2
    go_ret
    exact ⟨rfl, Below.refl _ _⟩
end Go.Proofs.Ytmdjmaijennmkaa
