/- The law on PatternValid over drawn patterns, walked. -/
import Derived.Test.YtkjippbnpaaaaaaRp
import Derived.Test.YtkjippbnpaaaaaaPv
import Derived.Test.YtkjippbnpaaaaaaAl
namespace Go.Proofs.Ytkjippbnpaaaaaa
open Go.RowKit
set_option linter.unusedVariables false
/-- A pattern with two stars behind it is invalid. -/
theorem patV_stars (s : ByteArray) : patV (s ++ ⟨#[42, 42]⟩) = false := by
  have hsz : (s ++ ⟨#[42, 42]⟩ : ByteArray).size = s.size + 2 := by simp [ByteArray.size_append]; rfl
  have hg : ∀ j (h : s.size + j < (s ++ ⟨#[42, 42]⟩ : ByteArray).size), j < 2 → (s ++ ⟨#[42, 42]⟩ : ByteArray)[s.size + j] = 42 := by
    intro j h hj
    have : (s ++ ⟨#[42, 42]⟩ : ByteArray)[s.size + j] = (⟨#[42, 42]⟩ : ByteArray)[j]'(by show j < 2; exact hj) := by
      rw [ByteArray.getElem_append_right (by omega)]
      congr 1; omega
    rw [this]
    match j, hj with
    | 0, _ => rfl
    | 1, _ => rfl
  refine patV_bad (k := s.size + 1) (by omega) ?_
  have h1 : byteI (s ++ ⟨#[42, 42]⟩) (s.size + 1) = 42 := by rw [byteI_at (by omega), hg 1 (by omega) (by omega)]; rfl
  have h0 : byteI (s ++ ⟨#[42, 42]⟩) s.size = 42 := by
    have := hg 0 (by omega) (by omega)
    rw [byteI_at (by omega)]
    simp only [Nat.add_zero] at this
    rw [this]; rfl
  unfold goodAt
  rw [h1, show s.size + 1 - 1 = s.size from rfl, h0]
  simp
theorem law_FnPatternValid (A : Option Addr) (n c : Nat) (zs : List Int) (w : World) (h : IsBytes w A n c zs) :
    Calls Try.prog 6 #[.slice A n c] w fun e w' => e = .returned (.bool true) ∧ Below w.heap.size w w' := by
  by_cases hbig : 1048576 < n
  · go_enter Try.func6, Try.ntmps6
    go_wp2
    go_ret
    exact ⟨rfl, Below.refl _ _⟩
  go_enter Try.func6, Try.ntmps6
  go_wp2_with fail
  refine (dDrawPatternValid A n c zs _ h).mono ?_
  rintro e W1 ⟨s, rfl, hs0, hb⟩
  have hs : s.size ≤ maxLen := by unfold maxLen; omega
  clear hbig
  have hs2 : (s ++ ⟨#[42, 42]⟩ : ByteArray).size ≤ maxLen := by
    have : (s ++ ⟨#[42, 42]⟩ : ByteArray).size = s.size + 2 := by simp [ByteArray.size_append]; rfl
    rw [this]; unfold maxLen; omega
  have hc1 := fun W => iPV_any (s ++ ⟨#[42, 42]⟩) W hs2
  rw [patV_stars] at hc1
  have hc2 := fun W => iPV_any ⟨#[]⟩ W (by decide)
  rw [show patV ⟨#[]⟩ = true by decide +kernel] at hc2
  have hc3 := fun W => iPV_any ⟨#[94, 97, 42, 36]⟩ W (by decide)
  rw [show patV ⟨#[94, 97, 42, 36]⟩ = true by decide +kernel] at hc3
  have H1 := Lib.hid hc1
  have H2 := Lib.hid hc2
  have H3 := Lib.hid hc3
  clear hc1 hc2 hc3
  go_wp2_with fail
  refine (iPV_any s _ hs).mono ?_
  rintro e w' ⟨rfl, rfl⟩
  go_wp2_with fail
  refine (sPV_any s _ hs).mono ?_
  rintro e w' ⟨rfl, rfl⟩
  go_wp2_with fail
  refine (H1.out _).mono ?_
  rintro e w' ⟨rfl, rfl⟩
  go_wp2_with fail
  refine (H2.out _).mono ?_
  rintro e w' ⟨rfl, rfl⟩
  go_wp2_with fail
  refine (H3.out _).mono ?_
  rintro e w' ⟨rfl, rfl⟩
  go_wp2_with (go_at_call 26; refine (alive_any _).mono ?_; rintro e w' ⟨rfl, rfl⟩)
  go_ret
  exact ⟨rfl, hb⟩
end Go.Proofs.Ytkjippbnpaaaaaa
