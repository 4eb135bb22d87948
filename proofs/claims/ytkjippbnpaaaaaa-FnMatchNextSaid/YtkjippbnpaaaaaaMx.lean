/- What is drawn for the laws on matches. -/
import Derived.Test.YtkjippbnpaaaaaaRp
import Derived.Test.YtkjippbnpaaaaaaRy
set_option linter.unusedVariables false
set_option linter.unusedSimpArgs false
namespace Go.Proofs.Ytkjippbnpaaaaaa
open Go.RowKit
set_option maxRecDepth 100000
/-- A pattern, a text and a place that are drawn from a code. -/
def DPatPlace (w : World) (e : Ending) (w' : World) : Prop :=
  ∃ (p s : ByteArray) (v : Int), e = .returned (.tuple #[.string p, .string s, .int .i64 v]) ∧ p.size ≤ 200 ∧ s.size ≤ 200 ∧ -1 ≤ v ∧ v ≤ s.size + 1 ∧ Below w.heap.size w w'
theorem dDrawMatchEnd (A : Option Addr) (n c : Nat) (zs : List Int) (w : World) (h : IsBytes w A n c zs) :
    Calls Try.prog 27 #[.slice A n c] w (DPatPlace w) := by
  go_enter Try.func27, Try.ntmps27
  go_wp2_with fail
  refine (open_any A n c zs _ h).mono ?_
  rintro e W1 ⟨rfl, hR, hb, hsz⟩
  obtain ⟨B, hB⟩ : ∃ B, w.heap.size = B := ⟨_, rfl⟩
  rw [hB] at hR hb hsz ⊢
  have HB := Lib.hid hB
  clear hB
  go_wp2_with fail
  refine (pattern_any B 0 12 _ hR (by omega) (by omega) (by omega)).mono ?_
  rintro e W2 ⟨p, p2, rfl, hp0, hp1, hp2, hR2, hb2⟩
  go_wp2_with fail
  refine (text_any B p2 14 _ hR2 (by omega) (by omega) (by omega)).mono ?_
  rintro e W3 ⟨s, p3, rfl, hs, hp3, hp4, hR3, hb3⟩
  go_wp2_with fail
  refine (place_any B p3 s 14 _ hR3 (by omega) (by omega) (by omega) (by omega)).mono ?_
  rintro e W4 ⟨v, p4, rfl, hv1, hv2, hp5, hp6, hR4, hb4⟩
  have hb5 := hb.trans (((hb2.trans hb3).trans hb4).below (Nat.le_refl _) (by omega))
  go_wp2_with fail
  go_ret3
  exact ⟨p, s, v, rfl, hp0, hs, hv1, hv2, by rw [HB.out]; exact hb5⟩
theorem dDrawMatchNext (A : Option Addr) (n c : Nat) (zs : List Int) (w : World) (h : IsBytes w A n c zs) :
    Calls Try.prog 31 #[.slice A n c] w (DPatPlace w) := by
  go_enter Try.func31, Try.ntmps31
  go_wp2_with fail
  refine (dDrawMatchEnd A n c zs _ h).mono ?_
  rintro e W1 ⟨s, t, v, rfl, hs, ht, hv1, hv2, hb⟩
  go_wp2_with fail
  go_ret3
  exact ⟨s, t, v, rfl, hs, ht, hv1, hv2, hb⟩
def DPatText (w : World) (e : Ending) (w' : World) : Prop :=
  ∃ (p s : ByteArray), e = .returned (.tuple #[.string p, .string s]) ∧ p.size ≤ 200 ∧ s.size ≤ 200 ∧ Below w.heap.size w w'
theorem dDrawMatchAll (A : Option Addr) (n c : Nat) (zs : List Int) (w : World) (h : IsBytes w A n c zs) :
    Calls Try.prog 32 #[.slice A n c] w (DPatText w) := by
  go_enter Try.func32, Try.ntmps32
  go_wp2_with fail
  refine (dDrawMatchEnd A n c zs _ h).mono ?_
  rintro e W1 ⟨s, t, v, rfl, hs, ht, hv1, hv2, hb⟩
  go_wp2_with fail
  go_ret2
  exact ⟨s, t, rfl, hs, ht, hb⟩
end Go.Proofs.Ytkjippbnpaaaaaa
