/- What is drawn for the laws on rows: a width; a text and a width; with a place; with a number. -/
import Derived.Test.YtpnbfhnljjcciaaRy
set_option linter.unusedVariables false
set_option linter.unusedSimpArgs false
namespace Go.Proofs.Ytpnbfhnljjcciaa
open Go.RowKit
def WidthPost (R p : Nat) (w : World) (e : Ending) (w' : World) : Prop :=
  ∃ (v : Int) (p' : Nat), e = .returned (.int .i64 v) ∧ 3 ≤ v ∧ v ≤ 41 ∧ p ≤ p' ∧ p' ≤ p + 4 ∧ IsRd w' R p' ∧ Beside R w w'
set_option maxRecDepth 100000 in
theorem width_any (R p : Nat) (w : World) (h : IsRd w R p) (hp : p ≤ 900000) :
    Calls Try.prog 64 #[.pointer (some ⟨R, 0, none⟩)] w (WidthPost R p w) := by
  go_enter Try.func64, Try.ntmps64
  go_wp2_with fail
  refine (pick_any R p 12 _ h (by omega) (by omega)).mono ?_
  rintro e W3 ⟨v, hv1, hv2, rfl, hR3, hb3, hs3⟩
  have hvv := hv2 (by omega)
  clear hv2 hs3
  go_wp2_with fail
  refine (pick_any R (p + 1) 9 ((W3.alloc (.cells #[.int .i64 (4 + v), .int .i64 3, .int .i64 40, .int .i64 41] 3)).alloc (.cells #[.int .i64 0, .int .i64 0, .int .i64 0, .int .i64 0, .int .i64 0, .int .i64 0, .int .i64 2, .int .i64 1, .int .i64 3] 3)) ((hR3.alloc _).alloc _) (by omega) (by omega)).mono ?_
  rintro e W5 ⟨j, hj1, hj2, rfl, hR5, hb6, hs6⟩
  have hjj := hj2 (by omega)
  have hb7 := ((hb3.alloc _).alloc _).trans hb6
  obtain ⟨hd, hq⟩ := hb6.two hR3.lt
  have hd0 := hd 0
  have hd1 := hd 1
  have hd2 := hd 2
  have hd3 := hd 3
  have hq0 := hq 0
  have hq1 := hq 1
  have hq2 := hq 2
  have hq3 := hq 3
  have hq4 := hq 4
  have hq5 := hq 5
  have hq6 := hq 6
  have hq7 := hq 7
  have hq8 := hq 8
  simp at hd0 hd1 hd2 hd3 hq0 hq1 hq2 hq3 hq4 hq5 hq6 hq7 hq8
  clear hd hq hb6 hs6 hb3 hj2 hR3
  rcases (show j = 0 ∨ j = 1 ∨ j = 2 ∨ j = 3 ∨ j = 4 ∨ j = 5 ∨ j = 6 ∨ j = 7 ∨ j = 8 by omega) with rfl | rfl | rfl | rfl | rfl | rfl | rfl | rfl | rfl
  all_goals
    go_wp2_with fail
    go_ret
    exact ⟨_, p + 1 + 1, rfl, by omega, by omega, by omega, by omega, hR5, hb7⟩
/-- A text and a width that are drawn from a code. -/
def DWidth (w : World) (e : Ending) (w' : World) : Prop :=
  ∃ (s : ByteArray) (v : Int), e = .returned (.tuple #[.string s, .int .i64 v]) ∧ s.size ≤ 200 ∧ 3 ≤ v ∧ v ≤ 41 ∧ Below w.heap.size w w'
end Go.Proofs.Ytpnbfhnljjcciaa
