/- What is drawn: a place, a text with a place. -/
import Derived.Test.YtlnldnenkajcdaaRx
set_option linter.unusedVariables false
set_option linter.unusedSimpArgs false
namespace Go.Proofs.Ytlnldnenkajcdaa
open Go.RowKit

def PlacePost (R p : Nat) (s : ByteArray) (w : World) (e : Ending) (w' : World) : Prop :=
  ∃ (v : Int) (p' : Nat), e = .returned (.int .i64 v) ∧ -1 ≤ v ∧ v ≤ s.size + 1 ∧ p ≤ p' ∧ p' ≤ p + 4 ∧ IsRd w' R p' ∧ Beside R w w'
set_option maxRecDepth 100000 in
theorem place_any (R p : Nat) (s : ByteArray) (n : Int) (w : World) (h : IsRd w R p) (hp : p ≤ 900000) (hs : s.size ≤ 1000) (hn : n ≤ 1000000) (hn0 : -1000000 ≤ n) :
    Calls Try.prog 50 #[.pointer (some ⟨R, 0, none⟩), .string s, .int .i64 n] w (PlacePost R p s w) := by
  go_enter Try.func50, Try.ntmps50
  go_wp2_with fail
  refine (odd_any R p n _ h (by omega) hn hn0).mono ?_
  rintro e W2 ⟨b, p2, rfl, hp3, hp4, hR2, hb2, hs2⟩
  clear hs2
  cases b
  · go_wp2_with fail
    all_goals
      refine (pick_any R p2 _ _ hR2 (by omega) (by omega)).mono ?_
      rintro e W3 ⟨v, hv1, hv2, rfl, hR3, hb3, hs3⟩
      have hvv := hv2 (by omega)
      have hbb := hb2.trans hb3
      clear hb2 hb3 hv2 hs3 hR2
      go_wp2_with fail
      refine (pick_any R (p2 + 1) 6 _ ((hR3.alloc _).alloc _) (by omega) (by omega)).mono ?_
      rintro e W4 ⟨j, hj1, hj2, rfl, hR4, hb4, hs4⟩
      have hjj := hj2 (by omega)
      have hb5 := ((hbb.alloc _).alloc _).trans hb4
      have hn4 : W3.heap.size + 1 + 1 = ((W3.alloc (.cells #[.int .i64 v, .int .i64 0, .int .i64 s.size] 3)).alloc (.cells #[.int .i64 0, .int .i64 0, .int .i64 0, .int .i64 0, .int .i64 1, .int .i64 2] 3)).heap.size := by simp
      have hne : W3.heap.size ≠ R ∧ W3.heap.size + 1 ≠ R := by have := hR3.lt; omega
      have hd : ∀ i, W4.cell? ⟨W3.heap.size, i, none⟩ = (#[Value.int .i64 v, .int .i64 0, .int .i64 s.size] : Array Value)[i]? := fun i => (hb4.cell (p := ⟨W3.heap.size, i, none⟩) (by rw [← hn4]; show W3.heap.size < _; omega) hne.1).trans
        (((Below.refl (W3.heap.size + 1) _).alloc (by simp) _).cell (p := ⟨W3.heap.size, i, none⟩) (by show W3.heap.size < _; omega) |>.trans (cell_of_row _ _ i _ _ (0, 0) (heap_alloc_new _ _)))
      have hq : ∀ i, W4.cell? ⟨W3.heap.size + 1, i, none⟩ = (#[Value.int .i64 0, .int .i64 0, .int .i64 0, .int .i64 0, .int .i64 1, .int .i64 2] : Array Value)[i]? := fun i => (hb4.cell (p := ⟨W3.heap.size + 1, i, none⟩) (by rw [← hn4]; show W3.heap.size + 1 < _; omega) hne.2).trans
        (cell_of_row _ _ i _ _ (0, 0) (by have := heap_alloc_new (W3.alloc (.cells #[.int .i64 v, .int .i64 0, .int .i64 s.size] 3)) (.cells #[.int .i64 0, .int .i64 0, .int .i64 0, .int .i64 0, .int .i64 1, .int .i64 2] 3); simpa using this))
      have hd0 := hd 0
      have hd1 := hd 1
      have hd2 := hd 2
      have hq0 := hq 0
      have hq1 := hq 1
      have hq2 := hq 2
      have hq3 := hq 3
      have hq4 := hq 4
      have hq5 := hq 5
      simp at hd0 hd1 hd2 hq0 hq1 hq2 hq3 hq4 hq5
      clear hd hq hn4 hb4 hs4 hbb hj2 hR3
      rcases (show j = 0 ∨ j = 1 ∨ j = 2 ∨ j = 3 ∨ j = 4 ∨ j = 5 by omega) with rfl | rfl | rfl | rfl | rfl | rfl
      all_goals
        go_wp2_with fail
        go_ret
        exact ⟨_, p2 + 1 + 1, rfl, by omega, by omega, by omega, by omega, hR4, hb5⟩
  · go_wp2_with fail
    refine (pick_any R p2 2 _ (hR2.alloc _) (by omega) (by omega)).mono ?_
    rintro e W3 ⟨v, hv1, hv2, rfl, hR3, hb3, hs3⟩
    have hvv := hv2 (by omega)
    have hb4 := (hb2.alloc _).trans hb3
    have hne : W2.heap.size ≠ R := by have := hR2.lt; omega
    have hc0 : W3.cell? ⟨W2.heap.size, 0, none⟩ = some (.int .i64 (-1)) := (hb3.cell (p := ⟨W2.heap.size, 0, none⟩) (by simp) hne).trans (by simp [go_sem])
    have hc1 : W3.cell? ⟨W2.heap.size, 1, none⟩ = some (.int .i64 (s.size + 1)) := (hb3.cell (p := ⟨W2.heap.size, 1, none⟩) (by simp) hne).trans (by simp [go_sem])
    clear hb2 hb3 hs3 hR2 hv2
    rcases (show v = 0 ∨ v = 1 by omega) with rfl | rfl
    · go_wp2_with fail
      go_ret
      exact ⟨_, p2 + 1, rfl, by omega, by omega, by omega, by omega, hR3, hb4⟩
    · go_wp2_with fail
      go_ret
      exact ⟨_, p2 + 1, rfl, by omega, by omega, by omega, by omega, hR3, hb4⟩
/-- A text and a place that are drawn from a code. -/
def DSpot (w : World) (e : Ending) (w' : World) : Prop :=
  ∃ (s : ByteArray) (v : Int), e = .returned (.tuple #[.string s, .int .i64 v]) ∧ s.size ≤ 200 ∧ -1 ≤ v ∧ v ≤ s.size + 1 ∧ Below w.heap.size w w'
end Go.Proofs.Ytlnldnenkajcdaa
