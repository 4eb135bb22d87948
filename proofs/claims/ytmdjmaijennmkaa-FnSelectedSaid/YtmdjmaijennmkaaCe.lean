/- The ends of a cursor. -/
import Derived.Test.YtmdjmaijennmkaaCu
import Derived.Test.YtmdjmaijennmkaaPc
import Derived.Shelf.SlSortCmp.QuietGrown
set_option linter.unusedVariables false
set_option linter.unusedSimpArgs false
namespace Go.Proofs.Ytmdjmaijennmkaa
open Go.RowKit
theorem ends_any (a b : Int) (w : World) :
    Calls Try.prog 45 #[.agg #[.int .i64 a, .int .i64 b]] w fun e w' => e = .returned (.tuple #[.int .i64 (loC (a, b)), .int .i64 (hiC (a, b))]) ∧ ∃ q, w' = (w.alloc (.cells #[.int .i64 a, .int .i64 b] 44)).drewN q := by
  have c0 : (w.alloc (.cells #[.int .i64 a, .int .i64 b] 44)).cell? ⟨w.heap.size, 0, none⟩ = some (.int .i64 a) := cell_of_row _ _ 0 _ _ (0, 0) (heap_alloc_new w _)
  have c1 : (w.alloc (.cells #[.int .i64 a, .int .i64 b] 44)).cell? ⟨w.heap.size, 1, none⟩ = some (.int .i64 b) := cell_of_row _ _ 1 _ _ (0, 0) (heap_alloc_new w _)
  generalize hW : w.alloc (.cells #[.int .i64 a, .int .i64 b] 44) = W1 at c0 c1
  rcases Int.lt_or_le b a with hab | hab
  all_goals
    have HL : Hid (loC (a, b) = min a b ∧ hiC (a, b) = max a b) := Lib.hid ⟨rfl, rfl⟩
    go_enter Try.func45, Try.ntmps45
    go_wp2_with fail
    go_quiet (fail)
    go_wp2_with fail
    all_goals
      go_ret2
      refine ⟨?_, _, rfl⟩
      rw [HL.out.1, HL.out.2]
      refine ret_pair ?_ ?_ <;> omega
theorem l7Lo_any (a b : Int) (w : World) :
    Calls Try.prog 41 #[.agg #[.int .i64 a, .int .i64 b]] w fun e w' => e = .returned (.int .i64 (loC (a, b))) ∧ w' = w.alloc (.cells #[.int .i64 a, .int .i64 b] 44) := by
  go_enter Try.func41, Try.ntmps41
  go_wp2_with fail
  all_goals
    go_ret
    exact ⟨ret_int (by unfold loC; simp only; omega), rfl⟩
theorem l7Hi_any (a b : Int) (w : World) :
    Calls Try.prog 42 #[.agg #[.int .i64 a, .int .i64 b]] w fun e w' => e = .returned (.int .i64 (hiC (a, b))) ∧ w' = w.alloc (.cells #[.int .i64 a, .int .i64 b] 44) := by
  go_enter Try.func42, Try.ntmps42
  go_wp2_with fail
  all_goals
    go_ret
    exact ⟨ret_int (by unfold hiC; simp only; omega), rfl⟩
theorem ends_below (a b : Int) (w : World) :
    Calls Try.prog 45 #[.agg #[.int .i64 a, .int .i64 b]] w fun e w' => e = .returned (.tuple #[.int .i64 (loC (a, b)), .int .i64 (hiC (a, b))]) ∧ Below w.heap.size w w' :=
  (ends_any a b w).mono fun _ _ ⟨he, q, hw⟩ => ⟨he, by rw [hw]; exact below_drewN ((Below.refl _ _).alloc (Nat.le_refl _) _) q⟩
/-! The same, as a callee that lays blocks inside a region that draws. -/
open Go.Sort
theorem ends_grow (a b : Int) (w : World) (n : Nat) (os : Array Obj) :
    Calls Try.prog 45 #[.agg #[.int .i64 a, .int .i64 b]] (grow (w.drewN n) os) fun e w' => e = .returned (.tuple #[.int .i64 (loC (a, b)), .int .i64 (hiC (a, b))]) ∧ ∃ p : GrownBy, w' = grow (w.drewN p.n) p.os :=
  Calls.grown_of ((ends_any a b _).mono fun _ _ ⟨he, q, hw⟩ => ⟨he, q, #[.cells #[.int .i64 a, .int .i64 b] 44], by rw [hw, alloc_eq_grow]; rfl⟩)
theorem l7Lo_grow (a b : Int) (w : World) (n : Nat) (os : Array Obj) :
    Calls Try.prog 41 #[.agg #[.int .i64 a, .int .i64 b]] (grow (w.drewN n) os) fun e w' => e = .returned (.int .i64 (loC (a, b))) ∧ ∃ p : GrownBy, w' = grow (w.drewN p.n) p.os :=
  Calls.grown_of ((l7Lo_any a b _).mono fun _ _ ⟨he, hw⟩ => ⟨he, 0, #[.cells #[.int .i64 a, .int .i64 b] 44], by rw [hw, alloc_eq_grow]; rfl⟩)
theorem l7Hi_grow (a b : Int) (w : World) (n : Nat) (os : Array Obj) :
    Calls Try.prog 42 #[.agg #[.int .i64 a, .int .i64 b]] (grow (w.drewN n) os) fun e w' => e = .returned (.int .i64 (hiC (a, b))) ∧ ∃ p : GrownBy, w' = grow (w.drewN p.n) p.os :=
  Calls.grown_of ((l7Hi_any a b _).mono fun _ _ ⟨he, hw⟩ => ⟨he, 0, #[.cells #[.int .i64 a, .int .i64 b] 44], by rw [hw, alloc_eq_grow]; rfl⟩)
theorem l7Lo_below (a b : Int) (w : World) :
    Calls Try.prog 41 #[.agg #[.int .i64 a, .int .i64 b]] w fun e w' => e = .returned (.int .i64 (loC (a, b))) ∧ Below w.heap.size w w' :=
  (l7Lo_any a b w).mono fun _ _ ⟨he, hw⟩ => ⟨he, by rw [hw]; exact (Below.refl _ _).alloc (Nat.le_refl _) _⟩
theorem l7Hi_below (a b : Int) (w : World) :
    Calls Try.prog 42 #[.agg #[.int .i64 a, .int .i64 b]] w fun e w' => e = .returned (.int .i64 (hiC (a, b))) ∧ Below w.heap.size w w' :=
  (l7Hi_any a b w).mono fun _ _ ⟨he, hw⟩ => ⟨he, by rw [hw]; exact (Below.refl _ _).alloc (Nat.le_refl _) _⟩
theorem below_grow (w : World) (n : Nat) (os : Array Obj) : Below w.heap.size w (grow (w.drewN n) os) :=
  ⟨rfl, rfl, rfl, by rw [size_grow]; exact Nat.le_add_right _ _, fun i hi => by
    show (w.heap ++ os)[i]? = _
    rw [Array.getElem?_append_left hi]⟩
theorem Row.pairQ {w : World} {B : Nat} {A : Option Addr} {ps : List (Int × Int)} (h : Row w B A (pairs ps)) (hB : B ≤ w.heap.size) {j : Nat} (hj : j < ps.length) :
    ∃ b o, A = some ⟨b, o, none⟩ ∧ b < w.heap.size ∧ (∀ n os, (grow (w.drewN n) os).cell? ⟨b, o + j * 2, none⟩ = some (.int .i64 ps[j].1)) ∧ (∀ n os, (grow (w.drewN n) os).cell? ⟨b, o + j * 2 + 1, none⟩ = some (.int .i64 ps[j].2)) := by
  obtain ⟨b, o, rfl, hb, h1, h2⟩ := h.pair hj
  exact ⟨b, o, rfl, by omega, fun n os => cell_grown (by show b < _; omega) h1 n os, fun n os => cell_grown (by show b < _; omega) h2 n os⟩
end Go.Proofs.Ytmdjmaijennmkaa
