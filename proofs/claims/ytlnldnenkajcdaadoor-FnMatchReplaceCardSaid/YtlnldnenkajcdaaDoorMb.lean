/- A row of bools in memory, by a function on places. -/
import Derived.Test.YtlnldnenkajcdaaDoorMt
import Derived.Test.YtlnldnenkajcdaaDoorMe
set_option linter.unusedVariables false
set_option linter.unusedSimpArgs false
namespace Go.Proofs.YtlnldnenkajcdaaDoor
open Go.RowKit

/-- Block g holds the n bools f 0, f 1, .. -/
def BR (w : World) (g n : Nat) (f : Nat → Bool) : Prop := ∃ cur : Array Value, w.heap[g]? = some (.cells cur 4 (0, 0)) ∧ cur.size = n ∧ ∀ j, j < n → cur[j]? = some (.bool (f j))
def upd (f : Nat → Bool) (k : Nat) (b : Bool) : Nat → Bool := fun j => if j = k then b else f j
def cut (G : Nat → Bool) (q : Nat) : Nat → Bool := fun j => decide (j < q) && G j
section
variable {w w' : World} {g n : Nat} {f : Nat → Bool}
theorem BR.cell (h : BR w g n f) {j : Nat} (hj : j < n) : w.cell? ⟨g, j, none⟩ = some (.bool (f j)) := by
  obtain ⟨cur, h1, _, h3⟩ := h
  rw [cell_of_row w g j cur _ _ h1, h3 j hj]
theorem BR.frozen (h : BR w g n f) (j : Nat) : w.frozen? ⟨g, j, none⟩ = false := by
  obtain ⟨cur, h1, _, _⟩ := h
  simp [World.frozen?, h1]
theorem BR.lt (h : BR w g n f) : g < w.heap.size := by
  obtain ⟨cur, h1, _, _⟩ := h
  exact (Array.getElem?_eq_some_iff.1 h1).1
theorem BR.congr (h : BR w g n f) {f' : Nat → Bool} (he : ∀ j, j < n → f j = f' j) : BR w g n f' := by
  obtain ⟨cur, h1, h2, h3⟩ := h
  exact ⟨cur, h1, h2, fun j hj => by rw [h3 j hj, he j hj]⟩
theorem BR.set (h : BR w g n f) {j : Nat} (hj : j < n) (b : Bool) : BR (w.setCell ⟨g, j, none⟩ (.bool b)) g n (upd f j b) := by
  obtain ⟨cur, h1, h2, h3⟩ := h
  refine ⟨cur.set! j (.bool b), ?_, by simpa using h2, fun k hk => ?_⟩
  · simp [World.setCell, Array.getElem?_modify, h1]
  · unfold upd
    by_cases hkj : k = j
    · subst hkj
      rw [if_pos rfl]
      simp [Array.set!, Array.getElem?_setIfInBounds, h2, hk]
    · rw [if_neg hkj, ← h3 k hk]
      simp [Array.set!, Array.getElem?_setIfInBounds, Ne.symm hkj]
theorem BR.other (h : BR w g n f) {p : Addr} (hp : p.block ≠ g) (v : Value) : BR (w.setCell p v) g n f := by
  obtain ⟨cur, h1, h2, h3⟩ := h
  exact ⟨cur, (Below.heap_setCell w p v g (fun e => hp e.symm)).trans h1, h2, h3⟩
theorem BR.alloc (h : BR w g n f) (o : Obj) : BR (w.alloc o) g n f := by
  have hl := h.lt
  obtain ⟨cur, h1, h2, h3⟩ := h
  exact ⟨cur, (Below.heap_alloc w o g hl).trans h1, h2, h3⟩
theorem BR.drewN (h : BR w g n f) (m : Nat) : BR (w.drewN m) g n f := h
theorem BR.below (h : BR w g n f) {B : Nat} (hb : Below B w w') (hg : g < B) : BR w' g n f := by
  obtain ⟨cur, h1, h2, h3⟩ := h
  exact ⟨cur, (hb.block g hg).trans h1, h2, h3⟩
theorem BR.new (w : World) (n : Nat) : BR (w.alloc (.cells (madeCells #[.bool false] n) 4)) w.heap.size n (fun _ => false) := by
  refine ⟨_, heap_alloc_new w _, by rw [size_madeCells], fun j hj => ?_⟩
  rw [← Array.getElem?_toList, toList_madeCells_one]
  simp [hj]
theorem BR.new1 (w : World) (n : Nat) {m : Nat} (hm : m < n) : BR (w.alloc (.cells ((madeCells #[.bool false] n).setIfInBounds m (.bool true)) 4)) w.heap.size n (startF m) := by
  refine ⟨_, heap_alloc_new w _, by rw [Array.size_setIfInBounds, size_madeCells], fun j hj => ?_⟩
  rw [Array.getElem?_setIfInBounds]
  unfold startF
  by_cases h : m = j
  · subst h
    rw [if_pos rfl, if_pos (by rw [size_madeCells]; exact hm)]
    simp
  · rw [if_neg h, ← Array.getElem?_toList, toList_madeCells_one]
    simp [hj, Ne.symm h]
end
theorem cut_full {G : Nat → Bool} {q n : Nat} (h : n ≤ q) : ∀ j, j < n → cut G q j = G j := fun j hj => by unfold cut; rw [decide_eq_true (show j < q by omega)]; rfl
theorem cut_set {G : Nat → Bool} {q : Nat} {b : Bool} (h : G q = b) : ∀ j, upd (cut G q) q b j = cut G (q + 1) j := fun j => by
  unfold upd cut
  by_cases hj : j = q
  · subst hj; rw [if_pos rfl, decide_eq_true (show j < j + 1 by omega), h]; rfl
  · rw [if_neg hj, decide_eq_decide.2 (show j < q ↔ j < q + 1 by omega)]
theorem cut_same {G : Nat → Bool} {q : Nat} (h : G q = false) : ∀ j, cut G q j = cut G (q + 1) j := fun j => by
  unfold cut
  by_cases hj : j = q
  · subst hj; rw [h]; simp
  · rw [decide_eq_decide.2 (show j < q ↔ j < q + 1 by omega)]
theorem cut_none {G : Nat → Bool} {q : Nat} (h : ∀ j, j < q → G j = false) : ∀ j, false = cut G q j := fun j => by
  unfold cut
  by_cases hj : j < q
  · rw [h j hj]; simp
  · rw [decide_eq_false hj]; rfl
end Go.Proofs.YtlnldnenkajcdaaDoor
