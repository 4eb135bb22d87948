/- The contracts of FindNext and FindLast, of the program and of the reference. -/
import Derived.Test.YtlnldnenkajcdaaDoorWa
import Derived.Test.YtlnldnenkajcdaaDoorSh
import Derived.Lib.Index
import Derived.Lib.IndexBytes
import Derived.Lib.Strings
set_option linter.unusedVariables false
set_option linter.unusedSimpArgs false
namespace Go.Proofs.YtlnldnenkajcdaaDoor
open Go.RowKit

/-- The library's variable MaxLen holds some number. -/
def ML (w : World) : Prop := ∃ m, w.cell? ⟨2, 0, none⟩ = some (.int .i64 m)
theorem ml_of {w : World} (h : w.ShapedOpen Tryd.prog) : ML w := Tryd.laysM143.s1_3 w h
theorem ML.below {B : Nat} {w w' : World} (h : ML w) (hb : Below B w w') (hB : 2 < B) : ML w' := by
  obtain ⟨m, hm⟩ := h
  exact ⟨m, (hb.cell (p := ⟨2, 0, none⟩) hB).trans hm⟩
theorem ML.lt {w : World} (h : ML w) : 2 < w.heap.size := by
  obtain ⟨m, hm⟩ := h
  exact World.block_lt_of_cell? w _ hm
theorem ML.drewN {w : World} (h : ML w) (n : Nat) : ML (w.drewN n) := h

/-- Does 'what' stand at place k of s? -/
def occ (s what : ByteArray) (k : Nat) : Bool := Lib.occAt s.data.toList what.data.toList k
def fitsAt (s what : ByteArray) (k : Nat) : Bool := decide (k + what.size ≤ s.size) && occ s what k
/-- FindNext for a place that exists and a text that is not empty. -/
def fnN (s what : ByteArray) (p : Nat) : Int :=
  let i := Lib.index (s.data.toList.drop p) what.data.toList
  if i < 0 then -1 else p + i
def fnOk (s what : ByteArray) (p : Int) : Bool := place s p && !what.toList.isEmpty
def fnI (s what : ByteArray) (p : Int) : Int := if fnOk s what p = true then fnN s what p.toNat else -1

theorem occAt_drop (s sub : List UInt8) (p i : Nat) : Lib.occAt (s.drop p) sub i = Lib.occAt s sub (p + i) := by
  simp [Lib.occAt, List.drop_drop, Nat.add_comm]
theorem fnN_hit {s what : ByteArray} {p k : Nat} (hpk : p ≤ k) (hk : k ≤ s.size) (h : occ s what k = true) (hn : ∀ j, p ≤ j → j < k → occ s what j = false) : fnN s what p = k := by
  have hi : Lib.index (s.data.toList.drop p) what.data.toList = ((k - p : Nat) : Int) := by
    refine Lib.index_first (by simp; omega) ?_ ?_
    · rw [occAt_drop, show p + (k - p) = k by omega]; exact h
    · intro j hj; rw [occAt_drop]; exact hn _ (by omega) (by omega)
  unfold fnN; rw [hi]; simp only []; rw [if_neg (by omega)]; omega
theorem fnN_none {s what : ByteArray} {p : Nat} (hn : ∀ j, p ≤ j → j ≤ s.size → occ s what j = false) (hp : p ≤ s.size) : fnN s what p = -1 := by
  have hi : Lib.index (s.data.toList.drop p) what.data.toList = -1 := by
    refine Lib.index_none ?_
    intro j hj; rw [occAt_drop]; simp at hj; exact hn _ (by omega) (by omega)
  unfold fnN; rw [hi]; rfl
theorem occ_room {s what : ByteArray} {k : Nat} (h : what.data.toList ≠ []) (hk : s.size < k + what.size) : occ s what k = false := by
  cases ho : occ s what k
  · rfl
  · rcases Lib.occAt_room ho with h1 | h1
    · simp at h1; omega
    · exact absurd h1 h
theorem index_le : ∀ (s sub : List UInt8), Lib.index s sub ≤ s.length
  | [], sub => by unfold Lib.index; split <;> decide
  | b :: l, sub => by
    have := index_le l sub
    unfold Lib.index
    split
    · simp; omega
    · split
      · simp; omega
      · simp; omega
theorem what_ne {what : ByteArray} (h : what.toList.isEmpty = false) : what.data.toList ≠ [] ∧ ¬ what.toList = [] ∧ 0 < what.size := by
  have h1 : ¬ what.toList = [] := by intro e; rw [e] at h; cases h
  have h2 : what.data.toList ≠ [] := by rw [← Lib.toList_data]; exact h1
  refine ⟨h2, h1, ?_⟩
  rcases Nat.eq_zero_or_pos what.size with h | h
  · exfalso; apply h2; apply List.eq_nil_of_length_eq_zero; simpa using h
  · exact h
theorem what_eq {what : ByteArray} (h : what.toList.isEmpty = true) : what.toList = [] := by simpa using h
theorem fnOkS {s what : ByteArray} {p : Int} (h : fnOk s what p = true) : place s p = true ∧ what.toList.isEmpty = false := by
  simpa [fnOk] using h
theorem fnOkF {s what : ByteArray} {p : Int} (h : ¬ fnOk s what p = true) : place s p = false ∨ (place s p = true ∧ what.toList.isEmpty = true) := by
  unfold fnOk at h
  cases hp : place s p
  · exact .inl rfl
  · rw [hp] at h; exact .inr ⟨rfl, by simpa using h⟩
theorem extract_eq (s what : ByteArray) (k : Nat) (h : k + what.size ≤ s.size) : ((s.extract k (k + what.size)).toList == what.toList) = occ s what k := by
  unfold occ
  rw [Lib.occAt_iff_take _ _ _ (by simpa using h), Lib.toList_data, Lib.toList_data, Lib.extract_data, Nat.add_sub_cancel_left]
  simp

end Go.Proofs.YtlnldnenkajcdaaDoor
