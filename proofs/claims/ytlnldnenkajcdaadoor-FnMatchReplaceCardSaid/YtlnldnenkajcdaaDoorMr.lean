/- Replaced matches, in plain words. -/
import Derived.Test.YtlnldnenkajcdaaDoorMn
import Derived.Lib.Replace
set_option linter.unusedVariables false
set_option linter.unusedSimpArgs false
namespace Go.Proofs.YtlnldnenkajcdaaDoor
open Go.RowKit
/-- A text in which every & stands for x. -/
def repL (w x : List UInt8) : List UInt8 := w.flatMap fun b => if b = 38 then x else [b]
theorem repL_snoc (w x : List UInt8) (b : UInt8) : repL (w ++ [b]) x = repL w x ++ (if b = 38 then x else [b]) := by simp [repL]
theorem repL_cons (w x : List UInt8) (b : UInt8) : repL (b :: w) x = (if b = 38 then x else [b]) ++ repL w x := by simp [repL]
theorem repL_len (x : List UInt8) : ∀ w : List UInt8, (repL w x).length ≤ w.length * (x.length + 1)
  | [] => by simp [repL]
  | b :: w => by
    have := repL_len x w
    rw [repL_cons, List.length_append, List.length_cons, Nat.succ_mul]
    split
    · omega
    · simp only [List.length_cons, List.length_nil]; omega
theorem repL_self : ∀ w : List UInt8, repL w [38] = w
  | [] => rfl
  | b :: w => by
    rw [repL_cons, repL_self w]
    split
    · rename_i h; rw [h]; rfl
    · rfl
theorem index_cons_ne (b c : UInt8) (l : List UInt8) (h : b ≠ c) : Lib.index (b :: l) [c] = if Lib.index l [c] == -1 then -1 else Lib.index l [c] + 1 := by
  have hp : ([c] : List UInt8).isPrefixOf (b :: l) = false := by simp [List.isPrefixOf, Ne.symm h]
  rw [Lib.index, hp]; simp
theorem index_cons_eq (c : UInt8) (l : List UInt8) : Lib.index (c :: l) [c] = ((0 : Nat) : Int) := by rw [Lib.index]; simp [List.isPrefixOf]
theorem replaceK_rep (x : List UInt8) : ∀ l : List UInt8, Lib.replaceK [38] x (Lib.count l [38]) l = repL l x
  | [] => by
    have : Lib.count [] [(38 : UInt8)] = 0 := Lib.count_miss (by simp [Lib.index])
    rw [this]; rfl
  | b :: l => by
    have ih := replaceK_rep x l
    by_cases h : b = 38
    · subst h
      rw [Lib.count_cons_eq, Nat.add_comm, Lib.replaceK_hit [38] x _ _ 0 (index_cons_eq 38 l), repL_cons, if_pos rfl]
      simp [ih]
    · rw [Lib.count_cons_ne b 38 l h, repL_cons, if_neg h]
      cases hc : Lib.count l [38] with
      | zero =>
        rw [hc] at ih
        rw [← ih]; rfl
      | succ k =>
        rw [hc] at ih
        obtain ⟨j, hj⟩ := Lib.index_of_count (s := l) (old := [38]) (by omega)
        have hix : Lib.index (b :: l) [38] = ((j + 1 : Nat) : Int) := by
          rw [index_cons_ne b 38 l h, hj, if_neg (by simp)]; omega
        rw [Lib.replaceK_hit [38] x k _ _ hj] at ih
        rw [Lib.replaceK_hit [38] x k _ _ hix, ← ih]
        simp
theorem replaceAll_rep (l x : List UInt8) : Lib.replaceAll l [38] x = repL l x := by
  unfold Lib.replaceAll Lib.replace
  split
  · rename_i h
    have : ([38] : List UInt8) = x := by simpa using h
    rw [← this, repL_self]
  · unfold Lib.replaceNum
    rw [if_pos (.inl (by omega))]
    exact replaceK_rep x l
/-- What is put together from the matches on. -/
def mrGo (s w : List UInt8) : List (Int × Int) → Nat → List UInt8
  | [], a => s.drop a
  | m :: l, a => (s.drop a).take (m.1.toNat - a) ++ repL w ((s.drop m.1.toNat).take (m.2.toNat - m.1.toNat)) ++ mrGo s w l m.2.toNat
def mrL (p s w : ByteArray) : List UInt8 := mrGo s.data.toList w.data.toList (maL p s) 0
def mrOk (p s : ByteArray) : Bool := patV p && valid s.data.toList
def mrB (p s w : ByteArray) : Bool := mrOk p s && decide (w.size ≤ 120) && valid (mrL p s w)
def mrS (p s w : ByteArray) : ByteArray := if mrOk p s = true then (if (decide (w.size ≤ 120) && valid (mrL p s w)) = true then ⟨(mrL p s w).toArray⟩ else s) else ⟨#[]⟩
/-- What holds at the head of the loop: k matches are replaced, o is put together, a is where the rest begins. -/
def MrInv (p s w : ByteArray) (k : Nat) (o : List UInt8) (a : Nat) : Prop :=
  a ≤ s.size ∧ (∃ (a' : Int) (f : Nat), MaInv p s ((maL p s).take k) a' f ∧ (a : Int) ≤ a') ∧ o ++ mrGo s.data.toList w.data.toList ((maL p s).drop k) a = mrL p s w ∧ o.length ≤ k * 20000
theorem MrInv.start (p s w : ByteArray) : MrInv p s w 0 [] 0 :=
  ⟨Nat.zero_le _, ⟨0, s.size + 2, by simpa using MaInv.start p s, by omega⟩, by simp [mrL], by simp⟩
theorem MrInv.step {p s w : ByteArray} {k : Nat} {o : List UInt8} {a : Nat} (h : MrInv p s w k o a) (hk : k < (maL p s).length) (hw : w.size ≤ 120) :
    ∃ x y : Nat, (maL p s)[k] = ((x : Int), (y : Int)) ∧ a ≤ x ∧ x ≤ y ∧ y ≤ s.size ∧ s.size ≤ 120 ∧ MrInv p s w (k + 1) (o ++ ((s.data.toList.drop a).take (x - a) ++ repL w.data.toList ((s.data.toList.drop x).take (y - x)))) y := by
  obtain ⟨h1, ⟨a', f, hm, ha⟩, h3, h4⟩ := h
  obtain ⟨ho, he, hm'⟩ := hm.at_ hk
  obtain ⟨g1, g2, g3, g4, g5, _⟩ := mn_ok ho
  obtain ⟨x, hx⟩ := Int.eq_ofNat_of_zero_le (show 0 ≤ mnFrom p s a' by omega)
  obtain ⟨y, hy⟩ := Int.eq_ofNat_of_zero_le (show 0 ≤ mnTo p s a' by omega)
  rw [hx, hy] at he
  refine ⟨x, y, he, by omega, by omega, by omega, g5, by omega, ⟨_, _, hm', by omega⟩, ?_, ?_⟩
  · rw [← h3, List.drop_eq_getElem_cons hk, he]
    simp [mrGo]
  · have hl : s.data.toList.length = s.size := by rw [Array.length_toList]; rfl
    have hwl : w.data.toList.length = w.size := by rw [Array.length_toList]; rfl
    have hr := repL_len ((s.data.toList.drop x).take (y - x)) w.data.toList
    have h5 : ((s.data.toList.drop x).take (y - x)).length ≤ 120 := by rw [List.length_take, List.length_drop]; omega
    have h6 : w.data.toList.length * (((s.data.toList.drop x).take (y - x)).length + 1) ≤ 120 * 121 := Nat.mul_le_mul (by omega) (by omega)
    have h7 : ((s.data.toList.drop a).take (x - a)).length ≤ 120 := by rw [List.length_take, List.length_drop]; omega
    rw [List.length_append, List.length_append, Nat.succ_mul]
    omega
theorem MrInv.done {p s w : ByteArray} {k : Nat} {o : List UInt8} {a : Nat} (h : MrInv p s w k o a) (hk : (maL p s).length ≤ k) : o ++ s.data.toList.drop a = mrL p s w := by
  have := h.2.2.1
  rw [List.drop_of_length_le hk] at this
  exact this
end Go.Proofs.YtlnldnenkajcdaaDoor
