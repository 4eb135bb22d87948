/- Slices of pairs of numbers: words, and the laws' helpers eqSpan, eqSpanS, markSpanS, heldSpanS. -/
import Derived.Test.YtlnldnenkajcdaaDoorMe
import Derived.Deep.RegionHeld3
import Derived.Deep.AppendLies
set_option linter.unusedVariables false
set_option linter.unusedSimpArgs false
namespace Go.Proofs.YtlnldnenkajcdaaDoor
open Go.RowKit

def pairs (xs : List (Int × Int)) : List Value := xs.flatMap fun x => [.int .i64 x.1, .int .i64 x.2]
theorem pairs_len (xs : List (Int × Int)) : (pairs xs).length = xs.length * 2 := by
  induction xs with
  | nil => rfl
  | cons x xs ih => simp only [pairs, List.flatMap_cons, List.length_append, List.length_cons, List.length_nil] at ih ⊢; omega
theorem pairs_snoc (xs : List (Int × Int)) (a b : Int) : pairs (xs ++ [(a, b)]) = pairs xs ++ [.int .i64 a, .int .i64 b] := by simp [pairs]
theorem pairs_cons (x : Int × Int) (xs : List (Int × Int)) : pairs (x :: xs) = .int .i64 x.1 :: .int .i64 x.2 :: pairs xs := by simp [pairs]
theorem pairs_get : ∀ (xs : List (Int × Int)) (j : Nat) (h : j < xs.length), (pairs xs)[j * 2]? = some (.int .i64 xs[j].1) ∧ (pairs xs)[j * 2 + 1]? = some (.int .i64 xs[j].2)
  | [], j, h => by simp at h
  | x :: xs, 0, _ => by simp [pairs_cons]
  | x :: xs, j + 1, h => by
    have := pairs_get xs j (by simpa using h)
    rw [pairs_cons, show (j + 1) * 2 = j * 2 + 1 + 1 by omega, show j * 2 + 1 + 1 + 1 = (j * 2 + 1) + 1 + 1 by omega]
    simpa only [List.getElem?_cons_succ, List.getElem_cons_succ] using this
theorem pairs_set (xs : List (Int × Int)) (j : Nat) (a b : Int) (h : j < xs.length) : ((pairs xs).set (j * 2) (.int .i64 a)).set (j * 2 + 1) (.int .i64 b) = pairs (xs.set j (a, b)) := by
  induction xs generalizing j with
  | nil => simp at h
  | cons x xs ih =>
    cases j with
    | zero => simp [pairs_cons]
    | succ j =>
      rw [pairs_cons, List.set_cons_succ, pairs_cons, ← ih j (by simpa using h), show (j + 1) * 2 = j * 2 + 1 + 1 by omega, show j * 2 + 1 + 1 + 1 = (j * 2 + 1) + 1 + 1 by omega]
      simp only [List.set_cons_succ]
section
variable {w w' : World} {B base n c : Nat} {e : TypeId} {A : Option Addr} {v : Value} {size : Nat} {xs : List Value} {ps : List (Int × Int)}
theorem Row.of_own2 (h : w.ownsRow base e 2 (.slice A n c) n xs) : Row w w.heap.size A xs := by
  intro j u hj
  have hl : j < xs.length := (List.getElem?_eq_some_iff.1 hj).1
  have hn : 0 < n := by have := h.1; omega
  obtain ⟨g, cap, hv, _, hlt⟩ := h.form hn
  have hA : A = some ⟨g, 0, none⟩ := by injection hv
  subst hA
  have hc := h.cells (g := g) rfl j u hj
  refine ⟨g, 0, rfl, hlt, ?_⟩
  by_cases h0 : j = 0
  · subst h0; simpa [Addr.add] using hc
  · simpa [Addr.add, h0] using hc
theorem own_below (h : w.ownsRow base e size v n xs) (hb : Below w.heap.size w w') : w'.ownsRow base e size v n xs :=
  h.kept (row := none) ⟨hb.os, hb.tape, hb.output, hb.size, fun i hi _ => hb.block i hi⟩ (by cases v.ownBlock <;> simp)
theorem Row.pair (h : Row w B A (pairs ps)) {j : Nat} (hj : j < ps.length) : ∃ b o, A = some ⟨b, o, none⟩ ∧ b < B ∧ w.cell? ⟨b, o + j * 2, none⟩ = some (.int .i64 ps[j].1) ∧ w.cell? ⟨b, o + j * 2 + 1, none⟩ = some (.int .i64 ps[j].2) := by
  obtain ⟨g1, g2⟩ := pairs_get ps j hj
  obtain ⟨b, o, rfl, hb, hc⟩ := h _ _ g1
  obtain ⟨b', o', e, _, hc'⟩ := h _ _ g2
  injection e with e
  injection e with e1 e2
  subst e1 e2
  exact ⟨b, o, rfl, hb, hc, by rw [Nat.add_assoc]; exact hc'⟩
end
theorem bcell {W w1 : World} (hb : Below W.heap.size W w1) : (∀ b o, b < W.heap.size → w1.cell? ⟨b, o, none⟩ = W.cell? ⟨b, o, none⟩) ∧ (∀ b o, b < W.heap.size → w1.frozen? ⟨b, o, none⟩ = W.frozen? ⟨b, o, none⟩) :=
  ⟨fun b o h => hb.cell (p := ⟨b, o, none⟩) h, fun b o h => hb.frozen (p := ⟨b, o, none⟩) h⟩
theorem own_form2 {w : World} {base e size n : Nat} {v : Value} {xs : List Value} (h : w.ownsRow base e size v n xs) : ∃ A c, v = .slice A n c := by
  rcases h.2 with ⟨h1, h2⟩ | ⟨g, cap, cur, h1, _⟩
  · exact ⟨none, 0, by rw [h1, h2]⟩
  · exact ⟨_, cap, h1⟩
theorem heap_alloc2 (W : World) (cs : Array Value) (T : TypeId) (o : Obj) : ((W.alloc (.cells cs T)).alloc o).heap[W.heap.size]? = some (.cells cs T (0, 0)) :=
  (Below.heap_alloc (W.alloc (.cells cs T)) o W.heap.size (by simp)).trans (heap_alloc_new W _)
/-- The variable that was made ahead of an append is as it was. -/
theorem app_keep {W w1 : World} {cs : Array Value} {T : TypeId} {o : Obj} {row : Option Nat} (hg : ((W.alloc (.cells cs T)).alloc o).grownBy w1 row) (hr : ∀ k, row = some k → k < W.heap.size) : ∀ i, w1.cell? ⟨W.heap.size, i, none⟩ = cs[i]? := fun i => by
  have hne : some W.heap.size ≠ row := by
    intro h
    have := hr _ h.symm
    omega
  rw [hg.cell_far ⟨W.heap.size, i, none⟩ (by simp; omega) hne]
  exact cell_of_row _ _ i cs T (0, 0) (heap_alloc2 W cs T o)
theorem news2 (W : World) (T : TypeId) (a b : Value) : ∀ (j : Nat) (u : Value), [a, b][j]? = some u → (W.alloc (.cells #[a, b] T)).cell? ((⟨W.heap.size, 0, none⟩ : Addr).add j) = some u := by
  intro j u hj
  match j, hj with
  | 0, hj => simp at hj; subst hj; simp [Addr.add]
  | 1, hj => simp at hj; subst hj; simp [Addr.add]
theorem ones2 (a b : Int) : ∀ u ∈ [Value.int .i64 a, Value.int .i64 b], u.oneCell' = true := by
  intro u hu; simp at hu; rcases hu with rfl | rfl <;> rfl
/-- A new slice of pairs is returned; nothing that was there has turned. -/
def PairsPost (xs : List (Int × Int)) (w : World) (e : Ending) (w' : World) : Prop :=
  ∃ (A : Option Addr) (c : Nat), e = .returned (.slice A xs.length c) ∧ w'.ownsRow w.heap.size 39 2 (.slice A xs.length c) xs.length (pairs xs) ∧ Below w.heap.size w w'
theorem infoPair : (Tryd.prog.info? 39).map (fun i => (i.zero, i.size, i.bytes)) = some (some (.agg #[.int .i64 0, .int .i64 0]), 2, 16) := by kernel_rfl

/-- The n pairs of numbers from k on. -/
def iota2 (k : Int) : Nat → List (Int × Int)
  | 0 => []
  | n + 1 => (k, k + 1) :: iota2 (k + 2) n
theorem iota2_len (k : Int) : ∀ n, (iota2 k n).length = n
  | 0 => rfl
  | n + 1 => by simp [iota2, iota2_len (k + 2) n]
theorem iota2_get (k : Int) : ∀ (n j : Nat), j < n → (iota2 k n)[j]? = some (k + 2 * j, k + 2 * j + 1)
  | 0, j, h => absurd h (by omega)
  | n + 1, 0, _ => by simp [iota2]
  | n + 1, j + 1, h => by
    simp only [iota2, List.getElem?_cons_succ]
    rw [iota2_get (k + 2) n j (by omega)]
    congr 1
    rw [Prod.mk.injEq]
    omega
theorem two_stores {w : World} {B E n c g : Nat} {ys : List (Int × Int)} (h : w.ownsRow B E 2 (.slice (some ⟨g, 0, none⟩) n c) n (pairs ys)) {k : Nat} (hk : k < ys.length) (a b : Int) :
    ((w.setCell ⟨g, k * 2, none⟩ (.int .i64 a)).setCell ⟨g, k * 2 + 1, none⟩ (.int .i64 b)).ownsRow B E 2 (.slice (some ⟨g, 0, none⟩) n c) n (pairs (ys.set k (a, b))) := by
  have h1 := (h.stored (k * 2) (.int .i64 a)).1
  have h2 := (h1.stored (k * 2 + 1) (.int .i64 b)).1
  rw [pairs_set ys k a b hk] at h2
  exact h2
end Go.Proofs.YtlnldnenkajcdaaDoor
