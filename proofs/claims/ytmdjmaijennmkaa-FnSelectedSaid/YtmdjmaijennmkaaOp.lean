/- What a law is told of a slice of cursors that came in. -/
import Derived.Test.YtmdjmaijennmkaaPc
import Derived.ProofKit
import Derived.OpenShut
import Derived.ShutString
import Derived.ChangeOld
import Derived.Deep.SlicePairs
set_option linter.unusedVariables false
set_option linter.unusedSimpArgs false
namespace Go.Proofs.Ytmdjmaijennmkaa
open Go.ChangeShapes Go.WideShapes Go.ChangeAt Go.RowKit Go.Deep
/-- The cursors of a slice that came in. -/
def IsPairs (w : World) (A : Option Addr) (n c : Nat) (zs : List (Int × Int)) : Prop := zs.length = n ∧ n ≤ maxLen ∧ (∀ z ∈ zs, (Lit.int .i64 z.1).wf = true ∧ (Lit.int .i64 z.2).wf = true) ∧ Row w w.heap.size A (pairs zs)
theorem pairs_at (xs : List (Int × Int)) : ∀ (j : Nat) (u : Value), (pairs xs)[j]? = some u → ∃ i, i < xs.length ∧ ((j = i * 2 ∧ xs[i]?.map (fun x => Value.int .i64 x.1) = some u) ∨ (j = i * 2 + 1 ∧ xs[i]?.map (fun x => Value.int .i64 x.2) = some u)) := by
  intro j u h
  have hl : j < (pairs xs).length := (List.getElem?_eq_some_iff.1 h).1
  rw [pairs_len] at hl
  have hi : j / 2 < xs.length := by omega
  obtain ⟨g1, g2⟩ := pairs_get xs (j / 2) hi
  refine ⟨j / 2, hi, ?_⟩
  rcases Nat.mod_two_eq_zero_or_one j with hm | hm
  · have e : j = j / 2 * 2 := by omega
    rw [← e, h] at g1
    exact .inl ⟨e, by rw [List.getElem?_eq_getElem hi]; simpa using g1.symm⟩
  · have e : j = j / 2 * 2 + 1 := by omega
    rw [← e, h] at g2
    exact .inr ⟨e, by rw [List.getElem?_eq_getElem hi]; simpa using g2.symm⟩
theorem open_pairs {H : Type} {enc : TypeId × Value → H} {P : Program} {w : World} {t e i : TypeId} {f0 f1 : Field} (ht : P.underlying t = some (.slice e)) (he : P.underlying e = some (.struct #[f0, f1])) (hi : P.underlying i = some (.int .i64))
    (ce : P.cellsOf e = 2) (o0 : f0.offset = 0) (o1 : f1.offset = 1) (t0 : f0.type = i) (t1 : f1.type = i) (ci : P.cellsOf i = 1)
    {a : Option Addr} {n c : Nat} {d : DataW H} {p : List MemPlace} (h : DataW.Trod enc P w 0 (fun _ => true) true t (.slice a n c) d p) : ∃ zs, IsPairs w a n c zs := by
  obtain ⟨fuel, hf⟩ := h
  rcases open_slice_pairs ht he ce o0 o1 (by rw [t0]; exact ci) (by rw [t1]; exact ci) hf with ⟨hcs, _⟩ | ⟨x, l, c', m, k, V0, V1, D0, D1, P0, P1, hcs, _, hl, hm, hmm, _, hx⟩
  · simp [Value.cells] at hcs
    obtain ⟨rfl, rfl, rfl⟩ := hcs
    exact ⟨[], rfl, Nat.zero_le _, fun z hz => by simp at hz, Row.empty⟩
  · simp [Value.cells] at hcs
    obtain ⟨rfl, rfl, rfl⟩ := hcs
    have hmc : m = c := by simpa using hmm
    subst hmc
    have each : ∀ j, j < m → ∃ q : Int × Int, w.cell? (x.add (j * 2)) = some (.int .i64 q.1) ∧ w.cell? (x.add (j * 2 + 1)) = some (.int .i64 q.2) ∧ (Lit.int .i64 q.1).wf = true ∧ (Lit.int .i64 q.2).wf = true := by
      intro j hj
      obtain ⟨g0, g1, g2, g3⟩ := hx j hj
      rw [t0] at g2; rw [t1] at g3
      obtain ⟨q0, e0, _, w0⟩ := DataW.trod_int hi g2
      obtain ⟨q1, e1, _, w1⟩ := DataW.trod_int hi g3
      simp at e0 e1
      rw [e0] at g0; rw [e1] at g1
      exact ⟨(q0, q1), g0, g1, w0, w1⟩
    obtain ⟨q, hq⟩ := choose_lt each
    refine ⟨(List.range n).map q, by simp, by omega, fun z hz => ?_, ?_⟩
    · obtain ⟨j, hj, rfl⟩ := List.mem_map.1 hz
      have := List.mem_range.1 hj
      obtain ⟨_, _, h3, h4⟩ := hq j (by omega)
      exact ⟨h3, h4⟩
    · intro j u hj
      obtain ⟨i', hi', hu⟩ := pairs_at _ j u hj
      have hin : i' < n := by simpa using hi'
      obtain ⟨g0, g1, _, _⟩ := hq i' (by omega)
      obtain ⟨b, off, spot⟩ := x
      have h00 := (hq 0 (by omega)).1
      have hspot : spot = none := by simpa [Addr.add] using World.cell?_spot h00
      clear h00
      subst hspot
      rcases hu with ⟨rfl, hu⟩ | ⟨rfl, hu⟩
      · simp [hin] at hu
        have h4 : w.cell? ⟨b, off + i' * 2, none⟩ = some u := by rw [← hu, ← Go.WideShapes.add_plain]; exact g0
        exact ⟨b, off, rfl, World.block_lt_of_cell? w _ h4, h4⟩
      · simp [hin] at hu
        have h4 : w.cell? ⟨b, off + (i' * 2 + 1), none⟩ = some u := by rw [← hu, ← Go.WideShapes.add_plain]; exact g1
        exact ⟨b, off, rfl, World.block_lt_of_cell? w _ h4, h4⟩
end Go.Proofs.Ytmdjmaijennmkaa
