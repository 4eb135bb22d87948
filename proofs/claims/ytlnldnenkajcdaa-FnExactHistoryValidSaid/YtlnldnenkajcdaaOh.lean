/- What a law is told of a history that came in. -/
import Derived.Test.YtlnldnenkajcdaaHq
import Derived.ProofKit
import Derived.OpenShut
import Derived.ShutString
import Derived.ChangeOld
import Derived.Deep.Slices
set_option linter.unusedVariables false
set_option linter.unusedSimpArgs false
namespace Go.Proofs.Ytlnldnenkajcdaa
open Go.ChangeShapes Go.WideShapes Go.ChangeAt Go.RowKit Go.Deep
/-- The moments of a history that came in. -/
def IsHist (w : World) (A : Option Addr) (n c : Nat) (k : Int) (ms : List Mom) : Prop :=
  ms.length = n ∧ n ≤ maxLen ∧ (Lit.int .i64 k).wf = true ∧ (∀ m ∈ ms, m.x.size ≤ maxLen ∧ m.y.size ≤ maxLen) ∧ Row w w.heap.size A (moms ms)
section
variable {H : Type} {enc : TypeId × Value → H} {P : Program} {w : World}
theorem open_change {t i st : TypeId} {f0 f1 f2 : Field} {fuel : Nat} {cs : List Value} {x : DataW H × List MemPlace} (ht : P.underlying t = some (.struct #[f0, f1, f2])) (hi : P.underlying i = some (.int .i64)) (hs : P.underlying st = some .string)
    (ct : P.cellsOf t = 3) (ci : P.cellsOf i = 1) (cs1 : P.cellsOf st = 1) (o0 : f0.offset = 0) (o1 : f1.offset = 1) (o2 : f2.offset = 2) (t0 : f0.type = i) (t1 : f1.type = i) (t2 : f2.type = st)
    {spare : Nat → Bool} (h : DataW.trod enc P w 0 spare true fuel t cs = some x) : ∃ (a b : Int) (y : ByteArray), cs = [.int .i64 a, .int .i64 b, .string y] ∧ y.size ≤ maxLen := by
  obtain ⟨xs, k, _, _, hl, hxl, hf⟩ := DataW.trod_struct ht h
  rw [ct] at hl
  match xs, hxl, cs, hl with
  | [y0, y1, y2], _, [v0, v1, v2], _ =>
    have g0 := hf 0 f0 rfl
    have g1 := hf 1 f1 rfl
    have g2 := hf 2 f2 rfl
    simp [o0, o1, o2, t0, t1, t2, ci, cs1] at g0 g1 g2
    obtain ⟨a, e0, _, _⟩ := DataW.trod_int hi g0
    obtain ⟨b, e1, _, _⟩ := DataW.trod_int hi g1
    obtain ⟨y, e2, _, hy⟩ := DataW.trod_string hs g2
    simp at e0 e1 e2
    exact ⟨a, b, y, by rw [e0, e1, e2], hy⟩
theorem open_moment {e t i st : TypeId} {m0 m1 m2 f0 f1 f2 : Field} {fuel : Nat} {cs : List Value} {x : DataW H × List MemPlace} (he : P.underlying e = some (.struct #[m0, m1, m2])) (ht : P.underlying t = some (.struct #[f0, f1, f2])) (hi : P.underlying i = some (.int .i64)) (hs : P.underlying st = some .string)
    (ce : P.cellsOf e = 7) (ct : P.cellsOf t = 3) (ci : P.cellsOf i = 1) (cs1 : P.cellsOf st = 1) (p0 : m0.offset = 0) (p1 : m1.offset = 1) (p2 : m2.offset = 4) (q0 : m0.type = i) (q1 : m1.type = t) (q2 : m2.type = t)
    (o0 : f0.offset = 0) (o1 : f1.offset = 1) (o2 : f2.offset = 2) (t0 : f0.type = i) (t1 : f1.type = i) (t2 : f2.type = st)
    {spare : Nat → Bool} (h : DataW.trod enc P w 0 spare true fuel e cs = some x) : ∃ m : Mom, cs = m.cells ∧ m.x.size ≤ maxLen ∧ m.y.size ≤ maxLen := by
  obtain ⟨xs, k, _, _, hl, hxl, hf⟩ := DataW.trod_struct he h
  rw [ce] at hl
  match xs, hxl, cs, hl with
  | [y0, y1, y2], _, [v0, v1, v2, v3, v4, v5, v6], _ =>
    have g0 := hf 0 m0 rfl
    have g1 := hf 1 m1 rfl
    have g2 := hf 2 m2 rfl
    simp [p0, p1, p2, q0, q1, q2, ci, ct] at g0 g1 g2
    obtain ⟨p, e0, _, _⟩ := DataW.trod_int hi g0
    obtain ⟨a, b, y, e1, hy⟩ := open_change ht hi hs ct ci cs1 o0 o1 o2 t0 t1 t2 g1
    obtain ⟨c, d, z, e2, hz⟩ := open_change ht hi hs ct ci cs1 o0 o1 o2 t0 t1 t2 g2
    simp at e0 e1 e2
    refine ⟨⟨p, a, b, y, c, d, z⟩, ?_, hy, hz⟩
    obtain ⟨e3, e4, e5⟩ := e1
    obtain ⟨e6, e7, e8⟩ := e2
    rw [e0, e3, e4, e5, e6, e7, e8]; rfl
theorem moms_at (ms : List Mom) : ∀ (j : Nat) (u : Value), (moms ms)[j]? = some u → ∃ (i r : Nat) (hi : i < ms.length), r < 7 ∧ j = i * 7 + r ∧ ms[i].cells[r]? = some u := by
  intro j u h
  have hl : j < (moms ms).length := (List.getElem?_eq_some_iff.1 h).1
  rw [moms_len] at hl
  have hi : j / 7 < ms.length := by omega
  refine ⟨j / 7, j % 7, hi, Nat.mod_lt _ (by decide), by omega, ?_⟩
  rw [← moms_get ms (j / 7) hi (j % 7) (Nat.mod_lt _ (by decide)), show j / 7 * 7 + j % 7 = j by omega]
  exact h
theorem open_moms {t e tc i st : TypeId} {m0 m1 m2 f0 f1 f2 : Field} {fuel : Nat} {cs : List Value} {x : DataW H × List MemPlace} (hst : P.underlying t = some (.slice e)) (he : P.underlying e = some (.struct #[m0, m1, m2])) (ht : P.underlying tc = some (.struct #[f0, f1, f2])) (hi : P.underlying i = some (.int .i64)) (hs : P.underlying st = some .string)
    (ce : P.cellsOf e = 7) (ct : P.cellsOf tc = 3) (ci : P.cellsOf i = 1) (cs1 : P.cellsOf st = 1) (p0 : m0.offset = 0) (p1 : m1.offset = 1) (p2 : m2.offset = 4) (q0 : m0.type = i) (q1 : m1.type = tc) (q2 : m2.type = tc)
    (o0 : f0.offset = 0) (o1 : f1.offset = 1) (o2 : f2.offset = 2) (t0 : f0.type = i) (t1 : f1.type = i) (t2 : f2.type = st)
    (h : DataW.trod enc P w 0 (fun _ => true) true fuel t cs = some x) : ∃ A n c ms, cs = [.slice A n c] ∧ ms.length = n ∧ n ≤ maxLen ∧ (∀ m ∈ ms, m.x.size ≤ maxLen ∧ m.y.size ≤ maxLen) ∧ Row w w.heap.size A (moms ms) := by
  rcases open_slice hst h with ⟨rfl, _⟩ | ⟨a, len, cap, m, k, D, Pl, rfl, _, hl, hm, hmm, _, hx⟩
  · exact ⟨none, 0, 0, [], rfl, rfl, Nat.zero_le _, fun m hm => by simp at hm, Row.empty⟩
  · have hmc : m = cap := by simpa using hmm
    subst hmc
    have each : ∀ j, j < m → ∃ q : Mom, (∀ r, r < 7 → w.cell? (a.add (j * 7 + r)) = q.cells[r]?) ∧ q.x.size ≤ maxLen ∧ q.y.size ≤ maxLen := by
      intro j hj
      obtain ⟨cs', h1, h2⟩ := hx j hj
      rw [ce] at h1
      obtain ⟨_, hlen, hcell⟩ := World.cells?_some h1
      obtain ⟨q, rfl, g1, g2⟩ := open_moment he ht hi hs ce ct ci cs1 p0 p1 p2 q0 q1 q2 o0 o1 o2 t0 t1 t2 h2
      refine ⟨q, fun r hr => ?_, g1, g2⟩
      have := hcell r hr
      rw [add_add] at this
      exact this
    haveI : Inhabited Mom := ⟨⟨0, 0, 0, ⟨#[]⟩, 0, 0, ⟨#[]⟩⟩⟩
    obtain ⟨q, hq⟩ := choose_lt each
    refine ⟨some a, len, m, (List.range len).map q, rfl, by simp, by omega, fun z hz => ?_, ?_⟩
    · obtain ⟨j, hj, rfl⟩ := List.mem_map.1 hz
      have := List.mem_range.1 hj
      exact (hq j (by omega)).2
    · intro j u hj
      obtain ⟨i', r, hi', hr, rfl, hu⟩ := moms_at _ j u hj
      have hin : i' < len := by simpa using hi'
      have hc := (hq i' (by omega)).1 r hr
      have h00 := (hq 0 (by omega)).1 0 (by omega)
      obtain ⟨b, off, spot⟩ := a
      have hspot : spot = none := by simpa [Addr.add] using World.cell?_spot (h00.trans (show _ = some (Value.int .i64 (q 0).p) from rfl))
      subst hspot
      have hu2 : (q i').cells[r]? = some u := by simpa using hu
      have h4 : w.cell? ⟨b, off + (i' * 7 + r), none⟩ = some u := by rw [← hu2, ← hc, ← Go.WideShapes.add_plain]
      exact ⟨b, off, rfl, World.block_lt_of_cell? w _ h4, h4⟩
theorem open_hist {th t e tc i st : TypeId} {h0 h1 m0 m1 m2 f0 f1 f2 : Field} (hh : P.underlying th = some (.struct #[h0, h1])) (hst : P.underlying t = some (.slice e)) (he : P.underlying e = some (.struct #[m0, m1, m2])) (ht : P.underlying tc = some (.struct #[f0, f1, f2])) (hi : P.underlying i = some (.int .i64)) (hs : P.underlying st = some .string)
    (ch : P.cellsOf th = 2) (csl : P.cellsOf t = 1) (ce : P.cellsOf e = 7) (ct : P.cellsOf tc = 3) (ci : P.cellsOf i = 1) (cs1 : P.cellsOf st = 1) (k0 : h0.offset = 0) (k1 : h1.offset = 1) (l0 : h0.type = t) (l1 : h1.type = i)
    (p0 : m0.offset = 0) (p1 : m1.offset = 1) (p2 : m2.offset = 4) (q0 : m0.type = i) (q1 : m1.type = tc) (q2 : m2.type = tc)
    (o0 : f0.offset = 0) (o1 : f1.offset = 1) (o2 : f2.offset = 2) (t0 : f0.type = i) (t1 : f1.type = i) (t2 : f2.type = st)
    {cs : Array Value} {d : DataW H} {p : List MemPlace} (h : DataW.Trod enc P w 0 (fun _ => true) true th (.agg cs) d p) : ∃ A n c k ms, cs = #[.slice A n c, .int .i64 k] ∧ IsHist w A n c k ms := by
  obtain ⟨fuel, hf⟩ := h
  obtain ⟨xs, k, _, _, hl, hxl, hg⟩ := DataW.trod_struct hh hf
  rw [ch] at hl
  obtain ⟨cs⟩ := cs
  have hl' : cs.length = 2 := by simpa [Value.cells] using hl
  match xs, hxl, cs, hl' with
  | [y0, y1], _, [v0, v1], _ =>
    have g0 := hg 0 h0 rfl
    have g1 := hg 1 h1 rfl
    simp [Value.cells, k0, k1, l0, l1, csl, ci] at g0 g1
    obtain ⟨A, n, c, ms, e0, r1, r2, r3, r4⟩ := open_moms hst he ht hi hs ce ct ci cs1 p0 p1 p2 q0 q1 q2 o0 o1 o2 t0 t1 t2 g0
    obtain ⟨b, e1, _, wb⟩ := DataW.trod_int hi g1
    simp at e0 e1
    exact ⟨A, n, c, b, ms, by rw [e0, e1], r1, r2, wb, r3, r4⟩
end
end Go.Proofs.Ytlnldnenkajcdaa
