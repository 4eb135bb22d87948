/- Words for memory: a slice that reads as cells; what is kept below a block, or beside one block. -/
import Derived.Test.YtlnldnenkajcdaaWa
import Derived.Deep.Draws
import Derived.Laws.OwnMore
import Derived.Deep.AppendLies
set_option linter.unusedVariables false
set_option linter.unusedSimpArgs false
namespace Go.Proofs.Ytlnldnenkajcdaa
open Go.RowKit

/-- The slice that begins at A reads, in w, as the cells xs, and lies below block B. -/
def Row (w : World) (B : Nat) (A : Option Addr) (xs : List Value) : Prop :=
  ∀ j u, xs[j]? = some u → ∃ b o, A = some ⟨b, o, none⟩ ∧ b < B ∧ w.cell? ⟨b, o + j, none⟩ = some u

section
variable {w w' : World} {B B' : Nat} {A : Option Addr} {xs : List Value} {zs : List Int} {k : IntKind}
theorem Row.empty : Row w B A [] := fun j u h => by simp at h
theorem Row.at_ (h : Row w B A xs) {j : Nat} (hj : j < xs.length) : ∃ b o, A = some ⟨b, o, none⟩ ∧ b < B ∧ w.cell? ⟨b, o + j, none⟩ = some xs[j] :=
  h j _ (List.getElem?_eq_getElem hj)
theorem Row.addr (h : Row w B A xs) (hn : 0 < xs.length) : ∃ b o, A = some ⟨b, o, none⟩ ∧ b < B ∧ ∀ j u, xs[j]? = some u → w.cell? ⟨b, o + j, none⟩ = some u := by
  obtain ⟨b, o, rfl, hb, _⟩ := h.at_ hn
  refine ⟨b, o, rfl, hb, fun j u hu => ?_⟩
  obtain ⟨b', o', e, _, hc⟩ := h j u hu
  injection e with e
  injection e with e1 e2
  subst e1 e2
  exact hc
theorem Row.int (h : Row w B A (zs.map (Value.int k))) {b o : Nat} (hA : A = some ⟨b, o, none⟩) {j : Nat} (hj : j < zs.length) : w.cell? ⟨b, o + j, none⟩ = some (.int k zs[j]) := by
  obtain ⟨b', o', e, _, hc⟩ := h j (.int k zs[j]) (by simp [hj])
  rw [hA] at e
  injection e with e
  injection e with e1 e2
  subst e1 e2
  exact hc
theorem Row.keep (h : Row w B A xs) (hk : ∀ p : Addr, p.block < B → w'.cell? p = w.cell? p) : Row w' B A xs := fun j u hu =>
  let ⟨b, o, e, hb, hc⟩ := h j u hu
  ⟨b, o, e, hb, (hk _ hb).trans hc⟩
theorem Row.more (h : Row w B A xs) (hB : B ≤ B') : Row w B' A xs := fun j u hu =>
  let ⟨b, o, e, hb, hc⟩ := h j u hu
  ⟨b, o, e, Nat.lt_of_lt_of_le hb hB, hc⟩
theorem Row.below (h : Row w B A xs) (hb : Below B w w') : Row w' B A xs := h.keep fun _ hp => hb.cell hp
theorem Row.drewN (h : Row w B A xs) (n : Nat) : Row (w.drewN n) B A xs := h
theorem Row.alloc (h : Row w B A xs) (hB : B ≤ w.heap.size) (o : Obj) : Row (w.alloc o) B A xs := h.below ((Below.refl B w).alloc hB o)
theorem Row.setCell (h : Row w B A xs) {p : Addr} (hp : B ≤ p.block) (v : Value) : Row (w.setCell p v) B A xs := h.below ((Below.refl B w).setCell hp v)
theorem Row.grown (h : Row w B A xs) {row : Option Nat} (hg : w.grownBy w' row) (hB : B ≤ w.heap.size) (hr : ∀ g, row = some g → B ≤ g) : Row w' B A xs := h.below ((Below.refl B w).grown hg hB hr)
theorem Row.of_own {base e c : Nat} {n : Nat} (h : w.ownsRow base e 1 (.slice A n c) n xs) : Row w w.heap.size A xs := by
  intro j u hj
  have hl : j < xs.length := (List.getElem?_eq_some_iff.1 hj).1
  have hn : 0 < n := by have := h.1; omega
  obtain ⟨g, cap, hv, _, hlt⟩ := h.form hn
  have hA : A = some ⟨g, 0, none⟩ := by injection hv
  subst hA
  have hc := h.cells (g := g) rfl j u hj
  refine ⟨g, 0, rfl, hlt, ?_⟩
  by_cases h0 : j = 0
  · subst h0; simpa [Addr.add] using hc
  · simpa [Addr.add, h0] using hc
theorem Row.lt (h : Row w B A xs) : Row w w.heap.size A xs := fun j u hu =>
  let ⟨b, o, e, _, hc⟩ := h j u hu
  ⟨b, o, e, World.block_lt_of_cell? w _ hc, hc⟩
end

/-- Only block R, and what is new, has turned. -/
def Beside (R : Nat) (w w' : World) : Prop := w.grownBy w' (some R)
section
variable {R : Nat} {a w w' : World}
theorem Beside.refl (R : Nat) (w : World) : Beside R w w := World.grownBy.refl w _
theorem Beside.trans (h : Beside R a w) (k : Beside R w w') : Beside R a w' :=
  ⟨k.os.trans h.os, k.tape.trans h.tape, k.output.trans h.output, Nat.le_trans h.size k.size, fun i hi hne => (k.block i (Nat.lt_of_lt_of_le hi h.size) hne).trans (h.block i hi hne)⟩
theorem Beside.drewN (h : Beside R a w) (n : Nat) : Beside R a (w.drewN n) := ⟨h.os, h.tape, h.output, h.size, h.block⟩
theorem Beside.alloc (h : Beside R a w) (o : Obj) : Beside R a (w.alloc o) :=
  ⟨h.os, h.tape, h.output, Nat.le_trans h.size (by simp), fun i hi hne => (Below.heap_alloc w o i (Nat.lt_of_lt_of_le hi h.size)).trans (h.block i hi hne)⟩
theorem Beside.set (h : Beside R a w) {p : Addr} (hp : p.block = R ∨ a.heap.size ≤ p.block) (u : Value) : Beside R a (w.setCell p u) :=
  ⟨h.os, h.tape, h.output, by simpa [World.setCell] using h.size, fun i hi hne => (Below.heap_setCell w p u i (by
    rintro rfl
    rcases hp with hp | hp
    · exact hne (by rw [hp])
    · omega)).trans (h.block i hi hne)⟩
theorem Beside.of_below (h : Below a.heap.size a w) : Beside R a w := ⟨h.os, h.tape, h.output, h.size, fun i hi _ => h.block i hi⟩
theorem Beside.below (h : Beside R a w) {B : Nat} (hB : B ≤ R) (ha : B ≤ a.heap.size) : Below B a w :=
  ⟨h.os, h.tape, h.output, h.size, fun i hi => h.block i (by omega) (by intro e; injection e with e; omega)⟩
theorem Beside.cell (h : Beside R a w) {p : Addr} (hp : p.block < a.heap.size) (hne : p.block ≠ R) : w.cell? p = a.cell? p :=
  World.cell?_of_block (h.block p.block hp (by intro e; injection e with e; exact hne e))
theorem Beside.one {W W5 : World} {cs : Array Value} {T : TypeId} (hb : Beside R (W.alloc (.cells cs T)) W5) (hR : R < W.heap.size) : ∀ i, W5.cell? ⟨W.heap.size, i, none⟩ = cs[i]? := fun i =>
  (hb.cell (p := ⟨W.heap.size, i, none⟩) (by simp) (by show W.heap.size ≠ R; omega)).trans (cell_of_row _ _ i cs T (0, 0) (heap_alloc_new W _))
theorem Beside.two {W W5 : World} {cs ds : Array Value} {T U : TypeId} (hb : Beside R ((W.alloc (.cells cs T)).alloc (.cells ds U)) W5) (hR : R < W.heap.size) :
    (∀ i, W5.cell? ⟨W.heap.size, i, none⟩ = cs[i]?) ∧ (∀ i, W5.cell? ⟨W.heap.size + 1, i, none⟩ = ds[i]?) := by
  refine ⟨fun i => ?_, fun i => ?_⟩
  · refine (hb.cell (p := ⟨W.heap.size, i, none⟩) (by simp; omega) (by show W.heap.size ≠ R; omega)).trans ?_
    refine (((Below.refl (W.heap.size + 1) _).alloc (by simp) _).cell (p := ⟨W.heap.size, i, none⟩) (by show W.heap.size < _; omega)).trans ?_
    exact cell_of_row _ _ i cs T (0, 0) (heap_alloc_new W _)
  · refine (hb.cell (p := ⟨W.heap.size + 1, i, none⟩) (by simp) (by show W.heap.size + 1 ≠ R; omega)).trans ?_
    have := heap_alloc_new (W.alloc (.cells cs T)) (.cells ds U)
    exact cell_of_row _ _ i ds U (0, 0) (by simpa using this)
end
end Go.Proofs.Ytlnldnenkajcdaa
