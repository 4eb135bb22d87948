/- Slices of texts of the call's own: the small lemmas. -/
import Derived.Test.YthcijegcnecnmaaDoorMk
set_option linter.unusedVariables false
set_option linter.unusedSimpArgs false
namespace Go.Proofs.YthcijegcnecnmaaDoor
open Go.RowKit
theorem grown_below {w w' : World} {row : Option Nat} {B : Nat} (h : w.grownBy w' row) (hB : B ≤ w.heap.size) (hr : ∀ k, row = some k → B ≤ k) : Below B w w' := (Below.refl B w).grown h hB hr
theorem below_on {a W W' : World} (h : Below a.heap.size a W) (h' : Below W.heap.size W W') : Below a.heap.size a W' := h.trans (h'.mono h.size)
theorem row_on {a W : World} {A : Option Addr} {xs : List Value} (h : Row a a.heap.size A xs) (hb : Below a.heap.size a W) : Row W W.heap.size A xs := (h.below hb).more hb.size
theorem drewN_on (W : World) (q : Nat) : Below W.heap.size W (W.drewN q) := below_drewN (Below.refl _ _) q
section
variable {w w' : World} {base n : Nat} {e : TypeId} {v : Value} {size : Nat} {xs : List Value}
theorem own_below (h : w.ownsRow base e size v n xs) (hb : Below w.heap.size w w') : w'.ownsRow base e size v n xs :=
  h.kept (row := none) ⟨hb.os, hb.tape, hb.output, hb.size, fun i hi _ => hb.block i hi⟩ (by cases v.ownBlock <;> simp)
end
theorem own_form2 {w : World} {base e size n : Nat} {v : Value} {xs : List Value} (h : w.ownsRow base e size v n xs) : ∃ A c, v = .slice A n c := by
  rcases h.2 with ⟨h1, h2⟩ | ⟨g, cap, cur, h1, _⟩
  · exact ⟨none, 0, by rw [h1, h2]⟩
  · exact ⟨_, cap, h1⟩
theorem take_str {ss : List ByteArray} {k : Nat} {x : ByteArray} (h : ss[k]? = some x) : strVals (ss.take k) ++ [.string x] = strVals (ss.take (k + 1)) := by
  simp [strVals, List.take_add_one, h]
theorem news1 (W : World) (T : TypeId) (a : Value) : ∀ (j : Nat) (u : Value), [a][j]? = some u → (W.alloc (.cells #[a] T)).cell? ((⟨W.heap.size, 0, none⟩ : Addr).add j) = some u := by
  intro j u hj
  match j, hj with
  | 0, hj => simp at hj; subst hj; simp [Addr.add]
theorem news1b (W : World) (o : Obj) (T : TypeId) (a : Value) : ∀ (j : Nat) (u : Value), [a][j]? = some u → ((W.alloc o).alloc (.cells #[a] T)).cell? ((⟨W.heap.size + 1, 0, none⟩ : Addr).add j) = some u := by
  have h := news1 (W.alloc o) T a
  have e : (W.alloc o).heap.size = W.heap.size + 1 := by simp
  rw [e] at h
  exact h
theorem ones1 (x : ByteArray) : ∀ u ∈ [Value.string x], u.oneCell' = true := by
  intro u hu; simp at hu; subst hu; rfl
theorem own_le {w : World} {base base' size n : Nat} {e : TypeId} {v : Value} {xs : List Value} (h : w.ownsRow base e size v n xs) (hb : base' ≤ base) : w.ownsRow base' e size v n xs := by
  refine ⟨h.1, ?_⟩
  rcases h.2 with g | ⟨g, cap, cur, h1, h2, h3⟩
  · exact .inl g
  · exact .inr ⟨g, cap, cur, h1, Nat.le_trans hb h2, h3⟩
def StrsPost (ss : List ByteArray) (w : World) (e : Ending) (w' : World) : Prop :=
  ∃ (A : Option Addr) (c : Nat), e = .returned (.slice A ss.length c) ∧ w'.ownsRow w.heap.size 9 1 (.slice A ss.length c) ss.length (strVals ss) ∧ Below w.heap.size w w'
/-- A row of another block reads as before an append. -/
theorem Row.grown1 {w w' : World} {B : Nat} {A : Option Addr} {xs : List Value} {row : Option Nat} (h : Row w B A xs) (hg : w.grownBy w' row) (hB : B ≤ w.heap.size) (hne : ∀ a, A = some a → row ≠ some a.block) : Row w' B A xs := by
  intro j u hj
  obtain ⟨b, o, rfl, hb, hc⟩ := h j u hj
  exact ⟨b, o, rfl, hb, (hg.cell_far ⟨b, o + j, none⟩ (show b < w.heap.size by omega) (Ne.symm (hne ⟨b, o, none⟩ rfl))).trans hc⟩
theorem own_block {w : World} {base size n c : Nat} {e : TypeId} {A : Option Addr} {xs : List Value} (h : w.ownsRow base e size (.slice A n c) n xs) (a : Addr) (ha : A = some a) : base ≤ a.block := by
  subst ha
  rcases h.2 with ⟨h1, _⟩ | ⟨g, cap, cur, h1, h2, _⟩
  · cases h1
  · injection h1 with h1
    injection h1 with h1
    subst h1
    exact h2
/-- The answer of a loop that took all texts. -/
theorem strs_end {ss : List ByteArray} {w W1 wr : World} {v : Value} {n : Nat} (hown : wr.ownsRow W1.heap.size 9 1 v n (strVals (ss.take n))) (hn : n = ss.length) (hb : Below w.heap.size w W1) (hbw : Below W1.heap.size W1 wr) :
    StrsPost ss w (.returned v) wr := by
  subst hn
  rw [List.take_length] at hown
  obtain ⟨A, c, rfl⟩ := own_form2 hown
  exact ⟨A, c, rfl, own_le hown hb.size, hb.trans (hbw.mono hb.size)⟩
theorem strs_end0 {ss : List ByteArray} {w wr : World} {v : Value} {n B : Nat} (hown : wr.ownsRow B 9 1 v n (strVals (ss.take n))) (hn : n = ss.length) (hB : w.heap.size = B) (hb : Below B w wr) :
    ∀ u, u = v → StrsPost ss w (.returned u) wr := by
  rintro u rfl
  subst hB
  exact strs_end hown hn (Below.refl _ _) hb
end Go.Proofs.YthcijegcnecnmaaDoor
