/- Typing at cursors: what holds in the loops; builders and rows beside each other. -/
import Derived.Test.YtmdjmaijennmkaaTy
import Derived.Test.YtmdjmaijennmkaaMw
import Derived.Test.YtmdjmaijennmkaaAp
import Derived.Test.YtmdjmaijennmkaaBu
set_option linter.unusedVariables false
set_option linter.unusedSimpArgs false
namespace Go.Proofs.Ytmdjmaijennmkaa
open Go.RowKit
theorem ba_ext {x : ByteArray} {l : List UInt8} (h : x.data.toList = l) : x = ⟨l.toArray⟩ := by
  obtain ⟨⟨m⟩⟩ := x
  subst h; rfl
theorem piece_data (o s w : ByteArray) (a p : Nat) : (o ++ s.extract a p ++ w).data.toList = o.data.toList ++ ((s.data.toList.drop a).take (p - a) ++ w.data.toList) := by
  rw [ByteArray.data_append, Array.toList_append, ByteArray.data_append, Array.toList_append, Lib.extract_data, List.append_assoc]
theorem tail_data (o s : ByteArray) (a : Nat) : (o ++ s.extract a s.size).data.toList = o.data.toList ++ s.data.toList.drop a := by
  rw [ByteArray.data_append, Array.toList_append, Lib.extract_data, List.take_of_length_le (by simp)]
theorem fits_end {n : Nat} {E : List (Int × Int)} {a : Nat} (h : fits n E a) {k : Nat} (hk : E.length ≤ k) : E.drop k = [] := List.drop_of_length_le hk
/-- What holds at the head of the loops: o has been put together, cur are the cursors behind what was put, the text goes on at a. -/
def TyInv (s put : ByteArray) (E : List (Int × Int)) (k : Nat) (o : List UInt8) (a : Nat) (cur : List (Int × Int)) : Prop :=
  fits s.size (E.drop k) a ∧ o ++ tyFrom s.data.toList put.data.toList (E.drop k) a = tyFrom s.data.toList put.data.toList E 0 ∧ cur ++ cuFrom put.size (E.drop k) a o.length = cuFrom put.size E 0 0 ∧ cur.length = k ∧ o.length ≤ k * 2000000
theorem TyInv.start {s put : ByteArray} {E : List (Int × Int)} (h : fits s.size E 0) : TyInv s put E 0 [] 0 [] := ⟨h, rfl, rfl, rfl, by simp⟩
theorem TyInv.le {s put : ByteArray} {E : List (Int × Int)} {k : Nat} {o : List UInt8} {a : Nat} {cur : List (Int × Int)} (h : TyInv s put E k o a cur) : a ≤ s.size := fits_le h.1
theorem TyInv.step {s put : ByteArray} {E : List (Int × Int)} {k : Nat} {o : List UInt8} {a : Nat} {cur : List (Int × Int)} (h : TyInv s put E k o a cur) (hk : k < E.length) (hs : s.size ≤ 200) (hp : put.size ≤ 1100000) :
    ∃ p q : Nat, E[k] = ((p : Int), (q : Int)) ∧ a ≤ p ∧ p ≤ q ∧ q ≤ s.size ∧
      TyInv s put E (k + 1) (o ++ ((s.data.toList.drop a).take (p - a) ++ put.data.toList)) q (cur ++ [(((o.length + (p - a) + put.size : Nat) : Int), ((o.length + (p - a) + put.size : Nat) : Int))]) ∧ (o ++ ((s.data.toList.drop a).take (p - a) ++ put.data.toList)).length = o.length + (p - a) + put.size := by
  obtain ⟨h1, h2, h3, h4, h5⟩ := h
  have hd := List.drop_eq_getElem_cons hk
  rw [hd] at h1 h2 h3
  obtain ⟨f1, f2, f3, f4⟩ := h1
  obtain ⟨p, hpe⟩ := Int.eq_ofNat_of_zero_le (show 0 ≤ E[k].1 by omega)
  obtain ⟨q, hqe⟩ := Int.eq_ofNat_of_zero_le (show 0 ≤ E[k].2 by omega)
  have hlen : (o ++ ((s.data.toList.drop a).take (p - a) ++ put.data.toList)).length = o.length + (p - a) + put.size := by
    have e1 : put.data.size = put.size := rfl
    have e2 : s.data.size = s.size := rfl
    simp only [List.length_append, List.length_take, List.length_drop, Array.length_toList]
    omega
  refine ⟨p, q, by rw [← hpe, ← hqe], by omega, by omega, by omega, ⟨?_, ?_, ?_, ?_, ?_⟩, hlen⟩
  · rw [hqe] at f4; simpa using f4
  · rw [← h2, tyFrom, hpe, hqe, Int.toNat_natCast, Int.toNat_natCast]; simp
  · rw [← h3, cuFrom, hpe, hqe, Int.toNat_natCast, Int.toNat_natCast, hlen]; simp
  · rw [List.length_append, h4]; rfl
  · rw [hlen]; omega
theorem TyInv.done {s put : ByteArray} {E : List (Int × Int)} {k : Nat} {o : List UInt8} {a : Nat} {cur : List (Int × Int)} (h : TyInv s put E k o a cur) (hk : E.length ≤ k) : o ++ s.data.toList.drop a = tyFrom s.data.toList put.data.toList E 0 ∧ cur = cuFrom put.size E 0 0 := by
  obtain ⟨_, h2, h3, _⟩ := h
  rw [List.drop_of_length_le hk] at h2 h3
  exact ⟨h2, by simpa [cuFrom] using h3⟩
section
variable {w w' : World} {T TB e base size n b B : Nat} {v : Value} {xs bs : List Value}
theorem own_others (h : w.ownsRow base T size v n xs) (hk : Lib.OthersKept e (some b) w w') (hT : T ≠ e) (hb : b < base) : w'.ownsRow base T size v n xs := by
  refine ⟨h.1, ?_⟩
  rcases h.2 with h1 | ⟨g, cap, cur, h1, h2, h3, h4⟩
  · exact .inl h1
  · refine .inr ⟨g, cap, cur, h1, h2, hk g _ h3 (by intro e'; injection e' with e'; omega) (by intro c fz e'; injection e' with _ e'; exact hT e'), h4⟩
theorem own_cells (h : w.ownsRow base T size v n xs) : ∀ g, v.ownBlock = some g → ∃ c, w.heap[g]? = some (.cells c T (0, 0)) := by
  intro g hg
  rcases h.2 with ⟨h1, _⟩ | ⟨g', cap, cur, h1, _, h3, _⟩
  · subst h1; cases hg
  · subst h1
    injection hg with hg
    have hg : g' = g := hg
    subst hg
    exact ⟨cur, h3⟩
theorem builderAt_grown {p : Value} (h : Lib.BuilderAtF TB e B b p bs w) {row : Option Nat} (hg : w.grownBy w' row) (hrow : ∀ g, row = some g → ∃ c fz, w.heap[g]? = some (.cells c T fz)) (hT : T ≠ TB) (hTe : T ≠ e) : Lib.BuilderAtF TB e B b p bs w' := by
  have hlt := h.lt
  obtain ⟨hB, v, hv, hown, hne⟩ := h
  refine ⟨hB, v, (hg.block b hlt ?_).trans hv, hown.kept hg ?_, hne⟩
  · intro e'
    obtain ⟨c, fz, hc⟩ := hrow b e'.symm
    rw [hv] at hc
    injection hc with hc
    injection hc with _ hc
    exact hT hc.symm
  · rcases hown.2 with ⟨h1, _⟩ | ⟨g, cap, cur, fz, h1, _, h3, _⟩
    · subst h1; exact .inl rfl
    · subst h1
      right
      intro e'
      have e' : some g = row := e'
      obtain ⟨c, fz', hc⟩ := hrow g e'.symm
      rw [h3] at hc
      injection hc with hc
      injection hc with _ hc
      exact hTe hc.symm
theorem builder_grown (h : Lib.IsBuilderF TB e B b bs w) {row : Option Nat} (hg : w.grownBy w' row) (hrow : ∀ g, row = some g → ∃ c fz, w.heap[g]? = some (.cells c T fz)) (hT : T ≠ TB) (hTe : T ≠ e) : Lib.IsBuilderF TB e B b bs w' :=
  h.elim (fun x => .inl (builderAt_grown x hg hrow hT hTe)) (fun x => .inr (builderAt_grown x hg hrow hT hTe))
theorem builder_below (h : Lib.IsBuilderF TB e B b bs w) (hb : Below w.heap.size w w') : Lib.IsBuilderF TB e B b bs w' := by
  have key : ∀ p, Lib.BuilderAtF TB e B b p bs w → Lib.BuilderAtF TB e B b p bs w' := fun p h => by
    have hlt := h.lt
    obtain ⟨hB, v, hv, hown, hne⟩ := h
    exact ⟨hB, v, (hb.block b hlt).trans hv, hown.kept (row := none) ⟨hb.os, hb.tape, hb.output, hb.size, fun k hk _ => hb.block k hk⟩ (Classical.em _), hne⟩
  exact h.elim (fun x => .inl (key _ x)) (fun x => .inr (key _ x))
end
theorem bu_start (w : World) : Lib.IsBuilderF 77 5 w.heap.size w.heap.size (Lib.byteCells []) (w.alloc (Obj.cells #[Value.pointer none, Value.slice none 0 0] 77)) :=
  .inl ⟨Nat.le_refl _, _, heap_alloc_new w _, World.ownsRowF_of (World.ownsRow_nil _ _ _ _), by simp [Value.ownBlock]⟩
theorem one_piece (o : List UInt8) (s : ByteArray) (a : Nat) : Lib.byteCells o ++ Lib.strCells (s.extract a s.size) = Lib.byteCells (o ++ s.data.toList.drop a) := by
  rw [Lib.strCells_eq, Lib.extract_data, List.take_of_length_le (by simp)]
  simp [Lib.byteCells]
theorem both_pieces (o : List UInt8) (s t : ByteArray) (a p : Nat) : Lib.byteCells o ++ Lib.strCells (s.extract a p ++ t) = Lib.byteCells (o ++ ((s.data.toList.drop a).take (p - a) ++ t.data.toList)) := by
  rw [Lib.strCells_eq, ByteArray.data_append, Array.toList_append, Lib.extract_data]
  simp [Lib.byteCells]
end Go.Proofs.Ytmdjmaijennmkaa
