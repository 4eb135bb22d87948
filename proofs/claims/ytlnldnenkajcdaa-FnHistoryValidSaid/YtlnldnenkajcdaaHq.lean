/- Rows of moments in memory; the laws' helpers on changes, moments and histories: sizes and copies. -/
import Derived.Test.YtlnldnenkajcdaaHp
set_option linter.unusedVariables false
set_option linter.unusedSimpArgs false
namespace Go.Proofs.Ytlnldnenkajcdaa
open Go.RowKit
def Mom.cells (m : Mom) : List Value := [.int .i64 m.p, .int .i64 m.a, .int .i64 m.b, .string m.x, .int .i64 m.c, .int .i64 m.d, .string m.y]
def moms (ms : List Mom) : List Value := ms.flatMap Mom.cells
theorem moms_cons (m : Mom) (ms : List Mom) : moms (m :: ms) = .int .i64 m.p :: .int .i64 m.a :: .int .i64 m.b :: .string m.x :: .int .i64 m.c :: .int .i64 m.d :: .string m.y :: moms ms := by simp [moms, Mom.cells]
theorem moms_snoc (ms : List Mom) (m : Mom) : moms (ms ++ [m]) = moms ms ++ m.cells := by simp [moms]
theorem moms_len (ms : List Mom) : (moms ms).length = ms.length * 7 := by
  induction ms with
  | nil => rfl
  | cons x ms ih => rw [moms_cons]; simp only [List.length_cons] at ih ⊢; omega
theorem moms_get : ∀ (ms : List Mom) (j : Nat) (h : j < ms.length) (i : Nat), i < 7 → (moms ms)[j * 7 + i]? = ms[j].cells[i]?
  | [], j, h, _, _ => by simp at h
  | m :: ms, 0, _, i, hi => by
    rw [show moms (m :: ms) = m.cells ++ moms ms by simp [moms]]
    simp only [Nat.zero_mul, Nat.zero_add, List.getElem_cons_zero]
    exact List.getElem?_append_left (by simpa [Mom.cells] using hi)
  | m :: ms, j + 1, h, i, hi => by
    have := moms_get ms j (by simpa using h) i hi
    rw [moms_cons, show (j + 1) * 7 + i = (j * 7 + i) + 1 + 1 + 1 + 1 + 1 + 1 + 1 by omega]
    simpa only [List.getElem?_cons_succ, List.getElem_cons_succ] using this
theorem moms_set (ms : List Mom) (j : Nat) (m : Mom) (h : j < ms.length) :
    ((((((((moms ms).set (j * 7) (.int .i64 m.p)).set (j * 7 + 1) (.int .i64 m.a)).set (j * 7 + 2) (.int .i64 m.b)).set (j * 7 + 3) (.string m.x)).set (j * 7 + 4) (.int .i64 m.c)).set (j * 7 + 5) (.int .i64 m.d)).set (j * 7 + 6) (.string m.y)) = moms (ms.set j m) := by
  induction ms generalizing j with
  | nil => simp at h
  | cons x ms ih =>
    cases j with
    | zero => simp [moms_cons]
    | succ j =>
      have e : ∀ i, (j + 1) * 7 + i = (j * 7 + i) + 1 + 1 + 1 + 1 + 1 + 1 + 1 := fun i => by omega
      have e0 : (j + 1) * 7 = (j * 7) + 1 + 1 + 1 + 1 + 1 + 1 + 1 := by omega
      rw [moms_cons, List.set_cons_succ, moms_cons, ← ih j (by simpa using h), e 1, e 2, e 3, e 4, e 5, e 6, e0]
      simp only [List.set_cons_succ]
/-- A moment's cells from i on in block b. -/
def MomAt (w : World) (b i : Nat) (m : Mom) : Prop :=
  w.cell? ⟨b, i, none⟩ = some (.int .i64 m.p) ∧ w.cell? ⟨b, i + 1, none⟩ = some (.int .i64 m.a) ∧ w.cell? ⟨b, i + 2, none⟩ = some (.int .i64 m.b) ∧ w.cell? ⟨b, i + 3, none⟩ = some (.string m.x) ∧ w.cell? ⟨b, i + 4, none⟩ = some (.int .i64 m.c) ∧ w.cell? ⟨b, i + 5, none⟩ = some (.int .i64 m.d) ∧ w.cell? ⟨b, i + 6, none⟩ = some (.string m.y)
theorem MomAt.below {w w' : World} {b i B : Nat} {m : Mom} (h : MomAt w b i m) (hb : Below B w w') (hB : b < B) : MomAt w' b i m := by
  obtain ⟨h0, h1, h2, h3, h4, h5, h6⟩ := h
  have e : ∀ j, w'.cell? ⟨b, j, none⟩ = w.cell? ⟨b, j, none⟩ := fun j => hb.cell (p := ⟨b, j, none⟩) hB
  unfold MomAt
  simp only [e]
  exact ⟨h0, h1, h2, h3, h4, h5, h6⟩
theorem Row.mom {w : World} {B : Nat} {A : Option Addr} {ms : List Mom} (h : Row w B A (moms ms)) {j : Nat} (hj : j < ms.length) : ∃ b o, A = some ⟨b, o, none⟩ ∧ b < B ∧ MomAt w b (o + j * 7) ms[j] := by
  obtain ⟨b, o, rfl, hb, hc⟩ := h.addr (by rw [moms_len]; omega)
  refine ⟨b, o, rfl, hb, ?_⟩
  have g : ∀ i u, i < 7 → ms[j].cells[i]? = some u → w.cell? ⟨b, o + j * 7 + i, none⟩ = some u := fun i u hi hu => by
    rw [Nat.add_assoc]; exact hc _ u ((moms_get ms j hj i hi).trans hu)
  exact ⟨g 0 _ (by decide) rfl, g 1 _ (by decide) rfl, g 2 _ (by decide) rfl, g 3 _ (by decide) rfl, g 4 _ (by decide) rfl, g 5 _ (by decide) rfl, g 6 _ (by decide) rfl⟩
/-- A new slice of moments is returned; nothing that was there has turned. -/
def MomsPost (ms : List Mom) (w : World) (e : Ending) (w' : World) : Prop :=
  ∃ A c, e = .returned (.slice A ms.length c) ∧ w'.ownsRow w.heap.size 56 7 (.slice A ms.length c) ms.length (moms ms) ∧ Below w.heap.size w w'
theorem Row.of_own7 {w : World} {base e n c : Nat} {A : Option Addr} {xs : List Value} (h : w.ownsRow base e 7 (.slice A n c) n xs) : Row w w.heap.size A xs := by
  intro j u hj
  have hl : j < xs.length := (List.getElem?_eq_some_iff.1 hj).1
  have hn : 0 < n := by have := h.1; omega
  obtain ⟨g, cap, hv, _, hlt⟩ := h.form hn
  have hA : A = some ⟨g, 0, none⟩ := by injection hv
  subst hA
  have hc := h.cells (g := g) rfl j u hj
  refine ⟨g, 0, rfl, hlt, ?_⟩
  by_cases h0 : j = 0
  · subst h0; simpa [Addr.add] using hc
  · simpa [Addr.add, h0] using hc
theorem szChange_any (a b : Int) (x : ByteArray) (left : Int) (w : World) (hx : x.size ≤ maxLen) (h0 : 0 ≤ left) (h1 : left ≤ 3000000) :
    Calls Try.prog 58 #[.agg #[.int .i64 a, .int .i64 b, .string x], .int .i64 left] w fun e w' => e = .returned (.int .i64 (if left - x.size < 0 then -1 else left - x.size)) ∧ Below w.heap.size w w' := by
  unfold maxLen at hx
  have HB := Lib.hid ((Below.refl w.heap.size w).alloc (Nat.le_refl _) (.cells #[.int .i64 a, .int .i64 b, .string x] 75))
  by_cases hln : left - x.size < 0
  · rw [if_pos hln]
    go_enter Try.func58, Try.ntmps58
    go_wp2_with fail
    go_ret
    exact ⟨rfl, HB.out⟩
  · rw [if_neg hln]
    have hd : decide (left - (x.size : Int) < 0) = false := by simp; omega
    go_enter Try.func58, Try.ntmps58
    go_wp2_with fail
    go_ret
    exact ⟨rfl, HB.out⟩
theorem toChange_any (a b : Int) (x : ByteArray) (w : World) :
    Calls Try.prog 59 #[.agg #[.int .i64 a, .int .i64 b, .string x]] w fun e w' => e = .returned (.agg #[.int .i64 a, .int .i64 b, .string x]) ∧ Below w.heap.size w w' := by
  have hb : Below w.heap.size w ((((w.alloc (.cells #[.int .i64 a, .int .i64 b, .string x] 75)).alloc (.cells #[.int .i64 a, .int .i64 b, .string x] 36)).alloc (.cells #[.int .i64 a, .int .i64 b, .string x] 36))) :=
    (((Below.refl w.heap.size w).alloc (Nat.le_refl _) _).alloc (by simp) _).alloc (by simp; omega) _
  have HB := Lib.hid hb
  clear hb
  go_enter Try.func59, Try.ntmps59
  go_wp2_with fail
  exact bodyPost_ret (v := .agg #[.int .i64 a, .int .i64 b, .string x]) (by simp [results, Try.results59, go_sem]) rfl ⟨rfl, HB.out⟩
end Go.Proofs.Ytlnldnenkajcdaa
