/- Lines and their texts in plain words; a text without a rectangle. -/
import Derived.Test.YthcijegcnecnmaaDoorQb
import Derived.Lib.Join
set_option linter.unusedVariables false
set_option linter.unusedSimpArgs false
namespace Go.Proofs.YthcijegcnecnmaaDoor
open Go.RowKit
theorem nls_app (l m : List UInt8) : nls (l ++ m) = nls l + nls m := List.count_append
theorem allOk_app : ∀ l m : List UInt8, allOk (l ++ m) = (allOk l && allOk m)
  | [], m => by simp [allOk]
  | x :: l, m => by simp only [List.cons_append, allOk, allOk_app l m, Bool.and_assoc]
theorem ex_list {s : ByteArray} {a e : Nat} (h : a ≤ e) : s.data.toList.take e = s.data.toList.take a ++ (s.extract a e).data.toList := by
  rw [Lib.extract_data, ← List.take_add, Nat.add_sub_cancel' h]
theorem ex_nls {s : ByteArray} {a e : Nat} (h : a ≤ e) (he : e ≤ s.size) : nls (s.extract a e).data.toList + cntN s a = cntN s e := by
  have h1 := nls_cnt s a (by omega)
  have h2 := nls_cnt s e he
  rw [ex_list h, nls_app] at h2
  omega
/-- Bytes of a line. -/
def okLn (l : List UInt8) : Prop := allOk l = true ∧ nls l = 0
theorem okLn_app {l m : List UInt8} : okLn (l ++ m) ↔ okLn l ∧ okLn m := by
  unfold okLn
  rw [allOk_app, nls_app, Bool.and_eq_true]
  constructor
  · rintro ⟨⟨h1, h2⟩, h3⟩; exact ⟨⟨h1, by omega⟩, h2, by omega⟩
  · rintro ⟨⟨h1, h2⟩, h3, h4⟩; exact ⟨⟨h1, h3⟩, by omega⟩
theorem okLn_ex {z : ByteArray} (h : okLn z.data.toList) (a e : Nat) : okLn (z.extract a e).data.toList := by
  rw [Lib.extract_data]
  have h1 : okLn (z.data.toList.take a ++ z.data.toList.drop a) := by rw [List.take_append_drop]; exact h
  have h2 := (okLn_app.1 h1).2
  have h3 : okLn ((z.data.toList.drop a).take (e - a) ++ (z.data.toList.drop a).drop (e - a)) := by rw [List.take_append_drop]; exact h2
  exact (okLn_app.1 h3).1
theorem okLn_line {s : ByteArray} (hv : valid s.data.toList = true) {n : Nat} (hn : n ≤ cntN s s.size) : okLn (lineS s n).data.toList := by
  obtain ⟨h1, h2, _⟩ := ls_ok hn
  obtain ⟨e1, e2, _, _⟩ := eol_spec s h1
  refine ⟨?_, ?_⟩
  · have ha : allOk s.data.toList = true := by unfold valid at hv; rw [Bool.and_eq_true] at hv; exact hv.1
    have hs : s.data.toList = s.data.toList.take (eolN s (lsN s n)) ++ s.data.toList.drop (eolN s (lsN s n)) := (List.take_append_drop _ _).symm
    rw [hs, ex_list e1, allOk_app, allOk_app, Bool.and_eq_true, Bool.and_eq_true] at ha
    exact ha.1.2
  · have := ex_nls e1 e2
    rw [cnt_eol h1] at this
    show nls (s.extract _ _).data.toList = 0
    omega
theorem ln_many {z : ByteArray} (h : okLn z.data.toList) (hz : z.size ≤ 120) : lmI z = 1 := by
  have hv : valid z.data.toList = true := by
    unfold valid
    rw [h.1, Bool.true_and]
    simpa using hz
  unfold lmI
  rw [if_pos hv, h.2]; rfl
/-- Texts as lines of one text. -/
def joinN (l : List ByteArray) : ByteArray := ⟨(Lib.join (l.map (·.data.toList)) [10]).toArray⟩
theorem joinN_list (l : List ByteArray) : (joinN l).data.toList = Lib.join (l.map (·.data.toList)) [10] := by unfold joinN; simp
theorem join_snoc : ∀ (xs : List (List UInt8)) (y : List UInt8), xs ≠ [] → Lib.join (xs ++ [y]) [10] = Lib.join xs [10] ++ [10] ++ y
  | [], y, h => absurd rfl h
  | x :: r, y, _ => by
    rw [List.cons_append, Lib.join_cons, Lib.join_cons]
    simp [Lib.joinTail, List.append_assoc]
theorem joinN_one (x : ByteArray) : joinN [x] = x := ba_eq (by rw [joinN_list]; simp [Lib.join_one])
theorem joinN_snoc {l : List ByteArray} (y : ByteArray) (h : l ≠ []) : joinN (l ++ [y]) = joinN l ++ ⟨#[10]⟩ ++ y := by
  apply ba_eq
  rw [joinN_list, List.map_append, List.map_singleton, join_snoc _ _ (by simpa using h), ← joinN_list]
  simp
def lens (l : List ByteArray) : Nat := (l.map (·.size)).sum
theorem joinTail_len : ∀ r : List (List UInt8), (Lib.joinTail [10] r).length = r.length + (r.map (·.length)).sum
  | [] => rfl
  | y :: r => by
    have ih := joinTail_len r
    simp only [Lib.joinTail, List.map_cons, List.flatten_cons, List.length_append, List.length_cons, List.length_nil, List.sum_cons] at ih ⊢
    omega
theorem joinN_size {l : List ByteArray} (h : l ≠ []) : (joinN l).size + 1 = lens l + l.length := by
  have h1 : (joinN l).size = (joinN l).data.toList.length := (Array.length_toList ..).symm
  rw [h1, joinN_list]
  cases l with
  | nil => exact absurd rfl h
  | cons x r =>
    rw [List.map_cons, Lib.join_cons, List.length_append, joinTail_len]
    have e : (List.map (fun l => l.length) (List.map (fun x : ByteArray => x.data.toList) r)).sum = lens r := by
      unfold lens; rw [List.map_map]; congr 1
    have e2 : x.data.toList.length = x.size := Array.length_toList ..
    rw [e, e2, List.length_map]
    simp only [lens, List.map_cons, List.sum_cons, List.length_cons]
    omega
theorem lens_app (l m : List ByteArray) : lens (l ++ m) = lens l + lens m := by simp [lens]
theorem joinN_nls : ∀ l : List ByteArray, l ≠ [] → (∀ z ∈ l, okLn z.data.toList) → nls (joinN l).data.toList + 1 = l.length ∧ allOk (joinN l).data.toList = true
  | [], h, _ => absurd rfl h
  | x :: r, _, hz => by
    have hx := hz x List.mem_cons_self
    have hr : ∀ r : List ByteArray, (∀ z ∈ r, okLn z.data.toList) → nls (Lib.joinTail [10] (r.map (·.data.toList))) = r.length ∧ allOk (Lib.joinTail [10] (r.map (·.data.toList))) = true := by
      intro r
      induction r with
      | nil => intro _; exact ⟨rfl, rfl⟩
      | cons y r ih =>
        intro h
        obtain ⟨i1, i2⟩ := ih fun z hz => h z (List.mem_cons_of_mem _ hz)
        have hy := h y List.mem_cons_self
        have e : Lib.joinTail [10] ((y :: r).map (·.data.toList)) = [10] ++ (y.data.toList ++ Lib.joinTail [10] (r.map (·.data.toList))) := by simp [Lib.joinTail]
        rw [e, nls_app, nls_app, allOk_app, allOk_app, i1, i2, hy.1, hy.2]
        refine ⟨?_, by decide⟩
        have : nls [10] = 1 := by decide
        rw [this, List.length_cons]; omega
    obtain ⟨h1, h2⟩ := hr r fun z h => hz z (List.mem_cons_of_mem _ h)
    rw [joinN_list, List.map_cons, Lib.join_cons, nls_app, allOk_app, h1, h2, hx.1, hx.2, List.length_cons]
    exact ⟨by omega, rfl⟩
/-- A text of lines has that many lines. -/
theorem joinN_many {l : List ByteArray} (h : l ≠ []) (hz : ∀ z ∈ l, okLn z.data.toList) (hs : (joinN l).size ≤ 120) : valid (joinN l).data.toList = true ∧ lmI (joinN l) = l.length := by
  obtain ⟨h1, h2⟩ := joinN_nls l h hz
  have hv : valid (joinN l).data.toList = true := by
    unfold valid
    rw [h2, Bool.true_and]
    simpa using hs
  refine ⟨hv, ?_⟩
  unfold lmI
  rw [if_pos hv]
  omega
theorem lines_lens (s : ByteArray) : ∀ k n, n + k = cntN s s.size → lens (linesF s k n) + k + lsN s n = s.size
  | 0, n, h => by
    have hn : n ≤ cntN s s.size := by omega
    have e : eolN s (lsN s n) = s.size := by
      have : n = cntN s s.size := by omega
      rw [this]; exact eol_last
    have h1 := (ls_ok hn).1
    simp only [linesF, lens, List.map_cons, List.map_nil, List.sum_cons, List.sum_nil, lineS_size hn, e]
    omega
  | k + 1, n, h => by
    have ih := lines_lens s k (n + 1) (by omega)
    obtain ⟨e1, e2⟩ := ls_next (s := s) (n := n) (by omega)
    have hn : n ≤ cntN s s.size := by omega
    have h1 := (eol_spec s (ls_ok hn).1).1
    simp only [linesF, lens, List.map_cons, List.sum_cons, lineS_size hn] at ih ⊢
    omega
/-- A line without the columns from x up to y. -/
def cutLn (z : ByteArray) (x y : Nat) : ByteArray := z.extract 0 (min x z.size) ++ z.extract (min y z.size) z.size
theorem cutLn_ok {z : ByteArray} (h : okLn z.data.toList) (x y : Nat) : okLn (cutLn z x y).data.toList := by
  unfold cutLn
  rw [ByteArray.data_append, Array.toList_append]
  exact okLn_app.2 ⟨okLn_ex h _ _, okLn_ex h _ _⟩
theorem cutLn_size {z : ByteArray} {x y : Nat} (h : x ≤ y) : (cutLn z x y).size + (z.extract (min x z.size) (min y z.size)).size = z.size := by
  unfold cutLn
  rw [ByteArray.size_append, ByteArray.size_extract, ByteArray.size_extract, ByteArray.size_extract]
  omega
/-- The lines when those from f up to i have been cut. -/
def rcU (s : ByteArray) (x y f i : Nat) : List ByteArray := (List.range (cntN s s.size + 1)).map fun n => if f ≤ n ∧ n < i then cutLn (lineS s n) x y else lineS s n
theorem rcU_len (s : ByteArray) (x y f i : Nat) : (rcU s x y f i).length = cntN s s.size + 1 := by simp [rcU]
theorem rcU_at (s : ByteArray) (x y f i : Nat) {n : Nat} (hn : n ≤ cntN s s.size) : (rcU s x y f i)[n]? = some (if f ≤ n ∧ n < i then cutLn (lineS s n) x y else lineS s n) := by
  unfold rcU
  rw [List.getElem?_map, List.getElem?_range (by omega)]; rfl
theorem rcU_start (s : ByteArray) (x y f : Nat) : rcU s x y f f = linesL s := by
  apply List.ext_getElem?
  intro n
  rcases Nat.lt_or_ge (cntN s s.size) n with h | h
  · rw [List.getElem?_eq_none (by rw [rcU_len]; omega), List.getElem?_eq_none (by rw [linesL_len]; omega)]
  · rw [rcU_at s x y f f h, linesL_get s h, if_neg (by omega)]
theorem rcU_step (s : ByteArray) (x y f i : Nat) (hf : f ≤ i) (hi : i ≤ cntN s s.size) : (rcU s x y f i).set i (cutLn (lineS s i) x y) = rcU s x y f (i + 1) := by
  apply List.ext_getElem?
  intro n
  rcases Nat.lt_or_ge (cntN s s.size) n with h | h
  · rw [List.getElem?_eq_none (by rw [List.length_set, rcU_len]; omega), List.getElem?_eq_none (by rw [rcU_len]; omega)]
  · rw [rcU_at s x y f (i + 1) h]
    by_cases hni : n = i
    · subst hni
      rw [List.getElem?_set_self (by rw [rcU_len]; omega), if_pos ⟨hf, by omega⟩]
    · rw [List.getElem?_set_ne (by omega), rcU_at s x y f i h]
      congr 1
      by_cases h1 : f ≤ n ∧ n < i
      · rw [if_pos h1, if_pos ⟨h1.1, by omega⟩]
      · rw [if_neg h1, if_neg (by omega)]
theorem rcU_ok {s : ByteArray} (hv : valid s.data.toList = true) (x y f i : Nat) : ∀ z ∈ rcU s x y f i, okLn z.data.toList := by
  intro z hz
  unfold rcU at hz
  obtain ⟨n, hn, rfl⟩ := List.mem_map.1 hz
  have hn' : n ≤ cntN s s.size := by have := List.mem_range.1 hn; omega
  split
  · exact cutLn_ok (okLn_line hv hn') x y
  · exact okLn_line hv hn'
theorem sum_map_add (f g : Nat → Nat) : ∀ l : List Nat, (l.map fun n => f n + g n).sum = (l.map f).sum + (l.map g).sum
  | [] => rfl
  | x :: l => by simp only [List.map_cons, List.sum_cons, sum_map_add f g l]; omega
theorem sum_zeros : ∀ l : List Nat, (l.map fun _ => 0).sum = 0
  | [] => rfl
  | x :: l => by simp only [List.map_cons, List.sum_cons, sum_zeros l]
theorem sum_if (g : Nat → Nat) (f i : Nat) : ∀ N, i ≤ N → f ≤ i → ((List.range N).map fun n => if f ≤ n ∧ n < i then g n else 0).sum = ((List.range (i - f)).map fun j => g (f + j)).sum
  | 0, h1, h2 => by
    have : i - f = 0 := by omega
    rw [this]; rfl
  | N + 1, h1, h2 => by
    rw [List.range_succ, List.map_append, List.sum_append]
    rcases Nat.lt_or_ge N i with h | h
    · obtain rfl : i = N + 1 := by omega
      rcases Nat.lt_or_ge N f with hf | hf
      · obtain rfl : f = N + 1 := by omega
        have hz : ((List.range N).map fun n => if N + 1 ≤ n ∧ n < N + 1 then g n else 0) = (List.range N).map fun _ => 0 := by
          apply List.map_congr_left
          intro n hn
          rw [if_neg (by omega)]
        rw [hz, sum_zeros, Nat.sub_self]
        simp only [List.map_cons, List.map_nil, List.sum_cons, List.sum_nil, List.range_zero]
        rw [if_neg (by omega)]; rfl
      · have e : N + 1 - f = (N - f) + 1 := by omega
        rw [e, List.range_succ, List.map_append, List.sum_append, ← sum_if g f N N (Nat.le_refl _) hf]
        have hz : ((List.range N).map fun n => if f ≤ n ∧ n < N + 1 then g n else 0) = (List.range N).map fun n => if f ≤ n ∧ n < N then g n else 0 := by
          apply List.map_congr_left
          intro n hn
          have := List.mem_range.1 hn
          by_cases h9 : f ≤ n
          · rw [if_pos ⟨h9, by omega⟩, if_pos ⟨h9, by omega⟩]
          · rw [if_neg (by omega), if_neg (by omega)]
        rw [hz]
        simp only [List.map_cons, List.map_nil, List.sum_cons, List.sum_nil]
        rw [if_pos ⟨hf, by omega⟩, show f + (N - f) = N by omega]
    · rw [sum_if g f i N h h2]
      simp only [List.map_cons, List.map_nil, List.sum_cons, List.sum_nil]
      rw [if_neg (by omega)]; omega
theorem lines_range (s : ByteArray) : linesL s = (List.range (cntN s s.size + 1)).map (lineS s) := by
  apply List.ext_getElem?
  intro n
  rcases Nat.lt_or_ge (cntN s s.size) n with h | h
  · rw [List.getElem?_eq_none (by rw [linesL_len]; omega), List.getElem?_eq_none (by simp; omega)]
  · rw [linesL_get s h, List.getElem?_map, List.getElem?_range (by omega)]; rfl
/-- What is cut out and what is left. -/
theorem rcU_lens {s : ByteArray} {x y f i : Nat} (hxy : x ≤ y) (hf : f ≤ i) (hi : i ≤ cntN s s.size + 1) : lens (rcU s x y f i) + lens (rcG s x y f (i - f)) + cntN s s.size = s.size := by
  have h0 := lines_lens s (cntN s s.size) 0 (by omega)
  rw [ls_zero] at h0
  have h1 : lens (linesF s (cntN s s.size) 0) = lens (linesL s) := rfl
  rw [h1, lines_range] at h0
  have h2 : lens (rcG s x y f (i - f)) = ((List.range (cntN s s.size + 1)).map fun n => if f ≤ n ∧ n < i then (cutR s x y n).size else 0).sum := by
    rw [sum_if (fun n => (cutR s x y n).size) f i _ hi hf]
    unfold lens rcG
    rw [List.map_map]; rfl
  have h3 : lens (rcU s x y f i) = ((List.range (cntN s s.size + 1)).map fun n => (if f ≤ n ∧ n < i then cutLn (lineS s n) x y else lineS s n).size).sum := by
    unfold lens rcU
    rw [List.map_map]; rfl
  have h4 : lens ((List.range (cntN s s.size + 1)).map (lineS s)) = ((List.range (cntN s s.size + 1)).map fun n => (lineS s n).size).sum := by
    unfold lens
    rw [List.map_map]; rfl
  rw [h2, h3, ← sum_map_add]
  rw [h4] at h0
  have h5 : ((List.range (cntN s s.size + 1)).map fun n => (if f ≤ n ∧ n < i then cutLn (lineS s n) x y else lineS s n).size + if f ≤ n ∧ n < i then (cutR s x y n).size else 0) = (List.range (cntN s s.size + 1)).map fun n => (lineS s n).size := by
    apply List.map_congr_left
    intro n hn
    have hn' : n ≤ cntN s s.size := by have := List.mem_range.1 hn; omega
    by_cases h : f ≤ n ∧ n < i
    · rw [if_pos h, if_pos h, cutR_line hn', cutLn_size hxy]
    · rw [if_neg h, if_neg h]; rfl
  rw [h5]
  omega
theorem rcU_size {s : ByteArray} {x y f i : Nat} (hxy : x ≤ y) (hf : f ≤ i) (hi : i ≤ cntN s s.size + 1) : (joinN (rcU s x y f i)).size + lens (rcG s x y f (i - f)) = s.size := by
  have h1 := rcU_lens (s := s) hxy hf hi
  have hne : rcU s x y f i ≠ [] := by intro e; have := rcU_len s x y f i; rw [e] at this; simp at this
  have h2 := joinN_size hne
  rw [rcU_len] at h2
  omega
/-- The text without the rectangle of two places. -/
def rtC (s : ByteArray) (a b : Int) : ByteArray :=
  if valid s.data.toList = true then
    if rcOk s a b = true then joinN (rcU s (min (coI s a) (coI s b)).toNat (max (coI s a) (coI s b)).toNat (min (loI s a) (loI s b)).toNat ((max (loI s a) (loI s b)).toNat + 1)) else s
  else ⟨#[]⟩
end Go.Proofs.YthcijegcnecnmaaDoor
