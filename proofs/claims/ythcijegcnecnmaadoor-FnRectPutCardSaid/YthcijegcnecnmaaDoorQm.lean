/- A rectangle within one line is a part of the text; what is gone, in plain words. -/
import Derived.Test.YthcijegcnecnmaaDoorQk
set_option linter.unusedVariables false
set_option linter.unusedSimpArgs false
namespace Go.Proofs.YthcijegcnecnmaaDoor
open Go.RowKit
/-- Lines, each with its end. -/
def endL (l : List ByteArray) : List UInt8 := l.flatMap fun z => z.data.toList ++ [10]
theorem endL_app (l m : List ByteArray) : endL (l ++ m) = endL l ++ endL m := by simp [endL]
theorem endL_cons (z : ByteArray) (m : List ByteArray) : endL (z :: m) = z.data.toList ++ [10] ++ endL m := by simp [endL]
theorem endL_tail : ∀ r : List ByteArray, [10] ++ endL r = Lib.joinTail [10] (r.map (·.data.toList)) ++ [10]
  | [] => by simp [endL, Lib.joinTail]
  | y :: r => by
    have ih := endL_tail r
    have e : Lib.joinTail [10] ((y :: r).map (·.data.toList)) = [10] ++ (y.data.toList ++ Lib.joinTail [10] (r.map (·.data.toList))) := by simp [Lib.joinTail]
    rw [endL_cons, e, List.append_assoc, List.append_assoc, List.append_assoc, ← ih]
theorem endL_join {l : List ByteArray} (h : l ≠ []) : endL l = (joinN l).data.toList ++ [10] := by
  cases l with
  | nil => exact absurd rfl h
  | cons x r =>
    rw [endL_cons, joinN_list, List.map_cons, Lib.join_cons, List.append_assoc, List.append_assoc, endL_tail]
theorem endL_lines (s : ByteArray) : ∀ k n, n + k = cntN s s.size → endL (linesF s k n) = s.data.toList.drop (lsN s n) ++ [10]
  | 0, n, h => by
    obtain rfl : n = cntN s s.size := by omega
    have h1 := (ls_ok (Nat.le_refl (cntN s s.size))).1
    simp only [linesF, endL, List.flatMap_cons, List.flatMap_nil, List.append_nil]
    unfold lineS
    rw [eol_last, Lib.extract_data, List.take_of_length_le (by rw [List.length_drop, Array.length_toList]; exact Nat.le_refl _)]
  | k + 1, n, h => by
    have ih := endL_lines s k (n + 1) (by omega)
    obtain ⟨e1, e2⟩ := ls_next (s := s) (n := n) (by omega)
    have hn : n ≤ cntN s s.size := by omega
    obtain ⟨h1, _, _⟩ := ls_ok hn
    obtain ⟨e3, e4, e5, e6⟩ := eol_spec s h1
    rw [linesF, endL_cons, ih, e1]
    unfold lineS
    generalize lsN s n = a at *
    generalize eolN s a = z at *
    have hnl : isNl s z = true := by
      rcases e6 with g | g
      · omega
      · exact g
    have hb : s.data.toList[z]? = some 10 := by
      have := nl_or e2
      rw [hnl] at this
      have h9 : s[z] = 10 := by simpa using this.symm
      rw [List.getElem?_eq_getElem (by rw [Array.length_toList]; exact e2)]
      congr 1
    rw [Lib.extract_data]
    have hd : s.data.toList.drop a = (s.data.toList.drop a).take (z - a) ++ ([10] ++ s.data.toList.drop (z + 1)) := by
      conv => lhs; rw [← List.take_append_drop (z - a) (s.data.toList.drop a)]
      rw [List.drop_drop, show a + (z - a) = z by omega]
      congr 1
      have hz : z < s.data.toList.length := by rw [Array.length_toList]; exact e2
      rw [List.drop_eq_getElem_cons hz]
      rw [List.getElem?_eq_getElem hz] at hb
      injection hb with hb
      rw [hb]; rfl
    conv => rhs; rw [hd]
    simp
theorem lines_drop (s : ByteArray) {n : Nat} (hn : n ≤ cntN s s.size) : (linesL s).drop n = linesF s (cntN s s.size - n) n := by
  apply List.ext_getElem?
  intro j
  rw [List.getElem?_drop]
  rcases Nat.lt_or_ge (cntN s s.size) (n + j) with h | h
  · rw [List.getElem?_eq_none (by rw [linesL_len]; omega), List.getElem?_eq_none (by rw [linesF_len]; omega)]
  · rw [linesL_get s h, linesF_get s _ _ _ (by omega)]
/-- Cutting within line f is cutting out of the text. -/
theorem cut_one {s : ByteArray} {x y f : Nat} (hf : f ≤ cntN s s.size) (hxy : x ≤ y) (hy : y ≤ eolN s (lsN s f) - lsN s f) : joinN (rcU s x y f (f + 1)) = acX s ⟨#[]⟩ (lsN s f + x) (lsN s f + y) := by
  obtain ⟨h1, _, _⟩ := ls_ok hf
  obtain ⟨e1, e2, _, _⟩ := eol_spec s h1
  have hne : rcU s x y f (f + 1) ≠ [] := by intro e; have := rcU_len s x y f (f + 1); rw [e] at this; simp at this
  have hlen := linesL_len s
  have hget : (linesL s)[f]? = some (lineS s f) := linesL_get s hf
  have hfl : f < (linesL s).length := by omega
  have hsz := lineS_size hf
  have hz : (lineS s f) = s.extract (lsN s f) (eolN s (lsN s f)) := rfl
  have hset : rcU s x y f (f + 1) = (linesL s).take f ++ cutLn (lineS s f) x y :: (linesL s).drop (f + 1) := by
    rw [← rcU_step s x y f f (Nat.le_refl _) hf, rcU_start, List.set_eq_take_append_cons_drop, if_pos hfl]
  have hall : endL (linesL s) = s.data.toList ++ [10] := by
    have := endL_lines s (cntN s s.size) 0 (by omega)
    rw [ls_zero, List.drop_zero] at this
    exact this
  have hdr : endL ((linesL s).drop f) = s.data.toList.drop (lsN s f) ++ [10] := by
    rw [lines_drop s hf]
    exact endL_lines s _ f (by omega)
  have hcons : (linesL s).drop f = lineS s f :: (linesL s).drop (f + 1) := by
    rw [List.drop_eq_getElem_cons hfl]
    rw [List.getElem?_eq_getElem hfl] at hget
    injection hget with hget
    rw [hget]
  have htk : endL ((linesL s).take f) = s.data.toList.take (lsN s f) := by
    have h2 : endL ((linesL s).take f ++ (linesL s).drop f) = s.data.toList ++ [10] := by rw [List.take_append_drop]; exact hall
    rw [endL_app, hdr] at h2
    have h3 : s.data.toList.take (lsN s f) ++ (s.data.toList.drop (lsN s f) ++ [10]) = s.data.toList ++ [10] := by rw [← List.append_assoc, List.take_append_drop]
    exact List.append_cancel_right (h2.trans h3.symm)
  have hT : (lineS s f).data.toList ++ [10] ++ endL ((linesL s).drop (f + 1)) = s.data.toList.drop (lsN s f) ++ [10] := by
    rw [← endL_cons, ← hcons, hdr]
  apply ba_eq
  have hj : endL (rcU s x y f (f + 1)) = (joinN (rcU s x y f (f + 1))).data.toList ++ [10] := endL_join hne
  have goal : endL (rcU s x y f (f + 1)) = (acX s ⟨#[]⟩ (lsN s f + x) (lsN s f + y)).data.toList ++ [10] := by
    rw [hset, endL_app, endL_cons, htk]
    unfold acX cutLn
    rw [hsz, Nat.min_eq_left hy, Nat.min_eq_left (Nat.le_trans hxy hy)]
    simp only [ByteArray.data_append, Array.toList_append]
    have ha : (lineS s f).data.toList = (s.data.toList.drop (lsN s f)).take (eolN s (lsN s f) - lsN s f) := by rw [hz, Lib.extract_data]
    have l1 : s.data.toList.length = s.size := Array.length_toList ..
    rw [ha] at hT
    rw [Lib.extract_data, Lib.extract_data, Lib.extract_data, Lib.extract_data, ha]
    generalize eolN s (lsN s f) - lsN s f = m at *
    generalize lsN s f = a at *
    generalize endL ((linesL s).drop (f + 1)) = T at *
    generalize s.data.toList = l at *
    have hD : (l.drop a).drop y ++ [10] = ((l.drop a).take m).drop y ++ [10] ++ T := by
      have h5 : (l.drop a).take m = ((l.drop a).take m).take y ++ ((l.drop a).take m).drop y := (List.take_append_drop _ _).symm
      have h6 : ((l.drop a).take m).take y = (l.drop a).take y := by rw [List.take_take, Nat.min_eq_left hy]
      have h7 : l.drop a ++ [10] = (l.drop a).take y ++ ((l.drop a).drop y ++ [10]) := by rw [← List.append_assoc, List.take_append_drop]
      rw [h5, h6, h7] at hT
      simp only [List.append_assoc] at hT ⊢
      exact (List.append_cancel_left hT).symm
    have t1 : (((l.drop a).take m).drop 0).take (x - 0) = (l.drop a).take x := by rw [List.drop_zero, Nat.sub_zero, List.take_take, Nat.min_eq_left (Nat.le_trans hxy hy)]
    have t2 : (((l.drop a).take m).drop y).take (m - y) = ((l.drop a).take m).drop y := List.take_of_length_le (by rw [List.length_drop, List.length_take]; omega)
    have t3 : (l.drop 0).take (a + x - 0) = l.take a ++ (l.drop a).take x := by rw [List.drop_zero, Nat.sub_zero, List.take_add]
    have t4 : (l.drop (a + y)).take (s.size - (a + y)) = (l.drop a).drop y := by rw [List.drop_drop]; exact List.take_of_length_le (by rw [List.length_drop]; omega)
    rw [t1, t2, t3, t4]
    have e0 : (⟨#[]⟩ : ByteArray).data.toList = [] := rfl
    simp only [List.append_assoc, e0, List.nil_append]
    congr 1
    congr 1
    simp only [List.append_assoc] at hD
    exact hD.symm
  exact List.append_cancel_right (hj.symm.trans goal)
/-- What is said of a text without a rectangle. -/
theorem rt_all {s : ByteArray} {a b : Int} (h : rcOk s a b = true) : ((rtC s a b).size : Int) = s.size - lens (rcL s a b) ∧ lmI (rtC s a b) = lmI s ∧ (rtC s a b).size ≤ 120 ∧
    ((rcL s a b).length = 1 → ∃ p q : Nat, min a b = (p : Int) ∧ max a b = (q : Int) ∧ p ≤ q ∧ q ≤ s.size ∧ rtC s a b = acX s ⟨#[]⟩ p q ∧ valid s.data.toList = true ∧ valid (acX s ⟨#[]⟩ p q).data.toList = true) := by
  obtain ⟨f, t, x, y, h1, h2, h3, h4, hft, htc, hxy, hy, h120, hv, hpa, hpb, hL⟩ := rc_nat h
  have hr : rtC s a b = joinN (rcU s x y f (t + 1)) := by
    unfold rtC
    rw [if_pos hv, if_pos h, h1, h2, h3, h4]; rfl
  have hsz := rcU_size (s := s) hxy (show f ≤ t + 1 by omega) (show t + 1 ≤ cntN s s.size + 1 by omega)
  have hne : rcU s x y f (t + 1) ≠ [] := by intro e; have := rcU_len s x y f (t + 1); rw [e] at this; simp at this
  obtain ⟨v1, v2⟩ := joinN_many hne (rcU_ok hv x y f (t + 1)) (by omega)
  rw [hr]
  refine ⟨by rw [hL]; omega, ?_, by omega, fun h1l => ?_⟩
  · rw [v2, rcU_len, lm_cnt hv]; omega
  · have htf : t = f := by rw [hL, rcG_len] at h1l; omega
    subst htf
    obtain ⟨na, rfl, ga1, ga2, ga3, ga4⟩ := pl_nat hpa
    obtain ⟨nb, rfl, gb1, gb2, gb3, gb4⟩ := pl_nat hpb
    rw [ga2, gb2] at h1 h2
    rw [ga3, gb3] at h3 h4
    have ca : cntN s na = t := by omega
    have cb : cntN s nb = t := by omega
    have la := ls_of s ga1
    have lb := ls_of s gb1
    rw [ca] at la
    rw [cb] at lb
    have ba := (bol_spec s na).1
    have bb := (bol_spec s nb).1
    have ea := (bol_eol ga1).2
    have eb := (bol_eol gb1).2
    rw [← la] at ba ea h3 h4
    rw [← lb] at bb eb h3 h4
    have hx := cut_one (s := s) (x := x) (y := y) htc hxy (by omega)
    refine ⟨lsN s t + x, lsN s t + y, by omega, by omega, by omega, by omega, hx, hv, by rw [← hx]; exact v1⟩
end Go.Proofs.YthcijegcnecnmaaDoor
