/- A pattern of letters matches where the text is found. No program here. -/
import Derived.Test.YtkjippbnpaaaaaaMn
import Derived.Test.YtkjippbnpaaaaaaNl
import Derived.Test.YtkjippbnpaaaaaaPl
set_option linter.unusedVariables false
set_option linter.unusedSimpArgs false
namespace Go.Proofs.Ytkjippbnpaaaaaa

def ltrB (p : ByteArray) : Bool := (List.range p.size).all fun k => decide (97 ≤ byteI p k ∧ byteI p k ≤ 122)
theorem ltr_at {p : ByteArray} : ltrB p = true ↔ ∀ k, k < p.size → 97 ≤ byteI p k ∧ byteI p k ≤ 122 := by
  unfold ltrB; rw [List.all_eq_true]; simp
theorem ltr_pat {p : ByteArray} (h : ltrB p = true) (hs : p.size ≤ 20) : patV p = true := by
  have h1 := ltr_at.1 h
  have : ∀ m, m ≤ p.size → allGood p m = true := by
    intro m
    induction m with
    | zero => intro _; rfl
    | succ m ih =>
      intro hm
      refine allGood_succ (ih (by omega)) ?_
      have := h1 m (by omega)
      unfold goodAt
      apply decide_eq_true
      omega
  unfold patV
  rw [this p.size (Nat.le_refl _)]
  simp [hs]
theorem ltr_star {p : ByteArray} (h : ltrB p = true) (i : Nat) : starAt p i = false := by
  unfold starAt
  apply decide_eq_false
  rintro ⟨h1, h2⟩
  have := ltr_at.1 h _ h1
  omega
/-- The first i bytes of p stand at place m. -/
def mtN (p s : ByteArray) (m : Nat) : Nat → Bool
  | 0 => true
  | i + 1 => mtN p s m i && decide (byteI p i = byteI s (m + i))
theorem mt_iff (p s : ByteArray) (m : Nat) : ∀ n, mtN p s m n = true ↔ ∀ k, k < n → byteI p k = byteI s (m + k)
  | 0 => by simp [mtN]
  | n + 1 => by
    simp only [mtN, Bool.and_eq_true, decide_eq_true_eq]
    rw [mt_iff p s m n]
    constructor
    · rintro ⟨h1, h2⟩ k hk
      rcases Nat.lt_or_ge k n with h | h
      · exact h1 k h
      · obtain rfl : k = n := by omega
        exact h2
    · intro h
      exact ⟨fun k hk => h k (by omega), h n (by omega)⟩
theorem ends_ltr {p s : ByteArray} {m : Nat} (h : ltrB p = true) : ∀ k i, p.size - i ≤ k → i ≤ p.size → endsF p s m k i (fun j => decide (j = m + i) && mtN p s m i) = fun j => decide (j = m + p.size) && mtN p s m p.size
  | 0, i, hk, hi => by
    obtain rfl : i = p.size := by omega
    rfl
  | k + 1, i, hk, hi => by
    rcases Nat.lt_or_ge i p.size with h1 | h1
    · rw [ends_step h1, ltr_star h, if_neg (by simp)]
      have hb := ltr_at.1 h i h1
      have : nxF s m (byteI p i) false (fun j => decide (j = m + i) && mtN p s m i) = fun j => decide (j = m + (i + 1)) && mtN p s m (i + 1) := by
        rw [nx_byte (by omega) (by omega)]
        funext j
        simp only [mtN]
        by_cases hj : j = m + (i + 1)
        · subst hj
          have e1 : m + (i + 1) - 1 = m + i := by omega
          rw [e1, decide_eq_true (show m < m + (i + 1) by omega)]
          have : fitB (byteI p i) (byteI s (m + i)) = decide (byteI p i = byteI s (m + i)) := by
            unfold fitB
            apply decide_eq_decide.2
            omega
          rw [this]
          simp
        · rw [decide_eq_false hj]
          by_cases hm : m < j
          · rw [decide_eq_false (show ¬ j - 1 = m + i by omega)]; simp
          · rw [decide_eq_false hm]; simp
      rw [this]
      exact ends_ltr h k (i + 1) (by omega) (by omega)
    · obtain rfl : i = p.size := by omega
      rw [ends_done (by omega)]
theorem me_ltr {p s : ByteArray} {m : Nat} (h : ltrB p = true) (hs : p.size ≤ 20) (hpl : place s m = true) : meI p s m = if m + p.size ≤ s.size ∧ mtN p s m p.size = true then ((m + p.size : Nat) : Int) else -1 := by
  have e : meI p s m = topF (endsF p s m p.size 0 (startF m)) (s.size + 1) := by
    unfold meI; rw [if_pos (by unfold meOk; rw [ltr_pat h hs, hpl]; rfl)]; rfl
  have hst : startF m = fun j => decide (j = m + 0) && mtN p s m 0 := by funext j; simp [startF, mtN]
  rw [e, hst, ends_ltr h p.size 0 (by omega) (Nat.zero_le _)]
  by_cases hc : m + p.size ≤ s.size ∧ mtN p s m p.size = true
  · rw [if_pos hc]
    rcases topF_range (fun j => decide (j = m + p.size) && mtN p s m p.size) (s.size + 1) with h1 | ⟨k, h1, h2, h3, h4⟩
    · exfalso
      have : ∀ n, m + p.size < n → topF (fun j => decide (j = m + p.size) && mtN p s m p.size) n ≠ -1 := by
        intro n
        induction n with
        | zero => intro h; omega
        | succ n ih =>
          intro hn
          by_cases hh : n = m + p.size
          · rw [topF_hit (by simp [hh, hc.2])]; omega
          · rw [topF_miss (by simp [hh])]; exact ih (by omega)
      exact this _ (by omega) h1
    · rw [h1]
      have : k = m + p.size := by simpa using (Bool.and_eq_true _ _ |>.mp h3).1
      omega
  · rw [if_neg hc]
    apply topF_none
    intro j hj
    by_cases hj2 : j = m + p.size
    · cases hm : mtN p s m p.size
      · simp
      · exact absurd ⟨by omega, hm⟩ hc
    · simp [hj2]
theorem byteI_get (s : ByteArray) (k : Nat) : byteI s k = ((s.data.toList[k]?).map (fun b : UInt8 => (b.toNat : Int))).getD 0 := by
  unfold byteI
  split
  · rename_i h
    rw [List.getElem?_eq_getElem (by simpa using h), Array.getElem_toList]; rfl
  · rename_i h
    rw [List.getElem?_eq_none (by simpa using h)]; rfl
theorem data_ne {p : ByteArray} (h0 : 0 < p.size) : p.data.toList ≠ [] := by
  intro e
  have h5 : p.data.toList.length = 0 := by rw [e]; rfl
  have h6 : p.data.toList.length = p.size := by simp
  omega
theorem occ_mt {s p : ByteArray} {m : Nat} (h0 : 0 < p.size) : occ s p m = decide (m + p.size ≤ s.size ∧ mtN p s m p.size = true) := by
  by_cases hr : m + p.size ≤ s.size
  · unfold occ
    rw [Lib.occAt_iff_take _ _ _ (by simpa using hr), Bool.eq_iff_iff]
    simp only [beq_iff_eq, decide_eq_true_eq]
    rw [mt_iff]
    constructor
    · intro h
      refine ⟨hr, fun k hk => ?_⟩
      rw [byteI_get, byteI_get, ← h, List.getElem?_take, if_pos (by simpa using hk), List.getElem?_drop]
    · rintro ⟨_, h⟩
      apply List.ext_getElem?
      intro k
      rcases Nat.lt_or_ge k p.size with hk | hk
      · have := h k hk
        rw [byteI_at hk, byteI_at (show m + k < s.size by omega)] at this
        have h2 : p[k] = s[m + k] := UInt8.toNat_inj.1 (by omega)
        rw [List.getElem?_take, if_pos (by simpa using hk), List.getElem?_drop, List.getElem?_eq_getElem (by simp; omega), List.getElem?_eq_getElem (by simpa using hk), Array.getElem_toList, Array.getElem_toList]
        exact congrArg some h2.symm
      · rw [List.getElem?_eq_none (by simp; omega), List.getElem?_eq_none (by simpa using hk)]
  · rw [occ_room (data_ne h0) (by omega), decide_eq_false (fun h => hr h.1)]
/-- The first match is the first place. -/
theorem mn_ltr {p s : ByteArray} (h : ltrB p = true) (hs : p.size ≤ 20) (h0 : 0 < p.size) (a : Int) : mnA p s a = fnI s p a ∧ (0 ≤ mnA p s a → meI p s (mnA p s a) = mnA p s a + p.size) := by
  have hne : p.toList.isEmpty = false := by
    cases hx : p.toList.isEmpty
    · rfl
    · have := what_eq hx
      rw [Lib.toList_data] at this
      have h5 : p.data.toList.length = 0 := by rw [this]; rfl
      have h6 : p.data.toList.length = p.size := by simp
      omega
  by_cases hpl : place s a = true
  · obtain ⟨m, rfl, hm⟩ := place_nat hpl
    have hok : fnOk s p m = true := by unfold fnOk; rw [hpl, hne]; rfl
    have hfn : fnI s p m = fnN s p m := by unfold fnI; rw [if_pos hok]; rfl
    have hv := (placeS hpl).1
    have hG : ∀ k, k ≤ s.size → mnG p s k = occ s p k := fun k hk => by
      have hpk : place s k = true := by unfold place inI; rw [hv]; simp; omega
      unfold mnG
      rw [me_ltr h hs hpk, occ_mt h0]
      split
      · rename_i hc; rw [decide_eq_true hc, decide_eq_true (by omega)]
      · rename_i hc; rw [decide_eq_false hc, decide_eq_false (by omega)]
    have e : mnA p s m = firstF (mnG p s) (s.size + 1 - m) m := by unfold mnA; rw [if_pos hpl]; rfl
    rw [hfn, e]
    rcases first_range (mnG p s) (s.size + 1 - m) m with h1 | ⟨k, h1, h2, h3, h4, h5⟩
    · rw [h1]
      refine ⟨?_, fun h => by omega⟩
      rw [fnN_none (fun j h6 h7 => by rw [← hG j h7]; exact first_spec h1 j h6 (by omega)) hm]
    · rw [h1]
      have hk : k ≤ s.size := by omega
      refine ⟨(fnN_hit h2 hk (by rw [← hG k hk]; exact h4) fun j h6 h7 => by rw [← hG j (by omega)]; exact h5 j h6 h7).symm, fun _ => ?_⟩
      have hpk : place s k = true := by unfold place inI; rw [hv]; simp; omega
      rw [hG k hk, occ_mt h0, decide_eq_true_eq] at h4
      rw [me_ltr h hs hpk, if_pos h4]
      omega
  · have e1 : mnA p s a = -1 := by unfold mnA; rw [if_neg hpl]
    have e2 : fnI s p a = -1 := by unfold fnI; rw [if_neg (by unfold fnOk; simp [hpl])]
    rw [e1, e2]
    exact ⟨rfl, fun h => by omega⟩
theorem ma_ltr {p s : ByteArray} (h : ltrB p = true) (hs : p.size ≤ 20) (h0 : 0 < p.size) : ∀ n a, maRest p s n a = (fpRest s p n (fnI s p a)).map fun x => (x, x + (p.size : Int))
  | 0, _ => rfl
  | n + 1, a => by
    obtain ⟨h1, h2⟩ := mn_ltr (s := s) h hs h0 a
    simp only [maRest, fpRest]
    cases ho : mnOk p s a
    · have := (mn_no ho).1
      rw [if_neg (by simp), if_pos (by omega)]; rfl
    · have h3 : 0 ≤ mnA p s a := by simpa [mnOk] using ho
      have e1 : mnFrom p s a = fnI s p a := by unfold mnFrom; rw [if_pos h3, h1]
      have e2 : mnTo p s a = fnI s p a + p.size := by unfold mnTo; rw [if_pos h3, h2 h3, h1]
      rw [if_pos rfl, if_neg (by omega), e1, e2, List.map_cons, show max (fnI s p a + (p.size : Int)) (fnI s p a + 1) = fnI s p a + p.size by omega, ma_ltr h hs h0 n]
theorem maL_ltr {p s : ByteArray} (h : ltrB p = true) (hs : p.size ≤ 20) (h0 : 0 < p.size) : maL p s = (fpL s p).map fun x => (x, x + (p.size : Int)) := ma_ltr h hs h0 _ _
end Go.Proofs.Ytkjippbnpaaaaaa
