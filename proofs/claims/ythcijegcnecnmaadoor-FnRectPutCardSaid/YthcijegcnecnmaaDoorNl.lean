/- Lines, in plain words: how many line ends lie before a place, where a line begins and ends. No program here. -/
import Derived.Test.YthcijegcnecnmaaDoorPv
import Derived.Test.YthcijegcnecnmaaDoorAl
set_option linter.unusedVariables false
set_option linter.unusedSimpArgs false
namespace Go.Proofs.YthcijegcnecnmaaDoor

def isNl (s : ByteArray) (k : Nat) : Bool := decide (byteI s k = 10)
/-- The number of line ends before place k. -/
def cntN (s : ByteArray) : Nat → Nat
  | 0 => 0
  | k + 1 => cntN s k + if isNl s k = true then 1 else 0
/-- Where the line of place k begins. -/
def bolN (s : ByteArray) : Nat → Nat
  | 0 => 0
  | k + 1 => if isNl s k = true then k + 1 else bolN s k
def eolF (s : ByteArray) : Nat → Nat → Nat
  | 0, k => k
  | n + 1, k => if isNl s k = true then k else eolF s n (k + 1)
/-- Where the line of place k ends. -/
def eolN (s : ByteArray) (k : Nat) : Nat := eolF s (s.size - k) k
/-- The least place, m at most, with at least n line ends before it. -/
def lsS (s : ByteArray) (n : Nat) : Nat → Nat
  | 0 => 0
  | m + 1 => if n ≤ cntN s m then lsS s n m else m + 1
/-- Where line n begins. -/
def lsN (s : ByteArray) (n : Nat) : Nat := lsS s n s.size

theorem nl_lt {s : ByteArray} {k : Nat} (h : isNl s k = true) : k < s.size := by
  unfold isNl byteI at h
  split at h
  · assumption
  · simp at h
theorem nl_at {s : ByteArray} {k : Nat} (hk : k < s.size) : isNl s k = ((s[k].toNat : Int) == 10) := by
  unfold isNl; rw [byteI_at hk, Bool.eq_iff_iff]; simp
theorem cnt_s (s : ByteArray) (k : Nat) : cntN s (k + 1) = cntN s k + if isNl s k = true then 1 else 0 := rfl
theorem cnt_le_s (s : ByteArray) (k : Nat) : cntN s k ≤ cntN s (k + 1) ∧ cntN s (k + 1) ≤ cntN s k + 1 := by rw [cnt_s]; split <;> omega
theorem cnt_mono (s : ByteArray) {a b : Nat} (h : a ≤ b) : cntN s a ≤ cntN s b := by
  induction h with
  | refl => exact Nat.le_refl _
  | step _ ih => exact Nat.le_trans ih (cnt_le_s s _).1
theorem cnt_le (s : ByteArray) (k : Nat) : cntN s k ≤ k := by
  induction k with
  | zero => exact Nat.le_refl _
  | succ k ih => have := (cnt_le_s s k).2; omega
theorem cnt_size (s : ByteArray) {k : Nat} (h : s.size ≤ k) : cntN s k = cntN s s.size := by
  revert h
  induction k with
  | zero => intro h; rw [show s.size = 0 by omega]
  | succ m ih =>
    intro h
    rcases Nat.lt_or_ge m s.size with h1 | h1
    · rw [show s.size = m + 1 by omega]
    · rw [cnt_s, ih h1, if_neg]
      · rfl
      · intro hn; have := nl_lt hn; omega
theorem ls_spec {s : ByteArray} {n : Nat} : ∀ m, n ≤ cntN s m → lsS s n m ≤ m ∧ cntN s (lsS s n m) = n ∧ ∀ j, j < lsS s n m → cntN s j < n
  | 0, h => ⟨Nat.le_refl _, by show 0 = n; have : cntN s 0 = 0 := rfl; omega, fun j hj => absurd hj (by show ¬ j < 0; omega)⟩
  | m + 1, h => by
    unfold lsS
    by_cases hn : n ≤ cntN s m
    · rw [if_pos hn]
      obtain ⟨h1, h2, h3⟩ := ls_spec m hn
      exact ⟨by omega, h2, h3⟩
    · rw [if_neg hn]
      refine ⟨Nat.le_refl _, ?_, fun j hj => ?_⟩
      · have := (cnt_le_s s m).2; omega
      · have := cnt_mono s (show j ≤ m by omega); omega
theorem ls_uniq {s : ByteArray} {n k : Nat} (hk : k ≤ s.size) (hc : cntN s k = n) (hl : ∀ j, j < k → cntN s j < n) : lsN s n = k := by
  have hn : n ≤ cntN s s.size := by rw [← hc]; exact cnt_mono s hk
  obtain ⟨h1, h2, h3⟩ := ls_spec s.size hn
  unfold lsN
  rcases Nat.lt_trichotomy (lsS s n s.size) k with h | h | h
  · have := hl _ h; omega
  · exact h
  · have := h3 _ h; omega
theorem bol_spec (s : ByteArray) : ∀ k, bolN s k ≤ k ∧ cntN s (bolN s k) = cntN s k ∧ (∀ j, j < bolN s k → cntN s j < cntN s k) ∧ (bolN s k = 0 ∨ isNl s (bolN s k - 1) = true) ∧ (∀ j, bolN s k ≤ j → j < k → isNl s j = false)
  | 0 => ⟨Nat.le_refl _, rfl, fun j hj => absurd hj (by show ¬ j < 0; omega), .inl rfl, fun j _ h => by omega⟩
  | k + 1 => by
    obtain ⟨h1, h2, h3, h4, h5⟩ := bol_spec s k
    unfold bolN
    cases hn : isNl s k
    · rw [if_neg (by simp)]
      have hc : cntN s (k + 1) = cntN s k := by rw [cnt_s, hn]; simp
      rw [hc]
      refine ⟨by omega, h2, h3, h4, fun j hj1 hj2 => ?_⟩
      rcases Nat.lt_or_ge j k with h6 | h6
      · exact h5 j hj1 h6
      · obtain rfl : j = k := by omega
        exact hn
    · rw [if_pos rfl]
      refine ⟨Nat.le_refl _, rfl, fun j hj => ?_, .inr (by simpa using hn), fun j h6 h7 => by omega⟩
      have h6 := cnt_mono s (show j ≤ k by omega)
      have h7 : cntN s (k + 1) = cntN s k + 1 := by rw [cnt_s, hn]; simp
      omega
theorem ls_of (s : ByteArray) {k : Nat} (hk : k ≤ s.size) : lsN s (cntN s k) = bolN s k := by
  obtain ⟨h1, h2, h3, h4, h5⟩ := bol_spec s k
  exact ls_uniq (by omega) h2 h3
theorem eolF_spec (s : ByteArray) : ∀ n k, k + n = s.size → k ≤ eolF s n k ∧ eolF s n k ≤ s.size ∧ (∀ j, k ≤ j → j < eolF s n k → isNl s j = false) ∧ (eolF s n k = s.size ∨ isNl s (eolF s n k) = true)
  | 0, k, h => ⟨Nat.le_refl _, by show k ≤ s.size; omega, fun j h1 h2 => absurd h2 (by show ¬ j < k; omega), .inl (by show k = s.size; omega)⟩
  | n + 1, k, h => by
    unfold eolF
    cases hn : isNl s k
    · rw [if_neg (by simp)]
      obtain ⟨h1, h2, h3, h4⟩ := eolF_spec s n (k + 1) (by omega)
      refine ⟨by omega, h2, fun j hj1 hj2 => ?_, h4⟩
      rcases Nat.lt_or_ge k j with h5 | h5
      · exact h3 j (by omega) hj2
      · obtain rfl : j = k := by omega
        exact hn
    · rw [if_pos rfl]
      exact ⟨Nat.le_refl _, by omega, fun j h1 h2 => by omega, .inr hn⟩
theorem eol_spec (s : ByteArray) {k : Nat} (hk : k ≤ s.size) : k ≤ eolN s k ∧ eolN s k ≤ s.size ∧ (∀ j, k ≤ j → j < eolN s k → isNl s j = false) ∧ (eolN s k = s.size ∨ isNl s (eolN s k) = true) := eolF_spec s _ k (by omega)
theorem cnt_const {s : ByteArray} {a : Nat} : ∀ b, a ≤ b → (∀ j, a ≤ j → j < b → isNl s j = false) → cntN s b = cntN s a
  | 0, h, _ => by obtain rfl : a = 0 := by omega
                  rfl
  | b + 1, h, hn => by
    rcases Nat.eq_or_lt_of_le h with rfl | h'
    · rfl
    · rw [cnt_s, hn b (by omega) (by omega)]
      simp only [Bool.false_eq_true, if_false, Nat.add_zero]
      exact cnt_const b (by omega) fun j h1 h2 => hn j h1 (by omega)
theorem eol_uniq {s : ByteArray} {k e : Nat} (hk : k ≤ s.size) (h1 : k ≤ e) (h2 : e ≤ s.size) (h3 : ∀ j, k ≤ j → j < e → isNl s j = false) (h4 : e = s.size ∨ isNl s e = true) : eolN s k = e := by
  obtain ⟨g1, g2, g3, g4⟩ := eol_spec s hk
  rcases Nat.lt_trichotomy (eolN s k) e with h | h | h
  · rcases g4 with g | g
    · omega
    · rw [h3 _ g1 h] at g; cases g
  · exact h
  · rcases h4 with g | g
    · omega
    · rw [g3 _ h1 h] at g; cases g
/-- All places of a line have one end. -/
theorem eol_same {s : ByteArray} {a b : Nat} (hab : a ≤ b) (hb : b ≤ eolN s a) (ha : a ≤ s.size) : eolN s b = eolN s a := by
  obtain ⟨g1, g2, g3, g4⟩ := eol_spec s ha
  exact eol_uniq (by omega) hb g2 (fun j h1 h2 => g3 j (by omega) h2) g4
theorem bol_eol {s : ByteArray} {k : Nat} (hk : k ≤ s.size) : eolN s (bolN s k) = eolN s k ∧ k ≤ eolN s (bolN s k) := by
  obtain ⟨h1, h2, h3, h4, h5⟩ := bol_spec s k
  obtain ⟨g1, g2, g3, g4⟩ := eol_spec s hk
  have : eolN s (bolN s k) = eolN s k := eol_uniq (by omega) (by omega) g2 (fun j h6 h7 => by
    rcases Nat.lt_or_ge j k with h8 | h8
    · exact h5 j h6 h8
    · exact g3 j h8 h7) g4
  exact ⟨this, by omega⟩
theorem cnt_eol {s : ByteArray} {k : Nat} (hk : k ≤ s.size) : cntN s (eolN s k) = cntN s k := by
  obtain ⟨g1, g2, g3, g4⟩ := eol_spec s hk
  exact cnt_const _ g1 g3
theorem nl_or {s : ByteArray} {k : Nat} (hk : k < s.size) : isNl s k = decide (s[k] = 10) := by
  rw [nl_at hk, Bool.eq_iff_iff]
  simp only [beq_iff_eq, decide_eq_true_eq]
  constructor
  · intro h
    apply UInt8.toNat_inj.1
    have : s[k].toNat = 10 := by omega
    rw [this]; rfl
  · intro h; rw [h]; rfl
/-- The number of line ends, as the library counts. -/
theorem nls_cnt (s : ByteArray) : ∀ k, k ≤ s.size → nls (s.data.toList.take k) = cntN s k
  | 0, _ => by simp [nls, Lib.countByte, cntN]
  | k + 1, h => by
    have hk : k < s.size := by omega
    have hkl : k < s.data.toList.length := by simpa using hk
    rw [List.take_succ_eq_append_getElem hkl, cnt_s, ← nls_cnt s k (by omega)]
    unfold nls Lib.countByte
    rw [List.count_append, nl_or hk]
    congr 1
    have e : s.data.toList[k] = s[k] := by rw [Array.getElem_toList]; rfl
    rw [e, List.count_singleton]
    by_cases h10 : s[k] = 10 <;> simp [h10]
theorem nls_all (s : ByteArray) : nls s.data.toList = cntN s s.size := by
  rw [← nls_cnt s s.size (Nat.le_refl _), List.take_of_length_le (by simp)]
def loI (s : ByteArray) (p : Int) : Int := if place s p = true then cntN s p.toNat else -1
def coI (s : ByteArray) (p : Int) : Int := if place s p = true then p - bolN s p.toNat else -1
def lineOk (s : ByteArray) (l : Int) : Bool := valid s.data.toList && inI l 0 (cntN s s.size)
def lsI (s : ByteArray) (l : Int) : Int := if lineOk s l = true then lsN s l.toNat else -1
def leI (s : ByteArray) (l : Int) : Int := if lineOk s l = true then eolN s (lsN s l.toNat) else -1
def paI (s : ByteArray) (l c : Int) : Int := if lineOk s l = true ∧ 0 ≤ c then lsN s l.toNat + min c (eolN s (lsN s l.toNat) - lsN s l.toNat) else -1
theorem lm_cnt {s : ByteArray} (h : valid s.data.toList = true) : lmI s = 1 + cntN s s.size := by unfold lmI; rw [if_pos h, nls_all]
theorem lineOk_nat {s : ByteArray} {l : Int} (h : lineOk s l = true) : ∃ n : Nat, l = n ∧ n ≤ cntN s s.size ∧ valid s.data.toList = true := by
  simp [lineOk, inI] at h
  obtain ⟨n, rfl⟩ := Int.eq_ofNat_of_zero_le h.2.1
  exact ⟨n, rfl, by omega, h.1⟩
theorem lineOk_no {s : ByteArray} {l : Int} (h : ¬ lineOk s l = true) : valid s.data.toList = false ∨ (valid s.data.toList = true ∧ inI l 0 (cntN s s.size) = false) := by
  cases hv : valid s.data.toList
  · exact .inl rfl
  · exact .inr ⟨rfl, by simpa [lineOk, hv] using h⟩
/-- The beginning of a line that is there. -/
theorem ls_ok {s : ByteArray} {n : Nat} (h : n ≤ cntN s s.size) : lsN s n ≤ s.size ∧ cntN s (lsN s n) = n ∧ (∀ j, j < lsN s n → cntN s j < n) := ls_spec s.size h
theorem bol_ls {s : ByteArray} {n : Nat} (h : n ≤ cntN s s.size) : bolN s (lsN s n) = lsN s n := by
  obtain ⟨h1, h2, h3⟩ := ls_ok h
  have := ls_of s h1
  rw [h2] at this
  exact this.symm
/-- A place of line n, between its beginning and its end. -/
theorem line_in {s : ByteArray} {n k : Nat} (h : n ≤ cntN s s.size) (h1 : lsN s n ≤ k) (h2 : k ≤ eolN s (lsN s n)) : cntN s k = n ∧ bolN s k = lsN s n ∧ eolN s k = eolN s (lsN s n) ∧ k ≤ s.size := by
  obtain ⟨g1, g2, g3⟩ := ls_ok h
  obtain ⟨e1, e2, e3, e4⟩ := eol_spec s g1
  have hc : cntN s k = n := by rw [cnt_const k h1 (fun j h3 h4 => e3 j h3 (by omega)), g2]
  refine ⟨hc, ?_, eol_same h1 h2 g1, by omega⟩
  have := ls_of s (show k ≤ s.size by omega)
  rw [hc] at this
  exact this.symm
/-- The beginnings of the lines, as far as place k. -/
def startsL (s : ByteArray) : Nat → List Int
  | 0 => [0]
  | k + 1 => startsL s k ++ if isNl s k = true then [((k + 1 : Nat) : Int)] else []
theorem startsL_len (s : ByteArray) : ∀ k, (startsL s k).length = cntN s k + 1
  | 0 => rfl
  | k + 1 => by
    unfold startsL
    rw [List.length_append, startsL_len s k, cnt_s]
    split <;> simp
theorem startsL_get (s : ByteArray) : ∀ k, k ≤ s.size → ∀ n, n ≤ cntN s k → (startsL s k)[n]? = some (lsN s n : Int)
  | 0, _, n, hn => by
    obtain rfl : n = 0 := by simpa [cntN] using hn
    have : lsN s 0 = 0 := ls_uniq (Nat.zero_le _) rfl fun j hj => by omega
    rw [this]; rfl
  | k + 1, hk, n, hn => by
    unfold startsL
    by_cases h : n ≤ cntN s k
    · rw [List.getElem?_append_left (by rw [startsL_len]; omega)]
      exact startsL_get s k (by omega) n h
    · have h1 := (cnt_le_s s k).2
      have hnl : isNl s k = true := by
        cases hc : isNl s k
        · rw [cnt_s, hc] at hn; simp at hn; omega
        · rfl
      have hcn : cntN s (k + 1) = n := by omega
      rw [List.getElem?_append_right (by rw [startsL_len]; omega), startsL_len, if_pos hnl, show n - (cntN s k + 1) = 0 by omega]
      rw [ls_uniq hk hcn fun j hj => by have := cnt_mono s (show j ≤ k by omega); omega]
      rfl
end Go.Proofs.YthcijegcnecnmaaDoor
