/- The rows of a text in a window, in plain words. No program here. -/
import Derived.Test.YtglnkcggcgbaiaaDoorLs
set_option linter.unusedVariables false
set_option linter.unusedSimpArgs false
namespace Go.Proofs.YtglnkcggcgbaiaaDoor

/-- How many of the first k bytes from place a on go as far as the last space among them (0: there is none). -/
def lastSp (s : ByteArray) (a : Nat) : Nat → Nat
  | 0 => 0
  | k + 1 => if byteI s (a + k) = 32 then k + 1 else lastSp s a k
/-- Where a row that begins at a, of a line that does not fit, ends. -/
def cutAt (s : ByteArray) (a W : Nat) : Nat := if lastSp s a W = 0 then a + W else a + lastSp s a W
/-- The rows of what is left of a line that ends at e, from a on. -/
def wrapF (s : ByteArray) (W e : Nat) : Nat → Nat → List (Int × Int)
  | 0, a => [((a : Int), (e : Int))]
  | n + 1, a => if W < e - a then ((a : Int), (cutAt s a W : Int)) :: wrapF s W e n (cutAt s a W) else [((a : Int), (e : Int))]
def wrapLn (s : ByteArray) (W n : Nat) : List (Int × Int) := wrapF s W (eolN s (lsN s n)) (eolN s (lsN s n) - lsN s n) (lsN s n)
def rowsF (s : ByteArray) (W : Nat) : Nat → Nat → List (Int × Int)
  | 0, _ => []
  | k + 1, n => wrapLn s W n ++ rowsF s W k (n + 1)
def wOk (s : ByteArray) (W : Int) : Bool := valid s.data.toList && inI W 4 40
def rowsL (s : ByteArray) (W : Int) : List (Int × Int) := if wOk s W = true then rowsF s W.toNat (cntN s s.size + 1) 0 else []

theorem lastSp_le (s : ByteArray) (a : Nat) : ∀ k, lastSp s a k ≤ k
  | 0 => Nat.le_refl _
  | k + 1 => by
    unfold lastSp; split
    · exact Nat.le_refl _
    · have := lastSp_le s a k; omega
theorem lastSp_spec (s : ByteArray) (a : Nat) : ∀ k, (lastSp s a k = 0 ∧ ∀ j, j < k → byteI s (a + j) ≠ 32) ∨ ∃ j, lastSp s a k = j + 1 ∧ j < k ∧ byteI s (a + j) = 32 ∧ ∀ i, j < i → i < k → byteI s (a + i) ≠ 32
  | 0 => .inl ⟨rfl, fun j h => by omega⟩
  | k + 1 => by
    unfold lastSp
    by_cases h : byteI s (a + k) = 32
    · rw [if_pos h]; exact .inr ⟨k, rfl, by omega, h, fun i h1 h2 => by omega⟩
    · rw [if_neg h]
      rcases lastSp_spec s a k with ⟨h1, h2⟩ | ⟨j, h1, h2, h3, h4⟩
      · refine .inl ⟨h1, fun j hj => ?_⟩
        rcases Nat.lt_or_ge j k with h5 | h5
        · exact h2 j h5
        · obtain rfl : j = k := by omega
          exact h
      · refine .inr ⟨j, h1, by omega, h3, fun i h5 h6 => ?_⟩
        rcases Nat.lt_or_ge i k with h7 | h7
        · exact h4 i h5 h7
        · obtain rfl : i = k := by omega
          exact h
theorem cut_spec (s : ByteArray) (a : Nat) {W : Nat} (hW : 0 < W) : a < cutAt s a W ∧ cutAt s a W ≤ a + W ∧ (cutAt s a W = a + W ∨ byteI s (cutAt s a W - 1) = 32) := by
  unfold cutAt
  rcases lastSp_spec s a W with ⟨h1, h2⟩ | ⟨j, h1, h2, h3, h4⟩
  · rw [if_pos h1]; exact ⟨by omega, Nat.le_refl _, .inl rfl⟩
  · rw [if_neg (by omega), h1]
    exact ⟨by omega, by omega, .inr (by rw [show a + (j + 1) - 1 = a + j by omega]; exact h3)⟩
/-- What holds at the head of the loop within line n: xs has been found, the rest of the line begins at a. -/
def WiInv (s : ByteArray) (W n : Nat) (xs : List (Int × Int)) (a : Nat) : Prop :=
  n ≤ cntN s s.size ∧ lsN s n ≤ a ∧ a ≤ eolN s (lsN s n) ∧ xs.length ≤ a + n ∧ ∃ f, eolN s (lsN s n) - a ≤ f ∧ xs ++ (wrapF s W (eolN s (lsN s n)) f a ++ rowsF s W (cntN s s.size - n) (n + 1)) = rowsF s W (cntN s s.size + 1) 0
/-- What holds at the head of the loop over the lines. -/
def WoInv (s : ByteArray) (W n : Nat) (xs : List (Int × Int)) : Prop :=
  n ≤ cntN s s.size + 1 ∧ (n ≤ cntN s s.size → xs.length ≤ lsN s n + n) ∧ xs.length ≤ s.size + n ∧ xs ++ rowsF s W (cntN s s.size + 1 - n) n = rowsF s W (cntN s s.size + 1) 0
theorem WoInv.start (s : ByteArray) (W : Nat) : WoInv s W 0 [] := ⟨Nat.zero_le _, fun _ => Nat.zero_le _, Nat.zero_le _, rfl⟩
theorem WoInv.enter {s : ByteArray} {W n : Nat} {xs : List (Int × Int)} (h : WoInv s W n xs) (hn : n ≤ cntN s s.size) : WiInv s W n xs (lsN s n) := by
  obtain ⟨h1, h2, h3, h4⟩ := h
  obtain ⟨g1, _, _⟩ := ls_ok hn
  refine ⟨hn, Nat.le_refl _, (eol_spec s g1).1, h2 hn, _, Nat.le_refl _, ?_⟩
  rw [← h4, show cntN s s.size + 1 - n = (cntN s s.size - n) + 1 by omega]
  rfl
theorem WoInv.done {s : ByteArray} {W n : Nat} {xs : List (Int × Int)} (h : WoInv s W n xs) (hn : ¬ n ≤ cntN s s.size) : xs = rowsF s W (cntN s s.size + 1) 0 := by
  obtain ⟨h1, h2, h3, h4⟩ := h
  rw [show cntN s s.size + 1 - n = 0 by omega] at h4
  rw [← h4]; simp [rowsF]
theorem WiInv.step {s : ByteArray} {W n a : Nat} {xs : List (Int × Int)} (h : WiInv s W n xs a) (hW : 0 < W) (hl : W < eolN s (lsN s n) - a) : WiInv s W n (xs ++ [((a : Int), (cutAt s a W : Int))]) (cutAt s a W) := by
  obtain ⟨h1, h2, h3, h4, f, h5, h6⟩ := h
  obtain ⟨c1, c2, c3⟩ := cut_spec s a hW
  obtain ⟨g, rfl⟩ : ∃ g, f = g + 1 := ⟨f - 1, by omega⟩
  refine ⟨h1, by omega, by omega, by simp; omega, g, by omega, ?_⟩
  rw [← h6]
  simp only [wrapF]
  rw [if_pos hl]
  simp
theorem WiInv.leave {s : ByteArray} {W n a : Nat} {xs : List (Int × Int)} (h : WiInv s W n xs a) (hl : ¬ W < eolN s (lsN s n) - a) : WoInv s W (n + 1) (xs ++ [((a : Int), (eolN s (lsN s n) : Int))]) := by
  obtain ⟨h1, h2, h3, h4, f, h5, h6⟩ := h
  obtain ⟨g1, _, _⟩ := ls_ok h1
  have ge := (eol_spec s g1).2.1
  have hw : wrapF s W (eolN s (lsN s n)) f a = [((a : Int), (eolN s (lsN s n) : Int))] := by
    cases f
    · rfl
    · simp only [wrapF]; rw [if_neg hl]
  refine ⟨by omega, fun hn => ?_, by simp; omega, ?_⟩
  · have := (ls_next hn).1
    simp; omega
  · rw [← h6, hw, show cntN s s.size + 1 - (n + 1) = cntN s s.size - n by omega]
    simp
theorem wOk_s {s : ByteArray} {W : Int} (h : wOk s W = true) : valid s.data.toList = true ∧ ∃ n : Nat, W = n ∧ 4 ≤ n ∧ n ≤ 40 := by
  simp [wOk, inI] at h
  obtain ⟨n, rfl⟩ := Int.eq_ofNat_of_zero_le (show 0 ≤ W by omega)
  exact ⟨h.1, n, rfl, by omega, by omega⟩
theorem wOk_no {s : ByteArray} {W : Int} (h : ¬ wOk s W = true) : valid s.data.toList = false ∨ (valid s.data.toList = true ∧ inI W 4 40 = false) := by
  cases hv : valid s.data.toList
  · exact .inl rfl
  · exact .inr ⟨rfl, by simpa [wOk, hv] using h⟩
theorem rowsL_ok {s : ByteArray} {n : Nat} (h : wOk s n = true) : rowsL s n = rowsF s n (cntN s s.size + 1) 0 := by unfold rowsL; rw [if_pos h]; rfl

/-- The chain that the rows are: from place a on, up to the end of the text. -/
def Chain (s : ByteArray) (W : Nat) : Nat → List (Int × Int) → Prop
  | a, [] => a = s.size + 1
  | a, (f, t) :: r => ∃ b : Nat, f = a ∧ t = b ∧ a ≤ b ∧ b ≤ s.size ∧ b - a ≤ W ∧ (((isNl s b = true ∨ b = s.size) ∧ Chain s W (b + 1) r) ∨ (isNl s b = false ∧ b < s.size ∧ a < b ∧ (b - a = W ∨ byteI s (b - 1) = 32) ∧ Chain s W b r))
theorem chain_wrap {s : ByteArray} {W e : Nat} {r : List (Int × Int)} (hW : 0 < W) (he : e ≤ s.size) (hend : isNl s e = true ∨ e = s.size) (hr : Chain s W (e + 1) r) : ∀ f a, e - a ≤ f → a ≤ e → (∀ j, a ≤ j → j < e → isNl s j = false) → Chain s W a (wrapF s W e f a ++ r)
  | 0, a, hf, ha, _ => ⟨e, rfl, rfl, ha, he, by omega, .inl ⟨hend, hr⟩⟩
  | f + 1, a, hf, ha, hno => by
    simp only [wrapF]
    by_cases hl : W < e - a
    · rw [if_pos hl]
      obtain ⟨c1, c2, c3⟩ := cut_spec s a hW
      exact ⟨cutAt s a W, rfl, rfl, by omega, by omega, by omega, .inr ⟨hno _ (by omega) (by omega), by omega, c1, by omega, chain_wrap hW he hend hr f _ (by omega) (by omega) fun j h1 h2 => hno j (by omega) h2⟩⟩
    · rw [if_neg hl]
      exact ⟨e, rfl, rfl, ha, he, by omega, .inl ⟨hend, hr⟩⟩
theorem chain_rows {s : ByteArray} {W : Nat} (hW : 0 < W) : ∀ k n, n + k = cntN s s.size + 1 → Chain s W (if n ≤ cntN s s.size then lsN s n else s.size + 1) (rowsF s W k n)
  | 0, n, h => by rw [if_neg (by omega)]; rfl
  | k + 1, n, h => by
    have hn : n ≤ cntN s s.size := by omega
    rw [if_pos hn]
    obtain ⟨g1, _, _⟩ := ls_ok hn
    obtain ⟨e1, e2, e3, e4⟩ := eol_spec s g1
    have ih := chain_rows (s := s) hW k (n + 1) (by omega)
    have hr : Chain s W (eolN s (lsN s n) + 1) (rowsF s W k (n + 1)) := by
      by_cases hn1 : n + 1 ≤ cntN s s.size
      · rw [if_pos hn1, (ls_next hn1).1] at ih; exact ih
      · rw [if_neg hn1] at ih
        have : n = cntN s s.size := by omega
        subst this
        rw [eol_last]; exact ih
    exact chain_wrap hW e2 (e4.elim (fun h => .inr h) .inl) hr _ _ (Nat.le_refl _) e1 e3
theorem chain_all {s : ByteArray} {n : Nat} (h : wOk s n = true) : Chain s n 0 (rowsL s n) := by
  obtain ⟨hv, m, hm, h4, h40⟩ := wOk_s h
  have : n = m := by omega
  subst this
  have := chain_rows (s := s) (W := n) (by omega) (cntN s s.size + 1) 0 (by omega)
  rw [if_pos (Nat.zero_le _), ls_zero] at this
  rw [rowsL_ok h]; exact this
theorem rowsF_len (s : ByteArray) (W : Nat) : ∀ k n, k ≤ (rowsF s W k n).length
  | 0, _ => Nat.zero_le _
  | k + 1, n => by
    have h1 := rowsF_len s W k (n + 1)
    have h2 : 0 < (wrapLn s W n).length := by
      unfold wrapLn
      generalize eolN s (lsN s n) - lsN s n = f
      cases f
      · simp [wrapF]
      · simp only [wrapF]; split <;> simp
    simp only [rowsF, List.length_append]
    omega
theorem chain_len {s : ByteArray} {W : Nat} : ∀ (xs : List (Int × Int)) a, Chain s W a xs → xs.length + a ≤ s.size + 1
  | [], a, h => by have h' : a = s.size + 1 := h
                   simp; omega
  | (f, t) :: r, a, h => by
    obtain ⟨b, rfl, rfl, h1, h2, h3, h4⟩ := h
    rcases h4 with ⟨h5, h6⟩ | ⟨h5, h6, h7, h8, h9⟩
    · have := chain_len r _ h6
      simp only [List.length_cons]; omega
    · have := chain_len r _ h9
      simp only [List.length_cons]; omega
theorem rows_small (s : ByteArray) (W : Int) : (rowsL s W).length ≤ 121 := by
  by_cases h : wOk s W = true
  · obtain ⟨hv, m, rfl, h4, h40⟩ := wOk_s h
    have h1 := chain_len _ _ (chain_all h)
    have h2 := valid_size hv
    omega
  · unfold rowsL; rw [if_neg h]; simp
end Go.Proofs.YtglnkcggcgbaiaaDoor
