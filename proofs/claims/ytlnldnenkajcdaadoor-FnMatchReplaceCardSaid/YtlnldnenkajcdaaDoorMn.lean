/- First matches and all matches, in plain words. No program here. -/
import Derived.Test.YtlnldnenkajcdaaDoorMq
set_option linter.unusedVariables false
set_option linter.unusedSimpArgs false
namespace Go.Proofs.YtlnldnenkajcdaaDoor

def mnG (p s : ByteArray) (k : Nat) : Bool := decide (0 ≤ meI p s k)
/-- The first of the n numbers from k on that f holds. -/
def firstF (f : Nat → Bool) : Nat → Nat → Int
  | 0, _ => -1
  | n + 1, k => if f k = true then k else firstF f n (k + 1)
def mnA (p s : ByteArray) (n : Int) : Int := if place s n = true then firstF (mnG p s) (s.size + 1 - n.toNat) n.toNat else -1
def mnFrom (p s : ByteArray) (n : Int) : Int := if 0 ≤ mnA p s n then mnA p s n else 0
def mnTo (p s : ByteArray) (n : Int) : Int := if 0 ≤ mnA p s n then meI p s (mnA p s n) else 0
def mnOk (p s : ByteArray) (n : Int) : Bool := decide (0 ≤ mnA p s n)
def maRest (p s : ByteArray) : Nat → Int → List (Int × Int)
  | 0, _ => []
  | n + 1, a => if mnOk p s a = true then (mnFrom p s a, mnTo p s a) :: maRest p s n (max (mnTo p s a) (mnFrom p s a + 1)) else []
def maL (p s : ByteArray) : List (Int × Int) := maRest p s (s.size + 2) 0

theorem first_range (f : Nat → Bool) : ∀ n k, firstF f n k = -1 ∨ ∃ j : Nat, firstF f n k = j ∧ k ≤ j ∧ j < k + n ∧ f j = true ∧ ∀ i, k ≤ i → i < j → f i = false
  | 0, k => .inl rfl
  | n + 1, k => by
    simp only [firstF]
    cases h : f k
    · rw [if_neg (by simp)]
      rcases first_range f n (k + 1) with h1 | ⟨j, h1, h2, h3, h4, h5⟩
      · exact .inl h1
      · refine .inr ⟨j, h1, by omega, by omega, h4, fun i hi1 hi2 => ?_⟩
        rcases Nat.lt_or_ge k i with h6 | h6
        · exact h5 i (by omega) hi2
        · obtain rfl : i = k := by omega
          exact h
    · rw [if_pos rfl]
      exact .inr ⟨k, rfl, by omega, by omega, h, fun i h1 h2 => by omega⟩
theorem first_hit {f : Nat → Bool} {n k : Nat} (h : f k = true) : firstF f (n + 1) k = k := by simp [firstF, h]
theorem first_miss {f : Nat → Bool} {n k : Nat} (h : f k = false) : firstF f (n + 1) k = firstF f n (k + 1) := by simp [firstF, h]
theorem first_none {f : Nat → Bool} : ∀ n k, (∀ j, k ≤ j → j < k + n → f j = false) → firstF f n k = -1
  | 0, _, _ => rfl
  | n + 1, k, h => by rw [first_miss (h k (by omega) (by omega))]; exact first_none n (k + 1) fun j h1 h2 => h j (by omega) (by omega)
theorem first_spec {f : Nat → Bool} {n k : Nat} (h : firstF f n k = -1) : ∀ j, k ≤ j → j < k + n → f j = false := by
  induction n generalizing k with
  | zero => intro j h1 h2; omega
  | succ n ih =>
    intro j h1 h2
    cases hk : f k
    · rw [first_miss hk] at h
      rcases Nat.lt_or_ge k j with h3 | h3
      · exact ih h j (by omega) (by omega)
      · obtain rfl : j = k := by omega
        exact hk
    · rw [first_hit hk] at h; omega

theorem ends_low {p s : ByteArray} {m : Nat} : ∀ k i f, (∀ j, j < m → f j = false) → ∀ j, j < m → endsF p s m k i f j = false
  | 0, _, _, h => h
  | k + 1, i, f, h => by
    by_cases hi : i < p.size
    · rw [ends_step hi]; exact ends_low k _ _ (nx_low h)
    · rw [ends_done hi]; exact h
/-- A match ends in the text, at its beginning or behind. -/
theorem me_range (p s : ByteArray) (n : Int) : meI p s n = -1 ∨ (patV p = true ∧ place s n = true ∧ n ≤ meI p s n ∧ meI p s n ≤ s.size) := by
  by_cases h : meOk p s n = true
  · obtain ⟨hpv, hpl⟩ : patV p = true ∧ place s n = true := by simpa [meOk] using h
    obtain ⟨m, rfl, hm⟩ := place_nat hpl
    have e : meI p s m = topF (endsF p s m p.size 0 (startF m)) (s.size + 1) := by unfold meI; rw [if_pos h]; rfl
    rw [e]
    rcases topF_range (endsF p s m p.size 0 (startF m)) (s.size + 1) with h1 | ⟨k, h1, h2, h3, h4⟩
    · exact .inl h1
    · refine .inr ⟨hpv, hpl, ?_, by omega⟩
      rw [h1]
      rcases Nat.lt_or_ge k m with h5 | h5
      · rw [ends_low _ _ _ (start_low m) k h5] at h3; cases h3
      · omega
  · left; unfold meI; rw [if_neg h]
theorem me_bound (p s : ByteArray) (n : Int) : -1 ≤ meI p s n ∧ meI p s n ≤ s.size := by
  rcases me_range p s n with h | ⟨h1, h2, h3, h4⟩
  · omega
  · obtain ⟨m, rfl, hm⟩ := place_nat h2
    omega
theorem mn_range (p s : ByteArray) (a : Int) : mnA p s a = -1 ∨ ∃ k : Nat, mnA p s a = k ∧ a ≤ k ∧ 0 ≤ a ∧ k ≤ s.size ∧ s.size ≤ 120 ∧ (k : Int) ≤ meI p s k ∧ meI p s k ≤ s.size ∧ patV p = true ∧ place s a = true ∧ ∀ i : Nat, a ≤ i → i < k → meI p s i = -1 := by
  by_cases h : place s a = true
  · obtain ⟨m, rfl, hm⟩ := place_nat h
    have e : mnA p s m = firstF (mnG p s) (s.size + 1 - m) m := by unfold mnA; rw [if_pos h]; rfl
    rw [e]
    rcases first_range (mnG p s) (s.size + 1 - m) m with h1 | ⟨j, h1, h2, h3, h4, h5⟩
    · exact .inl h1
    · right
      have h6 : 0 ≤ meI p s j := by simpa [mnG] using h4
      have hr := me_range p s j
      refine ⟨j, h1, by omega, by omega, by omega, valid_size (placeS h).1, by omega, by omega, by rcases hr with h | h; omega; exact h.1, h, fun i hi1 hi2 => ?_⟩
      have h7 := h5 i (by omega) hi2
      have h8 : ¬ 0 ≤ meI p s i := by simpa [mnG] using h7
      rcases me_range p s i with h | h
      · exact h
      · omega
  · left; unfold mnA; rw [if_neg h]
theorem mn_ok {p s : ByteArray} {a : Int} (h : mnOk p s a = true) : 0 ≤ a ∧ a ≤ mnFrom p s a ∧ mnFrom p s a ≤ mnTo p s a ∧ mnTo p s a ≤ s.size ∧ s.size ≤ 120 ∧ patV p = true ∧ place s a = true ∧ meI p s (mnFrom p s a) = mnTo p s a ∧ (∀ i : Nat, a ≤ i → i < mnFrom p s a → meI p s i = -1) ∧ mnFrom p s a = mnA p s a := by
  have h0 : 0 ≤ mnA p s a := by simpa [mnOk] using h
  rcases mn_range p s a with h1 | ⟨k, h1, h2, h3, h4, h5, h6, h7, h8, h9, h10⟩
  · omega
  · have e1 : mnFrom p s a = k := by unfold mnFrom; rw [if_pos h0, h1]
    have e2 : mnTo p s a = meI p s k := by unfold mnTo; rw [if_pos h0, h1]
    rw [e1, e2]
    exact ⟨h3, h2, h6, h7, h5, h8, h9, rfl, fun i hi1 hi2 => h10 i hi1 (by omega), h1.symm⟩
theorem mn_no {p s : ByteArray} {a : Int} (h : mnOk p s a = false) : mnA p s a = -1 ∧ mnFrom p s a = 0 ∧ mnTo p s a = 0 := by
  have h0 : ¬ 0 ≤ mnA p s a := by simpa [mnOk] using h
  refine ⟨?_, by unfold mnFrom; rw [if_neg h0], by unfold mnTo; rw [if_neg h0]⟩
  rcases mn_range p s a with h1 | ⟨k, h1, h2, h3, h4, h5, h6, h7, h8⟩ <;> omega
theorem mn_pat {p s : ByteArray} {a : Int} (h : patV p = false) : mnOk p s a = false := by
  cases hk : mnOk p s a
  · rfl
  · have := (mn_ok hk).2.2.2.2.2.1; rw [h] at this; cases this
theorem mn_place {p s : ByteArray} {a : Int} (h : place s a = false) : mnOk p s a = false := by
  cases hk : mnOk p s a
  · rfl
  · have := (mn_ok hk).2.2.2.2.2.2.1; rw [h] at this; cases this
/-- What holds at the head of the loop of MatchNext: at k nothing has been found. -/
def MnInv (p s : ByteArray) (m k : Nat) : Prop := m ≤ k ∧ k ≤ s.size + 1 ∧ mnA p s m = firstF (mnG p s) (s.size + 1 - k) k
theorem MnInv.start {p s : ByteArray} {m : Nat} (h : place s m = true) (hm : m ≤ s.size) : MnInv p s m m := ⟨Nat.le_refl _, by omega, by unfold mnA; rw [if_pos h]; rfl⟩
theorem MnInv.miss {p s : ByteArray} {m k : Nat} (h : MnInv p s m k) (hk : k ≤ s.size) (hn : meI p s k < 0) : MnInv p s m (k + 1) := by
  obtain ⟨h1, h2, h3⟩ := h
  refine ⟨by omega, by omega, ?_⟩
  rw [h3, show s.size + 1 - k = s.size + 1 - (k + 1) + 1 by omega, first_miss (by unfold mnG; exact decide_eq_false (by omega))]
theorem MnInv.hit {p s : ByteArray} {m k : Nat} (h : MnInv p s m k) (hk : k ≤ s.size) (hn : 0 ≤ meI p s k) : mnFrom p s m = k ∧ mnTo p s m = meI p s k ∧ mnOk p s m = true := by
  obtain ⟨h1, h2, h3⟩ := h
  rw [show s.size + 1 - k = s.size + 1 - (k + 1) + 1 by omega, first_hit (by unfold mnG; exact decide_eq_true hn)] at h3
  have h0 : 0 ≤ mnA p s m := by omega
  refine ⟨by unfold mnFrom; rw [if_pos h0, h3], by unfold mnTo; rw [if_pos h0, h3], by unfold mnOk; exact decide_eq_true h0⟩
theorem MnInv.done {p s : ByteArray} {m k : Nat} (h : MnInv p s m k) (hk : ¬ k ≤ s.size) : mnOk p s m = false := by
  obtain ⟨h1, h2, h3⟩ := h
  rw [show s.size + 1 - k = 0 by omega] at h3
  unfold mnOk; exact decide_eq_false (by rw [h3]; simp [firstF])

/-- What holds at the head of the loop of MatchAll: xs has been found, a is where the search goes on. -/
def MaInv (p s : ByteArray) (xs : List (Int × Int)) (a : Int) (f : Nat) : Prop :=
  xs ++ maRest p s f a = maL p s ∧ xs.length + f = s.size + 2 ∧ 0 ≤ a ∧ a ≤ s.size + 1 ∧ (s.size : Int) + 2 ≤ f + a
theorem MaInv.start (p s : ByteArray) : MaInv p s [] 0 (s.size + 2) := ⟨rfl, by simp, by omega, by omega, by omega⟩
theorem MaInv.step {p s : ByteArray} {xs : List (Int × Int)} {a : Int} {f : Nat} (h : MaInv p s xs a f) (ha : mnOk p s a = true) : MaInv p s (xs ++ [(mnFrom p s a, mnTo p s a)]) (max (mnTo p s a) (mnFrom p s a + 1)) (f - 1) := by
  obtain ⟨h1, h2, h3, h4, h5⟩ := h
  obtain ⟨g1, g2, g3, g4, g5, g6, g7, g8⟩ := mn_ok ha
  obtain ⟨g, rfl⟩ : ∃ g, f = g + 1 := ⟨f - 1, by omega⟩
  refine ⟨?_, by simp; omega, by omega, by omega, by omega⟩
  rw [← h1]; simp only [maRest]; rw [if_pos ha]; simp
theorem MaInv.done {p s : ByteArray} {xs : List (Int × Int)} {a : Int} {f : Nat} (h : MaInv p s xs a f) (ha : mnOk p s a = false) : xs = maL p s := by
  obtain ⟨h1, h2, h3, h4⟩ := h
  have : maRest p s f a = [] := by
    cases f
    · rfl
    · simp only [maRest]; rw [if_neg (by simp [ha])]
  rw [← h1, this, List.append_nil]
theorem MaInv.len {p s : ByteArray} {xs : List (Int × Int)} {a : Int} {f : Nat} (h : MaInv p s xs a f) (ha : mnOk p s a = true) : xs.length ≤ 121 ∧ s.size ≤ 120 := by
  obtain ⟨h1, h2, h3, h4, h5⟩ := h
  obtain ⟨g1, g2, g3, g4, g5, g6, g7, g8⟩ := mn_ok ha
  omega
/-- At the k-th match. -/
theorem MaInv.at_ {p s : ByteArray} {k : Nat} {a : Int} {f : Nat} (h : MaInv p s ((maL p s).take k) a f) (hk : k < (maL p s).length) :
    mnOk p s a = true ∧ (maL p s)[k] = (mnFrom p s a, mnTo p s a) ∧ MaInv p s ((maL p s).take (k + 1)) (max (mnTo p s a) (mnFrom p s a + 1)) (f - 1) := by
  cases ho : mnOk p s a
  · have := congrArg List.length (h.done ho)
    rw [List.length_take] at this; omega
  · have hs := h.step ho
    have h3 := congrArg (fun l : List (Int × Int) => l[k]?) hs.1
    rw [List.getElem?_append_left (by simp; omega), List.getElem?_append_right (by rw [List.length_take]; omega)] at h3
    rw [List.length_take, Nat.min_eq_left (by omega), Nat.sub_self, List.getElem?_eq_getElem hk] at h3
    have h4 : (mnFrom p s a, mnTo p s a) = (maL p s)[k] := by simpa using h3
    refine ⟨rfl, h4.symm, ?_⟩
    rw [List.take_succ_eq_append_getElem hk, ← h4]
    exact hs
theorem MaInv.last {p s : ByteArray} {k : Nat} {a : Int} {f : Nat} (h : MaInv p s ((maL p s).take k) a f) (hk : (maL p s).length ≤ k) : mnOk p s a = false := by
  cases ho : mnOk p s a
  · rfl
  · have := congrArg List.length (h.step ho).1
    simp only [List.length_append, List.length_take, List.length_cons, List.length_nil] at this
    omega
theorem maRest_len (p s : ByteArray) : ∀ n a, (maRest p s n a).length ≤ n
  | 0, a => Nat.le_refl _
  | n + 1, a => by
    simp only [maRest]; split
    · have := maRest_len p s n (max (mnTo p s a) (mnFrom p s a + 1)); simp; omega
    · simp
theorem maL_len (p s : ByteArray) : (maL p s).length ≤ s.size + 2 := maRest_len p s _ _
theorem maL_small (p s : ByteArray) : (maL p s).length ≤ 122 := by
  by_cases h : mnOk p s 0 = true
  · have := (mn_ok h).2.2.2.2.1
    have := maL_len p s
    omega
  · have : maL p s = [] := by unfold maL; simp only [maRest]; rw [if_neg h]
    simp [this]
end Go.Proofs.YtlnldnenkajcdaaDoor
