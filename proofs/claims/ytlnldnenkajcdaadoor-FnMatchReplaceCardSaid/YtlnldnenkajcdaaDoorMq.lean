/- Plain laws on the places at which a pattern can end. No program here. -/
import Derived.Test.YtlnldnenkajcdaaDoorMb
set_option linter.unusedVariables false
set_option linter.unusedSimpArgs false
namespace Go.Proofs.YtlnldnenkajcdaaDoor

theorem starF_m (s : ByteArray) (m : Nat) (c : Int) (f : Nat → Bool) : starF s m c f m = f m := by
  cases m with
  | zero => rfl
  | succ k => simp [starF]
theorem starF_low {s : ByteArray} {m : Nat} {c : Int} {f : Nat → Bool} (h : ∀ j, j < m → f j = false) : ∀ j, j < m → starF s m c f j = false
  | 0, hj => h 0 hj
  | j + 1, hj => by
    simp only [starF]
    rw [h _ hj, decide_eq_false (show ¬ m < j + 1 by omega)]
    rfl
theorem starF_s {s : ByteArray} {m : Nat} {c : Int} {f : Nat → Bool} (h : ∀ j, j < m → f j = false) (j : Nat) : starF s m c f (j + 1) = (f (j + 1) || (starF s m c f j && fitB c (byteI s j))) := by
  simp only [starF]
  by_cases hj : m < j + 1
  · rw [decide_eq_true hj, Bool.true_and]
  · rw [decide_eq_false hj, starF_low h j (by omega)]; rfl
theorem cut_set2 {G : Nat → Bool} {q : Nat} (h : G q = true) : ∀ j, upd (upd (cut G q) q true) q true j = cut G (q + 1) j := fun j => by
  rw [← cut_set h j]
  unfold upd
  by_cases hj : j = q <;> simp [hj]
theorem byteI_range (s : ByteArray) (k : Nat) : 0 ≤ byteI s k ∧ byteI s k ≤ 255 := by
  unfold byteI
  split
  · rename_i h
    have := (s[k]'h).toNat_lt
    omega
  · omega
theorem nx_star {s : ByteArray} {m : Nat} {c : Int} {f : Nat → Bool} : nxF s m c true f = starF s m c f := by unfold nxF; rw [if_pos rfl]
theorem nx_bol {s : ByteArray} {m : Nat} {f : Nat → Bool} : nxF s m 94 false f = fun j => f j && decide (j = 0 ∨ byteI s (j - 1) = 10) := by
  unfold nxF; rw [if_neg (by simp), if_pos rfl]
theorem nx_eol {s : ByteArray} {m : Nat} {f : Nat → Bool} : nxF s m 36 false f = fun j => f j && decide (j = s.size ∨ byteI s j = 10) := by
  unfold nxF; rw [if_neg (by simp), if_neg (by omega), if_pos rfl]
theorem nx_byte {s : ByteArray} {m : Nat} {c : Int} {f : Nat → Bool} (h1 : c ≠ 94) (h2 : c ≠ 36) : nxF s m c false f = fun j => decide (m < j) && f (j - 1) && fitB c (byteI s (j - 1)) := by
  unfold nxF; rw [if_neg (by simp), if_neg h1, if_neg h2]
theorem nx_low {s : ByteArray} {m : Nat} {c : Int} {b : Bool} {f : Nat → Bool} (h : ∀ j, j < m → f j = false) : ∀ j, j < m → nxF s m c b f j = false := by
  intro j hj
  cases b
  · by_cases h1 : c = 94
    · subst h1; rw [nx_bol]; show (f j && _) = false; rw [h j hj]; rfl
    · by_cases h2 : c = 36
      · subst h2; rw [nx_eol]; show (f j && _) = false; rw [h j hj]; rfl
      · rw [nx_byte h1 h2]; show (decide (m < j) && _ && _) = false; rw [decide_eq_false (by omega)]; rfl
  · rw [nx_star]; exact starF_low h j hj
theorem byte_s {s : ByteArray} {m : Nat} {c : Int} {f : Nat → Bool} (h : ∀ j, j < m → f j = false) (j : Nat) : (decide (m < j + 1) && f j && fitB c (byteI s j)) = (f j && fitB c (byteI s j)) := by
  by_cases hj : m < j + 1
  · rw [decide_eq_true hj, Bool.true_and]
  · rw [decide_eq_false hj, h j (by omega)]; rfl
theorem start_low (m : Nat) : ∀ j, j < m → startF m j = false := fun j hj => by unfold startF; simp; omega
/-- One step. -/
theorem ends_step {p s : ByteArray} {m k i : Nat} {f : Nat → Bool} (hi : i < p.size) : endsF p s m (k + 1) i f = endsF p s m k (if starAt p i = true then i + 2 else i + 1) (nxF s m (byteI p i) (starAt p i) f) := by
  simp only [endsF]; rw [if_pos hi]
theorem ends_done {p s : ByteArray} {m k i : Nat} {f : Nat → Bool} (hi : ¬ i < p.size) : endsF p s m k i f = f := by
  cases k with
  | zero => rfl
  | succ k => simp only [endsF]; rw [if_neg hi]
/-- What holds at the head of the loop over the pattern, in plain words. -/
def EInv (p s : ByteArray) (m i : Nat) (f : Nat → Bool) : Prop :=
  i ≤ p.size ∧ (∀ j, j < m → f j = false) ∧ (i = 0 → f = startF m) ∧ ∃ fuel, p.size - i ≤ fuel ∧ endsF p s m fuel i f = endsF p s m p.size 0 (startF m)
theorem EInv.start (p s : ByteArray) (m : Nat) : EInv p s m 0 (startF m) := ⟨Nat.zero_le _, start_low m, fun _ => rfl, p.size, by omega, rfl⟩
theorem EInv.star {p s : ByteArray} {m i : Nat} {f : Nat → Bool} (h : EInv p s m i f) (hi : i < p.size) (hs : starAt p i = true) : EInv p s m (i + 2) (starF s m (byteI p i) f) := by
  obtain ⟨h1, h2, h3, fuel, h4, h5⟩ := h
  have hs2 : i + 1 < p.size ∧ byteI p (i + 1) = 42 := by simpa [starAt] using hs
  obtain ⟨k, rfl⟩ : ∃ k, fuel = k + 1 := ⟨fuel - 1, by omega⟩
  rw [ends_step hi, hs, if_pos rfl, nx_star] at h5
  exact ⟨by omega, starF_low h2, fun h => by omega, k, by omega, h5⟩
theorem EInv.plain {p s : ByteArray} {m i : Nat} {f : Nat → Bool} (h : EInv p s m i f) (hi : i < p.size) (hs : starAt p i = false) : EInv p s m (i + 1) (nxF s m (byteI p i) false f) := by
  obtain ⟨h1, h2, h3, fuel, h4, h5⟩ := h
  obtain ⟨k, rfl⟩ : ∃ k, fuel = k + 1 := ⟨fuel - 1, by omega⟩
  rw [ends_step hi, hs, if_neg (by simp)] at h5
  exact ⟨by omega, nx_low h2, fun h => by omega, k, by omega, h5⟩
theorem EInv.done {p s : ByteArray} {m : Nat} {f : Nat → Bool} (h : EInv p s m p.size f) : f = endsF p s m p.size 0 (startF m) := by
  obtain ⟨h1, h2, h3, fuel, h4, h5⟩ := h
  rw [ends_done (by omega)] at h5
  exact h5
/-- What a valid pattern's byte is not. -/
theorem pat_byte {p : ByteArray} (h : patV p = true) {i : Nat} (hi : i < p.size) : 32 ≤ byteI p i ∧ byteI p i ≤ 126 ∧ (byteI p i = 94 → i = 0) ∧ (starAt p i = true → byteI p i ≠ 94 ∧ byteI p i ≠ 36) := by
  obtain ⟨_, h2⟩ : p.size ≤ 20 ∧ allGood p p.size = true := by simpa [patV] using h
  have hg := allGood_le h2 i hi
  have hg' : 32 ≤ byteI p i ∧ byteI p i ≤ 126 ∧ ¬ (byteI p i = 94 ∧ 0 < i) ∧ ¬ (byteI p i = 36 ∧ i + 1 < p.size) ∧ ¬ (byteI p i = 42 ∧ (i = 0 ∨ byteI p (i - 1) = 94 ∨ byteI p (i - 1) = 42)) := by simpa only [goodAt, decide_eq_true_eq] using hg
  obtain ⟨g1, g2, g3, g4, g5⟩ := hg'
  refine ⟨g1, g2, fun h => by omega, fun hs => ?_⟩
  have hs2 : i + 1 < p.size ∧ byteI p (i + 1) = 42 := by simpa [starAt] using hs
  have hk := allGood_le h2 (i + 1) hs2.1
  have hk' : 32 ≤ byteI p (i + 1) ∧ byteI p (i + 1) ≤ 126 ∧ ¬ (byteI p (i + 1) = 94 ∧ 0 < i + 1) ∧ ¬ (byteI p (i + 1) = 36 ∧ i + 1 + 1 < p.size) ∧ ¬ (byteI p (i + 1) = 42 ∧ (i + 1 = 0 ∨ byteI p (i + 1 - 1) = 94 ∨ byteI p (i + 1 - 1) = 42)) := by simpa only [goodAt, decide_eq_true_eq] using hk
  obtain ⟨_, _, _, _, k5⟩ := hk'
  rw [show i + 1 - 1 = i from rfl] at k5
  omega
theorem topF_hit {f : Nat → Bool} {n : Nat} (h : f n = true) : topF f (n + 1) = n := by simp [topF, h]
theorem topF_miss {f : Nat → Bool} {n : Nat} (h : f n = false) : topF f (n + 1) = topF f n := by simp [topF, h]
theorem topF_none {f : Nat → Bool} : ∀ n, (∀ j, j < n → f j = false) → topF f n = -1
  | 0, _ => rfl
  | n + 1, h => by rw [topF_miss (h n (by omega))]; exact topF_none n fun j hj => h j (by omega)
theorem topF_range (f : Nat → Bool) : ∀ n, topF f n = -1 ∨ ∃ k : Nat, topF f n = k ∧ k < n ∧ f k = true ∧ ∀ j, k < j → j < n → f j = false
  | 0 => .inl rfl
  | n + 1 => by
    cases h : f n
    · rw [topF_miss h]
      rcases topF_range f n with h1 | ⟨k, h1, h2, h3, h4⟩
      · exact .inl h1
      · refine .inr ⟨k, h1, by omega, h3, fun j hj1 hj2 => ?_⟩
        rcases Nat.lt_or_ge j n with h5 | h5
        · exact h4 j hj1 h5
        · obtain rfl : j = n := by omega
          exact h
    · rw [topF_hit h]; exact .inr ⟨n, rfl, by omega, h, fun j h1 h2 => by omega⟩
theorem topF_congr {f g : Nat → Bool} : ∀ n, (∀ j, j < n → f j = g j) → topF f n = topF g n
  | 0, _ => rfl
  | n + 1, h => by simp only [topF]; rw [h n (by omega), topF_congr n fun j hj => h j (by omega)]
theorem nx_lowest {p s : ByteArray} {m : Nat} {f : Nat → Bool} {i : Nat} (h : EInv p s m i f) : ∀ j, j < m → f j = false := h.2.1
end Go.Proofs.YtlnldnenkajcdaaDoor
