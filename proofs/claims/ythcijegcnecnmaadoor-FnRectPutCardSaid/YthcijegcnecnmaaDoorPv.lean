/- The contracts of PatternValid, of the program and of the reference. -/
import Derived.Test.YthcijegcnecnmaaDoorWa
import Derived.Deep.Light
set_option linter.unusedVariables false
set_option linter.unusedSimpArgs false
namespace Go.Proofs.YthcijegcnecnmaaDoor
open Go.RowKit

def byteI (s : ByteArray) (k : Nat) : Int := if h : k < s.size then (s[k].toNat : Int) else 0
def goodAt (s : ByteArray) (k : Nat) : Bool :=
  decide (32 ≤ byteI s k ∧ byteI s k ≤ 126 ∧ ¬ (byteI s k = 94 ∧ 0 < k) ∧ ¬ (byteI s k = 36 ∧ k + 1 < s.size) ∧ ¬ (byteI s k = 42 ∧ (k = 0 ∨ byteI s (k - 1) = 94 ∨ byteI s (k - 1) = 42)))
def allGood (s : ByteArray) : Nat → Bool
  | 0 => true
  | k + 1 => allGood s k && goodAt s k
def patV (s : ByteArray) : Bool := decide (s.size ≤ 20) && allGood s s.size

theorem byteI_at {s : ByteArray} {k : Nat} (h : k < s.size) : byteI s k = s[k].toNat := by unfold byteI; rw [dif_pos h]
theorem allGood_le {s : ByteArray} {k : Nat} (h : allGood s k = true) : ∀ j, j < k → goodAt s j = true := by
  induction k with
  | zero => intro j hj; omega
  | succ k ih =>
    simp [allGood] at h
    intro j hj
    rcases Nat.lt_or_ge j k with h1 | h1
    · exact ih h.1 j h1
    · obtain rfl : j = k := by omega
      exact h.2
theorem allGood_bad {s : ByteArray} {k m : Nat} (h : goodAt s k = false) (hm : k < m) : allGood s m = false := by
  cases hg : allGood s m
  · rfl
  · exact absurd (allGood_le hg k hm) (by simp [h])

theorem good_0 {s : ByteArray} (h : 0 < s.size) : goodAt s 0 = decide (32 ≤ (s[0].toNat : Int) ∧ (s[0].toNat : Int) ≤ 126 ∧ ¬ ((s[0].toNat : Int) = 36 ∧ 1 < s.size) ∧ ¬ (s[0].toNat : Int) = 42) := by
  unfold goodAt; rw [byteI_at h]; simp
theorem good_s {s : ByteArray} {q : Nat} (h : q + 1 < s.size) : goodAt s (q + 1) = decide (32 ≤ (s[q + 1].toNat : Int) ∧ (s[q + 1].toNat : Int) ≤ 126 ∧ ¬ ((s[q + 1].toNat : Int) = 94) ∧ ¬ ((s[q + 1].toNat : Int) = 36 ∧ q + 1 + 1 < s.size) ∧
    ¬ ((s[q + 1].toNat : Int) = 42 ∧ ((s[q]'(by omega)).toNat = (94 : Int) ∨ (s[q]'(by omega)).toNat = (42 : Int)))) := by
  unfold goodAt; rw [byteI_at h, show q + 1 - 1 = q from rfl, byteI_at (show q < s.size by omega)]; simp
theorem patV_bad {s : ByteArray} {k : Nat} (hk : k < s.size) (h : goodAt s k = false) : patV s = false := by
  unfold patV; rw [allGood_bad h hk]; simp
theorem allGood_succ {s : ByteArray} {k : Nat} (h : allGood s k = true) (hg : goodAt s k = true) : allGood s (k + 1) = true := by simp [allGood, h, hg]

end Go.Proofs.YthcijegcnecnmaaDoor
