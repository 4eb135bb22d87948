/- The contracts of PatternValid, of the program and of the reference. -/
import Derived.Test.YtlnldnenkajcdaaDoorWa
import Derived.Deep.Light
set_option linter.unusedVariables false
set_option linter.unusedSimpArgs false
namespace Go.Proofs.YtlnldnenkajcdaaDoor
open Go.RowKit

def byteI (s : ByteArray) (k : Nat) : Int := if h : k < s.size then (s[k].toNat : Int) else 0
def goodAt (s : ByteArray) (k : Nat) : Bool :=
  decide (32 ≤ byteI s k ∧ byteI s k ≤ 126 ∧ ¬ (byteI s k = 94 ∧ 0 < k) ∧ ¬ (byteI s k = 36 ∧ k + 1 < s.size) ∧ ¬ (byteI s k = 42 ∧ (k = 0 ∨ byteI s (k - 1) = 94 ∨ byteI s (k - 1) = 42)))
def allGood (s : ByteArray) : Nat → Bool
  | 0 => true
  | k + 1 => allGood s k && goodAt s k
def patV (s : ByteArray) : Bool := decide (s.size ≤ 20) && allGood s s.size

theorem byteI_at {s : ByteArray} {k : Nat} (h : k < s.size) : byteI s k = s[k].toNat := by unfold byteI; rw [dif_pos h]
theorem allGood_le {s : ByteArray} {k : Nat} (h : allGood s k = true) : ∀ j, j < k → goodAt s j = true := by
  induction k with
  | zero => intro j hj; omega
  | succ k ih =>
    simp [allGood] at h
    intro j hj
    rcases Nat.lt_or_ge j k with h1 | h1
    · exact ih h.1 j h1
    · obtain rfl : j = k := by omega
      exact h.2
theorem allGood_bad {s : ByteArray} {k m : Nat} (h : goodAt s k = false) (hm : k < m) : allGood s m = false := by
  cases hg : allGood s m
  · rfl
  · exact absurd (allGood_le hg k hm) (by simp [h])

theorem good_0 {s : ByteArray} (h : 0 < s.size) : goodAt s 0 = decide (32 ≤ (s[0].toNat : Int) ∧ (s[0].toNat : Int) ≤ 126 ∧ ¬ ((s[0].toNat : Int) = 36 ∧ 1 < s.size) ∧ ¬ (s[0].toNat : Int) = 42) := by
  unfold goodAt; rw [byteI_at h]; simp
theorem good_s {s : ByteArray} {q : Nat} (h : q + 1 < s.size) : goodAt s (q + 1) = decide (32 ≤ (s[q + 1].toNat : Int) ∧ (s[q + 1].toNat : Int) ≤ 126 ∧ ¬ ((s[q + 1].toNat : Int) = 94) ∧ ¬ ((s[q + 1].toNat : Int) = 36 ∧ q + 1 + 1 < s.size) ∧
    ¬ ((s[q + 1].toNat : Int) = 42 ∧ ((s[q]'(by omega)).toNat = (94 : Int) ∨ (s[q]'(by omega)).toNat = (42 : Int)))) := by
  unfold goodAt; rw [byteI_at h, show q + 1 - 1 = q from rfl, byteI_at (show q < s.size by omega)]; simp
theorem patV_bad {s : ByteArray} {k : Nat} (hk : k < s.size) (h : goodAt s k = false) : patV s = false := by
  unfold patV; rw [allGood_bad h hk]; simp
theorem allGood_succ {s : ByteArray} {k : Nat} (h : allGood s k = true) (hg : goodAt s k = true) : allGood s (k + 1) = true := by simp [allGood, h, hg]

theorem iPV_any (s : ByteArray) (w : World) (hs : s.size ≤ maxLen) :
    Calls Tryd.prog 29 #[.string s] w fun e w' => e = .returned (.bool (patV s)) ∧ w = w' := by
  have hs' := hs
  unfold maxLen at hs'
  by_cases h20 : s.size ≤ 20
  · have hd : decide ((20 : Int) < (s.size : Int)) = false := by simp; omega
    go_enter Tryd.func29, Tryd.ntmps29
    go_wp2
    go_loop [10] (fun i => ∃ k : Nat, k ≤ s.size ∧ i = .int .i64 k ∧ allGood s k = true) (fun i => s.size - (intOf i).toNat)
    case atStart => exact ⟨0, Nat.zero_le _, rfl, rfl⟩
    case round =>
      obtain ⟨k, hk, rfl, hg⟩ := hrel
      have HG := Lib.hid hg
      clear hg
      by_cases hlt : k < s.size
      · rcases k with _ | q
        · go_wp2
          all_goals first
            | (go_round
               case rel => exact ⟨1, by omega, rfl, allGood_succ HG.out (by rw [good_0 hlt]; apply decide_eq_true; go_light; omega)⟩
               case measure => (go_light; simp [intOf]; omega))
            | (go_ret
               exact ⟨ret_bool (patV_bad hlt (by rw [good_0 hlt]; apply decide_eq_false; go_light; omega)).symm, rfl⟩)
        · have hq : q < s.size := by omega
          go_wp2
          all_goals first
            | (go_round
               case rel => exact ⟨q + 1 + 1, by omega, by go_num, allGood_succ HG.out (by rw [good_s hlt]; apply decide_eq_true; go_light; (try simp only [beq_iff_eq, beq_eq_false_iff_ne, ne_eq] at *); omega)⟩
               case measure => (go_light; simp [intOf]; omega))
            | (go_ret
               exact ⟨ret_bool (patV_bad hlt (by rw [good_s hlt]; apply decide_eq_false; go_light; (try simp only [beq_iff_eq, beq_eq_false_iff_ne, ne_eq] at *); omega)).symm, rfl⟩)
      · go_wp2
        go_ret
        obtain rfl : k = s.size := by omega
        exact ⟨ret_bool (by unfold patV; rw [HG.out]; simp [h20]), rfl⟩
  · go_enter Tryd.func29, Tryd.ntmps29
    go_wp2
    go_ret
    exact ⟨ret_bool (by unfold patV; simp [h20]), rfl⟩
theorem sPV_any (s : ByteArray) (w : World) (hs : s.size ≤ maxLen) :
    Calls Tryd.prog 27 #[.string s] w fun e w' => e = .returned (.bool (patV s)) ∧ w = w' := by
  have hs' := hs
  unfold maxLen at hs'
  go_enter Tryd.func27, Tryd.ntmps27
  go_wp2
  go_loop [3] (fun i => ∃ k : Nat, k ≤ s.size ∧ i = .int .i64 k ∧ allGood s k = true) (fun i => s.size - (intOf i).toNat)
  case atStart => exact ⟨0, Nat.zero_le _, rfl, rfl⟩
  case round =>
    obtain ⟨k, hk, rfl, hg⟩ := hrel
    have HG := Lib.hid hg
    clear hg
    by_cases hlt : k < s.size
    · have hb : s[k].toNat < 256 := s[k].toNat_lt
      rcases k with _ | q
      · go_wp2_with (go_at_call 23; refine (l1In_any _ _ _ _).mono ?_; rintro e w' ⟨rfl, rfl⟩)
        all_goals first
            | (go_round
               case rel => exact ⟨1, by omega, rfl, allGood_succ HG.out (by rw [good_0 hlt]; apply decide_eq_true; go_light; (try simp only [inI, decide_eq_true_eq] at *); omega)⟩
               case measure => (go_light; simp [intOf]; omega))
            | (go_ret
               exact ⟨ret_bool (patV_bad hlt (by rw [good_0 hlt]; apply decide_eq_false; go_light; (try simp only [inI, decide_eq_true_eq] at *); omega)).symm, rfl⟩)
      · have hq : q < s.size := by omega
        go_wp2_with (go_at_call 23; refine (l1In_any _ _ _ _).mono ?_; rintro e w' ⟨rfl, rfl⟩)
        all_goals first
            | (go_round
               case rel => exact ⟨q + 1 + 1, by omega, by go_num, allGood_succ HG.out (by rw [good_s hlt]; apply decide_eq_true; go_light; (try simp only [inI, decide_eq_true_eq, beq_iff_eq, beq_eq_false_iff_ne, ne_eq] at *); omega)⟩
               case measure => (go_light; simp [intOf]; omega))
            | (go_ret
               exact ⟨ret_bool (patV_bad hlt (by rw [good_s hlt]; apply decide_eq_false; go_light; (try simp only [inI, decide_eq_true_eq, beq_iff_eq, beq_eq_false_iff_ne, ne_eq] at *); omega)).symm, rfl⟩)
    · go_wp2
      go_ret
      obtain rfl : k = s.size := by omega
      exact ⟨ret_bool (by unfold patV; rw [HG.out, Bool.eq_iff_iff]; simp; omega), rfl⟩
end Go.Proofs.YtlnldnenkajcdaaDoor
