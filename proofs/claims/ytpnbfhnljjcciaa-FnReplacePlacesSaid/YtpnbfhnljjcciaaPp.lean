/- Plain laws on the places that are found. -/
import Derived.Test.YtpnbfhnljjcciaaPl
namespace Go.Proofs.Ytpnbfhnljjcciaa
open Go.RowKit
theorem fpRest_len (s what : ByteArray) : ∀ n a, (fpRest s what n a).length ≤ n
  | 0, a => Nat.le_refl _
  | n + 1, a => by
    simp only [fpRest]; split
    · simp
    · have := fpRest_len s what n (fnI s what (a + what.size)); simp; omega
theorem fpL_len (s what : ByteArray) : (fpL s what).length ≤ s.size + 2 := fpRest_len s what _ _
/-- At the k-th place: what FindNext gives from behind the place before. -/
theorem fp_at {s what : ByteArray} : ∀ (k : Nat) (xs : List Int), xs = (fpL s what).take k → k ≤ (fpL s what).length → ∃ f, FpInv s what xs (fnI s what ((xs.getLast?.map (· + (what.size : Int))).getD 0)) f
  | 0, xs, h, _ => by
    subst h
    exact ⟨_, FpInv.start s what⟩
  | k + 1, xs, h, hk => by
    obtain ⟨f, hf⟩ := fp_at (s := s) (what := what) k _ rfl (by omega)
    have hkl : k < (fpL s what).length := by omega
    have ha : 0 ≤ fnI s what ((((fpL s what).take k).getLast?.map (· + (what.size : Int))).getD 0) := by
      rcases Int.lt_or_le (fnI s what ((((fpL s what).take k).getLast?.map (· + (what.size : Int))).getD 0)) 0 with h0 | h0
      · exfalso
        have := hf.done (by omega)
        have h2 : ((fpL s what).take k).length = (fpL s what).length := by rw [this]
        rw [List.length_take] at h2; omega
      · exact h0
    have hst := hf.step ha
    have hx : (fpL s what).take k ++ [fnI s what ((((fpL s what).take k).getLast?.map (· + (what.size : Int))).getD 0)] = (fpL s what).take (k + 1) := by
      have h1 := hst.1
      have h2 : ((fpL s what).take k ++ [fnI s what ((((fpL s what).take k).getLast?.map (· + (what.size : Int))).getD 0)]) = (fpL s what).take (k + 1) := by
        have h3 := congrArg (List.take (k + 1)) h1
        rw [List.take_append_of_le_length (by simp; omega), List.take_of_length_le (by simp; omega)] at h3
        exact h3
      exact h2
    refine ⟨f - 1, ?_⟩
    subst h
    rw [← hx, List.getLast?_concat]
    simpa using hst
theorem fp_next {s what : ByteArray} {k : Nat} (hk : k < (fpL s what).length) (at_ : Int) (hat : at_ = (((fpL s what).take k).getLast?.map (· + (what.size : Int))).getD 0) :
    fnI s what at_ = (fpL s what)[k] ∧ (fpL s what)[k] + what.size = ((((fpL s what).take (k + 1)).getLast?.map (· + (what.size : Int))).getD 0) ∧ 0 ≤ (fpL s what)[k] ∧ (fpL s what)[k] ≤ s.size ∧ at_ ≤ (fpL s what)[k] ∧ (fpL s what)[k] + what.size ≤ s.size := by
  obtain ⟨f, hf⟩ := fp_at (s := s) (what := what) k _ rfl (by omega)
  subst hat
  have ha : 0 ≤ fnI s what ((((fpL s what).take k).getLast?.map (· + (what.size : Int))).getD 0) := by
    rcases Int.lt_or_le (fnI s what ((((fpL s what).take k).getLast?.map (· + (what.size : Int))).getD 0)) 0 with h0 | h0
    · exfalso
      have := hf.done (by omega)
      have h2 : ((fpL s what).take k).length = (fpL s what).length := by rw [this]
      rw [List.length_take] at h2; omega
    · exact h0
  have h1 := (hf.step ha).1
  have h3 := congrArg (fun l : List Int => l[k]?) h1
  rw [List.getElem?_append_left (by simp; omega), List.getElem?_append_right (by rw [List.length_take]; omega)] at h3
  rw [List.length_take, Nat.min_eq_left (by omega), Nat.sub_self, List.getElem?_eq_getElem hk] at h3
  simp at h3
  obtain ⟨g1, g2, g3, g4⟩ := hf.range ha
  have hrange := fn_range s what ((((fpL s what).take k).getLast?.map (· + (what.size : Int))).getD 0)
  refine ⟨h3, ?_, by rw [← h3]; exact ha, by rw [← h3]; exact g2, by rw [← h3]; rcases hrange with h | ⟨_, h, _⟩ <;> omega, by rw [← h3]; exact g3⟩
  rw [List.take_succ_eq_append_getElem hk, List.getLast?_concat]
  rfl
theorem fp_last {s what : ByteArray} (at_ : Int) (hat : at_ = (((fpL s what).take (fpL s what).length).getLast?.map (· + (what.size : Int))).getD 0) : fnI s what at_ = -1 := by
  obtain ⟨f, hf⟩ := fp_at (s := s) (what := what) (fpL s what).length _ rfl (Nat.le_refl _)
  subst hat
  rcases Int.lt_or_le (fnI s what ((((fpL s what).take (fpL s what).length).getLast?.map (· + (what.size : Int))).getD 0)) 0 with h0 | h0
  · have := hf.2.2.1; omega
  · exfalso
    have h1 := congrArg List.length (hf.step h0).1
    simp at h1
end Go.Proofs.Ytpnbfhnljjcciaa
