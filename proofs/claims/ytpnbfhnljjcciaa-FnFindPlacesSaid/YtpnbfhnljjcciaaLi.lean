/- The law on FindPlaces over drawn inputs, walked. -/
import Derived.Test.YtpnbfhnljjcciaaLh
namespace Go.Proofs.Ytpnbfhnljjcciaa
open Go.RowKit
set_option linter.unusedVariables false
theorem fpRest_len (s what : ByteArray) : ∀ n a, (fpRest s what n a).length ≤ n
  | 0, a => Nat.le_refl _
  | n + 1, a => by
    simp only [fpRest]; split
    · simp
    · have := fpRest_len s what n (fnI s what (a + what.size)); simp; omega
theorem fpL_len (s what : ByteArray) : (fpL s what).length ≤ s.size + 2 := fpRest_len s what _ _
/-- At the k-th place: what FindNext gives from behind the place before. -/
theorem fp_at {s what : ByteArray} : ∀ (k : Nat) (xs : List Int), xs = (fpL s what).take k → k ≤ (fpL s what).length → ∃ f, FpInv s what xs (fnI s what ((xs.getLast?.map (· + (what.size : Int))).getD 0)) f
  | 0, xs, h, _ => by
    subst h
    exact ⟨_, FpInv.start s what⟩
  | k + 1, xs, h, hk => by
    obtain ⟨f, hf⟩ := fp_at (s := s) (what := what) k _ rfl (by omega)
    have hkl : k < (fpL s what).length := by omega
    have ha : 0 ≤ fnI s what ((((fpL s what).take k).getLast?.map (· + (what.size : Int))).getD 0) := by
      rcases Int.lt_or_le (fnI s what ((((fpL s what).take k).getLast?.map (· + (what.size : Int))).getD 0)) 0 with h0 | h0
      · exfalso
        have := hf.done (by omega)
        have h2 : ((fpL s what).take k).length = (fpL s what).length := by rw [this]
        rw [List.length_take] at h2; omega
      · exact h0
    have hst := hf.step ha
    have hx : (fpL s what).take k ++ [fnI s what ((((fpL s what).take k).getLast?.map (· + (what.size : Int))).getD 0)] = (fpL s what).take (k + 1) := by
      have h1 := hst.1
      have h2 : ((fpL s what).take k ++ [fnI s what ((((fpL s what).take k).getLast?.map (· + (what.size : Int))).getD 0)]) = (fpL s what).take (k + 1) := by
        have h3 := congrArg (List.take (k + 1)) h1
        rw [List.take_append_of_le_length (by simp; omega), List.take_of_length_le (by simp; omega)] at h3
        exact h3
      exact h2
    refine ⟨f - 1, ?_⟩
    subst h
    rw [← hx, List.getLast?_concat]
    simpa using hst
theorem fp_next {s what : ByteArray} {k : Nat} (hk : k < (fpL s what).length) (at_ : Int) (hat : at_ = (((fpL s what).take k).getLast?.map (· + (what.size : Int))).getD 0) :
    fnI s what at_ = (fpL s what)[k] ∧ (fpL s what)[k] + what.size = ((((fpL s what).take (k + 1)).getLast?.map (· + (what.size : Int))).getD 0) ∧ 0 ≤ (fpL s what)[k] ∧ (fpL s what)[k] ≤ s.size := by
  obtain ⟨f, hf⟩ := fp_at (s := s) (what := what) k _ rfl (by omega)
  subst hat
  have ha : 0 ≤ fnI s what ((((fpL s what).take k).getLast?.map (· + (what.size : Int))).getD 0) := by
    rcases Int.lt_or_le (fnI s what ((((fpL s what).take k).getLast?.map (· + (what.size : Int))).getD 0)) 0 with h0 | h0
    · exfalso
      have := hf.done (by omega)
      have h2 : ((fpL s what).take k).length = (fpL s what).length := by rw [this]
      rw [List.length_take] at h2; omega
    · exact h0
  have h1 := (hf.step ha).1
  have h3 := congrArg (fun l : List Int => l[k]?) h1
  rw [List.getElem?_append_left (by simp; omega), List.getElem?_append_right (by rw [List.length_take]; omega)] at h3
  rw [List.length_take, Nat.min_eq_left (by omega), Nat.sub_self, List.getElem?_eq_getElem hk] at h3
  simp at h3
  obtain ⟨g1, g2, g3, g4⟩ := hf.range ha
  refine ⟨h3, ?_, by rw [← h3]; exact ha, by rw [← h3]; exact g2⟩
  rw [List.take_succ_eq_append_getElem hk, List.getLast?_concat]
  rfl
theorem fp_last {s what : ByteArray} (at_ : Int) (hat : at_ = (((fpL s what).take (fpL s what).length).getLast?.map (· + (what.size : Int))).getD 0) : fnI s what at_ = -1 := by
  obtain ⟨f, hf⟩ := fp_at (s := s) (what := what) (fpL s what).length _ rfl (Nat.le_refl _)
  subst hat
  rcases Int.lt_or_le (fnI s what ((((fpL s what).take (fpL s what).length).getLast?.map (· + (what.size : Int))).getD 0)) 0 with h0 | h0
  · have := hf.2.2.1; omega
  · exfalso
    have h1 := congrArg List.length (hf.step h0).1
    simp at h1
theorem law_FnFindPlaces (A : Option Addr) (n c : Nat) (zs : List Int) (w : World) (h : IsBytes w A n c zs) (hM : ML w) :
    Calls Try.prog 4 #[.slice A n c] w fun e w' => e = .returned (.bool true) ∧ Below w.heap.size w w' := by
  by_cases hbig : 1048576 < n
  · go_enter Try.func4, Try.ntmps4
    go_wp2
    go_ret
    exact ⟨rfl, Below.refl _ _⟩
  have hbg : decide ((1048576 : Int) < (n : Int)) = false := by simp; omega
  have hML := hM.lt
  go_enter Try.func4, Try.ntmps4
  go_wp2_with fail
  refine (dDrawFindPlaces A n c zs _ h).mono ?_
  rintro e W1 ⟨s, what, rfl, hs0, hw0, hb⟩
  have hM1 := hM.below hb hML
  have hs : s.size ≤ maxLen := by unfold maxLen; omega
  have hwm : what.size ≤ maxLen := by unfold maxLen; omega
  clear hbig
  have hlen : (fpL s what).length ≤ 202 := by have := fpRest_len s what (s.size + 2) (fnI s what 0); unfold fpL; omega
  go_wp2_with fail
  refine (iFP_any s what _ hs (by omega) hM1).mono ?_
  rintro e W2 ⟨A2, c2, rfl, ho2, hb2⟩
  have hr2 := Row.of_own ho2
  have hb12 : Below w.heap.size w W2 := hb.trans (hb2.mono hb.size)
  clear ho2
  go_wp2_with fail
  refine (sFP_any s what _ hs (by omega)).mono ?_
  rintro e W3 ⟨A3, c3, rfl, ho3, hb3⟩
  have hr3 := Row.of_own ho3
  have hr23 := (hr2.below hb3).more hb3.size
  have hb13 : Below w.heap.size w W3 := hb12.trans (hb3.mono hb12.size)
  clear ho3
  go_wp2_with fail
  refine (sameInts_same A2 A3 _ _ c2 c3 (fpL s what) W3 hr23 hr3 rfl rfl (by omega)).mono ?_
  rintro e W3' ⟨rfl, q3, rfl⟩
  have hM3 : ML W3 := hM.below hb13 hML
  have hx : ∀ k (hk : k < (fpL s what).length) at_, at_ = (((fpL s what).take k).getLast?.map (· + (what.size : Int))).getD 0 → fnI s what at_ = (fpL s what)[k] ∧ (fpL s what)[k] + what.size = ((((fpL s what).take (k + 1)).getLast?.map (· + (what.size : Int))).getD 0) ∧ 0 ≤ (fpL s what)[k] ∧ (fpL s what)[k] ≤ s.size := fun k hk a ha => fp_next hk a ha
  have hy : ∀ at_, at_ = (((fpL s what).take (fpL s what).length).getLast?.map (· + (what.size : Int))).getD 0 → fnI s what at_ = -1 := fun a ha => fp_last a ha
  generalize fpL s what = xs at *
  have HX := Lib.hid hx
  have HY := Lib.hid hy
  clear hx hy hr3
  go_wp2_with fail
  go_loopw [6, 7] (fun av i wr => ∃ (k : Nat) (a : Int), k ≤ xs.length ∧ i = .int .i64 k ∧ av = .int .i64 a ∧ 0 ≤ a ∧ a ≤ 400 ∧ a = ((xs.take k).getLast?.map (· + (what.size : Int))).getD 0 ∧ ∃ q, wr = W3.drewN q) (fun _ i _ => xs.length - (intOf i).toNat)
  case atStart => exact ⟨0, 0, Nat.zero_le _, rfl, rfl, by omega, by omega, rfl, _, rfl⟩
  case round =>
    obtain ⟨k, a, hk, rfl, rfl, ha0, ha1, hat, q, rfl⟩ := hrel
    have HA := Lib.hid hat
    clear hat
    by_cases hkx : k < xs.length
    · obtain ⟨b, o, rfl, hbb, hc⟩ := hr23.ints_at hkx
      obtain ⟨g1, g2, g3, g4⟩ := HX.out k hkx a HA.out
      have hcall := fun W hM => iFN_any s what a W hs hwm hM
      rw [g1] at hcall
      have HG := Lib.hid g2
      generalize xs[k]'hkx = x at hc hcall g3 g4 HG
      have HC := Lib.hid hcall
      have hk' : (k : Int) < (xs.length : Int) := by omega
      have hk0 : (0 : Int) ≤ (k : Int) := by omega
      have hxx : (x != x) = false := by simp
      clear hcall g1 g2
      go_wp2_with fail
      go_quiet ((go_at_call 14; (first | exact q_left (HC.out _ (hM3.drewN _)) | exact q_add_left (HC.out _ (hM3.drewN _)))))
      go_wp2_with fail
      go_roundw
      case rel => exact ⟨k + 1, _, by omega, by go_num, rfl, by omega, by omega, HG.out, _, rfl⟩
      case measure => (simp [intOf] <;> omega)
    · obtain rfl : k = xs.length := by omega
      have hfin := HY.out a HA.out
      have hcall := iFN_any s what a (W3.drewN q) hs hwm (hM3.drewN q)
      rw [hfin] at hcall
      have HC := Lib.hid hcall
      clear hcall hfin
      go_wp2_with (first | (go_at_call 14; refine (HC.out).mono ?_; rintro e w' ⟨rfl, rfl⟩) | (go_at_call 17; refine (alive_any _).mono ?_; rintro e w' ⟨rfl, rfl⟩))
      go_ret
      exact ⟨rfl, below_drewN hb13 q⟩
end Go.Proofs.Ytpnbfhnljjcciaa
