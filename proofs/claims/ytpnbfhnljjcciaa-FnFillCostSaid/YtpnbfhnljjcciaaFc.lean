/- The contracts of FillCost, of the program and of the reference; the laws' helpers on slices of texts. -/
import Derived.Test.YtpnbfhnljjcciaaSs
set_option linter.unusedVariables false
set_option linter.unusedSimpArgs false
namespace Go.Proofs.Ytpnbfhnljjcciaa
open Go.RowKit

/-- What a line costs. -/
def costI (len width : Int) (last : Bool) : Int := if width - len < 0 then 100 * (width - len) * (width - len) else if last = true then 0 else (width - len) * (width - len)
theorem sq_bd (d : Int) (h1 : -200 ≤ d) (h2 : d ≤ 200) : 0 ≤ d * d ∧ d * d ≤ 40000 := by
  constructor
  · rcases Int.le_total 0 d with h | h
    · exact Int.mul_nonneg h h
    · have : d * d = (-d) * (-d) := by rw [Int.neg_mul_neg]
      rw [this]; exact Int.mul_nonneg (by omega) (by omega)
  · rcases Int.le_total 0 d with h | h
    · exact Int.le_trans (Int.mul_le_mul h2 h2 h (by omega)) (by omega)
    · have : d * d = (-d) * (-d) := by rw [Int.neg_mul_neg]
      rw [this]
      exact Int.le_trans (Int.mul_le_mul (show -d ≤ 200 by omega) (show -d ≤ 200 by omega) (by omega) (by omega)) (by omega)
theorem cost_bd (len width : Int) (last : Bool) (h1 : 0 ≤ len) (h2 : len ≤ 120) (h3 : 4 ≤ width) (h4 : width ≤ 40) : 0 ≤ costI len width last ∧ costI len width last ≤ 4000000 := by
  have h := sq_bd (width - len) (by omega) (by omega)
  have e : 100 * (width - len) * (width - len) = 100 * ((width - len) * (width - len)) := Int.mul_assoc _ _ _
  unfold costI
  rw [e]
  generalize (width - len) * (width - len) = q at *
  split
  · omega
  · split <;> omega
theorem lineCost_any (len width : Int) (last : Bool) (w : World) (h1 : 0 ≤ len) (h2 : len ≤ 120) (h3 : 4 ≤ width) (h4 : width ≤ 40) :
    Calls Try.prog 69 #[.int .i64 len, .int .i64 width, .bool last] w fun e w' => e = .returned (.int .i64 (costI len width last)) ∧ w = w' := by
  have h := sq_bd (width - len) (by omega) (by omega)
  have e : 100 * (width - len) * (width - len) = 100 * ((width - len) * (width - len)) := Int.mul_assoc _ _ _
  have hq1 : 0 ≤ 100 * (width - len) * (width - len) := by rw [e]; omega
  have hq2 : 100 * (width - len) * (width - len) ≤ 4000000 := by rw [e]; omega
  obtain ⟨hq3, hq4⟩ := h
  clear e
  by_cases hd : width - len < 0
  · have HC : Hid (costI len width last = 100 * (width - len) * (width - len)) := Lib.hid (by unfold costI; rw [if_pos hd])
    go_enter Try.func69, Try.ntmps69
    go_wp2
    go_ret
    exact ⟨ret_int HC.out.symm, rfl⟩
  · cases last
    · have HC : Hid (costI len width false = (width - len) * (width - len)) := Lib.hid (by unfold costI; rw [if_neg hd, if_neg (by simp)])
      go_enter Try.func69, Try.ntmps69
      go_wp2
      go_ret
      exact ⟨ret_int HC.out.symm, rfl⟩
    · have HC : Hid (costI len width true = 0) := Lib.hid (by unfold costI; rw [if_neg hd, if_pos rfl])
      go_enter Try.func69, Try.ntmps69
      go_wp2
      go_ret
      exact ⟨ret_int HC.out.symm, rfl⟩
theorem l14Cost_any (len width : Int) (last : Bool) (w : World) (h1 : 0 ≤ len) (h2 : len ≤ 120) (h3 : 4 ≤ width) (h4 : width ≤ 40) :
    Calls Try.prog 70 #[.int .i64 len, .int .i64 width, .bool last] w fun e w' => e = .returned (.int .i64 (costI len width last)) ∧ w = w' := by
  have h := sq_bd (width - len) (by omega) (by omega)
  have e : 100 * (width - len) * (width - len) = 100 * ((width - len) * (width - len)) := Int.mul_assoc _ _ _
  have hq1 : 0 ≤ 100 * (width - len) * (width - len) := by rw [e]; omega
  have hq2 : 100 * (width - len) * (width - len) ≤ 4000000 := by rw [e]; omega
  obtain ⟨hq3, hq4⟩ := h
  clear e
  by_cases hd : width - len < 0
  · have HC : Hid (costI len width last = 100 * (width - len) * (width - len)) := Lib.hid (by unfold costI; rw [if_pos hd])
    go_enter Try.func70, Try.ntmps70
    go_wp2
    go_ret
    exact ⟨ret_int HC.out.symm, rfl⟩
  · cases last
    · have HC : Hid (costI len width false = (width - len) * (width - len)) := Lib.hid (by unfold costI; rw [if_neg hd, if_neg (by simp)])
      go_enter Try.func70, Try.ntmps70
      go_wp2
      go_ret
      exact ⟨ret_int HC.out.symm, rfl⟩
    · have HC : Hid (costI len width true = 0) := Lib.hid (by unfold costI; rw [if_neg hd, if_pos rfl])
      go_enter Try.func70, Try.ntmps70
      go_wp2
      go_ret
      exact ⟨ret_int HC.out.symm, rfl⟩
theorem isWidth_any (width : Int) (w : World) : Calls Try.prog 68 #[.int .i64 width] w fun e w' => e = .returned (.bool (inI width 4 40)) ∧ w = w' := by
  go_enter Try.func68, Try.ntmps68
  go_wp2_with (go_at_call 74; refine (in_any _ _ _ _).mono ?_; rintro e w' ⟨rfl, rfl⟩)
  go_ret
  exact ⟨rfl, rfl⟩

/-- The cost of lines, from a sum on. -/
def fcL (width : Int) : List ByteArray → Int → Int
  | [], sum => sum
  | x :: r, sum => if 120 < x.size then -1 else fcL width r (sum + costI x.size width r.isEmpty)
def fcI (ss : List ByteArray) (width : Int) : Int := if inI width 4 40 = true ∧ ss.length ≤ 120 then fcL width ss 0 else -1
theorem fcL_bad {width : Int} {ss : List ByteArray} {k : Nat} {sum : Int} (hk : k < ss.length) (h : 120 < ss[k].size) : fcL width (ss.drop k) sum = -1 := by
  rw [List.drop_eq_getElem_cons hk]; simp only [fcL]; rw [if_pos h]
theorem fcL_good {width : Int} {ss : List ByteArray} {k : Nat} {sum : Int} (hk : k < ss.length) (h : ¬ 120 < ss[k].size) : fcL width (ss.drop k) sum = fcL width (ss.drop (k + 1)) (sum + costI ss[k].size width (ss.drop (k + 1)).isEmpty) := by
  rw [List.drop_eq_getElem_cons hk]; simp only [fcL]; rw [if_neg h]
theorem iFC_any (A : Option Addr) (n c : Nat) (ss : List ByteArray) (width : Int) (w : World) (h : Row w w.heap.size A (strVals ss)) (hl : ss.length = n) (hn : n ≤ 3000000) (hz : ∀ s ∈ ss, s.size ≤ maxLen) :
    Calls Try.prog 30 #[.slice A n c, .int .i64 width] w fun e w' => e = .returned (.int .i64 (fcI ss width)) ∧ ∃ q, w' = w.drewN q := by
  by_cases hok : inI width 4 40 = true ∧ ss.length ≤ 120
  · obtain ⟨hw, h120⟩ := hok
    have HE : Hid (fcI ss width = fcL width ss 0) := Lib.hid (by unfold fcI; rw [if_pos ⟨hw, h120⟩])
    have hwb : 4 ≤ width ∧ width ≤ 40 := by simpa [inI] using hw
    obtain ⟨hw4, hw40⟩ := hwb
    have hn120 : n ≤ 120 := by omega
    have hd : decide ((120 : Int) < (n : Int)) = false := by simp; omega
    clear h120
    go_enter Try.func30, Try.ntmps30
    go_wp2_with (go_at_call 68; refine (isWidth_any _ _).mono ?_; rintro e w' ⟨rfl, rfl⟩)
    go_loopw [5, 18] (fun sv i wr => ∃ (k : Nat) (sum : Int), k ≤ n ∧ i = .int .i64 k ∧ sv = .int .i64 sum ∧ 0 ≤ sum ∧ sum ≤ 4000000 * k ∧ fcL width ss 0 = fcL width (ss.drop k) sum ∧ ∃ q, wr = w.drewN q) (fun _ i _ => n - (intOf i).toNat)
    case atStart => exact ⟨0, 0, Nat.zero_le _, rfl, rfl, by omega, by omega, rfl, 0, rfl⟩
    case round =>
      obtain ⟨k, sum, hk, rfl, rfl, hs0, hs1, hf, q, rfl⟩ := hrel
      have HF := Lib.hid hf
      clear hf
      by_cases hkn : k < n
      · obtain ⟨b, o, rfl, hb, hc⟩ := h.str (j := k) (by omega)
        have hsz := hz _ (List.getElem_mem (show k < ss.length by omega))
        have hkl : k < ss.length := by omega
        have hbad := @fcL_bad width ss k sum hkl
        have hgood := @fcL_good width ss k sum hkl
        have hlast : ((k : Int) == (n : Int) - 1) = (ss.drop (k + 1)).isEmpty := by
          rw [Bool.eq_iff_iff]; simp; omega
        generalize (ss.drop (k + 1)).isEmpty = last at hlast hgood
        generalize ss[k]'hkl = x at hc hsz hbad hgood
        have HBad := Lib.hid hbad
        have HGood := Lib.hid hgood
        have hk' : (k : Int) < (n : Int) := by omega
        have hk0 : (0 : Int) ≤ (k : Int) := by omega
        unfold maxLen at hsz
        clear hbad hgood
        by_cases hx : 120 < x.size
        · go_wp2_with fail
          go_ret
          exact ⟨ret_int (by rw [HE.out, HF.out, HBad.out hx]), q, rfl⟩
        · have hcb := cost_bd x.size width last (by omega) (by omega) hw4 hw40
          obtain ⟨hc1, hc2⟩ := hcb
          go_wp2_with (go_at_call 69; refine (lineCost_any _ _ _ _ (by omega) (by omega) hw4 hw40).mono ?_; rintro e w' ⟨rfl, rfl⟩)
          go_roundw
          case rel => exact ⟨k + 1, sum + costI x.size width last, by omega, by go_num, rfl, by omega, by omega, by rw [HF.out, HGood.out hx], q, rfl⟩
          case measure => (simp [intOf] <;> omega)
      · go_wp2_with fail
        go_ret
        exact ⟨ret_int (by rw [HE.out, HF.out, List.drop_of_length_le (by omega)]; rfl), q, rfl⟩
  · have HE : Hid (fcI ss width = -1) := Lib.hid (by unfold fcI; rw [if_neg hok])
    have hcs : inI width 4 40 = false ∨ (inI width 4 40 = true ∧ 120 < n) := by
      cases hi : inI width 4 40
      · exact .inl rfl
      · exact .inr ⟨rfl, by rw [hi] at hok; simp at hok; omega⟩
    clear hok
    rcases hcs with h1 | ⟨h1, h2⟩
    all_goals
      go_enter Try.func30, Try.ntmps30
      go_wp2_with (go_at_call 68; refine (isWidth_any _ _).mono ?_; rintro e w' ⟨rfl, rfl⟩)
      go_ret
      exact ⟨ret_int HE.out.symm, 0, rfl⟩
theorem sFC_any (A : Option Addr) (n c : Nat) (ss : List ByteArray) (width : Int) (w : World) (h : Row w w.heap.size A (strVals ss)) (hl : ss.length = n) (hn : n ≤ 3000000) (hz : ∀ s ∈ ss, s.size ≤ maxLen) :
    Calls Try.prog 31 #[.slice A n c, .int .i64 width] w fun e w' => e = .returned (.int .i64 (fcI ss width)) ∧ ∃ q, w' = w.drewN q := by
  by_cases hok : inI width 4 40 = true ∧ ss.length ≤ 120
  · obtain ⟨hw, h120⟩ := hok
    have HE : Hid (fcI ss width = fcL width ss 0) := Lib.hid (by unfold fcI; rw [if_pos ⟨hw, h120⟩])
    have hwb : 4 ≤ width ∧ width ≤ 40 := by simpa [inI] using hw
    obtain ⟨hw4, hw40⟩ := hwb
    have hn120 : n ≤ 120 := by omega
    have hd : decide ((120 : Int) < (n : Int)) = false := by simp; omega
    clear h120
    go_enter Try.func31, Try.ntmps31
    go_wp2_with (go_at_call 58; refine (l1In_any _ _ _ _).mono ?_; rintro e w' ⟨rfl, rfl⟩)
    go_loopw [5, 6] (fun sv i wr => ∃ (k : Nat) (sum : Int), k ≤ n ∧ i = .int .i64 k ∧ sv = .int .i64 sum ∧ 0 ≤ sum ∧ sum ≤ 4000000 * k ∧ fcL width ss 0 = fcL width (ss.drop k) sum ∧ ∃ q, wr = w.drewN q) (fun _ i _ => n - (intOf i).toNat)
    case atStart => exact ⟨0, 0, Nat.zero_le _, rfl, rfl, by omega, by omega, rfl, 0, rfl⟩
    case round =>
      obtain ⟨k, sum, hk, rfl, rfl, hs0, hs1, hf, q, rfl⟩ := hrel
      have HF := Lib.hid hf
      clear hf
      by_cases hkn : k < n
      · obtain ⟨b, o, rfl, hb, hc⟩ := h.str (j := k) (by omega)
        have hsz := hz _ (List.getElem_mem (show k < ss.length by omega))
        have hkl : k < ss.length := by omega
        have hbad := @fcL_bad width ss k sum hkl
        have hgood := @fcL_good width ss k sum hkl
        have hlast : ((k : Int) == (n : Int) - 1) = (ss.drop (k + 1)).isEmpty := by
          rw [Bool.eq_iff_iff]; simp; omega
        generalize (ss.drop (k + 1)).isEmpty = last at hlast hgood
        generalize ss[k]'hkl = x at hc hsz hbad hgood
        have HBad := Lib.hid hbad
        have HGood := Lib.hid hgood
        have hk' : (k : Int) < (n : Int) := by omega
        have hk0 : (0 : Int) ≤ (k : Int) := by omega
        unfold maxLen at hsz
        clear hbad hgood
        by_cases hx : 120 < x.size
        · go_wp2_with fail
          go_ret
          exact ⟨ret_int (by rw [HE.out, HF.out, HBad.out hx]), q, rfl⟩
        · have hcb := cost_bd x.size width last (by omega) (by omega) hw4 hw40
          obtain ⟨hc1, hc2⟩ := hcb
          go_wp2_with (go_at_call 70; refine (l14Cost_any _ _ _ _ (by omega) (by omega) hw4 hw40).mono ?_; rintro e w' ⟨rfl, rfl⟩)
          go_roundw
          case rel => exact ⟨k + 1, sum + costI x.size width last, by omega, by go_num, rfl, by omega, by omega, by rw [HF.out, HGood.out hx], q, rfl⟩
          case measure => (simp [intOf] <;> omega)
      · go_wp2_with fail
        go_ret
        exact ⟨ret_int (by rw [HE.out, HF.out, List.drop_of_length_le (by omega)]; rfl), q, rfl⟩
  · have HE : Hid (fcI ss width = -1) := Lib.hid (by unfold fcI; rw [if_neg hok])
    have hcs : inI width 4 40 = false ∨ (inI width 4 40 = true ∧ 120 < n) := by
      cases hi : inI width 4 40
      · exact .inl rfl
      · exact .inr ⟨rfl, by rw [hi] at hok; simp at hok; omega⟩
    clear hok
    rcases hcs with h1 | ⟨h1, h2⟩
    all_goals
      go_enter Try.func31, Try.ntmps31
      go_wp2_with (go_at_call 58; refine (l1In_any _ _ _ _).mono ?_; rintro e w' ⟨rfl, rfl⟩)
      go_ret
      exact ⟨ret_int HE.out.symm, 0, rfl⟩
end Go.Proofs.Ytpnbfhnljjcciaa
