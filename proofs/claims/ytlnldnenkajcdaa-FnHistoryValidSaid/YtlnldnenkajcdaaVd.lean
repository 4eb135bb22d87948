/- The contracts of MarksValid, and of the reference's ChangeFits. -/
import Derived.Test.YtlnldnenkajcdaaVb
set_option linter.unusedVariables false
set_option linter.unusedSimpArgs false
namespace Go.Proofs.Ytlnldnenkajcdaa
open Go.RowKit
def allM (n : Nat) : List (Int × Bool) → Bool
  | [] => true
  | m :: l => inI m.1 0 n && allM n l
theorem allM_drop (n : Nat) {l : List (Int × Bool)} {k : Nat} (h : k < l.length) : allM n (l.drop k) = (inI l[k].1 0 n && allM n (l.drop (k + 1))) := by
  rw [List.drop_eq_getElem_cons h]; rfl
theorem allM_end (n : Nat) {l : List (Int × Bool)} {k : Nat} (h : l.length ≤ k) : allM n (l.drop k) = true := by
  rw [List.drop_of_length_le h]; rfl
theorem allM_iff {n : Nat} : ∀ {l : List (Int × Bool)}, allM n l = true ↔ ∀ m ∈ l, inI m.1 0 n = true
  | [] => by simp [allM]
  | m :: l => by simp [allM, allM_iff (l := l)]
/-- Marks at places of a valid text, at most ten. -/
def mvB (s : ByteArray) (ms : List (Int × Bool)) : Bool := valid s.data.toList && allM s.size ms && decide (ms.length ≤ 10)
theorem mv_stop {v a b r i p x z : Bool} (h1 : (v && b) = (v && a)) (h2 : b = (i && r)) (h3 : p = (v && i)) (h4 : p = false) (hz : z = (v && a && x)) : z = false := by
  subst h2 h3
  cases v <;> cases i <;> simp_all
theorem mv_go {v a b r i p : Bool} (h1 : (v && b) = (v && a)) (h2 : b = (i && r)) (h3 : p = (v && i)) (h4 : p = true) : (v && r) = (v && a) := by
  subst h2 h3
  cases v <;> cases i <;> simp_all
theorem mv_end {v a b x z : Bool} (h1 : (v && b) = (v && a)) (h2 : b = true) (hz : z = (v && a && x)) : z = (v && x) := by
  subst h2
  cases v <;> simp_all
set_option maxHeartbeats 4000000 in
theorem iMV_any (s : ByteArray) (A : Option Addr) (n c : Nat) (ms : List (Int × Bool)) (w : World) (hs : s.size ≤ maxLen) (h : Row w w.heap.size A (mks ms)) (hn : ms.length = n) (hmax : n ≤ 3000000) :
    Calls Try.prog 19 #[.string s, .slice A n c] w fun e w' => e = .returned (.bool (mvB s ms)) ∧ Below w.heap.size w w' := by
  have hpl : mvB s ms = (valid s.data.toList && allM s.size ms && decide (n ≤ 10)) := by rw [← hn]; rfl
  have HP := Lib.hid hpl
  have HN := Lib.hid hn
  clear hpl hn
  go_enter Try.func19, Try.ntmps19
  go_wp2_with fail
  go_loopw [9] (fun i wr => ∃ k : Nat, k ≤ n ∧ i = .int .i64 k ∧ Below w.heap.size w wr ∧ Hid ((valid s.data.toList && allM s.size (ms.drop k)) = (valid s.data.toList && allM s.size ms))) (fun i _ => n - (intOf i).toNat)
  case atStart => exact ⟨0, Nat.zero_le _, rfl, Below.refl _ _, Lib.hid rfl⟩
  case round =>
    obtain ⟨k, hk, rfl, hbw, HA⟩ := hrel
    by_cases hkn : k < n
    · have hkl : k < ms.length := by rw [HN.out]; exact hkn
      obtain ⟨b, o, rfl, hb, hc1, hd1⟩ := (h.below hbw).mark (j := k) hkl
      have HD := Lib.hid (allM_drop s.size hkl)
      generalize (ms[k]'hkl) = y at hc1 hd1 HD
      obtain ⟨y1, y2⟩ := y
      simp only at hc1 hd1 HD
      have hk' : (k : Int) < (n : Int) := by omega
      have hk0 : (0 : Int) ≤ (k : Int) := by omega
      have HBW := Lib.hid (hbw.alloc hbw.size (.cells #[.int .i64 y1, .bool y2] 46))
      have hbz : b < wr.heap.size := by have := hbw.size; omega
      clear hbw h hb
      cases h1 : place s y1
      · go_wp2_with fail
        refine (iPl_any s y1 _ hs).mono ?_
        rintro e w' ⟨rfl, rfl⟩
        go_wp2_with fail
        go_ret
        exact ⟨ret_bool (mv_stop HA.out HD.out (show place s y1 = _ from rfl) h1 HP.out).symm, HBW.out⟩
      · go_wp2_with fail
        refine (iPl_any s y1 _ hs).mono ?_
        rintro e w' ⟨rfl, rfl⟩
        go_wp2_with fail
        go_roundw
        case rel => exact ⟨k + 1, by omega, by go_num, HBW.out, Lib.hid (mv_go HA.out HD.out (show place s y1 = _ from rfl) h1)⟩
        case measure => (simp [intOf] <;> omega)
    · obtain rfl : k = n := by omega
      have HE := Lib.hid (mv_end HA.out (allM_end s.size (Nat.le_of_eq HN.out)) HP.out)
      cases hv : valid s.data.toList
      · go_wp2_with fail
        refine (iTV_any _ _ hs).mono ?_
        rintro e w' ⟨rfl, rfl⟩
        go_wp2_with fail
        go_ret
        exact ⟨ret_bool (by rw [HE.out, hv]; rfl), hbw⟩
      · go_wp2_with fail
        refine (iTV_any _ _ hs).mono ?_
        rintro e w' ⟨rfl, rfl⟩
        go_wp2_with fail
        go_ret
        exact ⟨ret_bool (by rw [HE.out, hv]; simp; omega), hbw⟩
theorem mw_stop {v a b r i x z : Bool} (h1 : b = a) (h2 : b = (i && r)) (h4 : i = false) (hz : z = (v && a && x)) : z = false := by
  subst h1 h2 h4; simp_all
theorem mw_end {v a b x z : Bool} (h1 : b = a) (h2 : b = true) (hz : z = (v && a && x)) : z = (v && x) := by
  subst h1 h2; simp_all
set_option maxHeartbeats 4000000 in
theorem sMV_any (s : ByteArray) (A : Option Addr) (n c : Nat) (ms : List (Int × Bool)) (w : World) (hs : s.size ≤ maxLen) (h : Row w w.heap.size A (mks ms)) (hn : ms.length = n) (hmax : n ≤ 3000000) :
    Calls Try.prog 17 #[.string s, .slice A n c] w fun e w' => e = .returned (.bool (mvB s ms)) ∧ w = w' := by
  have hpl : mvB s ms = (valid s.data.toList && allM s.size ms && decide (n ≤ 10)) := by rw [← hn]; rfl
  have HP := Lib.hid hpl
  have HN := Lib.hid hn
  have hs' := hs
  unfold maxLen at hs'
  clear hpl hn
  go_enter Try.func17, Try.ntmps17
  go_wp2_with fail
  go_loopw [5] (fun i wr => ∃ k : Nat, k ≤ n ∧ i = .int .i64 k ∧ wr = w ∧ Hid (allM s.size (ms.drop k) = allM s.size ms)) (fun i _ => n - (intOf i).toNat)
  case atStart => exact ⟨0, Nat.zero_le _, rfl, rfl, Lib.hid rfl⟩
  case round =>
    obtain ⟨k, hk, rfl, rfl, HA⟩ := hrel
    by_cases hkn : k < n
    · have hkl : k < ms.length := by rw [HN.out]; exact hkn
      obtain ⟨b, o, rfl, hb, hc1, hd1⟩ := h.mark (j := k) hkl
      have HD := Lib.hid (allM_drop s.size hkl)
      generalize (ms[k]'hkl) = y at hc1 hd1 HD
      obtain ⟨y1, y2⟩ := y
      simp only at hc1 hd1 HD
      have hk' : (k : Int) < (n : Int) := by omega
      have hk0 : (0 : Int) ≤ (k : Int) := by omega
      have hli := fun W => l1In_any y1 0 s.size W
      cases h1 : inI y1 0 s.size
      · rw [h1] at hli
        have HLI := Lib.hid hli
        clear hli
        go_wp2_with fail
        refine (HLI.out _).mono ?_
        rintro e w' ⟨rfl, rfl⟩
        go_wp2_with fail
        go_ret
        exact ⟨ret_bool (mw_stop HA.out HD.out h1 HP.out).symm, rfl⟩
      · rw [h1] at hli
        have HLI := Lib.hid hli
        clear hli
        go_wp2_with fail
        refine (HLI.out _).mono ?_
        rintro e w' ⟨rfl, rfl⟩
        go_wp2_with fail
        go_roundw
        case rel => exact ⟨k + 1, by omega, by go_num, by first | rfl | trivial, Lib.hid (by rw [← HA.out, HD.out, h1, Bool.true_and])⟩
        case measure => (simp [intOf] <;> omega)
    · obtain rfl : k = n := by omega
      have HE := Lib.hid (mw_end HA.out (allM_end s.size (Nat.le_of_eq HN.out)) HP.out)
      cases hv : valid s.data.toList
      · go_wp2_with fail
        refine (sTV_any _ _ hs).mono ?_
        rintro e w' ⟨rfl, rfl⟩
        go_wp2_with fail
        go_ret
        exact ⟨ret_bool (by rw [HE.out, hv]; rfl), rfl⟩
      · go_wp2_with fail
        refine (sTV_any _ _ hs).mono ?_
        rintro e w' ⟨rfl, rfl⟩
        go_wp2_with fail
        go_ret
        exact ⟨ret_bool (by rw [HE.out, hv]; simp; omega), rfl⟩
end Go.Proofs.Ytlnldnenkajcdaa
