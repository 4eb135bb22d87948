/- The contracts of FindLast, of the program and of the reference. -/
import Derived.Test.YtpnbfhnljjcciaaFd
namespace Go.Proofs.Ytpnbfhnljjcciaa
open Go.RowKit

/-- The last place before b at which 'what' stands. -/
def lastN (s what : ByteArray) : Nat → Int
  | 0 => -1
  | k + 1 => if occ s what k = true then k else lastN s what k
def flI (s what : ByteArray) (b : Int) : Int := if fnOk s what b = true then lastN s what b.toNat else -1
theorem lastN_hit {s what : ByteArray} {k : Nat} (h : occ s what k = true) : lastN s what (k + 1) = k := by simp [lastN, h]
theorem lastN_miss {s what : ByteArray} {k : Nat} (h : occ s what k = false) : lastN s what (k + 1) = lastN s what k := by simp [lastN, h]
theorem lastN_far {s what : ByteArray} (hne : what.data.toList ≠ []) {a : Nat} (ha : s.size < a + what.size) : ∀ b, a ≤ b → lastN s what b = lastN s what a
  | 0, h => by obtain rfl : a = 0 := by omega
               rfl
  | b + 1, h => by
    rcases Nat.lt_or_ge b a with h1 | h1
    · obtain rfl : a = b + 1 := by omega
      rfl
    · rw [lastN_miss (occ_room hne (by omega))]
      exact lastN_far hne ha b h1

theorem iFL_any (s what : ByteArray) (p : Int) (w : World) (hs : s.size ≤ maxLen) (hw : what.size ≤ 2097152) :
    Calls Try.prog 23 #[.string s, .string what, .int .i64 p] w fun e w' => e = .returned (.int .i64 (flI s what p)) ∧ w = w' := by
  have hs' := hs
  unfold maxLen at hs'
  by_cases hok : fnOk s what p = true
  · obtain ⟨hp, hne⟩ := fnOkS hok
    obtain ⟨n, rfl, hn⟩ := place_nat hp
    have hsz := valid_size (placeS hp).1
    have HE : Hid (flI s what n = lastN s what n) := Lib.hid (by unfold flI; rw [if_pos hok]; rfl)
    obtain ⟨hne1, hne2, hne3⟩ := what_ne hne
    have HN := Lib.hid hne1
    clear hok hne1
    go_enter Try.func23, Try.ntmps23
    go_wp2_with fail
    refine (iPl_any _ _ _ hs).mono ?_
    rintro e w' ⟨rfl, rfl⟩
    go_wp2_with fail
    go_loop [7] (fun i => ∃ q : Int, i = .int .i64 q ∧ -3000000 ≤ q ∧ q ≤ (s.size : Int) - what.size ∧ lastN s what n = lastN s what (q + 1).toNat) (fun i => (intOf i + 1).toNat)
    case atStart =>
      refine ⟨_, rfl, by omega, by omega, ?_⟩
      rcases Nat.lt_or_ge (s.size + 1) (n + what.size) with h | h
      · refine lastN_far HN.out ?_ n ?_ <;> omega
      · congr 1; omega
    case round =>
      obtain ⟨q, rfl, hq1, hq2, hq3⟩ := hrel
      have HQ := Lib.hid hq3
      clear hq3
      by_cases hq0 : 0 ≤ q
      · obtain ⟨a, rfl⟩ := Int.eq_ofNat_of_zero_le hq0
        have hea : ((a : Int) + 1).toNat = a + 1 := by omega
        have HP : Hid (∀ w, Calls Try.prog 59 #[.string (s.extract a s.size), .string what] w fun e w' => e = .returned (.bool (occ s what a)) ∧ w = w') := Lib.hid (fun w =>
          (Try.strings_HasPrefix (s.extract a s.size) what w).mono fun _ _ h => ⟨by rw [h.1, Lib.extract_to_end]; rfl, h.2.symm⟩)
        cases ho : occ s what a
        · go_wp2_with (go_at_call 59; refine (HP.out _).mono ?_; rintro e w' ⟨rfl, rfl⟩)
          go_round
          case rel => exact ⟨_, rfl, by omega, by omega, by rw [HQ.out, hea, lastN_miss ho, show ((a : Int) - 1 + 1).toNat = a by omega]⟩
          case measure => (simp [intOf] <;> omega)
        · go_wp2_with (go_at_call 59; refine (HP.out _).mono ?_; rintro e w' ⟨rfl, rfl⟩)
          go_ret
          exact ⟨ret_int (by rw [HE.out, HQ.out, hea, lastN_hit ho]), rfl⟩
      · go_wp2_with fail
        go_ret
        exact ⟨ret_int (by rw [HE.out, HQ.out, show (q + 1).toNat = 0 by omega]; rfl), rfl⟩
  · have HE : Hid (flI s what p = -1) := Lib.hid (by unfold flI; rw [if_neg hok])
    rcases fnOkF hok with hp | ⟨hp, hne⟩
    rotate_left
    have hne2 := what_eq hne
    rotate_left
    all_goals
      clear hok
      go_enter Try.func23, Try.ntmps23
      go_wp2_with (go_at_call 55; refine (iPl_any _ _ _ hs).mono ?_; rintro e w' ⟨rfl, rfl⟩)
      go_ret
      exact ⟨ret_int HE.out.symm, rfl⟩
theorem sFL_any (s what : ByteArray) (p : Int) (w : World) (hs : s.size ≤ maxLen) (hw : what.size ≤ 2097152) :
    Calls Try.prog 24 #[.string s, .string what, .int .i64 p] w fun e w' => e = .returned (.int .i64 (flI s what p)) ∧ w = w' := by
  have hs' := hs
  unfold maxLen at hs'
  by_cases hok : fnOk s what p = true
  · obtain ⟨hp, hne⟩ := fnOkS hok
    obtain ⟨n, rfl, hn⟩ := place_nat hp
    obtain ⟨hv, hin⟩ := placeS hp
    have hsz := valid_size hv
    have HE : Hid (flI s what n = lastN s what n) := Lib.hid (by unfold flI; rw [if_pos hok]; rfl)
    obtain ⟨hne1, hne2, hne3⟩ := what_ne hne
    have HN := Lib.hid hne1
    have hne4 : (!what.toList.isEmpty) = true := by rw [hne]; rfl
    clear hok hp hne1
    go_enter Try.func24, Try.ntmps24
    go_wp2_with fail
    go_loop [7, 8] (fun o i => ∃ k : Nat, k ≤ n ∧ k ≤ s.size + 1 ∧ i = .int .i64 k ∧ o = .int .i64 (lastN s what k)) (fun _ i => s.size + 1 - (intOf i).toNat)
    case atStart => exact ⟨0, Nat.zero_le _, Nat.zero_le _, rfl, rfl⟩
    case round =>
      obtain ⟨k, hk1, hk2, rfl, rfl⟩ := hrel
      by_cases hkn : k < n
      · by_cases hkm : k + what.size ≤ s.size
        · have hx := extract_eq s what k hkm
          have hkm' : (k : Int) + (what.size : Int) ≤ (s.size : Int) := by omega
          cases ho : occ s what k
          · rw [ho] at hx
            go_wp2_with (first
              | (go_at_call 57; refine (sTV_any _ _ hs).mono ?_; rintro e w' ⟨rfl, rfl⟩)
              | (go_at_call 58; refine (l1In_any _ _ _ _).mono ?_; rintro e w' ⟨rfl, rfl⟩))
            go_round
            case rel => exact ⟨k + 1, by omega, by omega, by go_num, by rw [lastN_miss ho]⟩
            case measure => (simp [intOf] <;> omega)
          · rw [ho] at hx
            go_wp2_with (first
              | (go_at_call 57; refine (sTV_any _ _ hs).mono ?_; rintro e w' ⟨rfl, rfl⟩)
              | (go_at_call 58; refine (l1In_any _ _ _ _).mono ?_; rintro e w' ⟨rfl, rfl⟩))
            go_round
            case rel => exact ⟨k + 1, by omega, by omega, by go_num, by rw [lastN_hit ho]⟩
            case measure => (simp [intOf] <;> omega)
        · have hkm' : (s.size : Int) < (k : Int) + (what.size : Int) := by omega
          go_wp2_with (first
            | (go_at_call 57; refine (sTV_any _ _ hs).mono ?_; rintro e w' ⟨rfl, rfl⟩)
            | (go_at_call 58; refine (l1In_any _ _ _ _).mono ?_; rintro e w' ⟨rfl, rfl⟩))
          go_ret
          exact ⟨ret_int (by rw [HE.out, lastN_far HN.out (by omega) n hk1]), rfl⟩
      · obtain rfl : k = n := by omega
        go_wp2_with (first
          | (go_at_call 57; refine (sTV_any _ _ hs).mono ?_; rintro e w' ⟨rfl, rfl⟩)
          | (go_at_call 58; refine (l1In_any _ _ _ _).mono ?_; rintro e w' ⟨rfl, rfl⟩))
        go_ret
        exact ⟨ret_int HE.out.symm, rfl⟩
  · have HE : Hid (flI s what p = -1) := Lib.hid (by unfold flI; rw [if_neg hok])
    have hcs : valid s.data.toList = false ∨ (valid s.data.toList = true ∧ inI p 0 s.size = false) ∨ (valid s.data.toList = true ∧ inI p 0 s.size = true ∧ what.toList.isEmpty = true ∧ what.toList = []) := by
      rcases fnOkF hok with hp | ⟨hp, hne⟩
      · rcases placeF (s := s) (p := p) (by simp [hp]) with h | h
        · exact .inl h
        · exact .inr (.inl h)
      · exact .inr (.inr ⟨(placeS hp).1, (placeS hp).2, hne, what_eq hne⟩)
    clear hok
    rcases hcs with h1 | ⟨h1, h2⟩ | ⟨h1, h2, h3, h4⟩
    all_goals
      go_enter Try.func24, Try.ntmps24
      go_wp2_with fail
      go_loop [7, 8] (fun o i => o = .int .i64 (-1) ∧ i = .int .i64 0) (fun _ _ => 0)
      case atStart => exact ⟨rfl, rfl⟩
      case round =>
        obtain ⟨rfl, rfl⟩ := hrel
        go_wp2_with (first
          | (go_at_call 57; refine (sTV_any _ _ hs).mono ?_; rintro e w' ⟨rfl, rfl⟩)
          | (go_at_call 58; refine (l1In_any _ _ _ _).mono ?_; rintro e w' ⟨rfl, rfl⟩))
        all_goals (go_ret; exact ⟨ret_int HE.out.symm, rfl⟩)
end Go.Proofs.Ytpnbfhnljjcciaa
