/- The contracts of the small functions on bytes and texts: in, isByte, TextValid, isPlace, class, skip, skipBack and the reference's own. -/
import Derived.Test.YtlnldnenkajcdaaRows
import Derived.WalkKit
import Derived.WalkSpells
import Derived.WalkLawsBesides
import Derived.Lib.Hide
import Derived.Outline
import Derived.Deep.DeepFit
import Derived.Deep.QuietTactic
import Derived.BigQuiet
set_option linter.unusedVariables false
set_option linter.unusedSimpArgs false
namespace Go.Proofs.Ytlnldnenkajcdaa
open Go.RowKit

def clsI (c : Int) : Int :=
  if c = 32 ∨ c = 10 then 0 else if (48 ≤ c ∧ c ≤ 57) ∨ (97 ≤ c ∧ c ≤ 122) ∨ (65 ≤ c ∧ c ≤ 90) then 1 else 2
def okI (c : Int) : Bool := decide (c = 10 ∨ (32 ≤ c ∧ c ≤ 126))
def inI (n lo hi : Int) : Bool := decide (lo ≤ n ∧ n ≤ hi)
def allOk : List UInt8 → Bool
  | [] => true
  | c :: l => okI c.toNat && allOk l
def valid (l : List UInt8) : Bool := allOk l && decide (l.length ≤ 120)

/-! Calls inside a quiet region: contracts that leave the world alone ('w = w''), or only draw. -/
section
variable {P : Program} {f : FuncId} {args : Array Value} {w : World} {a n : Nat} {v : Value}
theorem q_add (h : Calls P f args (w.drewN (a + n)) fun e w' => e = .returned v ∧ ∃ m, w' = (w.drewN (a + n)).drewN m) :
    Calls P f args (w.drewN (a + n)) fun e w'' => e = .returned v ∧ ∃ m, w'' = w.drewN (a + m) :=
  h.mono fun _ _ ⟨he, m, hm⟩ => ⟨he, n + m, by rw [hm, World.drewN_drewN, Nat.add_assoc]⟩
theorem q_one (h : Calls P f args (w.drewN n) fun e w' => e = .returned v ∧ ∃ m, w' = (w.drewN n).drewN m) : Calls P f args (w.drewN n) fun e w'' => e = .returned v ∧ ∃ m, w'' = w.drewN m :=
  h.mono fun _ _ ⟨he, m, hm⟩ => ⟨he, n + m, by rw [hm, World.drewN_drewN]⟩
theorem q_add_left (h : Calls P f args (w.drewN (a + n)) fun e w' => e = .returned v ∧ w.drewN (a + n) = w') :
    Calls P f args (w.drewN (a + n)) fun e w'' => e = .returned v ∧ ∃ m, w'' = w.drewN (a + m) :=
  h.mono fun _ _ ⟨he, hm⟩ => ⟨he, n, hm.symm⟩
theorem q_left (h : Calls P f args (w.drewN n) fun e w' => e = .returned v ∧ w.drewN n = w') : Calls P f args (w.drewN n) fun e w'' => e = .returned v ∧ ∃ m, w'' = w.drewN m :=
  h.mono fun _ _ ⟨he, hm⟩ => ⟨he, n, hm.symm⟩
end
theorem below_drewN {B : Nat} {a w : World} (h : Below B a w) (n : Nat) : Below B a (w.drewN n) := ⟨h.os, h.tape, h.output, h.size, h.block⟩
theorem drewN_zero (w : World) : w = w.drewN 0 := rfl
theorem drewN_add (w : World) (a b : Nat) : (w.drewN a).drewN b = w.drewN (a + b) := World.drewN_drewN w a b

theorem ret_int {k : IntKind} {a b : Int} (h : a = b) : Ending.returned (.int k a) = .returned (.int k b) := by rw [h]
theorem ret_pair {k l : IntKind} {a b c d : Int} (h : a = b) (g : c = d) : Ending.returned (.tuple #[.int k a, .int l c]) = .returned (.tuple #[.int k b, .int l d]) := by rw [h, g]
theorem ret_bool {a b : Bool} (h : a = b) : Ending.returned (.bool a) = .returned (.bool b) := by rw [h]

theorem u8_lt (c : UInt8) : (c.toNat : Int) ≤ 255 := by have := c.toNat_lt; omega
theorem drop_cons (s : ByteArray) (k : Nat) (h : k < s.size) : s.data.toList.drop k = s[k] :: s.data.toList.drop (k + 1) := by
  rw [List.drop_eq_getElem_cons (by simpa using h)]; rfl
theorem drop_size (s : ByteArray) : s.data.toList.drop s.size = [] := List.drop_of_length_le (by simp)

theorem isByte_any (c : Int) (w : World) (h0 : 0 ≤ c) (h1 : c ≤ 255) :
    Calls Try.prog 52 #[.int .u8 c] w fun e w' => e = .returned (.bool (okI c)) ∧ w = w' := by
  go_enter Try.func52, Try.ntmps52
  go_wp2
  all_goals (go_ret; refine ⟨ret_bool ?_, rfl⟩; unfold okI; first | (simp_all; done) | (simp_all; omega) | (rw [Bool.eq_iff_iff]; simp_all; omega))
theorem isByte_u8 (c : UInt8) (w : World) :
    Calls Try.prog 52 #[.int .u8 c.toNat] w fun e w' => e = .returned (.bool (okI c.toNat)) ∧ w = w' := isByte_any _ w (by omega) (u8_lt c)
theorem in_any (n lo hi : Int) (w : World) :
    Calls Try.prog 46 #[.int .i64 n, .int .i64 lo, .int .i64 hi] w fun e w' => e = .returned (.bool (inI n lo hi)) ∧ w = w' := by
  go_enter Try.func46, Try.ntmps46
  go_wp2
  all_goals (go_ret; refine ⟨ret_bool ?_, rfl⟩; unfold inI; simp_all <;> omega)
theorem l1In_any (n lo hi : Int) (w : World) :
    Calls Try.prog 24 #[.int .i64 n, .int .i64 lo, .int .i64 hi] w fun e w' => e = .returned (.bool (inI n lo hi)) ∧ w = w' := by
  go_enter Try.func24, Try.ntmps24
  go_wp2
  all_goals (go_ret; refine ⟨ret_bool ?_, rfl⟩; unfold inI; simp_all <;> omega)
theorem okI_eq (c : Int) : okI c = (c == 10 || inI c 32 126) := by
  rw [Bool.eq_iff_iff]; simp [okI, inI]
theorem valid_of {s : ByteArray} {b : Bool} (h : allOk s.data.toList = b) : valid s.data.toList = (b && decide (s.size ≤ 120)) := by
  simp [valid, h]
theorem valid_size {s : ByteArray} (h : valid s.data.toList = true) : s.size ≤ 120 := by simp [valid] at h; exact h.2

theorem iTV_any (s : ByteArray) (w : World) (hs : s.size ≤ maxLen) :
    Calls Try.prog 36 #[.string s] w fun e w' => e = .returned (.bool (valid s.data.toList)) ∧ w = w' := by
  unfold maxLen at hs
  go_enter Try.func36, Try.ntmps36
  go_wp2
  go_loop [6] (fun i => ∃ k : Nat, k ≤ s.size ∧ i = .int .i64 k ∧ allOk s.data.toList = allOk (s.data.toList.drop k)) (fun i => s.size - (intOf i).toNat)
  case atStart => exact ⟨0, Nat.zero_le _, rfl, rfl⟩
  case round =>
    obtain ⟨k, hk, rfl, hall⟩ := hrel
    by_cases hlt : k < s.size
    · have HA : Hid (allOk s.data.toList = (okI s[k].toNat && allOk (s.data.toList.drop (k+1)))) := by rw [hall, drop_cons s k hlt]; rfl
      clear hall
      go_wp2_with (go_at_call 52; refine (isByte_u8 _ _).mono ?_; rintro e w' ⟨rfl, rfl⟩)
      · go_ret
        have h : (!okI s[k].toNat) = true := by assumption
        exact ⟨ret_bool (by rw [valid_of HA.out]; simp at h; simp [h]), rfl⟩
      · go_round
        have h : (!okI s[k].toNat) = false := by assumption
        case rel => exact ⟨k + 1, by omega, by go_num, by rw [HA.out]; simp at h; simp [h]⟩
        case measure => (simp [intOf] <;> omega)
    · obtain rfl : k = s.size := by omega
      rw [drop_size] at hall
      have HA := Lib.hid hall
      clear hall
      go_wp2
      go_ret
      exact ⟨ret_bool (by rw [valid_of HA.out, Bool.eq_iff_iff]; simp [allOk]; omega), rfl⟩
theorem l1Plain_any (s : ByteArray) (w : World) (hs : s.size ≤ maxLen) :
    Calls Try.prog 42 #[.string s] w fun e w' => e = .returned (.bool (allOk s.data.toList)) ∧ w = w' := by
  unfold maxLen at hs
  go_enter Try.func42, Try.ntmps42
  go_wp2
  go_loop [3] (fun i => ∃ k : Nat, k ≤ s.size ∧ i = .int .i64 k ∧ allOk s.data.toList = allOk (s.data.toList.drop k)) (fun i => s.size - (intOf i).toNat)
  case atStart => exact ⟨0, Nat.zero_le _, rfl, rfl⟩
  case round =>
    obtain ⟨k, hk, rfl, hall⟩ := hrel
    by_cases hlt : k < s.size
    · have HA : Hid (allOk s.data.toList = (okI s[k].toNat && allOk (s.data.toList.drop (k+1)))) := by rw [hall, drop_cons s k hlt]; rfl
      clear hall
      have hb : s[k].toNat < 256 := s[k].toNat_lt
      go_wp2_with (go_at_call 24; refine (l1In_any _ _ _ _).mono ?_; rintro e w' ⟨rfl, rfl⟩)
      · go_round
        have h : (s[k].toNat : Int) = 10 := by assumption
        case rel => exact ⟨k + 1, by omega, by go_num, by rw [HA.out, okI_eq]; simp [h]⟩
        case measure => (simp [intOf] <;> omega)
      · go_ret
        have h : ((s[k].toNat : Int) != 10) = true ∧ (!inI (s[k].toNat) 32 126) = true := by assumption
        exact ⟨ret_bool (by rw [HA.out, okI_eq]; simp at h; simp [h]), rfl⟩
      · go_round
        have h : ((s[k].toNat : Int) != 10) = false ∨ (!inI (s[k].toNat) 32 126) = false := by assumption
        case rel => exact ⟨k + 1, by omega, by go_num, by rw [HA.out, okI_eq]; simp at h; rcases h with h | h <;> simp [h]⟩
        case measure => (simp [intOf] <;> omega)
    · obtain rfl : k = s.size := by omega
      rw [drop_size] at hall
      have HA := Lib.hid hall
      clear hall
      go_wp2
      go_ret
      exact ⟨ret_bool (by rw [HA.out]; rfl), rfl⟩
theorem sTV_any (s : ByteArray) (w : World) (hs : s.size ≤ maxLen) :
    Calls Try.prog 23 #[.string s] w fun e w' => e = .returned (.bool (valid s.data.toList)) ∧ w = w' := by
  have hs' := hs
  unfold maxLen at hs'
  go_enter Try.func23, Try.ntmps23
  go_wp2_with (go_at_call 42; refine (l1Plain_any _ _ hs).mono ?_; rintro e w' ⟨rfl, rfl⟩)
  all_goals (go_ret; exact ⟨ret_bool (by rw [valid_of rfl]; simp_all <;> omega), rfl⟩)
theorem isPlace_any (s : ByteArray) (p : Int) (w : World) (hs : s.size ≤ maxLen) :
    Calls Try.prog 39 #[.string s, .int .i64 p] w fun e w' => e = .returned (.bool (valid s.data.toList && inI p 0 s.size)) ∧ w = w' := by
  have hs' := hs
  unfold maxLen at hs'
  go_enter Try.func39, Try.ntmps39
  go_wp2_with (first | (go_at_call 36; refine (iTV_any _ _ hs).mono ?_; rintro e w' ⟨rfl, rfl⟩) | (go_at_call 46; refine (in_any _ _ _ _).mono ?_; rintro e w' ⟨rfl, rfl⟩))
  all_goals (go_ret; exact ⟨ret_bool (by simp_all), rfl⟩)
def place (s : ByteArray) (p : Int) : Bool := valid s.data.toList && inI p 0 s.size
theorem place_nat {s : ByteArray} {p : Int} (h : place s p = true) : ∃ n : Nat, p = n ∧ n ≤ s.size := by
  simp [place, inI] at h
  obtain ⟨n, rfl⟩ := Int.eq_ofNat_of_zero_le h.2.1
  exact ⟨n, rfl, by omega⟩
theorem iPl_any (s : ByteArray) (p : Int) (w : World) (hs : s.size ≤ maxLen) :
    Calls Try.prog 39 #[.string s, .int .i64 p] w fun e w' => e = .returned (.bool (place s p)) ∧ w = w' := isPlace_any s p w hs
theorem placeS {s : ByteArray} {p : Int} (h : place s p = true) : valid s.data.toList = true ∧ inI p 0 s.size = true := by
  simpa [place] using h
theorem placeF {s : ByteArray} {p : Int} (h : ¬ place s p = true) : valid s.data.toList = false ∨ (valid s.data.toList = true ∧ inI p 0 s.size = false) := by
  simp [place] at h
  cases hv : valid s.data.toList
  · exact .inl rfl
  · exact .inr ⟨rfl, h hv⟩
end Go.Proofs.Ytlnldnenkajcdaa
