/- The contracts of the word motions: skip, skipBack, WordRight, WordLeft, WordAround, of the program and of the reference. -/
import Derived.Test.YtibkcocaipbffaaWa
namespace Go.Proofs.Ytibkcocaipbffaa
open Go.RowKit

/-- How many bytes at the head have the class f. -/
def runF (f : Int) : List UInt8 → Nat
  | [] => 0
  | c :: l => if clsI c.toNat = f then runF f l + 1 else 0
/-- The first place from p on at which a byte is not of the class f. -/
def skipN (s : ByteArray) (p : Nat) (f : Int) : Nat := p + runF f (s.data.toList.drop p)
/-- The last place up to p before which a byte is not of the class f. -/
def backN (s : ByteArray) : Nat → Int → Nat
  | 0, _ => 0
  | p + 1, f => if h : p < s.size then (if clsI s[p].toNat = f then backN s p f else p + 1) else p + 1

theorem skipN_hit {s : ByteArray} {p : Nat} {f : Int} (h : p < s.size) (hc : clsI s[p].toNat = f) : skipN s p f = skipN s (p + 1) f := by
  unfold skipN; rw [drop_cons s p h]; simp only [runF]; rw [if_pos hc]; omega
theorem skipN_miss {s : ByteArray} {p : Nat} {f : Int} (h : p < s.size) (hc : clsI s[p].toNat ≠ f) : skipN s p f = p := by
  unfold skipN; rw [drop_cons s p h]; simp only [runF]; rw [if_neg hc]; omega
theorem skipN_end {s : ByteArray} {f : Int} : skipN s s.size f = s.size := by
  unfold skipN; rw [drop_size]; rfl
theorem skipN_ge (s : ByteArray) (p : Nat) (f : Int) : p ≤ skipN s p f := by unfold skipN; omega
theorem runF_le (f : Int) : (l : List UInt8) → runF f l ≤ l.length
  | [] => Nat.le_refl _
  | c :: l => by have := runF_le f l; simp only [runF, List.length_cons]; split <;> omega
theorem skipN_le (s : ByteArray) (p : Nat) (f : Int) (h : p ≤ s.size) : skipN s p f ≤ s.size := by
  have := runF_le f (s.data.toList.drop p); simp at this; unfold skipN; omega
theorem backN_le (s : ByteArray) (f : Int) : (p : Nat) → backN s p f ≤ p
  | 0 => Nat.le_refl _
  | p + 1 => by
    have := backN_le s f p
    simp only [backN]; split <;> try split
    all_goals omega
theorem backN_hit {s : ByteArray} {p : Nat} {f : Int} (h : p < s.size) (hc : clsI s[p].toNat = f) : backN s (p + 1) f = backN s p f := by
  simp only [backN]; rw [dif_pos h, if_pos hc]
theorem backN_miss {s : ByteArray} {p : Nat} {f : Int} (h : p < s.size) (hc : clsI s[p].toNat ≠ f) : backN s (p + 1) f = p + 1 := by
  simp only [backN]; rw [dif_pos h, if_neg hc]
theorem backN_zero (s : ByteArray) (f : Int) : backN s 0 f = 0 := rfl

theorem class_u8 (c : UInt8) (w : World) :
    Calls Try.prog 49 #[.int .u8 c.toNat] w fun e w' => e = .returned (.int .i64 (clsI c.toNat)) ∧ w = w' := class_any _ w (by omega) (u8_lt c)
theorem kind_u8 (c : UInt8) (w : World) :
    Calls Try.prog 48 #[.int .u8 c.toNat] w fun e w' => e = .returned (.int .i64 (clsI c.toNat)) ∧ w = w' := kind_any _ w (by omega) (u8_lt c)

theorem skip_any (s : ByteArray) (p : Nat) (f : Int) (w : World) (hs : s.size ≤ maxLen) (hp : p ≤ s.size) :
    Calls Try.prog 50 #[.string s, .int .i64 p, .int .i64 f] w fun e w' => e = .returned (.int .i64 (skipN s p f)) ∧ w = w' := by
  unfold maxLen at hs
  go_enter Try.func50, Try.ntmps50
  go_wp2
  go_loop [1] (fun i => ∃ k : Nat, k ≤ s.size ∧ i = .int .i64 k ∧ skipN s p f = skipN s k f) (fun i => s.size - (intOf i).toNat)
  case atStart => exact ⟨p, hp, rfl, rfl⟩
  case round =>
    obtain ⟨k, hk, rfl, hf⟩ := hrel
    have HF := Lib.hid hf
    clear hf
    by_cases hlt : k < s.size
    · go_wp2_with (go_at_call 49; refine (class_u8 _ _).mono ?_; rintro e w' ⟨rfl, rfl⟩)
      · go_round
        have h : (clsI (s[k].toNat : Int) == f) = true := by assumption
        case rel => exact ⟨k + 1, by omega, by go_num, by rw [HF.out, skipN_hit hlt (by simpa using h)]⟩
        case measure => (simp [intOf] <;> omega)
      · go_ret
        have h : (clsI (s[k].toNat : Int) == f) = false := by assumption
        exact ⟨ret_int (by rw [HF.out, skipN_miss hlt (by simpa using h)]), rfl⟩
    · go_wp2
      go_ret
      obtain rfl : k = s.size := by omega
      exact ⟨ret_int (by rw [HF.out, skipN_end]), rfl⟩
theorem skipBack_any (s : ByteArray) (p : Nat) (f : Int) (w : World) (hs : s.size ≤ maxLen) (hp : p ≤ s.size) :
    Calls Try.prog 51 #[.string s, .int .i64 p, .int .i64 f] w fun e w' => e = .returned (.int .i64 (backN s p f)) ∧ w = w' := by
  unfold maxLen at hs
  go_enter Try.func51, Try.ntmps51
  go_wp2
  go_loop [1] (fun i => ∃ k : Nat, k ≤ s.size ∧ i = .int .i64 k ∧ backN s p f = backN s k f) (fun i => (intOf i).toNat)
  case atStart => exact ⟨p, hp, rfl, rfl⟩
  case round =>
    obtain ⟨k, hk, rfl, hf⟩ := hrel
    have HF := Lib.hid hf
    clear hf
    rcases k with _ | q
    · go_wp2
      go_ret
      exact ⟨ret_int (by rw [HF.out, backN_zero]; rfl), rfl⟩
    · have hlt : q < s.size := by omega
      go_wp2_with (go_at_call 49; refine (class_u8 _ _).mono ?_; rintro e w' ⟨rfl, rfl⟩)
      · go_round
        have h : (clsI (s[q].toNat : Int) == f) = true := by assumption
        case rel => exact ⟨q, by omega, rfl, by rw [HF.out, backN_hit hlt (by simpa using h)]⟩
        case measure => (simp [intOf] <;> omega)
      · go_ret
        have h : (clsI (s[q].toNat : Int) == f) = false := by assumption
        exact ⟨ret_int (by rw [HF.out, backN_miss hlt (by simpa using h)]; rfl), rfl⟩
/-- WordRight at a place that exists. -/
def wrN (s : ByteArray) (p : Nat) : Nat :=
  if h : p < s.size then (if clsI s[p].toNat = 0 then skipN s p 0 else skipN s (skipN s p (clsI s[p].toNat)) 0) else p
def place (s : ByteArray) (p : Int) : Bool := valid s.data.toList && inI p 0 s.size
def wrI (s : ByteArray) (p : Int) : Int := if place s p = true then (wrN s p.toNat : Int) else -1
/-- WordLeft at a place that exists. -/
def wlN (s : ByteArray) (p : Nat) : Nat :=
  match backN s p 0 with
  | 0 => 0
  | q + 1 => if h : q < s.size then backN s (q + 1) (clsI s[q].toNat) else 0
def wlI (s : ByteArray) (p : Int) : Int := if place s p = true then (wlN s p.toNat : Int) else -1
def isWord (s : ByteArray) (p : Nat) : Bool := if h : p < s.size then decide (clsI s[p].toNat ≠ 0) else false
def waA (s : ByteArray) (p : Nat) : Nat := if h : p < s.size then (if clsI s[p].toNat = 0 then p else backN s p (clsI s[p].toNat)) else p
def waB (s : ByteArray) (p : Nat) : Nat := if h : p < s.size then (if clsI s[p].toNat = 0 then p else skipN s p (clsI s[p].toNat)) else p
def waAI (s : ByteArray) (p : Int) : Int := if place s p = true then (waA s p.toNat : Int) else -1
def waBI (s : ByteArray) (p : Int) : Int := if place s p = true then (waB s p.toNat : Int) else -1

theorem place_nat {s : ByteArray} {p : Int} (h : place s p = true) : ∃ n : Nat, p = n ∧ n ≤ s.size := by
  simp [place, inI] at h
  obtain ⟨n, rfl⟩ := Int.eq_ofNat_of_zero_le h.2.1
  exact ⟨n, rfl, by omega⟩
theorem iPl_any (s : ByteArray) (p : Int) (w : World) (hs : s.size ≤ maxLen) :
    Calls Try.prog 46 #[.string s, .int .i64 p] w fun e w' => e = .returned (.bool (place s p)) ∧ w = w' := isPlace_any s p w hs

theorem iWR_any (s : ByteArray) (p : Int) (w : World) (hs : s.size ≤ maxLen) :
    Calls Try.prog 20 #[.string s, .int .i64 p] w fun e w' => e = .returned (.int .i64 (wrI s p)) ∧ w = w' := by
  have hs' := hs
  unfold maxLen at hs'
  by_cases hp : place s p = true
  · obtain ⟨n, rfl, hn⟩ := place_nat hp
    have HE : Hid (wrI s n = wrN s n) := Lib.hid (by unfold wrI; rw [if_pos hp]; rfl)
    by_cases hlt : n < s.size
    · by_cases hc : clsI s[n].toNat = 0
      · have HC : Hid (wrN s n = skipN s n 0) := Lib.hid (by unfold wrN; rw [dif_pos hlt, if_pos hc])
        have hc' : (clsI s[n].toNat != 0) = false := by simp [hc]
        clear hc
        go_enter Try.func20, Try.ntmps20
        go_wp2_with (first
          | (go_at_call 46; refine (iPl_any _ _ _ hs).mono ?_; rintro e w' ⟨rfl, rfl⟩)
          | (go_at_call 49; refine (class_u8 _ _).mono ?_; rintro e w' ⟨rfl, rfl⟩)
          | (go_at_call 50; refine (skip_any _ _ _ _ hs hn).mono ?_; rintro e w' ⟨rfl, rfl⟩))
        go_ret
        exact ⟨ret_int (by rw [HE.out, HC.out]), rfl⟩
      · have HC : Hid (wrN s n = skipN s (skipN s n (clsI s[n].toNat)) 0) := Lib.hid (by unfold wrN; rw [dif_pos hlt, if_neg hc])
        have hc' : (clsI s[n].toNat != 0) = true := by simp [hc]
        have hle := skipN_le s n (clsI s[n].toNat) hn
        clear hc
        go_enter Try.func20, Try.ntmps20
        go_wp2_with (first
          | (go_at_call 46; refine (iPl_any _ _ _ hs).mono ?_; rintro e w' ⟨rfl, rfl⟩)
          | (go_at_call 49; refine (class_u8 _ _).mono ?_; rintro e w' ⟨rfl, rfl⟩)
          | (go_at_call 50; refine (skip_any _ _ _ _ hs (by assumption)).mono ?_; rintro e w' ⟨rfl, rfl⟩))
        go_ret
        exact ⟨ret_int (by rw [HE.out, HC.out]), rfl⟩
    · obtain rfl : n = s.size := by omega
      have HC : Hid (wrN s s.size = skipN s s.size 0) := Lib.hid (by rw [skipN_end]; unfold wrN; rw [dif_neg hlt])
      go_enter Try.func20, Try.ntmps20
      go_wp2_with (first
          | (go_at_call 46; refine (iPl_any _ _ _ hs).mono ?_; rintro e w' ⟨rfl, rfl⟩)
          | (go_at_call 50; refine (skip_any _ _ _ _ hs hn).mono ?_; rintro e w' ⟨rfl, rfl⟩))
      go_ret
      exact ⟨ret_int (by rw [HE.out, HC.out]), rfl⟩
  · have HE : Hid (wrI s p = -1) := Lib.hid (by unfold wrI; rw [if_neg hp])
    have hp' : place s p = false := by simpa using hp
    clear hp
    go_enter Try.func20, Try.ntmps20
    go_wp2_with (go_at_call 46; refine (iPl_any _ _ _ hs).mono ?_; rintro e w' ⟨rfl, rfl⟩)
    go_ret
    exact ⟨ret_int (by rw [HE.out]), rfl⟩
end Go.Proofs.Ytibkcocaipbffaa
