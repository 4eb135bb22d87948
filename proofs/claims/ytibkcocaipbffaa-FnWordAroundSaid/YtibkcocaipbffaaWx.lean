/- The contracts of the word motions: WordLeft, WordAround of the program; WordRight, WordLeft, WordAround of the reference. -/
import Derived.Test.YtibkcocaipbffaaWw
namespace Go.Proofs.Ytibkcocaipbffaa
open Go.RowKit

theorem iWL_any (s : ByteArray) (p : Int) (w : World) (hs : s.size ≤ maxLen) :
    Calls Try.prog 22 #[.string s, .int .i64 p] w fun e w' => e = .returned (.int .i64 (wlI s p)) ∧ w = w' := by
  have hs' := hs
  unfold maxLen at hs'
  by_cases hp : place s p = true
  · obtain ⟨n, rfl, hn⟩ := place_nat hp
    have HE : Hid (wlI s n = wlN s n) := Lib.hid (by unfold wlI; rw [if_pos hp]; rfl)
    rcases hb : backN s n 0 with _ | q
    · have HC : Hid (wlN s n = 0) := Lib.hid (by unfold wlN; rw [hb])
      have HB : Hid (backN s n 0 = 0) := Lib.hid hb
      clear hb
      go_enter Try.func22, Try.ntmps22
      go_wp2_with (first
          | (go_at_call 46; refine (iPl_any _ _ _ hs).mono ?_; rintro e w' ⟨rfl, rfl⟩)
          | (go_at_call 51; refine (skipBack_any _ _ _ _ hs hn).mono ?_; rw [HB.out]; rintro e w' ⟨rfl, rfl⟩))
      go_ret
      exact ⟨ret_int (by rw [HE.out, HC.out]; rfl), rfl⟩
    · have hq : q < s.size := by have := backN_le s 0 n; omega
      have hq' : q + 1 ≤ s.size := hq
      have HC : Hid (wlN s n = backN s (q + 1) (clsI s[q].toNat)) := Lib.hid (by unfold wlN; rw [hb]; simp only []; rw [dif_pos hq])
      have HB : Hid (backN s n 0 = q + 1) := Lib.hid hb
      clear hb
      go_enter Try.func22, Try.ntmps22
      go_wp2_with fail
      refine (iPl_any _ _ _ hs).mono ?_; rintro e w' ⟨rfl, rfl⟩
      go_wp2_with fail
      refine (skipBack_any _ _ _ _ hs hn).mono ?_; rw [HB.out]; rintro e w' ⟨rfl, rfl⟩
      go_wp2_with fail
      refine (class_u8 _ _).mono ?_; rintro e w' ⟨rfl, rfl⟩
      go_wp2_with fail
      refine (skipBack_any s (q + 1) _ _ hs hq').mono ?_; rintro e w' ⟨rfl, rfl⟩
      go_wp2_with fail
      go_ret
      exact ⟨ret_int (by rw [HE.out, HC.out]), rfl⟩
  · have HE : Hid (wlI s p = -1) := Lib.hid (by unfold wlI; rw [if_neg hp])
    have hp' : place s p = false := by simpa using hp
    clear hp
    go_enter Try.func22, Try.ntmps22
    go_wp2_with (go_at_call 46; refine (iPl_any _ _ _ hs).mono ?_; rintro e w' ⟨rfl, rfl⟩)
    go_ret
    exact ⟨ret_int (by rw [HE.out]), rfl⟩
theorem iWA_any (s : ByteArray) (p : Int) (w : World) (hs : s.size ≤ maxLen) :
    Calls Try.prog 29 #[.string s, .int .i64 p] w fun e w' => e = .returned (.tuple #[.int .i64 (waAI s p), .int .i64 (waBI s p)]) ∧ w = w' := by
  have hs' := hs
  unfold maxLen at hs'
  by_cases hp : place s p = true
  · obtain ⟨n, rfl, hn⟩ := place_nat hp
    have HE : Hid (waAI s n = waA s n ∧ waBI s n = waB s n) := Lib.hid (by unfold waAI waBI; rw [if_pos hp, if_pos hp]; exact ⟨rfl, rfl⟩)
    by_cases hlt : n < s.size
    · have hne : ((n : Int) == (s.size : Int)) = false := by simp; omega
      by_cases hc : clsI s[n].toNat = 0
      · have HC : Hid (waA s n = n ∧ waB s n = n) := Lib.hid (by unfold waA waB; rw [dif_pos hlt, dif_pos hlt, if_pos hc, if_pos hc]; exact ⟨rfl, rfl⟩)
        have hc' : (clsI s[n].toNat == 0) = true := by simp [hc]
        clear hc
        go_enter Try.func29, Try.ntmps29
        go_wp2_with (first
          | (go_at_call 46; refine (iPl_any _ _ _ hs).mono ?_; rintro e w' ⟨rfl, rfl⟩)
          | (go_at_call 49; refine (class_u8 _ _).mono ?_; rintro e w' ⟨rfl, rfl⟩))
        go_ret2
        exact ⟨ret_pair (by rw [HE.out.1, HC.out.1]) (by rw [HE.out.2, HC.out.2]), rfl⟩
      · have HC : Hid (waA s n = backN s n (clsI s[n].toNat) ∧ waB s n = skipN s n (clsI s[n].toNat)) := Lib.hid (by unfold waA waB; rw [dif_pos hlt, dif_pos hlt, if_neg hc, if_neg hc]; exact ⟨rfl, rfl⟩)
        have hc' : (clsI s[n].toNat == 0) = false := by simp [hc]
        clear hc
        go_enter Try.func29, Try.ntmps29
        go_wp2_with (first
          | (go_at_call 46; refine (iPl_any _ _ _ hs).mono ?_; rintro e w' ⟨rfl, rfl⟩)
          | (go_at_call 49; refine (class_u8 _ _).mono ?_; rintro e w' ⟨rfl, rfl⟩)
          | (go_at_call 51; refine (skipBack_any _ _ _ _ hs hn).mono ?_; rintro e w' ⟨rfl, rfl⟩)
          | (go_at_call 50; refine (skip_any _ _ _ _ hs hn).mono ?_; rintro e w' ⟨rfl, rfl⟩))
        go_ret2
        exact ⟨ret_pair (by rw [HE.out.1, HC.out.1]) (by rw [HE.out.2, HC.out.2]), rfl⟩
    · obtain rfl : n = s.size := by omega
      have HC : Hid (waA s s.size = s.size ∧ waB s s.size = s.size) := Lib.hid (by unfold waA waB; rw [dif_neg hlt, dif_neg hlt]; exact ⟨rfl, rfl⟩)
      go_enter Try.func29, Try.ntmps29
      go_wp2_with (go_at_call 46; refine (iPl_any _ _ _ hs).mono ?_; rintro e w' ⟨rfl, rfl⟩)
      go_ret2
      exact ⟨ret_pair (by rw [HE.out.1, HC.out.1]) (by rw [HE.out.2, HC.out.2]), rfl⟩
  · have HE : Hid (waAI s p = -1 ∧ waBI s p = -1) := Lib.hid (by unfold waAI waBI; rw [if_neg hp, if_neg hp]; exact ⟨rfl, rfl⟩)
    have hp' : place s p = false := by simpa using hp
    clear hp
    go_enter Try.func29, Try.ntmps29
    go_wp2_with (go_at_call 46; refine (iPl_any _ _ _ hs).mono ?_; rintro e w' ⟨rfl, rfl⟩)
    go_ret2
    exact ⟨ret_pair HE.out.1.symm HE.out.2.symm, rfl⟩
end Go.Proofs.Ytibkcocaipbffaa
