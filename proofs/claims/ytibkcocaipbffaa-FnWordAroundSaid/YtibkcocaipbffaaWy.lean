/- The contracts of the word motions of the reference: WordRight, WordLeft, WordAround. -/
import Derived.Test.YtibkcocaipbffaaWx
namespace Go.Proofs.Ytibkcocaipbffaa
open Go.RowKit

theorem placeS {s : ByteArray} {p : Int} (h : place s p = true) : valid s.data.toList = true ∧ inI p 0 s.size = true := by
  simpa [place] using h
theorem placeF {s : ByteArray} {p : Int} (h : ¬ place s p = true) : valid s.data.toList = false ∨ (valid s.data.toList = true ∧ inI p 0 s.size = false) := by
  simp [place] at h
  cases hv : valid s.data.toList
  · exact .inl rfl
  · exact .inr ⟨rfl, h hv⟩

theorem sWR_any (s : ByteArray) (p : Int) (w : World) (hs : s.size ≤ maxLen) :
    Calls Try.prog 19 #[.string s, .int .i64 p] w fun e w' => e = .returned (.int .i64 (wrI s p)) ∧ ∃ m, w' = w.drewN m := by
  have hs' := hs
  unfold maxLen at hs'
  by_cases hp : place s p = true
  · obtain ⟨n, rfl, hn⟩ := place_nat hp
    have HE : Hid (wrI s n = wrN s n) := Lib.hid (by unfold wrI; rw [if_pos hp]; rfl)
    obtain ⟨hv, hi⟩ := placeS hp
    clear hp
    /- where the first loop ends -/
    by_cases hw : isWord s n = true
    · have hlt : n < s.size := by
        rcases Nat.lt_or_ge n s.size with h | h
        · exact h
        · unfold isWord at hw; rw [dif_neg (by omega)] at hw; cases hw
      have hc : clsI s[n].toNat ≠ 0 := by unfold isWord at hw; rw [dif_pos hlt] at hw; simpa using hw
      have HC : Hid (wrN s n = skipN s (skipN s n (clsI s[n].toNat)) 0) := Lib.hid (by unfold wrN; rw [dif_pos hlt, if_neg hc])
      obtain ⟨c0, hc0⟩ : ∃ c0, c0 = clsI s[n].toNat := ⟨_, rfl⟩
      rw [← hc0] at HC hc
      have HC0 := Lib.hid hc0
      have HZ := Lib.hid hc
      clear hc0 hw hc
      go_enter Try.func19, Try.ntmps19
      go_wp2_with (first
          | (go_at_call 45; refine (sTV_any _ _ hs).mono ?_; rintro e w' ⟨rfl, rfl⟩)
          | (go_at_call 44; refine (l1In_any _ _ _ _).mono ?_; rintro e w' ⟨rfl, rfl⟩))
      go_loopw [5] (fun i wr => ∃ k : Nat, k ≤ s.size ∧ i = .int .i64 k ∧ skipN s n c0 = skipN s k c0 ∧ ∃ m, wr = w.drewN m) (fun i _ => s.size - (intOf i).toNat)
      case atStart => exact ⟨n, hn, rfl, rfl, 0, rfl⟩
      case round =>
        obtain ⟨k, hk, rfl, hf, m, rfl⟩ := hrel
        have HF := Lib.hid hf
        clear hf
        by_cases hgo : ∃ h : k < s.size, clsI s[k].toNat = c0
        · obtain ⟨hkl, hkc⟩ := hgo
          have h1 : (clsI s[k].toNat != 0) = true := by have := HZ.out; simp [hkc, this]
          have h2 : (clsI s[k].toNat == clsI s[n].toNat) = true := by rw [hkc, HC0.out]; simp
          have HK := Lib.hid hkc
          clear hkc
          go_wp2_with fail
          go_quiet ((go_at_call 48; (first | exact q_left (kind_u8 _ _) | exact q_add_left (kind_u8 _ _))))
          go_wp2
          go_roundw
          case rel => exact ⟨k + 1, by omega, by go_num, by rw [HF.out, skipN_hit hkl HK.out], _, rfl⟩
          case measure => (simp [intOf] <;> omega)
        · have HN : Hid (skipN s k c0 = k) := Lib.hid (by
            by_cases hkl : k < s.size
            · exact skipN_miss hkl (fun e => hgo ⟨hkl, e⟩)
            · obtain rfl : k = s.size := by omega
              exact skipN_end)
          have hcs : (decide (k < s.size) = false) ∨ (∃ h : k < s.size, (clsI s[k].toNat != 0) = false) ∨ (∃ h : k < s.size, (clsI s[k].toNat != 0) = true ∧ (clsI s[k].toNat == clsI s[n].toNat) = false) := by
            by_cases hkl : k < s.size
            · by_cases h0 : clsI s[k].toNat = 0
              · exact .inr (.inl ⟨hkl, by simp [h0]⟩)
              · exact .inr (.inr ⟨hkl, by simp [h0], by rw [← HC0.out]; simpa using fun e => hgo ⟨hkl, e⟩⟩)
            · exact .inl (by simp; omega)
          clear hgo
          rcases hcs with hd | ⟨hkl, h0⟩ | ⟨hkl, h0, h1⟩
          all_goals
            go_wp2_with fail
            go_quiet ((go_at_call 48; (first | exact q_left (kind_u8 _ _) | exact q_add_left (kind_u8 _ _))))
            go_wp2
            go_loopw [5] (fun i wr => ∃ j : Nat, j ≤ s.size ∧ i = .int .i64 j ∧ skipN s k 0 = skipN s j 0 ∧ ∃ m, wr = w.drewN m) (fun i _ => s.size - (intOf i).toNat)
            case atStart => first | exact ⟨k, hk, rfl, rfl, _, rfl⟩ | exact ⟨k, hk, rfl, rfl, _, drewN_add _ _ _⟩
            case round =>
              obtain ⟨j, hj, rfl, hf, m, rfl⟩ := hrel
              have HG := Lib.hid hf
              clear hf
              by_cases hjl : j < s.size
              · go_wp2_with (go_at_call 48; refine (kind_u8 _ _).mono ?_; rintro e w' ⟨rfl, rfl⟩)
                · go_roundw
                  have h : (clsI (s[j].toNat : Int) == 0) = true := by assumption
                  case rel => exact ⟨j + 1, by omega, by go_num, by rw [HG.out, skipN_hit hjl (by simpa using h)], _, rfl⟩
                  case measure => (simp [intOf] <;> omega)
                · go_ret
                  have h : (clsI (s[j].toNat : Int) == 0) = false := by assumption
                  exact ⟨ret_int (by rw [HE.out, HC.out, HF.out, HN.out, HG.out, skipN_miss hjl (by simpa using h)]), _, rfl⟩
              · go_wp2
                go_ret
                obtain rfl : j = s.size := by omega
                exact ⟨ret_int (by rw [HE.out, HC.out, HF.out, HN.out, HG.out, skipN_end]), _, rfl⟩
    · have HC : Hid (wrN s n = skipN s n 0) := Lib.hid (by
        by_cases hlt : n < s.size
        · have hc : clsI s[n].toNat = 0 := by unfold isWord at hw; rw [dif_pos hlt] at hw; simpa using hw
          unfold wrN; rw [dif_pos hlt, if_pos hc]
        · obtain rfl : n = s.size := by omega
          rw [skipN_end]; unfold wrN; rw [dif_neg hlt])
      have hcs : (decide (n < s.size) = false) ∨ (∃ h : n < s.size, (clsI s[n].toNat != 0) = false) := by
        by_cases hlt : n < s.size
        · have hc : clsI s[n].toNat = 0 := by unfold isWord at hw; rw [dif_pos hlt] at hw; simpa using hw
          exact .inr ⟨hlt, by simp [hc]⟩
        · exact .inl (by simpa using hlt)
      clear hw
      rcases hcs with hd | ⟨hkl, h0⟩
      all_goals
        go_enter Try.func19, Try.ntmps19
        go_wp2_with (first
          | (go_at_call 45; refine (sTV_any _ _ hs).mono ?_; rintro e w' ⟨rfl, rfl⟩)
          | (go_at_call 44; refine (l1In_any _ _ _ _).mono ?_; rintro e w' ⟨rfl, rfl⟩))
        go_loopw [5] (fun i wr => i = .int .i64 n ∧ ∃ m, wr = w.drewN m) (fun _ _ => 0)
        case atStart => exact ⟨rfl, 0, rfl⟩
        case round =>
          obtain ⟨rfl, m, rfl⟩ := hrel
          go_wp2_with fail
          go_quiet ((go_at_call 48; (first | exact q_left (kind_u8 _ _) | exact q_add_left (kind_u8 _ _))))
          go_wp2
          go_loopw [5] (fun i wr => ∃ j : Nat, j ≤ s.size ∧ i = .int .i64 j ∧ skipN s n 0 = skipN s j 0 ∧ ∃ m, wr = w.drewN m) (fun i _ => s.size - (intOf i).toNat)
          case atStart => first | exact ⟨n, hn, rfl, rfl, _, rfl⟩ | exact ⟨n, hn, rfl, rfl, _, drewN_add _ _ _⟩
          case round =>
            obtain ⟨j, hj, rfl, hf, m, rfl⟩ := hrel
            have HG := Lib.hid hf
            clear hf
            by_cases hjl : j < s.size
            · go_wp2_with (go_at_call 48; refine (kind_u8 _ _).mono ?_; rintro e w' ⟨rfl, rfl⟩)
              · go_roundw
                have h : (clsI (s[j].toNat : Int) == 0) = true := by assumption
                case rel => exact ⟨j + 1, by omega, by go_num, by rw [HG.out, skipN_hit hjl (by simpa using h)], _, rfl⟩
                case measure => (simp [intOf] <;> omega)
              · go_ret
                have h : (clsI (s[j].toNat : Int) == 0) = false := by assumption
                exact ⟨ret_int (by rw [HE.out, HC.out, HG.out, skipN_miss hjl (by simpa using h)]), _, rfl⟩
            · go_wp2
              go_ret
              obtain rfl : j = s.size := by omega
              exact ⟨ret_int (by rw [HE.out, HC.out, HG.out, skipN_end]), _, rfl⟩
  · have HE : Hid (wrI s p = -1) := Lib.hid (by unfold wrI; rw [if_neg hp])
    have hp' := placeF hp
    clear hp
    rcases hp' with hp' | ⟨hp', hp''⟩
    all_goals
      go_enter Try.func19, Try.ntmps19
      go_wp2_with (first
          | (go_at_call 45; refine (sTV_any _ _ hs).mono ?_; rintro e w' ⟨rfl, rfl⟩)
          | (go_at_call 44; refine (l1In_any _ _ _ _).mono ?_; rintro e w' ⟨rfl, rfl⟩))
      go_ret
      exact ⟨ret_int (by rw [HE.out]), 0, rfl⟩
end Go.Proofs.Ytibkcocaipbffaa
