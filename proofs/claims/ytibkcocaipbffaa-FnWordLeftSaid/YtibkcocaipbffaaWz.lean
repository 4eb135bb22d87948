/- The contracts of the word motions of the reference: WordLeft, WordAround. -/
import Derived.Test.YtibkcocaipbffaaWy
namespace Go.Proofs.Ytibkcocaipbffaa
open Go.RowKit

theorem wlN_zero {s : ByteArray} {n : Nat} (h : backN s n 0 = 0) : wlN s n = 0 := by unfold wlN; rw [h]
theorem wlN_succ {s : ByteArray} {n q : Nat} (h : backN s n 0 = q + 1) (hq : q < s.size) : wlN s n = backN s (q + 1) (clsI s[q].toNat) := by
  unfold wlN; rw [h]; simp only []; rw [dif_pos hq]

theorem sWL_any (s : ByteArray) (p : Int) (w : World) (hs : s.size ≤ maxLen) :
    Calls Try.prog 21 #[.string s, .int .i64 p] w fun e w' => e = .returned (.int .i64 (wlI s p)) ∧ w = w' := by
  have hs' := hs
  unfold maxLen at hs'
  by_cases hp : place s p = true
  · obtain ⟨n, rfl, hn⟩ := place_nat hp
    have HE : Hid (wlI s n = wlN s n) := Lib.hid (by unfold wlI; rw [if_pos hp]; rfl)
    obtain ⟨hv, hi⟩ := placeS hp
    clear hp
    go_enter Try.func21, Try.ntmps21
    go_wp2_with (first
          | (go_at_call 45; refine (sTV_any _ _ hs).mono ?_; rintro e w' ⟨rfl, rfl⟩)
          | (go_at_call 44; refine (l1In_any _ _ _ _).mono ?_; rintro e w' ⟨rfl, rfl⟩))
    go_loop [5] (fun i => ∃ k : Nat, k ≤ s.size ∧ i = .int .i64 k ∧ backN s n 0 = backN s k 0) (fun i => (intOf i).toNat)
    case atStart => exact ⟨n, hn, rfl, rfl⟩
    case round =>
      obtain ⟨k, hk, rfl, hf⟩ := hrel
      have HF := Lib.hid hf
      clear hf
      rcases k with _ | q
      · go_wp2
        go_ret
        exact ⟨ret_int (by rw [HE.out, wlN_zero (by rw [HF.out, backN_zero])]; rfl), rfl⟩
      · have hlt : q < s.size := by omega
        have hz : ((q : Int) + 1 == 0) = false := by simp; omega
        go_wp2_with (go_at_call 48; refine (kind_u8 _ _).mono ?_; rintro e w' ⟨rfl, rfl⟩)
        · go_round
          have h : (clsI (s[q].toNat : Int) == 0) = true := by assumption
          case rel => exact ⟨q, by omega, rfl, by rw [HF.out, backN_hit hlt (by simpa using h)]⟩
          case measure => (simp [intOf] <;> omega)
        · have h : (clsI (s[q].toNat : Int) == 0) = false := by assumption
          have HB : Hid (wlN s n = backN s (q + 1) (clsI s[q].toNat)) := Lib.hid (wlN_succ (by rw [HF.out, backN_miss hlt (by simpa using h)]) hlt)
          go_loop [5] (fun i => ∃ j : Nat, j ≤ s.size ∧ i = .int .i64 j ∧ backN s (q + 1) (clsI s[q].toNat) = backN s j (clsI s[q].toNat)) (fun i => (intOf i).toNat)
          case atStart => exact ⟨q + 1, by omega, by go_num, rfl⟩
          case round =>
            obtain ⟨j, hj, rfl, hf⟩ := hrel
            have HG := Lib.hid hf
            clear hf
            rcases j with _ | r
            · go_wp2
              go_ret
              exact ⟨ret_int (by rw [HE.out, HB.out, HG.out, backN_zero]; rfl), rfl⟩
            · have hlr : r < s.size := by omega
              go_wp2_with (go_at_call 48; refine (kind_u8 _ _).mono ?_; rintro e w' ⟨rfl, rfl⟩)
              · go_round
                have h' : (clsI (s[r].toNat : Int) == clsI (s[q].toNat : Int)) = true := by assumption
                case rel => exact ⟨r, by omega, rfl, by rw [HG.out, backN_hit hlr (by simpa using h')]⟩
                case measure => (simp [intOf] <;> omega)
              · go_ret
                have h' : (clsI (s[r].toNat : Int) == clsI (s[q].toNat : Int)) = false := by assumption
                exact ⟨ret_int (by rw [HE.out, HB.out, HG.out, backN_miss hlr (by simpa using h')]; rfl), rfl⟩
  · have HE : Hid (wlI s p = -1) := Lib.hid (by unfold wlI; rw [if_neg hp])
    have hp' := placeF hp
    clear hp
    rcases hp' with hp' | ⟨hp', hp''⟩
    all_goals
      go_enter Try.func21, Try.ntmps21
      go_wp2_with (first
          | (go_at_call 45; refine (sTV_any _ _ hs).mono ?_; rintro e w' ⟨rfl, rfl⟩)
          | (go_at_call 44; refine (l1In_any _ _ _ _).mono ?_; rintro e w' ⟨rfl, rfl⟩))
      go_ret
      exact ⟨ret_int (by rw [HE.out]), rfl⟩
theorem sWA_any (s : ByteArray) (p : Int) (w : World) (hs : s.size ≤ maxLen) :
    Calls Try.prog 28 #[.string s, .int .i64 p] w fun e w' => e = .returned (.tuple #[.int .i64 (waAI s p), .int .i64 (waBI s p)]) ∧ w = w' := by
  have hs' := hs
  unfold maxLen at hs'
  by_cases hp : place s p = true
  · obtain ⟨n, rfl, hn⟩ := place_nat hp
    have HE : Hid (waAI s n = waA s n ∧ waBI s n = waB s n) := Lib.hid (by unfold waAI waBI; rw [if_pos hp, if_pos hp]; exact ⟨rfl, rfl⟩)
    obtain ⟨hv, hi⟩ := placeS hp
    clear hp
    by_cases hlt : n < s.size
    · have hne : ((n : Int) == (s.size : Int)) = false := by simp; omega
      by_cases hc : clsI s[n].toNat = 0
      · have HC : Hid (waA s n = n ∧ waB s n = n) := Lib.hid (by unfold waA waB; rw [dif_pos hlt, dif_pos hlt, if_pos hc, if_pos hc]; exact ⟨rfl, rfl⟩)
        have hc' : (clsI s[n].toNat == 0) = true := by simp [hc]
        clear hc
        go_enter Try.func28, Try.ntmps28
        go_wp2_with (first
          | (go_at_call 45; refine (sTV_any _ _ hs).mono ?_; rintro e w' ⟨rfl, rfl⟩)
          | (go_at_call 44; refine (l1In_any _ _ _ _).mono ?_; rintro e w' ⟨rfl, rfl⟩)
          | (go_at_call 48; refine (kind_u8 _ _).mono ?_; rintro e w' ⟨rfl, rfl⟩))
        go_ret2
        exact ⟨ret_pair (by rw [HE.out.1, HC.out.1]) (by rw [HE.out.2, HC.out.2]), rfl⟩
      · have HC : Hid (waA s n = backN s n (clsI s[n].toNat) ∧ waB s n = skipN s n (clsI s[n].toNat)) := Lib.hid (by unfold waA waB; rw [dif_pos hlt, dif_pos hlt, if_neg hc, if_neg hc]; exact ⟨rfl, rfl⟩)
        have hc' : (clsI s[n].toNat == 0) = false := by simp [hc]
        clear hc
        obtain ⟨c0, hc0⟩ : ∃ c0, c0 = clsI s[n].toNat := ⟨_, rfl⟩
        rw [← hc0] at HC hc'
        have HC0 := Lib.hid hc0
        clear hc0
        go_enter Try.func28, Try.ntmps28
        go_wp2_with (first
          | (go_at_call 45; refine (sTV_any _ _ hs).mono ?_; rintro e w' ⟨rfl, rfl⟩)
          | (go_at_call 44; refine (l1In_any _ _ _ _).mono ?_; rintro e w' ⟨rfl, rfl⟩)
          | (go_at_call 48; refine (kind_u8 _ _).mono ?_; rw [← HC0.out]; rintro e w' ⟨rfl, rfl⟩))
        go_loop [6] (fun i => ∃ k : Nat, k ≤ s.size ∧ i = .int .i64 k ∧ backN s n c0 = backN s k c0) (fun i => (intOf i).toNat)
        case atStart => exact ⟨n, hn, rfl, rfl⟩
        case round =>
          obtain ⟨k, hk, rfl, hf⟩ := hrel
          have HF := Lib.hid hf
          clear hf
          rcases k with _ | q
          · have HK : Hid (backN s n c0 = 0) := Lib.hid (by rw [HF.out, backN_zero])
            go_wp2
            go_loop [7] (fun i => ∃ j : Nat, j ≤ s.size ∧ i = .int .i64 j ∧ skipN s n c0 = skipN s j c0) (fun i => s.size - (intOf i).toNat)
            case atStart => exact ⟨n, hn, rfl, rfl⟩
            case round =>
              obtain ⟨j, hj, rfl, hf⟩ := hrel
              have HG := Lib.hid hf
              clear hf
              by_cases hjl : j < s.size
              · go_wp2_with (go_at_call 48; refine (kind_u8 _ _).mono ?_; rintro e w' ⟨rfl, rfl⟩)
                · go_round
                  have h : (clsI (s[j].toNat : Int) == c0) = true := by assumption
                  case rel => exact ⟨j + 1, by omega, by go_num, by rw [HG.out, skipN_hit hjl (by simpa using h)]⟩
                  case measure => (simp [intOf] <;> omega)
                · go_ret2
                  have h : (clsI (s[j].toNat : Int) == c0) = false := by assumption
                  exact ⟨ret_pair (by rw [HE.out.1, HC.out.1, HK.out]; rfl) (by rw [HE.out.2, HC.out.2, HG.out, skipN_miss hjl (by simpa using h)]), rfl⟩
              · go_wp2
                go_ret2
                obtain rfl : j = s.size := by omega
                exact ⟨ret_pair (by rw [HE.out.1, HC.out.1, HK.out]; rfl) (by rw [HE.out.2, HC.out.2, HG.out, skipN_end]), rfl⟩
          · have hlq : q < s.size := by omega
            rw [show ((q + 1 : Nat) : Int) = (q : Int) + 1 from rfl]
            by_cases hq0 : clsI s[q].toNat = c0
            · have h' : (clsI (s[q].toNat : Int) == c0) = true := by simpa using hq0
              clear hq0
              go_wp2_with (go_at_call 48; refine (kind_u8 _ _).mono ?_; rintro e w' ⟨rfl, rfl⟩)
              go_round
              case rel => exact ⟨q, by omega, rfl, by rw [HF.out, backN_hit hlq (by simpa using h')]⟩
              case measure => (simp [intOf] <;> omega)
            have h' : (clsI (s[q].toNat : Int) == c0) = false := by simpa using hq0
            clear hq0
            go_wp2_with (go_at_call 48; refine (kind_u8 _ _).mono ?_; rintro e w' ⟨rfl, rfl⟩)
            have HK : Hid (backN s n c0 = q + 1) := Lib.hid (by rw [HF.out, backN_miss hlq (by simpa using h')])
            go_loop [7] (fun i => ∃ j : Nat, j ≤ s.size ∧ i = .int .i64 j ∧ skipN s n c0 = skipN s j c0) (fun i => s.size - (intOf i).toNat)
            case atStart => exact ⟨n, hn, rfl, rfl⟩
            case round =>
              obtain ⟨j, hj, rfl, hf⟩ := hrel
              have HG := Lib.hid hf
              clear hf
              by_cases hjl : j < s.size
              · go_wp2_with (go_at_call 48; refine (kind_u8 _ _).mono ?_; rintro e w' ⟨rfl, rfl⟩)
                · go_round
                  have h : (clsI (s[j].toNat : Int) == c0) = true := by assumption
                  case rel => exact ⟨j + 1, by omega, by go_num, by rw [HG.out, skipN_hit hjl (by simpa using h)]⟩
                  case measure => (simp [intOf] <;> omega)
                · go_ret2
                  have h : (clsI (s[j].toNat : Int) == c0) = false := by assumption
                  exact ⟨ret_pair (by rw [HE.out.1, HC.out.1, HK.out]; rfl) (by rw [HE.out.2, HC.out.2, HG.out, skipN_miss hjl (by simpa using h)]), rfl⟩
              · go_wp2
                go_ret2
                obtain rfl : j = s.size := by omega
                exact ⟨ret_pair (by rw [HE.out.1, HC.out.1, HK.out]; rfl) (by rw [HE.out.2, HC.out.2, HG.out, skipN_end]), rfl⟩
    · obtain rfl : n = s.size := by omega
      have HC : Hid (waA s s.size = s.size ∧ waB s s.size = s.size) := Lib.hid (by unfold waA waB; rw [dif_neg hlt, dif_neg hlt]; exact ⟨rfl, rfl⟩)
      go_enter Try.func28, Try.ntmps28
      go_wp2_with (first
          | (go_at_call 45; refine (sTV_any _ _ hs).mono ?_; rintro e w' ⟨rfl, rfl⟩)
          | (go_at_call 44; refine (l1In_any _ _ _ _).mono ?_; rintro e w' ⟨rfl, rfl⟩))
      go_ret2
      exact ⟨ret_pair (by rw [HE.out.1, HC.out.1]) (by rw [HE.out.2, HC.out.2]), rfl⟩
  · have HE : Hid (waAI s p = -1 ∧ waBI s p = -1) := Lib.hid (by unfold waAI waBI; rw [if_neg hp, if_neg hp]; exact ⟨rfl, rfl⟩)
    have hp' := placeF hp
    clear hp
    rcases hp' with hp' | ⟨hp', hp''⟩
    all_goals
      go_enter Try.func28, Try.ntmps28
      go_wp2_with (first
          | (go_at_call 45; refine (sTV_any _ _ hs).mono ?_; rintro e w' ⟨rfl, rfl⟩)
          | (go_at_call 44; refine (l1In_any _ _ _ _).mono ?_; rintro e w' ⟨rfl, rfl⟩))
      go_ret2
      exact ⟨ret_pair HE.out.1.symm HE.out.2.symm, rfl⟩
end Go.Proofs.Ytibkcocaipbffaa
