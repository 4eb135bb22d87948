/- The contract of the reference's WrapRows, walked. -/
import Derived.Test.YtglnkcggcgbaiaaDoorWi
set_option linter.unusedVariables false
set_option linter.unusedSimpArgs false
namespace Go.Proofs.YtglnkcggcgbaiaaDoor
open Go.RowKit
set_option maxRecDepth 100000 in
set_option maxHeartbeats 1000000 in
theorem sWR_any (s : ByteArray) (W : Int) (w : World) (hs : s.size ≤ maxLen) :
    Calls Tryd.prog 14 #[.string s, .int .i64 W] w (PairsPost (rowsL s W) w) := by
  have hs' := hs
  unfold maxLen at hs'
  obtain ⟨B, hB⟩ : ∃ B, w.heap.size = B := ⟨_, rfl⟩
  have hmade : (w.alloc (.cells #[] 41)).ownsRow B 41 2 (.slice (some ⟨w.heap.size, 0, none⟩) 0 0) 0 [] := World.ownsRow_made w #[] 0 (by omega) (by decide) rfl
  have hbm : Below B w (w.alloc (.cells #[] 41)) := (Below.refl _ _).alloc (by omega) _
  have HM := Lib.hid (And.intro hmade hbm)
  have HB := Lib.hid hB
  clear hmade hbm hB
  cases hok : wOk s W
  · have hr : rowsL s W = [] := by unfold rowsL; rw [if_neg (by simp [hok])]
    rw [hr]
    have hnil : PairsPost [] w (.returned (.slice (some ⟨w.heap.size, 0, none⟩) 0 0)) (w.alloc (.cells #[] 41)) := by
      have h1 := HM.out
      rw [← HB.out] at h1
      exact ⟨_, 0, rfl, h1.1, h1.2⟩
    have HN := Lib.hid hnil
    clear hr hnil
    by_cases hin : inI W 4 40 = true
    · have hv : valid s.data.toList = false := by
        cases h : valid s.data.toList
        · rfl
        · rw [show wOk s W = true by unfold wOk; rw [h, hin]; rfl] at hok; cases hok
      have hlm : lmI s = -1 := by unfold lmI; rw [if_neg (by simp [hv])]
      have hc := fun W => sLM_any s W hs
      rw [hlm] at hc
      have HC := Lib.hid hc
      clear hc hlm hv hok
      go_enter Tryd.func14, Tryd.ntmps14
      go_wp2_with fail
      refine (l1In_any _ _ _ _).mono ?_
      rintro e w' ⟨rfl, rfl⟩
      go_wp2_with fail
      refine wp_loop_rounds 1 ?_
      rw [rounds_succ]
      go_wp2_with fail
      refine (HC.out _).mono ?_
      rintro e w' ⟨rfl, rfl⟩
      go_wp2_with fail
      go_ret
      exact HN.out
    · have hin' : inI W 4 40 = false := by simpa using hin
      clear hin hok
      go_enter Tryd.func14, Tryd.ntmps14
      go_wp2_with fail
      refine (l1In_any _ _ _ _).mono ?_
      rintro e w' ⟨rfl, rfl⟩
      go_wp2_with fail
      go_ret
      exact HN.out
  · obtain ⟨hv, n, rfl, h4, h40⟩ := wOk_s hok
    have hin : inI n 4 40 = true := by unfold inI; simp; omega
    have h120 := valid_size hv
    have HR := Lib.hid (rowsL_ok hok)
    obtain ⟨i0, hi, hz0, hz1, hz2⟩ := info_parts infoPair
    have hcl := cnt_le s s.size
    have hlm := lm_cnt hv
    have hc := fun W => sLM_any s W hs
    rw [hlm] at hc
    have HC := Lib.hid hc
    have hlo : ∀ k : Nat, k ≤ cntN s s.size → lineOk s k = true := fun k hk => by unfold lineOk inI; rw [hv]; simp; omega
    have hc1 := fun (k : Nat) (hk : k ≤ cntN s s.size) W => (show lsI s k = lsN s k by unfold lsI; rw [if_pos (hlo k hk)]; rfl) ▸ sLS_any s k W hs
    have hc2 := fun (k : Nat) (hk : k ≤ cntN s s.size) W => (show leI s k = eolN s (lsN s k) by unfold leI; rw [if_pos (hlo k hk)]; rfl) ▸ sLE_any s k W hs
    have HC1 := Lib.hid hc1
    have HC2 := Lib.hid hc2
    have henter := fun k xs (h : WoInv s n k xs) hk => h.enter hk
    have HEN := Lib.hid henter
    have hst := fun k xs a (h : WiInv s n k xs a) hl => h.step (by omega) hl
    have HST := Lib.hid hst
    have hlv := fun k xs a (h : WiInv s n k xs a) hl => h.leave hl
    have HLV := Lib.hid hlv
    have hdn := fun k xs (h : WoInv s n k xs) hk => h.done hk
    have HDN := Lib.hid hdn
    have hwb := fun k xs a (h : WiInv s n k xs a) => (show lsN s k ≤ a ∧ a ≤ eolN s (lsN s k) ∧ xs.length ≤ a + k from ⟨h.2.1, h.2.2.1, h.2.2.2.1⟩)
    have HWB := Lib.hid hwb
    clear hc hc1 hc2 henter hst hlv hdn hwb hlm hlo hok
    generalize hcc : cntN s s.size = cc at *
    have HCC := Lib.hid hcc
    clear hcc
    go_enter Tryd.func14, Tryd.ntmps14
    go_wp2_with fail
    refine (l1In_any _ _ _ _).mono ?_
    rintro e w' ⟨rfl, rfl⟩
    go_wp2_with fail
    go_loopw [5, 6] (fun ov iv wr => ∃ (k : Nat) (xs : List (Int × Int)), iv = .int .i64 k ∧ k ≤ cc + 1 ∧ WoInv s n k xs ∧ wr.ownsRow B 41 2 ov xs.length (pairs xs) ∧ Below B w wr) (fun _ iv _ => cc + 1 - (intOf iv).toNat)
    case atStart => exact ⟨0, [], rfl, Nat.zero_le _, WoInv.start s n, HM.out.1, HM.out.2⟩
    case round =>
      obtain ⟨k, xs, rfl, hkc, hinv, hown, hbw⟩ := hrel
      have hBz : B ≤ wr.heap.size := by rw [← HB.out]; exact hbw.size
      by_cases hk : k ≤ cc
      · have hk0 : (0 : Int) ≤ (k : Int) := by omega
        have hk1 : (k : Int) < 1 + (cc : Int) := by omega
        have hk' : k ≤ cntN s s.size := by rw [HCC.out]; exact hk
        obtain ⟨g1, _, _⟩ := ls_ok hk'
        obtain ⟨e1, e2, _, _⟩ := eol_spec s g1
        have HE := Lib.hid (HEN.out k xs hinv hk)
        have hs1 := HC1.out k hk
        have hs2 := HC2.out k hk
        have hst := HST.out k
        have hlv := HLV.out k
        have hwb := HWB.out k
        clear hinv hk'
        generalize hls : lsN s k = l at *
        generalize hel : eolN s l = z at *
        have HS1 := Lib.hid hs1
        have HS2 := Lib.hid hs2
        have HSK := Lib.hid hst
        have HLK := Lib.hid hlv
        have HWK := Lib.hid hwb
        clear hs1 hs2 hst hlv hwb hls hel
        go_wp2_with fail
        refine (HC.out _).mono ?_
        rintro e w' ⟨rfl, rfl⟩
        go_wp2_with fail
        refine (HS1.out _).mono ?_
        rintro e w' ⟨rfl, rfl⟩
        go_wp2_with fail
        refine (HS2.out _).mono ?_
        rintro e w' ⟨rfl, rfl⟩
        go_wp2_with fail
        go_loopw [5, 7] (fun ov2 av2 wr2 => ∃ (a : Nat) (xs2 : List (Int × Int)), av2 = .int .i64 a ∧ WiInv s n k xs2 a ∧ wr2.ownsRow B 41 2 ov2 xs2.length (pairs xs2) ∧ Below B w wr2) (fun _ av2 _ => s.size + 1 - (intOf av2).toNat)
        case atStart => exact ⟨l, xs, rfl, HE.out, hown, hbw⟩
        case round =>
          obtain ⟨a, ys, rfl, hwi, hown2, hbw2⟩ := hrel
          obtain ⟨w1, w2, w3⟩ := HWK.out ys a hwi
          have hBz2 : B ≤ wr.heap.size := by rw [← HB.out]; exact hbw2.size
          clear hown hbw hBz
          have ha0 : (0 : Int) ≤ (a : Int) := by omega
          by_cases hlw : n < z - a
          · have hlw' : (n : Int) < (z : Int) - (a : Int) := by omega
            have HS := Lib.hid (HSK.out ys a hwi hlw)
            obtain ⟨cc1, cc2, cc3⟩ := cut_spec s a (show 0 < n by omega)
            have hcv1 : lastSp s a n = 0 → cutAt s a n = a + n := fun h => by unfold cutAt; rw [if_pos h]
            have hcv2 : ∀ i, lastSp s a n = i + 1 → cutAt s a n = a + (i + 1) := fun i h => by unfold cutAt; rw [if_neg (by omega), h]
            have HV1 := Lib.hid hcv1
            have HV2 := Lib.hid hcv2
            clear hwi cc3 hcv1 hcv2
            generalize cutAt s a n = cu at *
            go_wp2_with fail
            go_loop [9] (fun tv => ∃ j : Nat, tv = .int .i64 ((a : Int) + (j : Int)) ∧ j ≤ n ∧ lastSp s a n = lastSp s a j) (fun tv => (intOf tv).toNat)
            case atStart => exact ⟨n, rfl, Nat.le_refl _, rfl⟩
            case round =>
              obtain ⟨j, rfl, hj, hlj⟩ := hrel
              have HLJ := Lib.hid hlj
              clear hlj
              rcases j with _ | i
              · have HCU : Hid ((cu : Int) = (a : Int) + (n : Int)) := Lib.hid (by have := HV1.out (by rw [HLJ.out]; rfl); omega)
                have e0 : (a : Int) + ((0 : Nat) : Int) = (a : Int) := by omega
                rw [e0]
                have e1' : ((a : Int) == (a : Int)) = true := by simp
                clear e0
                go_wp2_with (first | (at_builtin; refine wpList_append_own _ rfl _ _ 24 rfl B 41 i0 (.agg #[.int .i64 0, .int .i64 0]) 2 16 Tryd.underlying24 hi hz0 hz1 hz2 rfl (by decide) _ _ _ rfl (hown2.alloc _) ⟨wr.heap.size, 0, none⟩ 1 1 [.int .i64 a, .int .i64 ((a : Int) + (n : Int))] rfl rfl (news2 _ _ _ _) (ones2 _ _) (by unfold maxLen; omega) (by omega) (by simp; omega) ?_))
                intro v' w1 hown' hgrow _
                obtain ⟨hown3, hbw3⟩ := row_add hbw2 hBz2 hown2 hown' hgrow
                rw [← HCU.out] at hown3
                clear hown' hgrow hown2 hbw2
                go_wp2_with fail
                go_roundw
                case rel => exact ⟨cu, _, by rw [HCU.out], HS.out, hown3, hbw3⟩
                case measure => (have h9 := HCU.out; simp [intOf] <;> omega)
              · have hai : a + i < s.size := by omega
                have hbi := byteI_at hai
                have e0 : (a : Int) + ((i + 1 : Nat) : Int) = (a : Int) + (i : Int) + 1 := by omega
                rw [e0]
                have hi0 : (0 : Int) ≤ (i : Int) := by omega
                have hai' : (a : Int) + (i : Int) < (s.size : Int) := by omega
                clear e0
                by_cases h32 : byteI s (a + i) = 32
                · have hcu : cu = a + (i + 1) := HV2.out i (by rw [HLJ.out]; simp [lastSp, h32])
                  have HCU : Hid ((cu : Int) = (a : Int) + (i : Int) + 1) := Lib.hid (by omega)
                  rw [hbi] at h32
                  have e2' : ((s[a + i].toNat : Int) != 32) = false := by simp [h32]
                  have e3' : ((a : Int) + (i : Int) + 1 == (a : Int)) = false := by simp; omega
                  clear h32 hbi hcu
                  go_wp2_with (first | (at_builtin; refine wpList_append_own _ rfl _ _ 24 rfl B 41 i0 (.agg #[.int .i64 0, .int .i64 0]) 2 16 Tryd.underlying24 hi hz0 hz1 hz2 rfl (by decide) _ _ _ rfl (hown2.alloc _) ⟨wr.heap.size, 0, none⟩ 1 1 [.int .i64 a, .int .i64 ((a : Int) + (i : Int) + 1)] rfl rfl (news2 _ _ _ _) (ones2 _ _) (by unfold maxLen; omega) (by omega) (by simp; omega) ?_))
                  intro v' w1 hown' hgrow _
                  obtain ⟨hown3, hbw3⟩ := row_add hbw2 hBz2 hown2 hown' hgrow
                  rw [← HCU.out] at hown3
                  clear hown' hgrow hown2 hbw2
                  go_wp2_with fail
                  go_roundw
                  case rel => exact ⟨cu, _, by rw [HCU.out], HS.out, hown3, hbw3⟩
                  case measure => (have h9 := HCU.out; simp [intOf] <;> omega)
                · have HL2 : Hid (lastSp s a n = lastSp s a i) := Lib.hid (by rw [HLJ.out]; simp [lastSp, h32])
                  rw [hbi] at h32
                  have e2' : ((s[a + i].toNat : Int) != 32) = true := by simp [h32]
                  clear h32 hbi
                  go_wp2_with fail
                  go_round
                  case rel => exact ⟨i, by congr 1 <;> omega, by omega, HL2.out⟩
                  case measure => (simp [intOf] <;> omega)
          · have hlw' : (z : Int) - (a : Int) ≤ (n : Int) := by omega
            have HS := Lib.hid (HLK.out ys a hwi hlw)
            clear hwi
            go_wp2_with (first | (at_builtin; refine wpList_append_own _ rfl _ _ 24 rfl B 41 i0 (.agg #[.int .i64 0, .int .i64 0]) 2 16 Tryd.underlying24 hi hz0 hz1 hz2 rfl (by decide) _ _ _ rfl (hown2.alloc _) ⟨wr.heap.size, 0, none⟩ 1 1 [.int .i64 a, .int .i64 ((z : Int))] rfl rfl (news2 _ _ _ _) (ones2 _ _) (by unfold maxLen; omega) (by omega) (by simp; omega) ?_))
            intro v' w1 hown' hgrow _
            obtain ⟨hown3, hbw3⟩ := row_add hbw2 hBz2 hown2 hown' hgrow
            clear hown' hgrow hown2 hbw2
            go_wp2_with fail
            go_roundw
            case rel => exact ⟨k + 1, _, by go_num, by omega, HS.out, hown3, hbw3⟩
            case measure => (simp [intOf] <;> omega)
      · have hk1 : ¬ (k : Int) < 1 + (cc : Int) := by omega
        have HD := Lib.hid (HDN.out k xs hinv hk)
        obtain ⟨A5, c5, rfl⟩ := own_form2 hown
        clear hinv
        go_wp2_with fail
        refine (HC.out _).mono ?_
        rintro e w' ⟨rfl, rfl⟩
        go_wp2_with fail
        go_ret
        have h1 := HD.out
        have h2 := HR.out
        have h4 := HB.out
        rw [h2, ← h1]
        refine ⟨A5, c5, rfl, ?_, ?_⟩
        · rw [h4]; exact hown
        · rw [h4]; exact hbw
end Go.Proofs.YtglnkcggcgbaiaaDoor
