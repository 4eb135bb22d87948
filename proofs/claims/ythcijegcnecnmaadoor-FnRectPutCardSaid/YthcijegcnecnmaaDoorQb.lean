/- The contracts of RectText, of the program and of the reference. -/
import Derived.Test.YthcijegcnecnmaaDoorQa
import Derived.Deep.RegionHeld3
import Derived.Deep.AppendLies
set_option linter.unusedVariables false
set_option linter.unusedSimpArgs false
namespace Go.Proofs.YthcijegcnecnmaaDoor
open Go.RowKit
set_option maxRecDepth 100000 in
theorem iRc_any (s : ByteArray) (a b : Int) (w : World) (hs : s.size ≤ maxLen) (hM : ML w) :
    Calls Tryd.prog 10 #[.string s, .int .i64 a, .int .i64 b] w (StrsPost (rcL s a b) w) := by
  have hs' := hs
  unfold maxLen at hs'
  cases hok : rcOk s a b
  · have hnil := (rc_no hok).1
    rw [hnil]
    unfold rcOk at hok
    cases hp : place s a
    · go_enter Tryd.func10, Tryd.ntmps10
      go_wp2_with fail
      refine (iPl_any _ _ _ hs).mono ?_
      rintro e w' ⟨rfl, rfl⟩
      go_wp2_with fail
      go_ret
      exact ⟨none, 0, rfl, World.ownsRow_nil _ _ _ _, Below.refl _ _⟩
    · have hq : place s b = false := by rw [hp] at hok; simpa using hok
      go_enter Tryd.func10, Tryd.ntmps10
      go_wp2_with fail
      refine (iPl_any _ _ _ hs).mono ?_
      rintro e w' ⟨rfl, rfl⟩
      go_wp2_with fail
      refine (iPl_any _ _ _ hs).mono ?_
      rintro e w' ⟨rfl, rfl⟩
      go_wp2_with fail
      go_ret
      exact ⟨none, 0, rfl, World.ownsRow_nil _ _ _ _, Below.refl _ _⟩
  · obtain ⟨i0, hi, hz0, hz1, hz2⟩ := info_parts infoStr
    obtain ⟨f, t, x, y, h1, h2, h3, h4, hft, htc, hxy, hy, h120, hv, hpa, hpb, hL⟩ := rc_nat hok
    have hcor := fun W => corners_any s a b W hs
    rw [h1, h2, h3, h4] at hcor
    have hlns := fun W h => iLs_any s W (by omega) h
    have hll := linesL_len s
    have hat : ∀ j, j < t + 1 - f → ∃ z, (linesL s)[f + j]? = some z ∧ z.size ≤ 120 ∧ (rcL s a b)[j]? = some (z.extract (min x z.size) (min y z.size)) := fun j hj => by
      have hn : f + j ≤ cntN s s.size := by omega
      refine ⟨_, linesL_get s hn, ?_, ?_⟩
      · rw [lineS_size hn]; have := (eol_spec s (ls_ok hn).1).2.1; omega
      · rw [hL, rcG_at s x y f hj, cutR_line hn]
    have hlen : (rcL s a b).length = t + 1 - f := by rw [hL, rcG_len]
    have hP1 := fun W => iPl_any s a W hs
    have hP2 := fun W => iPl_any s b W hs
    rw [hpa] at hP1
    rw [hpb] at hP2
    have hcb := cnt_le s s.size
    have htl : t + 1 ≤ (linesL s).length := by omega
    have hlb : (linesL s).length ≤ 121 := by omega
    generalize rcL s a b = ss at *
    generalize linesL s = ls at *
    have H1 := Lib.hid hcor
    have H2 := Lib.hid hlns
    have HP1 := Lib.hid hP1
    have HP2 := Lib.hid hP2
    have HAT := Lib.hid hat
    have HL := Lib.hid hlen
    clear hcor hlns hP1 hP2 hat hlen hL h1 h2 h3 h4 hpa hpb hv hok hll htc hcb
    go_enter Tryd.func10, Tryd.ntmps10
    go_wp2_with fail
    refine (HP1.out _).mono ?_
    rintro e w' ⟨rfl, rfl⟩
    go_wp2_with fail
    refine (HP2.out _).mono ?_
    rintro e w' ⟨rfl, rfl⟩
    go_wp2_with fail
    refine (H1.out _).mono ?_
    rintro e W1 ⟨rfl, q1, rfl⟩
    go_wp2_with fail
    refine (H2.out _ (hM.drewN _)).mono ?_
    rintro e W2 ⟨A, c, rfl, ho, hb⟩
    have hr := Row.of_own ho
    obtain ⟨g, rfl, hcap⟩ : ∃ g, A = some ⟨g, 0, none⟩ ∧ ls.length ≤ c := by
      rcases ho.2 with ⟨e, h1⟩ | ⟨g', c', cur, e, _, _, h4, _⟩
      · omega
      · injection e with e1 _ e3
        exact ⟨g', e1, by omega⟩
    have hf0 : (0 : Int) ≤ (f : Int) := by omega
    have hft' : (f : Int) ≤ (t : Int) + 1 := by omega
    have htc' : (t : Int) + 1 ≤ (c : Int) := by omega
    have htl' : (t : Int) + 1 ≤ (ls.length : Int) := by omega
    have hne : ¬ c = f := by omega
    have HBX := Lib.hid ((below_drewN (Below.refl w.heap.size w) q1).trans (hb.mono (Nat.le_refl _)))
    have HO := Lib.hid hr
    clear ho hb hr
    go_wp2_with fail
    go_loopw [11, 40] (fun ov iv wr => ∃ k : Nat, k ≤ t + 1 - f ∧ iv = .int .i64 k ∧ wr.ownsRow W2.heap.size 9 1 ov k (strVals (ss.take k)) ∧ Below W2.heap.size W2 wr) (fun _ iv _ => t + 1 - f - (intOf iv).toNat)
    case atStart => exact ⟨0, Nat.zero_le _, rfl, World.ownsRow_nil _ _ _ _, Below.refl _ _⟩
    case round =>
      obtain ⟨k, hk, rfl, hown, hbw⟩ := hrel
      by_cases hkx : k < t + 1 - f
      · obtain ⟨z, g1, g2, g3⟩ := HAT.out k hkx
        obtain ⟨g', o, hA, hbb, c0⟩ := (HO.out.below hbw) (f + k) (.string z) (by rw [strVals, List.getElem?_map, g1]; rfl)
        injection hA with hA
        injection hA with hA1 hA2
        subst hA1 hA2
        rw [Nat.zero_add] at c0
        obtain ⟨p, hp⟩ : ∃ p, p = min x z.size := ⟨_, rfl⟩
        obtain ⟨q, hq⟩ : ∃ q, q = min y z.size := ⟨_, rfl⟩
        rw [← hp, ← hq] at g3
        have hp' : min (x : Int) (z.size : Int) = (p : Int) := by omega
        have hq' : min (y : Int) (z.size : Int) = (q : Int) := by omega
        have hk' : (k : Int) < ((t + 1 - f : Nat) : Int) := by omega
        have hk0 : (0 : Int) ≤ (k : Int) := by omega
        have hp0 : (0 : Int) ≤ (p : Int) := by omega
        have hpq : (p : Int) ≤ (q : Int) := by omega
        have hqz : (q : Int) ≤ (z.size : Int) := by omega
        have hBz : W2.heap.size ≤ wr.heap.size := hbw.size
        have HT := Lib.hid (take_str g3)
        have HB2 := Lib.hid hbw
        have hown2 := hown
        clear g1 g3 hp hq hbw hown
        go_wp2_with (first | (at_builtin; refine wpList_append_own _ rfl _ _ 22 rfl W2.heap.size 9 i0 (.string .empty) 1 16 Tryd.underlying22 hi hz0 hz1 hz2 rfl (by decide) _ _ _ rfl (hown2.alloc _) ⟨wr.heap.size, 0, none⟩ 1 1 [.string (z.extract p q)] rfl rfl (news1 _ _ _) (ones1 _) (by unfold maxLen; omega) (by omega) (by simp; omega) ?_))
        intro v' w1 hown' hgrow _
        have hb1 : Below W2.heap.size W2 w1 := (HB2.out.alloc hBz _).grown hgrow (by simp; omega) (fun j hj => ((hown2.alloc (.cells #[.string (z.extract p q)] 9)).lt j hj).1)
        rw [HT.out] at hown'
        clear hown2 hgrow HB2
        go_wp2_with fail
        go_roundw
        case rel => exact ⟨k + 1, by omega, by go_num, hown', hb1⟩
        case measure => (simp [intOf] <;> omega)
      · obtain rfl : k = t + 1 - f := by omega
        have HE := Lib.hid (strs_end hown HL.out.symm HBX.out hbw)
        clear hown hbw
        go_wp2_with fail
        go_ret
        exact HE.out
set_option maxHeartbeats 4000000 in
set_option maxRecDepth 100000 in
theorem sRc_any (s : ByteArray) (a b : Int) (w : World) (hs : s.size ≤ maxLen) :
    Calls Tryd.prog 9 #[.string s, .int .i64 a, .int .i64 b] w (StrsPost (rcL s a b) w) := by
  have hs' := hs
  unfold maxLen at hs'
  obtain ⟨B, hB⟩ : ∃ B, w.heap.size = B := ⟨_, rfl⟩
  have hmade : (w.alloc (.cells #[] 9)).ownsRow B 9 1 (.slice (some ⟨w.heap.size, 0, none⟩) 0 0) 0 [] := World.ownsRow_made w #[] 0 (by omega) (by decide) rfl
  have hbm : Below B w (w.alloc (.cells #[] 9)) := (Below.refl _ _).alloc (by omega) _
  have HM := Lib.hid (And.intro hmade hbm)
  have HB := Lib.hid hB
  clear hmade hbm hB
  have hc1 := fun W => sCO_any s a W hs
  have hc2 := fun W => sCO_any s b W hs
  have hc3 := fun W => sLO_any s a W hs
  have hc4 := fun W => sLO_any s b W hs
  cases hok : rcOk s a b
  · obtain ⟨hnil, hx⟩ := rc_no hok
    rw [hnil]
    generalize coI s a = ca at *
    generalize coI s b = cb at *
    have H1 := Lib.hid hc1
    have H2 := Lib.hid hc2
    have HP : Hid (StrsPost [] w (.returned (.slice (some ⟨w.heap.size, 0, none⟩) 0 0)) (w.alloc (.cells #[] 9))) := Lib.hid (by
      have h := HM.out
      rw [← HB.out] at h
      exact ⟨_, 0, rfl, h.1, h.2⟩)
    clear hc1 hc2 hc3 hc4 hnil hok
    go_enter Tryd.func9, Tryd.ntmps9
    go_wp2_with fail
    refine (H1.out _).mono ?_
    rintro e w' ⟨rfl, rfl⟩
    go_wp2_with fail
    refine (H2.out _).mono ?_
    rintro e w' ⟨rfl, rfl⟩
    go_wp2_with fail
    refine (H1.out _).mono ?_
    rintro e w' ⟨rfl, rfl⟩
    go_wp2_with fail
    refine (H2.out _).mono ?_
    rintro e w' ⟨rfl, rfl⟩
    go_wp2_with fail
    go_ret
    exact HP.out
  · obtain ⟨i0, hi, hz0, hz1, hz2⟩ := info_parts infoStr
    obtain ⟨f, t, x, y, h1, h2, h3, h4, hft, htc, hxy, hy, h120, hv, hpa, hpb, hL⟩ := rc_nat hok
    have hcb := cnt_le s s.size
    have htb : t ≤ 120 := by omega
    have hat : ∀ l : Nat, f ≤ l → l ≤ t → ∃ p q : Nat, (∀ W, Calls Tryd.prog 33 #[.string s, .int .i64 l, .int .i64 x] W fun e w' => e = .returned (.int .i64 (p : Int)) ∧ W = w') ∧ (∀ W, Calls Tryd.prog 33 #[.string s, .int .i64 l, .int .i64 y] W fun e w' => e = .returned (.int .i64 (q : Int)) ∧ W = w') ∧ p ≤ q ∧ q ≤ s.size ∧ (rcL s a b)[l - f]? = some (s.extract p q) := fun l hl1 hl2 => by
      have hn : l ≤ cntN s s.size := by omega
      have hlo : lineOk s l = true := by unfold lineOk inI; rw [hv]; simp; omega
      obtain ⟨e1, e2, _⟩ := eol_spec s (ls_ok hn).1
      have hpa : ∀ c : Nat, paI s l c = ((lsN s l + min c (eolN s (lsN s l) - lsN s l) : Nat) : Int) := fun c => by
        unfold paI
        rw [if_pos ⟨hlo, by omega⟩, Int.toNat_natCast]
        omega
      refine ⟨_, _, fun W => hpa x ▸ sPA_any s l x W hs, fun W => hpa y ▸ sPA_any s l y W hs, by omega, by omega, ?_⟩
      rw [hL, rcG_at s x y f (show l - f < t + 1 - f by omega), show f + (l - f) = l by omega]
      rfl
    have hlen : (rcL s a b).length = t + 1 - f := by rw [hL, rcG_len]
    generalize rcL s a b = ss at *
    generalize coI s a = ca at *
    generalize coI s b = cb at *
    generalize loI s a = la at *
    generalize loI s b = lb at *
    have H1 := Lib.hid hc1
    have H2 := Lib.hid hc2
    have H3 := Lib.hid hc3
    have H4 := Lib.hid hc4
    have HAT := Lib.hid hat
    have HL := Lib.hid hlen
    clear hc1 hc2 hc3 hc4 hat hlen hL hpa hpb hv hok htc hcb
    go_enter Tryd.func9, Tryd.ntmps9
    go_wp2_with fail
    refine (H1.out _).mono ?_
    rintro e w' ⟨rfl, rfl⟩
    go_wp2_with fail
    refine (H2.out _).mono ?_
    rintro e w' ⟨rfl, rfl⟩
    go_wp2_with fail
    refine (H1.out _).mono ?_
    rintro e w' ⟨rfl, rfl⟩
    go_wp2_with fail
    refine (H2.out _).mono ?_
    rintro e w' ⟨rfl, rfl⟩
    go_wp2_with fail
    refine (H3.out _).mono ?_
    rintro e w' ⟨rfl, rfl⟩
    go_wp2_with fail
    refine (H4.out _).mono ?_
    rintro e w' ⟨rfl, rfl⟩
    go_wp2_with fail
    go_loopw [7, 10] (fun ov iv wr => ∃ l : Nat, f ≤ l ∧ l ≤ t + 1 ∧ iv = .int .i64 l ∧ wr.ownsRow B 9 1 ov (l - f) (strVals (ss.take (l - f))) ∧ Below B w wr) (fun _ iv _ => t + 1 - (intOf iv).toNat)
    case atStart => exact ⟨f, Nat.le_refl _, by omega, rfl, by rw [Nat.sub_self]; exact HM.out.1, HM.out.2⟩
    case round =>
      obtain ⟨l, hl1, hl2, rfl, hown, hbw⟩ := hrel
      have hBz : B ≤ wr.heap.size := by have := hbw.size; have := HB.out; omega
      have hl0 : (0 : Int) ≤ (l : Int) := by omega
      by_cases hlt : l ≤ t
      · have hlt' : (l : Int) ≤ (t : Int) := by omega
        obtain ⟨p, q, g1, g2, g3, g4, g5⟩ := HAT.out l hl1 hlt
        have HT := Lib.hid (take_str g5)
        have hp0 : (0 : Int) ≤ (p : Int) := by omega
        have hpq : (p : Int) ≤ (q : Int) := by omega
        have hqz : (q : Int) ≤ (s.size : Int) := by omega
        have HG1 := Lib.hid g1
        have HG2 := Lib.hid g2
        have hnx : l - f + 1 = l + 1 - f := by omega
        have HNX := Lib.hid hnx
        have HB2 := Lib.hid hbw
        clear g1 g2 g5 hnx hbw
        go_wp2_with fail
        refine (H3.out _).mono ?_
        rintro e w' ⟨rfl, rfl⟩
        go_wp2_with fail
        refine (H4.out _).mono ?_
        rintro e w' ⟨rfl, rfl⟩
        go_wp2_with fail
        refine (HG1.out _).mono ?_
        rintro e w' ⟨rfl, rfl⟩
        go_wp2_with fail
        refine (HG2.out _).mono ?_
        rintro e w' ⟨rfl, rfl⟩
        go_wp2_with (first | (at_builtin; refine wpList_append_own _ rfl _ _ 22 rfl B 9 i0 (.string .empty) 1 16 Tryd.underlying22 hi hz0 hz1 hz2 rfl (by decide) _ _ _ rfl (hown.alloc _) ⟨wr.heap.size, 0, none⟩ 1 1 [.string (s.extract p q)] rfl rfl (news1 _ _ _) (ones1 _) (by unfold maxLen; omega) (by omega) (by simp; omega) ?_))
        intro v' w1 hown' hgrow _
        have hb1 : Below B w w1 := (HB2.out.alloc hBz _).grown hgrow (by simp; omega) (fun j hj => ((hown.alloc (.cells #[.string (s.extract p q)] 9)).lt j hj).1)
        rw [HT.out, HNX.out] at hown'
        clear hown hgrow HB2
        go_wp2_with fail
        go_roundw
        case rel => exact ⟨l + 1, by omega, by omega, by go_num, hown', hb1⟩
        case measure => (simp [intOf] <;> omega)
      · obtain rfl : l = t + 1 := by omega
        have hlt' : decide (((t + 1 : Nat) : Int) ≤ (t : Int)) = false := by simp; omega
        have HE : Hid (∀ v, v = _ → StrsPost ss w (.returned v) wr) := Lib.hid (strs_end0 hown HL.out.symm HB.out hbw)
        clear hown hbw
        go_wp2_with fail
        refine (H3.out _).mono ?_
        rintro e w' ⟨rfl, rfl⟩
        go_wp2_with fail
        refine (H4.out _).mono ?_
        rintro e w' ⟨rfl, rfl⟩
        go_wp2_with fail
        go_ret
        exact HE.out _ rfl
theorem rc_small (s : ByteArray) (a b : Int) : (rcL s a b).length ≤ 121 := by
  cases h : rcOk s a b
  · rw [(rc_no h).1]; simp
  · obtain ⟨f, t, x, y, _, _, _, _, _, htc, _, _, h120, _, _, _, hL⟩ := rc_nat h
    have := cnt_le s s.size
    rw [hL, rcG_len]; omega
end Go.Proofs.YthcijegcnecnmaaDoor
