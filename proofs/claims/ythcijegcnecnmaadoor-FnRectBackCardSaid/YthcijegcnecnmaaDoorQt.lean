/- Cut rectangles can be put again: in plain words, and the law on drawn inputs, walked. -/
import Derived.Test.YthcijegcnecnmaaDoorQr
import Derived.Test.YthcijegcnecnmaaDoorQi
set_option linter.unusedVariables false
set_option linter.unusedSimpArgs false
namespace Go.Proofs.YthcijegcnecnmaaDoor
open Go.RowKit
theorem put_back {z : ByteArray} {x y : Nat} (hxy : x ≤ y) (hy : y ≤ z.size) : putLn (cutLn z x y) (z.extract x y) x = z := by
  have hx : x ≤ z.size := by omega
  have hc : cutLn z x y = z.extract 0 x ++ z.extract y z.size := by unfold cutLn; rw [Nat.min_eq_left hy, Nat.min_eq_left hx]
  have hs : x ≤ (cutLn z x y).size := by rw [hc, ByteArray.size_append, ByteArray.size_extract]; omega
  unfold putLn
  rw [pad_self hs]
  apply ba_eq
  have l1 : z.data.toList.length = z.size := Array.length_toList ..
  have l2 : (cutLn z x y).data.toList = z.data.toList.take x ++ z.data.toList.drop y := by
    rw [hc, ByteArray.data_append, Array.toList_append, Lib.extract_data, Lib.extract_data, List.drop_zero, Nat.sub_zero]
    congr 1
    exact List.take_of_length_le (by rw [List.length_drop]; omega)
  have l3 : (cutLn z x y).size = (cutLn z x y).data.toList.length := (Array.length_toList ..).symm
  rw [ByteArray.data_append, ByteArray.data_append, Array.toList_append, Array.toList_append, Lib.extract_data, Lib.extract_data, Lib.extract_data, l3, l2]
  generalize z.data.toList = l at *
  have lt : (l.take x).length = x := by rw [List.length_take]; omega
  have t1 : (((l.take x ++ l.drop y)).drop 0).take (x - 0) = l.take x := by
    rw [List.drop_zero, Nat.sub_zero, List.take_append_of_le_length (by omega), List.take_of_length_le (by omega)]
  have t2 : ((l.take x ++ l.drop y).drop x).take ((l.take x ++ l.drop y).length - x) = l.drop y := by
    rw [List.drop_left' lt]
    exact List.take_of_length_le (by rw [List.length_append]; omega)
  rw [t1, t2]
  have t3 : l.drop y = (l.drop x).drop (y - x) := by rw [List.drop_drop]; congr 1; omega
  rw [t3, List.append_assoc, List.take_append_drop, List.take_append_drop]
theorem back_line {len x y : Nat} (h : min y len - min x len = y - x) (hxy : x < y) : y ≤ len := by omega
/-- If every line has all columns of a rectangle, putting it where it was leads back. -/
theorem rect_back {s : ByteArray} {a b : Int} (hok : rcOk s a b = true) (hw : min (coI s a) (coI s b) < max (coI s a) (coI s b)) (hall : ∀ k (hk : k < (rcL s a b).length), (((rcL s a b)[k]).size : Int) = max (coI s a) (coI s b) - min (coI s a) (coI s b)) :
    rpB (rtC s a b) (paI (rtC s a b) (min (loI s a) (loI s b)) (min (coI s a) (coI s b))) (rcL s a b) = true ∧ rpS (rtC s a b) (paI (rtC s a b) (min (loI s a) (loI s b)) (min (coI s a) (coI s b))) (rcL s a b) = s := by
  obtain ⟨f, t, x, y, h1, h2, h3, h4, hft, htc, hxy, hy, h120, hv, hpa, hpb, hL⟩ := rc_nat hok
  have hr : rtC s a b = joinN (rcU s x y f (t + 1)) := by
    unfold rtC
    rw [if_pos hv, if_pos hok, h1, h2, h3, h4]; rfl
  rw [h1, h3]
  rw [h3, h4] at hw hall
  have hxy' : x < y := by omega
  have hsz := rcU_size (s := s) hxy (show f ≤ t + 1 by omega) (show t + 1 ≤ cntN s s.size + 1 by omega)
  have hul := rcU_len s x y f (t + 1)
  have hne : rcU s x y f (t + 1) ≠ [] := by intro e; rw [e] at hul; simp at hul
  have huo := rcU_ok hv x y f (t + 1)
  obtain ⟨hvX, hlX⟩ := joinN_many hne huo (by omega)
  have hlines := lines_join hne huo (by omega)
  have hlen : ∀ n, f ≤ n → n ≤ t → y ≤ (lineS s n).size := fun n hn1 hn2 => by
    have hn : n ≤ cntN s s.size := by omega
    have hk : n - f < (rcL s a b).length := by rw [hL, rcG_len]; omega
    have e := rcG_at s x y f (show n - f < t + 1 - f by omega)
    rw [← hL, List.getElem?_eq_getElem hk, show f + (n - f) = n by omega, cutR_line hn] at e
    injection e with e
    have hs := hall _ hk
    rw [e, ByteArray.size_extract] at hs
    exact back_line (x := x) (by omega) hxy'
  rw [hr]
  generalize hX : joinN (rcU s x y f (t + 1)) = X at *
  have hcX : cntN X X.size + 1 = cntN s s.size + 1 := by
    have := linesL_len X
    rw [hlines, hul] at this
    exact this.symm
  have hfX : f ≤ cntN X X.size := by omega
  have hlf : lineS X f = cutLn (lineS s f) x y := by
    have e := linesL_get X hfX
    rw [hlines, rcU_at s x y f (t + 1) (show f ≤ cntN s s.size by omega), if_pos ⟨Nat.le_refl _, by omega⟩] at e
    injection e with e
    exact e.symm
  have hlfs : x ≤ eolN X (lsN X f) - lsN X f := by
    rw [← lineS_size hfX, hlf]
    have := cutLn_size (z := lineS s f) hxy
    have h5 := hlen f (Nat.le_refl _) hft
    rw [ByteArray.size_extract] at this
    omega
  obtain ⟨o1, o2, o3⟩ := ls_ok hfX
  obtain ⟨e1, e2, _, _⟩ := eol_spec X o1
  have hP : paI X f x = ((lsN X f + x : Nat) : Int) := by
    unfold paI
    have hlo : lineOk X f = true := by unfold lineOk inI; rw [hvX]; simp; omega
    rw [if_pos ⟨hlo, by omega⟩, Int.toNat_natCast]
    omega
  rw [hP]
  obtain ⟨q1, q2, q3, q4⟩ := line_in hfX (k := lsN X f + x) (by omega) (by omega)
  have hplace : place X ((lsN X f + x : Nat) : Int) = true := by unfold place inI; rw [hvX]; simp; omega
  have hlo : loI X ((lsN X f + x : Nat) : Int) = (f : Int) := by unfold loI; rw [if_pos hplace, Int.toNat_natCast, q1]
  have hco : coI X ((lsN X f + x : Nat) : Int) = (x : Int) := by unfold coI; rw [if_pos hplace, Int.toNat_natCast, q2]; omega
  have hput : putG x f (rcU s x y f (t + 1)) (rcL s a b) = linesL s := by
    have hfl : f ≤ (rcU s x y f (t + 1)).length := by omega
    have hrl : (rcL s a b).length = t + 1 - f := by rw [hL, rcG_len]
    apply List.ext_getElem?
    intro j
    rcases Nat.lt_or_ge (cntN s s.size) j with h | h
    · rw [List.getElem?_eq_none (by rw [putG_len _ _ _ hfl, hul, hrl]; omega), List.getElem?_eq_none (by rw [linesL_len]; omega)]
    · rw [linesL_get s h]
      have hu := rcU_at s x y f (t + 1) h
      rcases Nat.lt_or_ge j f with h5 | h5
      · rw [putG_low _ _ _ hfl j h5, hu, if_neg (by omega)]
      · rcases Nat.lt_or_ge t j with h6 | h6
        · rw [putG_high _ _ _ hfl j (by omega), hu, if_neg (by omega)]
        · obtain ⟨k, rfl⟩ : ∃ k, j = f + k := ⟨j - f, by omega⟩
          have hk : k < (rcL s a b).length := by omega
          rw [putG_at _ _ _ hfl k hk]
          congr 1
          have e := rcG_at s x y f (show k < t + 1 - f by omega)
          rw [← hL, List.getElem?_eq_getElem hk, cutR_line h] at e
          injection e with e
          have hyl := hlen (f + k) (by omega) (by omega)
          rw [e, List.getD_eq_getElem?_getD, hu, if_pos ⟨by omega, by omega⟩, Option.getD_some, Nat.min_eq_left hyl, Nat.min_eq_left (by omega)]
          exact put_back hxy hyl
  have hO : rpO X ((lsN X f + x : Nat) : Int) (rcL s a b) = s := by
    unfold rpO
    rw [hlo, hco, Int.toNat_natCast, Int.toNat_natCast, hlines, hput, join_lines]
  have hnn : noNl (rcL s a b) = true := by
    refine noNl_iff.2 fun p hp => ?_
    rw [hL] at hp
    unfold rcG at hp
    obtain ⟨j, hj, rfl⟩ := List.mem_map.1 hp
    have hj' : f + j ≤ cntN s s.size := by have := List.mem_range.1 hj; omega
    rw [cutR_line hj']
    exact (okLn_ex (okLn_line hv hj') _ _).2
  have hB : rpB X ((lsN X f + x : Nat) : Int) (rcL s a b) = true := by unfold rpB; rw [hplace, hnn, hO, hv]; rfl
  refine ⟨hB, ?_⟩
  unfold rpS
  rw [if_pos hvX, if_pos hB, hO]
theorem rc_elem (s : ByteArray) (a b : Int) : ∀ p ∈ rcL s a b, p.size ≤ s.size := by
  intro p hp
  cases h : rcOk s a b
  · rw [(rc_no h).1] at hp; simp at hp
  · obtain ⟨f, t, x, y, _, _, _, _, _, _, _, _, _, _, _, _, hL⟩ := rc_nat h
    rw [hL] at hp
    unfold rcG at hp
    obtain ⟨j, _, rfl⟩ := List.mem_map.1 hp
    unfold cutR
    rw [ByteArray.size_extract]; omega
set_option maxHeartbeats 8000000 in
set_option maxRecDepth 100000 in
theorem law_FnRectBack (A : Option Addr) (n c : Nat) (zs : List Int) (w : World) (h : IsBytes w A n c zs) (hM : ML w) :
    Calls Tryd.prog 6 #[.slice A n c] w fun e w' => e = .returned (.bool true) ∧ Below w.heap.size w w' := by
  by_cases hbig : 1048576 < n
  · go_enter Tryd.func6, Tryd.ntmps6
    go_wp2
    go_ret
    exact ⟨rfl, Below.refl _ _⟩
  have hML := hM.lt
  have HD := Lib.hid (dDrawRectCut A n c zs _ h)
  clear h
  go_enter Tryd.func6, Tryd.ntmps6
  go_wp2_with fail
  refine HD.out.mono ?_
  rintro e W1 ⟨s, a, b, rfl, hs0, hu1, hu2, hv1, hv2, hb1⟩
  have hs : s.size ≤ maxLen := by unfold maxLen; omega
  clear hbig
  have hlen := rc_small s a b
  have hxs := rtC_small s a b hs0
  have hxm : (rtC s a b).size ≤ maxLen := by unfold maxLen; omega
  have hc1 := fun w hM => iRC_any s a b w hs hM
  have hc2 := fun w => sRC_any s a b w hs
  have hc3 := fun w hM => iRc_any s a b w hs hM
  have hc4 := fun W => iCO_any s a W hs
  have hc5 := fun W => iCO_any s b W hs
  have hc6 := fun W => iLO_any s a W hs
  have hc7 := fun W => iLO_any s b W hs
  have hc8 := fun W => iPA_any (rtC s a b) (min (loI s a) (loI s b)) (min (coI s a) (coI s b)) W hxm
  have hc9 := fun Ar c0 W hM h => iRP_any (rtC s a b) (paI (rtC s a b) (min (loI s a) (loI s b)) (min (coI s a) (coI s b))) Ar _ c0 (rcL s a b) W hxm hM h rfl hlen (fun x hx => by have := rc_elem s a b x hx; omega)
  have hrange : (rcL s a b).length ≠ 0 → 0 ≤ coI s a ∧ coI s a ≤ 120 ∧ 0 ≤ coI s b ∧ coI s b ≤ 120 ∧ 0 ≤ loI s a ∧ loI s a ≤ 120 ∧ 0 ≤ loI s b ∧ loI s b ≤ 120 ∧ rcOk s a b = true := fun h => by
    have hok : rcOk s a b = true := by
      cases hh : rcOk s a b
      · rw [(rc_no hh).1] at h; exact absurd rfl h
      · rfl
    obtain ⟨f, t, x, y, h1, h2, h3, h4, hft, htc, hxy, hy, h120, _⟩ := rc_nat hok
    have := cnt_le s s.size
    refine ⟨?_, ?_, ?_, ?_, ?_, ?_, ?_, ?_, hok⟩ <;> omega
  have hback := fun hok => rect_back (s := s) (a := a) (b := b) hok
  generalize paI (rtC s a b) (min (loI s a) (loI s b)) (min (coI s a) (coI s b)) = P at *
  generalize rpB (rtC s a b) P (rcL s a b) = rb at *
  generalize rpS (rtC s a b) P (rcL s a b) = rs at *
  generalize rcL s a b = xs at *
  generalize rtC s a b = x at *
  generalize coI s a = ca at *
  generalize coI s b = cb at *
  generalize loI s a = la at *
  generalize loI s b = lb at *
  generalize rcOk s a b = ok at *
  have H1 := Lib.hid hc1
  have H2 := Lib.hid hc2
  have H3 := Lib.hid hc3
  have H4 := Lib.hid hc4
  have H5 := Lib.hid hc5
  have H6 := Lib.hid hc6
  have H7 := Lib.hid hc7
  have H8 := Lib.hid hc8
  have H9 := Lib.hid hc9
  have HRG := Lib.hid hrange
  have HBK := Lib.hid hback
  clear hc1 hc2 hc3 hc4 hc5 hc6 hc7 hc8 hc9 hrange hback
  go_wp2_with fail
  refine (H1.out _ (hM.below hb1 hML)).mono ?_
  rintro e W2 ⟨rfl, hb2⟩
  have hbw2 := below_on hb1 hb2
  clear hb2 hb1
  go_wp2_with fail
  refine (H2.out _).mono ?_
  rintro e W3 ⟨rfl, hb3⟩
  have hbw3 := below_on hbw2 hb3
  clear hb3 hbw2 H1 H2
  go_wp2_with fail
  refine (H3.out _ (hM.below hbw3 hML)).mono ?_
  rintro e W4 ⟨A4, c4, rfl, ho4, hb4⟩
  have hr4 := Row.of_own ho4
  have hbw4 := below_on hbw3 hb4
  clear ho4 hb4 hbw3 H3
  by_cases h0 : xs.length = 0
  · have e0 : ((xs.length : Int) == 0) = true := by rw [h0]; rfl
    clear h0
    go_wp2_with fail
    refine (alive_any _).mono ?_
    rintro e w' ⟨rfl, rfl⟩
    go_wp2_with fail
    go_ret
    exact ⟨rfl, hbw4⟩
  · have e0 : ((xs.length : Int) == 0) = false := beq_eq_false_iff_ne.mpr (by omega)
    obtain ⟨r1, r2, r3, r4, r5, r6, r7, r8, rok⟩ := HRG.out h0
    obtain ⟨mn, hmn⟩ : ∃ v, min ca cb = v := ⟨_, rfl⟩
    obtain ⟨wd, hwd⟩ : ∃ v, max ca cb - mn = v := ⟨_, rfl⟩
    have hw0 : 0 ≤ wd := by omega
    have hw1 : wd ≤ 120 := by omega
    have hx5 : IntKind.i64.wrap wd = wd := IntWalk.i64_in _ (by omega)
    have hbk := HBK.out rok
    have hbk2 : wd ≠ 0 → (∀ k (hk : k < xs.length), ((xs[k]).size : Int) = wd) → rb = true ∧ rs = s := fun h1 h2 => hbk (by omega) (fun k hk => by have := h2 k hk; omega)
    have HB2 := Lib.hid hbk2
    have H0 := Lib.hid h0
    clear hbk hbk2 HBK HRG h0
    go_wp2_with fail
    refine (H4.out _).mono ?_
    rintro e w' ⟨rfl, rfl⟩
    go_wp2_with fail
    refine (H5.out _).mono ?_
    rintro e w' ⟨rfl, rfl⟩
    go_wp2_with fail
    refine (H4.out _).mono ?_
    rintro e w' ⟨rfl, rfl⟩
    go_wp2_with fail
    refine (H5.out _).mono ?_
    rintro e w' ⟨rfl, rfl⟩
    go_wp2_with fail
    go_loopw [10] (fun kv wr => ∃ k : Nat, k ≤ xs.length ∧ kv = .int .i64 k ∧ Hid (∀ i (hi : i < xs.length), i < k → ((xs[i]).size : Int) = wd ∧ wd ≠ 0) ∧ wr = W4) (fun kv _ => xs.length - (intOf kv).toNat)
    case atStart => exact ⟨0, Nat.zero_le _, rfl, Lib.hid (fun i hi h => by omega), rfl⟩
    case round =>
      obtain ⟨k, hk, rfl, HI, rfl⟩ := hrel
      by_cases hkx : k < xs.length
      · obtain ⟨g, o, rfl, hgb, c0⟩ := hr4.str hkx
        have hnx : ((xs[k]'hkx).size : Int) = wd → wd ≠ 0 → ∀ i (hi : i < xs.length), i < k + 1 → ((xs[i]).size : Int) = wd ∧ wd ≠ 0 := fun h1 h2 i hi hik => by
          rcases Nat.lt_or_ge i k with h | h
          · exact HI.out i hi h
          · obtain rfl : i = k := by omega
            exact ⟨h1, h2⟩
        have HNX := Lib.hid hnx
        clear hnx
        generalize (xs[k]'hkx) = z at *
        have hk' : (k : Int) < (xs.length : Int) := by omega
        have hk0 : (0 : Int) ≤ (k : Int) := by omega
        by_cases hz : (z.size : Int) = wd
        · by_cases hwz : wd = 0
          · clear HNX hz
            go_wp2_with (go_at_call 19; refine (alive_any _).mono ?_; rintro e w' ⟨rfl, rfl⟩)
            all_goals (go_ret; exact ⟨by first | rfl | simp, hbw4⟩)
          · have HN := Lib.hid (HNX.out hz hwz)
            have f2 : (wd == 0) = false := by simp [hwz]
            clear HNX hwz
            go_wp2_with (go_at_call 19; refine (alive_any _).mono ?_; rintro e w' ⟨rfl, rfl⟩)
            try any_goals (go_ret; exact ⟨by first | rfl | simp, hbw4⟩)
            go_roundw
            case rel => exact ⟨k + 1, by omega, by go_num, HN, by first | rfl | trivial⟩
            case measure => (simp [intOf] <;> omega)
        · clear HNX
          go_wp2_with (go_at_call 19; refine (alive_any _).mono ?_; rintro e w' ⟨rfl, rfl⟩)
          all_goals (go_ret; exact ⟨by first | rfl | simp, hbw4⟩)
      · obtain rfl : k = xs.length := by omega
        have hw : wd ≠ 0 := (HI.out 0 (by have := H0.out; omega) (by have := H0.out; omega)).2
        obtain ⟨b1, b2⟩ := HB2.out hw (fun k hk => (HI.out k hk hk).1)
        subst b1 b2
        obtain ⟨W4, hW⟩ : ∃ W, W = wr := ⟨wr, rfl⟩
        subst hW
        rw [hmn] at H8
        have HR4 := Lib.hid hr4
        clear hw HB2 HI hr4
        go_wp2_with fail
        refine (H6.out _).mono ?_
        rintro e w' ⟨rfl, rfl⟩
        go_wp2_with fail
        refine (H7.out _).mono ?_
        rintro e w' ⟨rfl, rfl⟩
        go_wp2_with fail
        refine (H8.out _).mono ?_
        rintro e W5 ⟨rfl, hb5⟩
        have hr5 := row_on HR4.out hb5
        have hbw5 := below_on hbw4 hb5
        clear hb5 hbw4 HR4
        go_wp2_with fail
        refine (H9.out _ _ _ (hM.below hbw5 hML) hr5).mono ?_
        rintro e W6 ⟨rfl, hb6⟩
        have hfin := below_on hbw5 hb6
        go_wp2_with fail
        all_goals (go_ret; exact ⟨by first | rfl | simp, hfin⟩)
end Go.Proofs.YthcijegcnecnmaaDoor
