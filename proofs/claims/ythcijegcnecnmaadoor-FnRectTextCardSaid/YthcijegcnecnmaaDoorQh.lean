/- The law on RectText over drawn inputs, walked. -/
import Derived.Test.YthcijegcnecnmaaDoorQb
import Derived.Test.YthcijegcnecnmaaDoorQg
import Derived.Test.YthcijegcnecnmaaDoorAl
set_option linter.unusedVariables false
set_option linter.unusedSimpArgs false
namespace Go.Proofs.YthcijegcnecnmaaDoor
open Go.RowKit
theorem rc_swap (s : ByteArray) (a b : Int) : rcL s b a = rcL s a b := by
  have h : rcOk s b a = rcOk s a b := by unfold rcOk; exact Bool.and_comm ..
  unfold rcL
  rw [h, Int.min_comm (coI s b), Int.max_comm (coI s b), Int.min_comm (loI s b), Int.max_comm (loI s b)]
theorem rc_all {s : ByteArray} {a b : Int} (h : rcOk s a b = true) : place s a = true ∧ place s b = true ∧ ((rcL s a b).length : Int) = max (loI s a - loI s b) (-(loI s a - loI s b)) + 1 ∧ (∀ k (hk : k < (rcL s a b).length), (((rcL s a b)[k]).size : Int) ≤ max (coI s a - coI s b) (-(coI s a - coI s b))) ∧ 0 ≤ coI s a ∧ coI s a ≤ 120 ∧ 0 ≤ coI s b ∧ coI s b ≤ 120 ∧ 0 ≤ loI s a ∧ loI s a ≤ 120 ∧ 0 ≤ loI s b ∧ loI s b ≤ 120 := by
  obtain ⟨f, t, x, y, h1, h2, h3, h4, hft, htc, hxy, hy, h120, hv, hpa, hpb, hL⟩ := rc_nat h
  have hc := cnt_le s s.size
  refine ⟨hpa, hpb, by rw [hL, rcG_len]; omega, fun k hk => ?_, by omega, by omega, by omega, by omega, by omega, by omega, by omega, by omega⟩
  have hk' : k < t + 1 - f := by rw [hL, rcG_len] at hk; exact hk
  have e := rcG_at s x y f hk'
  rw [← hL, List.getElem?_eq_getElem hk] at e
  injection e with e
  rw [e]
  unfold cutR
  rw [ByteArray.size_extract]
  omega
theorem sameTexts_same (A C : Option Addr) (n m c d : Nat) (ss : List ByteArray) (w : World) (h1 : Row w w.heap.size A (strVals ss)) (h2 : Row w w.heap.size C (strVals ss)) (hn : ss.length = n) (hm : ss.length = m) (hmax : n ≤ 3000000) :
    Calls Tryd.prog 28 #[.slice A n c, .slice C m d] w fun e w' => e = .returned (.bool true) ∧ ∃ q, w' = w.drewN q := by
  obtain rfl : n = m := by omega
  go_enter Tryd.func28, Tryd.ntmps28
  go_wp2_with fail
  go_loopw [5] (fun i wr => ∃ k : Nat, k ≤ n ∧ i = .int .i64 k ∧ ∃ q, wr = w.drewN q) (fun i _ => n - (intOf i).toNat)
  case atStart => exact ⟨0, Nat.zero_le _, rfl, 0, rfl⟩
  case round =>
    obtain ⟨k, hk, rfl, q, rfl⟩ := hrel
    by_cases hkn : k < n
    · have hkl : k < ss.length := by omega
      obtain ⟨b, o, rfl, hb, hc1⟩ := h1.str (j := k) hkl
      obtain ⟨b', o', rfl, hb', hc2⟩ := h2.str (j := k) hkl
      generalize ss[k]'hkl = x at hc1 hc2
      have hk' : (k : Int) < (n : Int) := by omega
      have hk0 : (0 : Int) ≤ (k : Int) := by omega
      go_wp2_with fail
      go_quiet (fail)
      go_wp2_with fail
      go_roundw
      case rel => exact ⟨k + 1, by omega, by go_num, _, rfl⟩
      case measure => (simp [intOf] <;> omega)
    · go_wp2_with fail
      go_ret
      exact ⟨rfl, q, rfl⟩
set_option maxHeartbeats 4000000 in
set_option maxRecDepth 100000 in
theorem law_FnRectText (A : Option Addr) (n c : Nat) (zs : List Int) (w : World) (h : IsBytes w A n c zs) (hM : ML w) :
    Calls Tryd.prog 7 #[.slice A n c] w fun e w' => e = .returned (.bool true) ∧ Below w.heap.size w w' := by
  by_cases hbig : 1048576 < n
  · go_enter Tryd.func7, Tryd.ntmps7
    go_wp2
    go_ret
    exact ⟨rfl, Below.refl _ _⟩
  have hML := hM.lt
  have HD := Lib.hid (dDrawRectText A n c zs _ h)
  clear h
  go_enter Tryd.func7, Tryd.ntmps7
  go_wp2_with fail
  refine HD.out.mono ?_
  rintro e W1 ⟨s, a, b, rfl, hs0, hu1, hu2, hv1, hv2, hb1⟩
  have hs : s.size ≤ maxLen := by unfold maxLen; omega
  clear hbig
  have hlen := rc_small s a b
  have hc1 := fun w hM => iRc_any s a b w hs hM
  have hc2 := fun w => sRc_any s a b w hs
  have hc3 := fun w hM => iRc_any s b a w hs hM
  rw [rc_swap] at hc3
  have hall := rc_all (s := s) (a := a) (b := b)
  have hno : rcOk s a b = false → rcL s a b = [] ∧ (place s a && place s b) = false := fun h => ⟨(rc_no h).1, h⟩
  have hp1 := fun w => placeOk_any s a w hs
  have hp2 := fun w => placeOk_any s b w hs
  have hc4 := fun W => iCO_any s a W hs
  have hc5 := fun W => iCO_any s b W hs
  have hc6 := fun W => iLO_any s a W hs
  have hc7 := fun W => iLO_any s b W hs
  generalize rcL s a b = xs at *
  generalize hok : rcOk s a b = ok at *
  clear hok
  have H1 := Lib.hid hc1
  have H2 := Lib.hid hc2
  have H3 := Lib.hid hc3
  have H4 := Lib.hid hc4
  have H5 := Lib.hid hc5
  have H6 := Lib.hid hc6
  have H7 := Lib.hid hc7
  have HA := Lib.hid hall
  have HN := Lib.hid hno
  clear hc1 hc2 hc3 hc4 hc5 hc6 hc7 hall hno
  go_wp2_with fail
  refine (H1.out _ (hM.below hb1 hML)).mono ?_
  rintro e W2 ⟨A2, c2, rfl, ho2, hb2⟩
  have hr2 := Row.of_own ho2
  have hbw2 := below_on hb1 hb2
  clear ho2 hb2 hb1
  go_wp2_with fail
  refine (H2.out _).mono ?_
  rintro e W3 ⟨A3, c3, rfl, ho3, hb3⟩
  have hr23 := row_on hr2 hb3
  have hr3 := Row.of_own ho3
  have hbw3 := below_on hbw2 hb3
  clear ho3 hb3 hr2 hbw2
  go_wp2_with fail
  refine (sameTexts_same A2 A3 _ _ c2 c3 xs W3 hr23 hr3 (by omega) (by omega) (by omega)).mono ?_
  rintro e w' ⟨rfl, q4, rfl⟩
  have hb4 := drewN_on W3 q4
  generalize W3.drewN q4 = W4 at *
  have hr24 := row_on hr23 hb4
  have hbw4 := below_on hbw3 hb4
  clear hr23 hr3 hbw3 hb4
  go_wp2_with fail
  refine (H3.out _ (hM.below hbw4 hML)).mono ?_
  rintro e W5 ⟨A5, c5, rfl, ho5, hb5⟩
  have hr25 := row_on hr24 hb5
  have hr5 := Row.of_own ho5
  have hbw5 := below_on hbw4 hb5
  clear ho5 hb5 hr24 hbw4
  go_wp2_with fail
  refine (sameTexts_same A2 A5 _ _ c2 c5 xs W5 hr25 hr5 (by omega) (by omega) (by omega)).mono ?_
  rintro e w' ⟨rfl, q6, rfl⟩
  have hb6 := drewN_on W5 q6
  generalize W5.drewN q6 = W6 at *
  have hr26 := row_on hr25 hb6
  have hbw6 := below_on hbw5 hb6
  clear hr25 hr5 hbw5 hb6 H1 H2 H3
  cases ok
  · obtain ⟨hx, hpq⟩ := HN.out rfl
    subst hx
    have HP1 := Lib.hid hp1
    have HP2 := Lib.hid hp2
    clear hp1 hp2 HA HN
    cases hpa : place s a
    · rw [hpa] at HP1
      go_wp2_with fail
      refine (HP1.out _).mono ?_
      rintro e w' ⟨rfl, rfl⟩
      go_wp2_with fail
      refine (alive_any _).mono ?_
      rintro e w' ⟨rfl, rfl⟩
      go_wp2_with fail
      go_ret
      exact ⟨rfl, hbw6⟩
    · have hpb : place s b = false := by rw [hpa] at hpq; simpa using hpq
      rw [hpa] at HP1
      rw [hpb] at HP2
      go_wp2_with fail
      refine (HP1.out _).mono ?_
      rintro e w' ⟨rfl, rfl⟩
      go_wp2_with fail
      refine (HP2.out _).mono ?_
      rintro e w' ⟨rfl, rfl⟩
      go_wp2_with fail
      refine (alive_any _).mono ?_
      rintro e w' ⟨rfl, rfl⟩
      go_wp2_with fail
      go_ret
      exact ⟨rfl, hbw6⟩
  · obtain ⟨pa, pb, g1, g2, g3, g4, g5, g6, g7, g8, g9, g10⟩ := HA.out rfl
    rw [pa] at hp1
    rw [pb] at hp2
    generalize coI s a = ca at *
    generalize coI s b = cb at *
    generalize loI s a = la at *
    generalize loI s b = lb at *
    have HP1 := Lib.hid hp1
    have HP2 := Lib.hid hp2
    have G2 := Lib.hid g2
    have G1 := Lib.hid g1
    have HR := Lib.hid hr26
    clear hp1 hp2 HA HN g1 g2 hr26
    go_wp2_with fail
    refine (HP1.out _).mono ?_
    rintro e w' ⟨rfl, rfl⟩
    go_wp2_with fail
    refine (HP2.out _).mono ?_
    rintro e w' ⟨rfl, rfl⟩
    go_wp2_with fail
    refine (H4.out _).mono ?_
    rintro e w' ⟨rfl, rfl⟩
    go_wp2_with fail
    refine (H5.out _).mono ?_
    rintro e w' ⟨rfl, rfl⟩
    go_wp2_with fail
    refine (H6.out _).mono ?_
    rintro e w' ⟨rfl, rfl⟩
    go_wp2_with fail
    refine (H7.out _).mono ?_
    rintro e w' ⟨rfl, rfl⟩
    go_wp2_with fail
    go_loopw [9] (fun kv wr => ∃ k : Nat, k ≤ xs.length ∧ kv = .int .i64 k ∧ wr = W6) (fun kv _ => xs.length - (intOf kv).toNat)
    case atStart => exact ⟨0, Nat.zero_le _, rfl, rfl⟩
    case round =>
      obtain ⟨k, hk, rfl, rfl⟩ := hrel
      by_cases hkx : k < xs.length
      · obtain ⟨g, o, rfl, hgb, c0⟩ := HR.out.str hkx
        have hz := G2.out k hkx
        generalize (xs[k]'hkx) = z at *
        have hk' : (k : Int) < (xs.length : Int) := by omega
        have hk0 : (0 : Int) ≤ (k : Int) := by omega
        go_wp2_with fail
        go_roundw
        case rel => exact ⟨k + 1, by omega, by go_num, by first | rfl | trivial⟩
        case measure => (simp [intOf] <;> omega)
      · obtain rfl : k = xs.length := by omega
        have g1 := G1.out
        clear G1
        go_wp2_with fail
        all_goals (go_ret; exact ⟨by first | rfl | simp, hbw6⟩)
end Go.Proofs.YthcijegcnecnmaaDoor
