/- The law FnWrapRows. -/
import Derived.Test.YtglnkcggcgbaiaaDoorLx2
set_option linter.unusedVariables false
set_option linter.unusedSimpArgs false
namespace Go.Proofs.YtglnkcggcgbaiaaDoor
open Go.RowKit

set_option maxRecDepth 100000 in
set_option maxHeartbeats 4000000 in
theorem law_FnWrapRows (A : Option Addr) (n c : Nat) (zs : List Int) (w : World) (h : IsBytes w A n c zs) (hM : ML w) :
    Calls Tryd.prog 7 #[.slice A n c] w fun e w' => e = .returned (.bool true) ∧ Below w.heap.size w w' := by
  by_cases hbig : 1048576 < n
  · go_enter Tryd.func7, Tryd.ntmps7
    go_wp2
    go_ret
    exact ⟨rfl, Below.refl _ _⟩
  have hML := hM.lt
  go_enter Tryd.func7, Tryd.ntmps7
  go_wp2_with fail
  refine (dDrawWrapRows A n c zs _ h).mono ?_
  rintro e W1 ⟨s, W, rfl, hs0, hv1, hv2, hb⟩
  have hs : s.size ≤ maxLen := by unfold maxLen; omega
  clear hbig
  have hlen := rows_small s W
  have hc1 := fun w hM => iWR_any s W w hs hM
  have hc2 := fun w => sWR_any s W w hs
  by_cases hw : wOk s W = true
  · obtain ⟨hv, wn, rfl, hw4, hw40⟩ := wOk_s hw
    have h120 := valid_size hv
    have hat := fun k (hk : k < (rowsL s wn).length) => rows_at hw hk
    have hc3 := fun w => iLM_any s w hs
    rw [lm_cnt hv] at hc3
    have hge : cntN s s.size + 1 ≤ (rowsL s wn).length := by rw [rowsL_ok hw]; exact rowsF_len s wn _ _
    obtain ⟨h0, h00⟩ := rows_head hw
    have hx0 : rowX (rowsL s wn) 0 = 0 := by unfold rowX; rw [List.getD_eq_getElem?_getD, List.getElem?_eq_getElem h0]; simp [h00]
    generalize rowsL s wn = xs at *
    generalize cntN s s.size = cc at *
    have H1 := Lib.hid hc1
    have H2 := Lib.hid hc2
    have H3 := Lib.hid hc3
    have HAT := Lib.hid hat
    have HX0 := Lib.hid hx0
    clear hc1 hc2 hc3 hat hx0 h00 hw
    go_wp2_with fail
    refine (H1.out _ (hM.below hb hML)).mono ?_
    rintro e W2 ⟨A2, c2, rfl, ho2, hb2⟩
    have hr2 := Row.of_own2 ho2
    have hbw2 := hb.trans (hb2.mono hb.size)
    clear ho2 hb2
    go_wp2_with fail
    refine (H2.out _).mono ?_
    rintro e W3 ⟨A3, c3, rfl, ho3, hb3⟩
    have hr3 := Row.of_own2 ho3
    have hr23 := (hr2.below hb3).more hb3.size
    have hbw3 := hbw2.trans (hb3.mono hbw2.size)
    clear ho3 hb3 hr2 hbw2
    go_wp2_with fail
    refine (sTV_any _ _ hs).mono ?_
    rintro e w' ⟨rfl, rfl⟩
    go_wp2_with fail
    go_loopw [7, 8] (fun av iv wr => ∃ k a : Nat, iv = .int .i64 k ∧ av = .int .i64 a ∧ k ≤ xs.length ∧ (k < xs.length → a = rowX xs k) ∧ a ≤ s.size + 1 ∧ ∃ q, wr = W3.drewN q) (fun _ iv _ => xs.length - (intOf iv).toNat)
    case atStart => exact ⟨0, 0, rfl, rfl, Nat.zero_le _, fun _ => HX0.out.symm, Nat.zero_le _, 0, rfl⟩
    case round =>
      obtain ⟨k, a, rfl, rfl, hk, hka, ha, q, rfl⟩ := hrel
      by_cases hkx : k < xs.length
      · obtain ⟨a1, a2, a3, a4, a5, a6, a7⟩ := HAT.out k hkx
        obtain ⟨b, o, rfl, hbb, p0, p1⟩ := hr23.pair hkx
        obtain ⟨b', o', rfl, hbb', q0, q1⟩ := hr3.pair hkx
        rw [a1] at p0 p1 q0 q1
        simp only at p0 p1 q0 q1
        have hax := hka hkx
        subst hax
        have hnx : k + 1 < xs.length → rowX xs (k + 1) = (if isNl s (rowY xs k) = true then rowY xs k + 1 else rowY xs k) := fun h => (a6 h).2.1
        have hsp : k + 1 < xs.length → isNl s (rowY xs k) = false → rowY xs k - rowX xs k = wn ∨ byteI s (rowY xs k - 1) = 32 := fun h => (a6 h).2.2
        have hlt : k + 1 < xs.length → rowY xs k < s.size := fun h => (a6 h).1
        have HNX := Lib.hid hnx
        have HSP := Lib.hid hsp
        have HLT := Lib.hid hlt
        have HA5 := Lib.hid a5
        clear a1 a5 a6 a7 hka hnx hsp hlt
        generalize rowX xs k = X at *
        generalize rowY xs k = Y at *
        have hk' : (k : Int) < (xs.length : Int) := by omega
        have hk0 : (0 : Int) ≤ (k : Int) := by omega
        have x1 : IntKind.i64.wrap ((Y : Int) - (X : Int)) = (Y : Int) - (X : Int) := IntWalk.i64_in _ (by omega)
        have x2 : IntKind.i64.wrap ((xs.length : Int) - 1) = (xs.length : Int) - 1 := IntWalk.i64_in _ (by omega)
        have x3 : IntKind.i64.wrap ((Y : Int) - 1) = (Y : Int) - 1 := IntWalk.i64_in _ (by omega)
        have t1 : decide ((Y : Int) < (X : Int)) = false := by simp; omega
        have t2 : decide ((wn : Int) < (Y : Int) - (X : Int)) = false := by simp; omega
        have t3 : decide ((s.size : Int) < (Y : Int)) = false := by simp; omega
        have t1' : decide (Y < X) = false := by simp; omega
        have t3' : decide (s.size < Y) = false := by simp; omega
        have t4 : ((X : Int) != (X : Int)) = false := by simp
        have HXX := Lib.hid (And.intro x2 x3)
        clear x2 x3
        go_wp2_with fail
        go_quiet (fail)
        clear x1 t1 t2 t3 t1' t3' t4
        by_cases hys : Y < s.size
        · have hys' : (Y : Int) < (s.size : Int) := by omega
          have hnl := nl_at hys
          cases h2 : isNl s Y
          · rw [h2] at hnl
            have e5 := hnl.symm
            have HN := Lib.hid h2
            clear hnl h2
            by_cases hlast : k + 1 < xs.length
            · have hsp := HSP.out hlast HN.out
              have hxy := HA5.out hys HN.out
              have hk2 : (k : Int) < (xs.length : Int) - 1 := by omega
              by_cases hwid : Y - X = wn
              · have t5 : decide ((Y : Int) - (X : Int) < (wn : Int)) = false := by simp; omega
                have t6 : decide ((k : Int) < (xs.length : Int) - 1) = true := by simp; omega
                have HW := Lib.hid hwid
                have x1 : IntKind.i64.wrap ((Y : Int) - (X : Int)) = (Y : Int) - (X : Int) := IntWalk.i64_in _ (by omega)
                have HX1 := Lib.hid x1
                clear hsp hwid x1
                go_wp2_with fail
                obtain ⟨x2, x3⟩ := HXX.out
                have x1 := HX1.out
                go_quiet (fail)
                clear x1 x2 x3
                go_wp2_with fail
                go_roundw
                case rel => exact ⟨k + 1, Y, by go_num, rfl, by omega, fun h => by rw [HNX.out h, HN.out]; rfl, by omega, _, rfl⟩
                case measure => (simp [intOf] <;> omega)
              · have hb32 : byteI s (Y - 1) = 32 := by
                  rcases hsp with h | h
                  · exact absurd h hwid
                  · exact h
                obtain ⟨y1, rfl⟩ : ∃ y1, Y = y1 + 1 := ⟨Y - 1, by omega⟩
                have hy1s : y1 < s.size := by omega
                rw [show y1 + 1 - 1 = y1 from rfl, byteI_at hy1s] at hb32
                have t7 : ((s[y1].toNat : Int) != 32) = false := by simp [hb32]
                have t5 : decide ((y1 : Int) + 1 - (X : Int) < (wn : Int)) = true := by simp; omega
                have t6 : decide ((k : Int) < (xs.length : Int) - 1) = true := by simp; omega
                have hy0 : (0 : Int) ≤ (y1 : Int) := by omega
                have hy2 : (y1 : Int) < (s.size : Int) := by omega
                have x1 : IntKind.i64.wrap ((y1 : Int) + 1 - (X : Int)) = (y1 : Int) + 1 - (X : Int) := IntWalk.i64_in _ (by omega)
                have x4 : IntKind.i64.wrap ((y1 : Int) + 1 - 1) = (y1 : Int) := by rw [IntWalk.i64_in _ (by omega)]; omega
                have HX1 := Lib.hid (And.intro x1 x4)
                clear hsp hwid hb32 x1 x4
                go_wp2_with fail
                obtain ⟨x2, x3⟩ := HXX.out
                obtain ⟨x1, x4⟩ := HX1.out
                clear x3
                go_quiet (fail)
                clear x1 x2 x4
                go_wp2_with fail
                go_roundw
                case rel => exact ⟨k + 1, y1 + 1, by go_num, rfl, by omega, fun h => by rw [HNX.out h, HN.out]; rfl, by omega, _, rfl⟩
                case measure => (simp [intOf] <;> omega)
            · have t6 : decide ((k : Int) < (xs.length : Int) - 1) = false := by simp; omega
              go_wp2_with fail
              obtain ⟨x2, x3⟩ := HXX.out
              go_quiet (fail)
              clear x2 x3
              go_wp2_with fail
              go_roundw
              case rel => exact ⟨k + 1, Y, by go_num, rfl, by omega, fun h => by omega, by omega, _, rfl⟩
              case measure => (simp [intOf] <;> omega)
          · rw [h2] at hnl
            have e5 := hnl.symm
            have HN := Lib.hid h2
            clear hnl h2
            go_wp2_with fail
            go_roundw
            case rel => exact ⟨k + 1, Y + 1, by go_num, by go_num, by omega, fun h => by rw [HNX.out h, HN.out]; rfl, by omega, _, rfl⟩
            case measure => (simp [intOf] <;> omega)
        · have hlast : ¬ k + 1 < xs.length := fun h => hys (HLT.out h)
          have hys' : (s.size : Int) ≤ (Y : Int) := by omega
          have t8 : decide (Y < s.size) = false := by simp; omega
          have t6 : decide ((k : Int) < (xs.length : Int) - 1) = false := by simp; omega
          go_wp2_with fail
          obtain ⟨x2, x3⟩ := HXX.out
          go_quiet (fail)
          clear x2 x3
          go_wp2_with fail
          go_roundw
          case rel => exact ⟨k + 1, Y, by go_num, rfl, by omega, fun h => absurd h hlast, by omega, _, rfl⟩
          case measure => (simp [intOf] <;> omega)
      · obtain rfl : k = xs.length := by omega
        obtain ⟨L, hL⟩ : ∃ L, xs.length = L + 1 := ⟨xs.length - 1, by omega⟩
        have hLx : L < xs.length := by omega
        obtain ⟨a1, _, _, _, _, _, a7⟩ := HAT.out L hLx
        have hY := a7 hL.symm
        obtain ⟨b, o, rfl, hbb, p0, p1⟩ := hr23.pair hLx
        rw [a1, hY] at p1
        simp only at p1
        have e1 : ((s.size : Int) == (s.size : Int)) = true := by simp
        have hLe : L = xs.length - 1 := by omega
        rw [hLe] at p1
        have g1 : 1 + (cc : Int) ≤ (xs.length : Int) := by omega
        have g2 : (0 : Int) < (xs.length : Int) := by omega
        have g3 : (1 : Int) ≤ (xs.length : Int) := by omega
        have g4 : 1 ≤ xs.length := by omega
        clear a1 a7 hY hLe hL hka p0
        go_wp2_with fail
        refine (H3.out _).mono ?_
        rintro e w' ⟨rfl, rfl⟩
        go_wp2_with fail
        go_ret
        exact ⟨by first | rfl | simp, below_drewN hbw3 q⟩
  · have hr : rowsL s W = [] := by unfold rowsL; rw [if_neg hw]
    rw [hr] at hc1 hc2
    have H1 := Lib.hid hc1
    have H2 := Lib.hid hc2
    have hcs : valid s.data.toList = false ∨ (valid s.data.toList = true ∧ W < 4) ∨ (valid s.data.toList = true ∧ ¬ W < 4 ∧ 40 < W) := by
      rcases wOk_no hw with h | ⟨h1, h2⟩
      · exact .inl h
      · by_cases h4 : W < 4
        · exact .inr (.inl ⟨h1, h4⟩)
        · refine .inr (.inr ⟨h1, h4, ?_⟩)
          rcases Int.lt_or_le 40 W with h | h
          · exact h
          · exfalso
            have : inI W 4 40 = true := by unfold inI; simp; omega
            rw [h2] at this; cases this
    clear hc1 hc2 hr hw hlen
    go_wp2_with fail
    refine (H1.out _ (hM.below hb hML)).mono ?_
    rintro e W2 ⟨A2, c2, rfl, ho2, hb2⟩
    have hbw2 := hb.trans (hb2.mono hb.size)
    clear ho2 hb2
    go_wp2_with fail
    refine (H2.out _).mono ?_
    rintro e W3 ⟨A3, c3, rfl, ho3, hb3⟩
    have hbw3 := hbw2.trans (hb3.mono hbw2.size)
    clear ho3 hb3 hbw2
    go_wp2_with fail
    refine (sTV_any _ _ hs).mono ?_
    rintro e w' ⟨rfl, rfl⟩
    rcases hcs with h1 | ⟨h1, h2⟩ | ⟨h1, h2, h3⟩
    all_goals
      go_wp2_with (go_at_call 28; refine (alive_any _).mono ?_; rintro e w' ⟨rfl, rfl⟩)
      go_ret
      exact ⟨rfl, hbw3⟩
end Go.Proofs.YtglnkcggcgbaiaaDoor
