/- The law on moves by lines over drawn inputs, walked. -/
import Derived.Test.YtpnbfhnljjcciaaLb
import Derived.Test.YtpnbfhnljjcciaaRq
set_option linter.unusedVariables false
set_option linter.unusedSimpArgs false
namespace Go.Proofs.Ytpnbfhnljjcciaa
open Go.RowKit
set_option maxRecDepth 100000 in
theorem law_FnLineMove (A : Option Addr) (n c : Nat) (zs : List Int) (w : World) (h : IsBytes w A n c zs) :
    Calls Try.prog 9 #[.slice A n c] w fun e w' => e = .returned (.bool true) ∧ Below w.heap.size w w' := by
  by_cases hbig : 1048576 < n
  · go_enter Try.func9, Try.ntmps9
    go_wp2
    go_ret
    exact ⟨rfl, Below.refl _ _⟩
  go_enter Try.func9, Try.ntmps9
  go_wp2_with fail
  refine (dDrawLineMove A n c zs _ h).mono ?_
  rintro e W1 ⟨s, p, b, q, rfl, hs0, hu1, hu2, hb1, hb2, hq1, hq2, hb⟩
  have hs : s.size ≤ maxLen := by unfold maxLen; omega
  clear hbig
  have h1 := fun w => iLV_any s p b q w hs
  have h2 := fun w => sLV_any s p b q w hs
  by_cases hall : place s p = true ∧ inI b (-120) 120 = true ∧ 0 ≤ q
  · obtain ⟨hp, hib, hq⟩ := hall
    obtain ⟨K, k1, k2, k3, k4, k5, k6, k7⟩ := lv_ok hp hib hq
    have hbk := lv_back hp
    have hlo : loI s p ≤ 120 ∧ 0 ≤ loI s p ∧ 1 ≤ lmI s ∧ lmI s ≤ 121 := by
      obtain ⟨m, rfl, hm⟩ := place_nat hp
      have hv := (placeS hp).1
      have := valid_size hv
      have := cnt_le s s.size
      have := cnt_le s m
      have : loI s m = cntN s m := by unfold loI; rw [if_pos hp]; rfl
      have := lm_cnt hv
      omega
    have h3 := fun w => iLO_any s p w hs
    have h4 := fun w => iLO_any s (lmvI s p b q) w hs
    have h5 := fun w => iLM_any s w hs
    have h6 := fun w => iCO_any s (lmvI s p b q) w hs
    have h7 := fun w => iCO_any s p w hs
    have h8 := fun w => iLV_any s p 0 (coI s p) w hs
    rw [k5] at h4
    rw [hbk] at h8
    unfold lvK at k1
    generalize coI s (lmvI s p b q) = cn at *
    generalize lmvI s p b q = x at *
    generalize loI s p = lo at *
    generalize lmI s = lm at *
    generalize coI s p = cp at *
    have H1 := Lib.hid h1
    have H2 := Lib.hid h2
    have H3 := Lib.hid h3
    have H4 := Lib.hid h4
    have H5 := Lib.hid h5
    have H6 := Lib.hid h6
    have H7 := Lib.hid h7
    have H8 := Lib.hid h8
    have e0 : (x != x) = false := by simp
    have e1 : ((K : Int) == max 0 (min (lm - 1) (lo + b))) = true := by simp; omega
    have e2 : decide (cn ≤ q) = true := by simp; omega
    have e3 : (p == p) = true := by simp
    have e4 : decide (x < 0) = false := by simp; omega
    clear h1 h2 h3 h4 h5 h6 h7 h8 k1 k2 k3 k4 k5 k6 hbk
    go_wp2_with fail
    refine (H1.out _).mono ?_
    rintro e W2 ⟨rfl, hb3⟩
    have hbw2 := hb.trans (hb3.mono hb.size)
    clear hb3
    go_wp2_with fail
    refine (H2.out _).mono ?_
    rintro e W3 ⟨rfl, hb4⟩
    have hbw3 := hbw2.trans (hb4.mono hbw2.size)
    clear hb4 hbw2
    go_wp2_with fail
    refine (H3.out _).mono ?_
    rintro e w' ⟨rfl, rfl⟩
    go_wp2_with fail
    refine (H4.out _).mono ?_
    rintro e w' ⟨rfl, rfl⟩
    go_wp2_with fail
    refine (H5.out _).mono ?_
    rintro e w' ⟨rfl, rfl⟩
    go_wp2_with fail
    refine (H6.out _).mono ?_
    rintro e w' ⟨rfl, rfl⟩
    go_wp2_with fail
    refine (H7.out _).mono ?_
    rintro e w' ⟨rfl, rfl⟩
    go_wp2_with fail
    refine (H8.out _).mono ?_
    rintro e W4 ⟨rfl, hb5⟩
    have hbw4 := hbw3.trans (hb5.mono hbw3.size)
    go_wp2_with fail
    go_ret
    exact ⟨by first | rfl | simp, hbw4⟩
  · have hx : lmvI s p b q = -1 := lv_no hall
    rw [hx] at h1 h2
    have H1 := Lib.hid h1
    have H2 := Lib.hid h2
    clear h1 h2 hx hall
    go_wp2_with fail
    refine (H1.out _).mono ?_
    rintro e W2 ⟨rfl, hb3⟩
    have hbw2 := hb.trans (hb3.mono hb.size)
    clear hb3
    go_wp2_with fail
    refine (H2.out _).mono ?_
    rintro e W3 ⟨rfl, hb4⟩
    have hbw3 := hbw2.trans (hb4.mono hbw2.size)
    clear hb4 hbw2
    go_wp2_with (go_at_call 17; refine (alive_any _).mono ?_; rintro e w' ⟨rfl, rfl⟩)
    go_ret
    exact ⟨rfl, hbw3⟩
end Go.Proofs.Ytpnbfhnljjcciaa
