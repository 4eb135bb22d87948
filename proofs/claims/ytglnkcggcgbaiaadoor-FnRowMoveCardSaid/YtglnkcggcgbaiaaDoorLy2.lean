/- The law on RowMove over drawn inputs, walked. -/
import Derived.Test.YtglnkcggcgbaiaaDoorLx2
import Derived.Test.YtglnkcggcgbaiaaDoorRv
set_option linter.unusedVariables false
set_option linter.unusedSimpArgs false
namespace Go.Proofs.YtglnkcggcgbaiaaDoor
open Go.RowKit
set_option maxRecDepth 100000 in
theorem law_FnRowMove (A : Option Addr) (n c : Nat) (zs : List Int) (w : World) (h : IsBytes w A n c zs) (hM : ML w) :
    Calls Tryd.prog 11 #[.slice A n c] w fun e w' => e = .returned (.bool true) ∧ Below w.heap.size w w' := by
  by_cases hbig : 1048576 < n
  · go_enter Tryd.func11, Tryd.ntmps11
    go_wp2
    go_ret
    exact ⟨rfl, Below.refl _ _⟩
  have hML := hM.lt
  go_enter Tryd.func11, Tryd.ntmps11
  go_wp2_with fail
  refine (dDrawRowMove A n c zs _ h).mono ?_
  rintro e W1 ⟨s, W, p, by_, rfl, hs0, hv1, hv2, hu1, hu2, hy1, hy2, hb⟩
  have hs : s.size ≤ maxLen := by unfold maxLen; omega
  clear hbig
  have hlen := rows_small s W
  have hc1 := fun w hM => iRM_any s W p by_ w hs hM
  have hc2 := fun w => sRM_any s W p by_ w hs
  by_cases hok : (place s p = true ∧ wOk s W = true) ∧ inI by_ (-120) 120 = true
  · obtain ⟨⟨hp, hw⟩, hin⟩ := hok
    obtain ⟨hv, wn, rfl, hw4, hw40⟩ := wOk_s hw
    obtain ⟨m, rfl, hm⟩ := place_nat hp
    obtain ⟨q, k, K, h1, h2, h3, h4, h5, hkl⟩ := rm_ok hw hp hm hin
    have hc3 := fun w hM => iWR_any s wn w hs hM
    have hc4 := fun w hM => iRO_any s wn m w hs hM
    have hc5 := fun w hM => iRO_any s wn q w hs hM
    have hc6 := fun w hM => iRM_any s wn m 0 w hs hM
    rw [h1] at hc1 hc2
    rw [h2] at hc4
    rw [h3] at hc5
    rw [h5] at hc6
    generalize rowsL s wn = xs at *
    have H1 := Lib.hid hc1
    have H2 := Lib.hid hc2
    have H3 := Lib.hid hc3
    have H4 := Lib.hid hc4
    have H5 := Lib.hid hc5
    have H6 := Lib.hid hc6
    have e0 : ((q : Int) != (q : Int)) = false := by simp
    have e1 : ((K : Int) == max 0 (min ((xs.length : Int) - 1) ((k : Int) + by_))) = true := by rw [← h4]; simp
    have e2 : ((m : Int) == (m : Int)) = true := by simp
    clear hc1 hc2 hc3 hc4 hc5 hc6 h1 h2 h3 h4 h5
    go_wp2_with fail
    refine (H1.out _ (hM.below hb hML)).mono ?_
    rintro e W2 ⟨rfl, hb2⟩
    have hbw2 := hb.trans (hb2.mono hb.size)
    clear hb2
    go_wp2_with fail
    refine (H2.out _).mono ?_
    rintro e W3 ⟨rfl, hb3⟩
    have hbw3 := hbw2.trans (hb3.mono hbw2.size)
    clear hb3 hbw2
    go_wp2_with fail
    refine (H3.out _ (hM.below hbw3 hML)).mono ?_
    rintro e W4 ⟨A4, c4, rfl, ho4, hb4⟩
    have hbw4 := hbw3.trans (hb4.mono hbw3.size)
    clear hb4 hbw3 ho4
    go_wp2_with fail
    refine (H4.out _ (hM.below hbw4 hML)).mono ?_
    rintro e W5 ⟨rfl, hb5⟩
    have hbw5 := hbw4.trans (hb5.mono hbw4.size)
    clear hb5 hbw4
    go_wp2_with fail
    refine (H5.out _ (hM.below hbw5 hML)).mono ?_
    rintro e W6 ⟨rfl, hb6⟩
    have hbw6 := hbw5.trans (hb6.mono hbw5.size)
    clear hb6 hbw5
    go_wp2_with fail
    refine (H6.out _ (hM.below hbw6 hML)).mono ?_
    rintro e W7 ⟨rfl, hb7⟩
    have hbw7 := hbw6.trans (hb7.mono hbw6.size)
    clear hb7 hbw6
    go_wp2_with fail
    go_ret
    exact ⟨by first | rfl | simp, hbw7⟩
  · have hr : rmI s W p by_ = -1 := by
      unfold rmI
      rw [if_neg]
      rintro ⟨h1, h2⟩
      apply hok
      refine ⟨?_, h2⟩
      cases hp : place s p
      · rw [ro_no (.inl hp)] at h1; omega
      · cases hw : wOk s W
        · rw [ro_no (.inr hw)] at h1; omega
        · exact ⟨rfl, rfl⟩
    rw [hr] at hc1 hc2
    have H1 := Lib.hid hc1
    have H2 := Lib.hid hc2
    have e0 : ((-1 : Int) != (-1 : Int)) = false := by simp
    clear hc1 hc2 hr hok
    go_wp2_with fail
    refine (H1.out _ (hM.below hb hML)).mono ?_
    rintro e W2 ⟨rfl, hb2⟩
    have hbw2 := hb.trans (hb2.mono hb.size)
    clear hb2
    go_wp2_with fail
    refine (H2.out _).mono ?_
    rintro e W3 ⟨rfl, hb3⟩
    have hbw3 := hbw2.trans (hb3.mono hbw2.size)
    clear hb3 hbw2
    go_wp2_with (go_at_call 28; refine (alive_any _).mono ?_; rintro e w' ⟨rfl, rfl⟩)
    go_ret
    exact ⟨rfl, hbw3⟩
end Go.Proofs.YtglnkcggcgbaiaaDoor
