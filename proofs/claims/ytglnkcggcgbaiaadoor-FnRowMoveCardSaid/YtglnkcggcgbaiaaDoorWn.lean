/- The contract of the program's RowMove. -/
import Derived.Test.YtglnkcggcgbaiaaDoorWm
set_option linter.unusedVariables false
set_option linter.unusedSimpArgs false
namespace Go.Proofs.YtglnkcggcgbaiaaDoor
open Go.RowKit
set_option maxRecDepth 100000 in
set_option maxHeartbeats 1000000 in
theorem iRM_any (s : ByteArray) (W p by_ : Int) (w : World) (hs : s.size ≤ maxLen) (hM : ML w) :
    Calls Tryd.prog 20 #[.string s, .int .i64 W, .int .i64 p, .int .i64 by_] w fun e w' => e = .returned (.int .i64 (rmI s W p by_)) ∧ Below w.heap.size w w' := by
  have hs' := hs
  unfold maxLen at hs'
  by_cases hall : (place s p = true ∧ wOk s W = true) ∧ inI by_ (-120) 120 = true
  · obtain ⟨⟨hp, hw⟩, hin⟩ := hall
    obtain ⟨hv, wn, rfl, hw4, hw40⟩ := wOk_s hw
    have hiw : inI wn 4 40 = true := by unfold inI; simp; omega
    obtain ⟨n, hn, hnl, hgn, _⟩ := ro_ok hp hw
    have h120 := valid_size hv
    have hby : -120 ≤ by_ ∧ by_ ≤ 120 := by simpa [inI] using hin
    obtain ⟨m, rfl, hm⟩ := place_nat hp
    have hlen := rows_small s wn
    have hK : ((rmK s wn m by_ : Nat) : Int) = max 0 (min (((rowsL s wn).length : Int) - 1) ((n : Int) + by_)) := by unfold rmK; rw [hn]; omega
    have hRM : rmI s wn m by_ = min (lastP s (rowY (rowsL s wn) (rmK s wn m by_)) : Int) ((rowX (rowsL s wn) (rmK s wn m by_) : Int) + m - rowX (rowsL s wn) n) := by
      unfold rmI; rw [if_pos ⟨by rw [hn]; omega, hin⟩, hn]; rfl
    generalize rmK s wn m by_ = K at *
    have hKl : K < (rowsL s wn).length := by omega
    obtain ⟨a1, a2, a3, _, a5, _⟩ := rows_at hw hKl
    obtain ⟨b1, b2, b3, _⟩ := rows_at hw hnl
    have hc := fun w hM => iWR_any s wn w hs hM
    have hcr := fun w hM => iRO_any s wn m w hs hM
    rw [hn] at hcr
    generalize rowsL s wn = xs at *
    generalize rowX xs K = X at *
    generalize rowY xs K = Y at *
    generalize rowX xs n = X0 at *
    have HRM := Lib.hid hRM
    have HC := Lib.hid hc
    have HCR := Lib.hid hcr
    have hcase : ((n : Int) + by_ < 0 ∧ K = 0) ∨ (0 ≤ (n : Int) + by_ ∧ (n : Int) + by_ ≤ (xs.length : Int) - 1 ∧ K = ((n : Int) + by_).toNat) ∨ ((xs.length : Int) - 1 < (n : Int) + by_ ∧ K = xs.length - 1) := by omega
    have HA1 := Lib.hid a1
    have HA5 := Lib.hid a5
    have HB1 := Lib.hid b1
    have hL1 : 1 ≤ xs.length := by omega
    have hL1' : (1 : Int) ≤ (xs.length : Int) := by omega
    have hn0 : (0 : Int) ≤ (n : Int) := by omega
    have hn1 : (n : Int) < (xs.length : Int) := by omega
    have hY : (Y : Int) ≤ (s.size : Int) := by omega
    have hX : (X : Int) ≤ (s.size : Int) := by omega
    have hX0 : (X0 : Int) ≤ (s.size : Int) := by omega
    have hm' : (m : Int) ≤ (s.size : Int) := by omega
    clear hn hc hcr hRM hK a1 a5 b1 hgn hw
    have hML := hM.lt
    go_enter Tryd.func20, Tryd.ntmps20
    go_wp2_with fail
    refine (iPl_any _ _ _ hs).mono ?_
    rintro e w' ⟨rfl, rfl⟩
    go_wp2_with fail
    refine (iW_any _ _).mono ?_
    rintro e w' ⟨rfl, rfl⟩
    go_wp2_with fail
    refine (in_any _ _ _ _).mono ?_
    rintro e w' ⟨rfl, rfl⟩
    go_wp2_with fail
    refine (HC.out _ hM).mono ?_
    rintro e W1 ⟨A, c, rfl, ho, hb⟩
    have hr := Row.of_own2 ho
    clear ho
    go_wp2_with fail
    refine (HCR.out _ (hM.below hb hML)).mono ?_
    rintro e W2 ⟨rfl, hb2⟩
    have hr2 := (hr.below hb2).more hb2.size
    have hbw := hb.trans (hb2.mono hb.size)
    clear hr hb hb2
    obtain ⟨b, o, rfl, hbb, c0, c1⟩ := hr2.pair hnl
    obtain ⟨b', o', hA, hbb', d0, d1⟩ := hr2.pair hKl
    injection hA with hA
    injection hA with hA1 hA2
    subst hA1 hA2
    rw [HB1.out] at c0 c1
    rw [HA1.out] at d0 d1
    simp only at c0 c1 d0 d1
    have hbw2 := hbw.alloc hbw.size (.cells #[.int .i64 X, .int .i64 Y] 41)
    have HB := Lib.hid hbw2
    have x1 : IntKind.i64.wrap ((X : Int) + (m : Int)) = (X : Int) + (m : Int) := IntWalk.i64_in _ (by omega)
    have x2 : IntKind.i64.wrap ((X : Int) + (m : Int) - (X0 : Int)) = (X : Int) + (m : Int) - (X0 : Int) := IntWalk.i64_in _ (by omega)
    have HX := Lib.hid (And.intro x1 x2)
    clear hbw hbw2 hr2 x1 x2 hbb'
    have hlast : (1 ≤ Y ∧ ∃ h : Y < s.size, ((s[Y].toNat : Int) != 10) = true ∧ lastP s Y = Y - 1) ∨ (Y < s.size ∧ (∃ h : Y < s.size, ((s[Y].toNat : Int) != 10) = false) ∧ lastP s Y = Y) ∨ (s.size ≤ Y ∧ lastP s Y = Y) := by
      by_cases h1 : Y < s.size
      · have hnl := nl_at h1
        cases h2 : isNl s Y
        · rw [h2] at hnl
          refine .inl ⟨by have := HA5.out h1 h2; omega, h1, ?_, by unfold lastP; rw [if_pos ⟨h1, h2⟩]⟩
          have := hnl.symm
          simp at this ⊢; omega
        · rw [h2] at hnl
          refine .inr (.inl ⟨h1, ⟨h1, ?_⟩, by unfold lastP; rw [if_neg (by simp [h2])]⟩)
          have := hnl.symm
          simp at this ⊢; omega
      · exact .inr (.inr ⟨by omega, by unfold lastP; rw [if_neg (by omega)]⟩)
    generalize lastP s Y = P at *
    have hY1 : 1 ≤ Y ∨ Y = 0 := by omega
    have hE : (max 0 (min ((n : Int) + by_) ((xs.length : Int) - 1))).toNat = K := by omega
    rw [← hE] at d0 d1
    clear hE
    rcases hlast with ⟨y1, y2, y3, y4⟩ | ⟨y1, ⟨y2, y3⟩, y4⟩ | ⟨y1, y4⟩
    all_goals
      have HP := Lib.hid y4
      clear y4
      go_wp2_with fail
      obtain ⟨x1, x2⟩ := HX.out
      go_quiet (fail)
      clear x1 x2
      go_wp2_with fail
      all_goals
        go_ret
        exact ⟨ret_int (by rw [HRM.out, HP.out] <;> omega), below_drewN HB.out _⟩
  · have hno : rmI s W p by_ = -1 := by
      unfold rmI
      rw [if_neg]
      rintro ⟨h1, h2⟩
      apply hall
      refine ⟨?_, h2⟩
      cases hp : place s p
      · rw [ro_no (.inl hp)] at h1; omega
      · cases hw : wOk s W
        · rw [ro_no (.inr hw)] at h1; omega
        · exact ⟨rfl, rfl⟩
    have HN := Lib.hid hno
    have hcs : place s p = false ∨ (place s p = true ∧ inI W 4 40 = false) ∨ (place s p = true ∧ inI W 4 40 = true ∧ inI by_ (-120) 120 = false) := by
      cases hp : place s p
      · exact .inl rfl
      · cases hw : inI W 4 40
        · exact .inr (.inl ⟨rfl, rfl⟩)
        · refine .inr (.inr ⟨rfl, rfl, ?_⟩)
          cases hi : inI by_ (-120) 120
          · rfl
          · exact absurd ⟨⟨hp, by unfold wOk; rw [hw, (placeS hp).1]; rfl⟩, hi⟩ hall
    clear hno hall
    rcases hcs with h1 | ⟨h1, h2⟩ | ⟨h1, h2, h3⟩
    · go_enter Tryd.func20, Tryd.ntmps20
      go_wp2_with fail
      refine (iPl_any _ _ _ hs).mono ?_
      rintro e w' ⟨rfl, rfl⟩
      go_wp2_with fail
      go_ret
      exact ⟨ret_int HN.out.symm, Below.refl _ _⟩
    · go_enter Tryd.func20, Tryd.ntmps20
      go_wp2_with fail
      refine (iPl_any _ _ _ hs).mono ?_
      rintro e w' ⟨rfl, rfl⟩
      go_wp2_with fail
      refine (iW_any _ _).mono ?_
      rintro e w' ⟨rfl, rfl⟩
      go_wp2_with fail
      go_ret
      exact ⟨ret_int HN.out.symm, Below.refl _ _⟩
    · go_enter Tryd.func20, Tryd.ntmps20
      go_wp2_with fail
      refine (iPl_any _ _ _ hs).mono ?_
      rintro e w' ⟨rfl, rfl⟩
      go_wp2_with fail
      refine (iW_any _ _).mono ?_
      rintro e w' ⟨rfl, rfl⟩
      go_wp2_with fail
      refine (in_any _ _ _ _).mono ?_
      rintro e w' ⟨rfl, rfl⟩
      go_wp2_with fail
      go_ret
      exact ⟨ret_int HN.out.symm, Below.refl _ _⟩
end Go.Proofs.YtglnkcggcgbaiaaDoor
