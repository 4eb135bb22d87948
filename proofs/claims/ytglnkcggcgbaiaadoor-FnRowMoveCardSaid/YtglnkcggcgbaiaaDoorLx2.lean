/- The laws on WrapRows, RowOf and RowMove over drawn inputs, walked. -/
import Derived.Test.YtglnkcggcgbaiaaDoorWn
import Derived.Test.YtglnkcggcgbaiaaDoorWp2
import Derived.Test.YtglnkcggcgbaiaaDoorRu
import Derived.Test.YtglnkcggcgbaiaaDoorAl
set_option linter.unusedVariables false
set_option linter.unusedSimpArgs false
namespace Go.Proofs.YtglnkcggcgbaiaaDoor
open Go.RowKit
theorem rowsF_one {s : ByteArray} {W : Nat} : ∀ k n, (rowsF s W k n).length = k → ∀ j (h : j < k), (rowsF s W k n).getD j (0, 0) = ((lsN s (n + j) : Int), (eolN s (lsN s (n + j)) : Int))
  | 0, n, _, j, h => by omega
  | k + 1, n, hl, j, h => by
    have h1 := rowsF_len s W k (n + 1)
    have h2 : 0 < (wrapLn s W n).length := by
      unfold wrapLn
      generalize eolN s (lsN s n) - lsN s n = f
      cases f
      · simp [wrapF]
      · simp only [wrapF]; split <;> simp
    simp only [rowsF, List.length_append] at hl
    have h3 : (wrapLn s W n).length = 1 := by omega
    have h4 : (rowsF s W k (n + 1)).length = k := by omega
    have h5 : wrapLn s W n = [((lsN s n : Int), (eolN s (lsN s n) : Int))] := by
      unfold wrapLn at h3 ⊢
      generalize eolN s (lsN s n) - lsN s n = f at h3 ⊢
      cases f with
      | zero => rfl
      | succ f =>
        simp only [wrapF] at h3 ⊢
        split
        · rename_i hc
          rw [if_pos hc] at h3
          simp only [List.length_cons] at h3
          cases f
          · simp [wrapF] at h3
          · simp only [wrapF] at h3; split at h3 <;> simp at h3
        · rfl
    simp only [rowsF]
    rw [h5]
    cases j with
    | zero => rfl
    | succ j =>
      have := rowsF_one k (n + 1) h4 j (by omega)
      rw [show n + 1 + j = n + (j + 1) by omega] at this
      simpa [List.getD] using this
/-- The row of a place: it begins at the place or before it, and shows it. -/
theorem ro_in {s : ByteArray} {wn m n : Nat} (hw : wOk s wn = true) (hm : m ≤ s.size) (hn : n < (rowsL s wn).length) (hg : rowG (rowsL s wn) m n = true) (hno : ∀ j, n < j → j < (rowsL s wn).length → rowG (rowsL s wn) m j = false) :
    rowX (rowsL s wn) n ≤ m ∧ m ≤ rowY (rowsL s wn) n ∧ m ≤ lastP s (rowY (rowsL s wn) n) := by
  obtain ⟨i1, i2, i3, i4, i5, i6, i7⟩ := rows_at hw hn
  rw [rowG_at hn, i1] at hg
  have hx : rowX (rowsL s wn) n ≤ m := by have := of_decide_eq_true hg; simp only at this; omega
  by_cases hl : n + 1 < (rowsL s wn).length
  · obtain ⟨j1, j2, _⟩ := i6 hl
    obtain ⟨k1, _⟩ := rows_at hw hl
    have h2 := hno (n + 1) (by omega) hl
    rw [rowG_at hl, k1] at h2
    have h3 := of_decide_eq_false h2
    simp only at h3
    rw [j2] at h3
    unfold lastP
    cases hnl : isNl s (rowY (rowsL s wn) n)
    · rw [hnl] at h3
      rw [if_pos ⟨j1, rfl⟩]
      simp at h3
      omega
    · rw [hnl] at h3
      rw [if_neg (by simp)]
      simp at h3
      omega
  · have := i7 (by omega)
    refine ⟨hx, by omega, ?_⟩
    unfold lastP
    rw [if_neg (by omega)]; omega
/-- A place that a row shows is in that row. -/
theorem ro_of {s : ByteArray} {wn m n : Nat} (hw : wOk s wn = true) (hm : m ≤ s.size) (hp : place s m = true) (hn : n < (rowsL s wn).length) (h1 : rowX (rowsL s wn) n ≤ m) (h2 : m ≤ lastP s (rowY (rowsL s wn) n)) : roI s wn m = n := by
  obtain ⟨k, e, hk, hg, hno⟩ := ro_ok hp hw
  have mono : ∀ d j, j + d < (rowsL s wn).length → rowX (rowsL s wn) j ≤ rowX (rowsL s wn) (j + d) := by
    intro d
    induction d with
    | zero => intro j _; exact Nat.le_refl _
    | succ d ih =>
      intro j hj
      have h3 := ih j (by omega)
      obtain ⟨_, i2, _, _, _, i6, _⟩ := rows_at hw (show j + d < (rowsL s wn).length by omega)
      obtain ⟨_, j2, _⟩ := i6 (by omega)
      rw [show j + (d + 1) = j + d + 1 by omega, j2]
      split <;> omega
  have hgn : rowG (rowsL s wn) m n = true := by
    obtain ⟨i1, _⟩ := rows_at hw hn
    rw [rowG_at hn, i1]
    apply decide_eq_true
    simp only; omega
  rcases Nat.lt_trichotomy k n with h | h | h
  · rw [hno n h hn] at hgn; cases hgn
  · rw [e, h]
  · exfalso
    obtain ⟨i1, i2, i3, i4, i5, i6, i7⟩ := rows_at hw hn
    obtain ⟨j1, j2, _⟩ := i6 (by omega)
    have h3 := mono (k - (n + 1)) (n + 1) (by omega)
    rw [show n + 1 + (k - (n + 1)) = k by omega, j2] at h3
    obtain ⟨l1, _⟩ := rows_at hw hk
    rw [rowG_at hk, l1] at hg
    have h4 := of_decide_eq_true hg
    simp only at h4
    unfold lastP at h2
    cases hnl : isNl s (rowY (rowsL s wn) n)
    · rw [hnl] at h2 h3
      rw [if_pos ⟨j1, rfl⟩] at h2
      simp at h3
      have := i5 j1 hnl
      omega
    · rw [hnl] at h2 h3
      rw [if_neg (by simp)] at h2
      simp at h3
      omega
/-- If there are as many rows as lines, a place is in the row of its line. -/
theorem ro_line {s : ByteArray} {wn m : Nat} (hw : wOk s wn = true) (hp : place s m = true) (hm : m ≤ s.size) (hl : (rowsL s wn).length ≤ cntN s s.size + 1) : roI s wn m = cntN s m := by
  have e := rowsL_ok hw
  have h1 := rowsF_len s wn (cntN s s.size + 1) 0
  rw [← e] at h1
  have hlen : (rowsF s wn (cntN s s.size + 1) 0).length = cntN s s.size + 1 := by rw [← e]; omega
  have hc := cnt_mono s hm
  have hk : cntN s m < (rowsL s wn).length := by omega
  have hat := rowsF_one _ _ hlen (cntN s m) (by omega)
  rw [← e, Nat.zero_add] at hat
  have hx : rowX (rowsL s wn) (cntN s m) = bolN s m := by unfold rowX; rw [hat, ls_of s hm]; rfl
  have hy : rowY (rowsL s wn) (cntN s m) = eolN s m := by unfold rowY; rw [hat, ls_of s hm, (bol_eol hm).1]; rfl
  refine ro_of hw hm hp hk (by rw [hx]; exact (bol_spec s m).1) ?_
  rw [hy]
  obtain ⟨e1, e2, e3, e4⟩ := eol_spec s hm
  unfold lastP
  rw [if_neg]
  · exact e1
  · rintro ⟨g1, g2⟩
    rcases e4 with g | g
    · omega
    · rw [g2] at g; cases g
/-- Where RowMove leads, and back. -/
theorem rm_ok {s : ByteArray} {wn m : Nat} {b : Int} (hw : wOk s wn = true) (hp : place s m = true) (hm : m ≤ s.size) (hb : inI b (-120) 120 = true) :
    ∃ q n K : Nat, rmI s wn m b = q ∧ roI s wn m = n ∧ roI s wn q = K ∧ (K : Int) = max 0 (min (((rowsL s wn).length : Int) - 1) ((n : Int) + b)) ∧ rmI s wn m 0 = m ∧ n < (rowsL s wn).length := by
  obtain ⟨n, hn, hnl, hgn, hno⟩ := ro_ok hp hw
  obtain ⟨x1, x2, x3⟩ := ro_in hw hm hnl hgn hno
  have hK : ((rmK s wn m b : Nat) : Int) = max 0 (min (((rowsL s wn).length : Int) - 1) ((n : Int) + b)) := by unfold rmK; rw [hn]; omega
  have hKl : rmK s wn m b < (rowsL s wn).length := by omega
  have hRM : rmI s wn m b = min (lastP s (rowY (rowsL s wn) (rmK s wn m b)) : Int) ((rowX (rowsL s wn) (rmK s wn m b) : Int) + m - rowX (rowsL s wn) n) := by
    unfold rmI; rw [if_pos ⟨by rw [hn]; omega, hb⟩, hn]; rfl
  have hK0 : rmK s wn m 0 = n := by unfold rmK; rw [hn]; omega
  have hR0 : rmI s wn m 0 = m := by
    unfold rmI; rw [if_pos ⟨by rw [hn]; omega, by decide⟩, hK0, hn, Int.toNat_natCast]
    omega
  obtain ⟨_, i2, i3, _, i5, _⟩ := rows_at hw hKl
  have hlp : rowX (rowsL s wn) (rmK s wn m b) ≤ lastP s (rowY (rowsL s wn) (rmK s wn m b)) ∧ lastP s (rowY (rowsL s wn) (rmK s wn m b)) ≤ s.size := by
    unfold lastP
    split
    · rename_i h
      have := i5 h.1 h.2
      omega
    · omega
  obtain ⟨q, hq⟩ : ∃ q : Nat, rmI s wn m b = q := ⟨(rmI s wn m b).toNat, by omega⟩
  have hv := (placeS hp).1
  have hpq : place s q = true := by unfold place inI; rw [hv]; simp; omega
  exact ⟨q, n, rmK s wn m b, hq, hn, ro_of hw (by omega) hpq hKl (by omega) (by omega), hK, hR0, hnl⟩
set_option maxRecDepth 100000 in
theorem law_FnRowOf (A : Option Addr) (n c : Nat) (zs : List Int) (w : World) (h : IsBytes w A n c zs) (hM : ML w) :
    Calls Tryd.prog 10 #[.slice A n c] w fun e w' => e = .returned (.bool true) ∧ Below w.heap.size w w' := by
  by_cases hbig : 1048576 < n
  · go_enter Tryd.func10, Tryd.ntmps10
    go_wp2
    go_ret
    exact ⟨rfl, Below.refl _ _⟩
  have hML := hM.lt
  go_enter Tryd.func10, Tryd.ntmps10
  go_wp2_with fail
  refine (dDrawRowOf A n c zs _ h).mono ?_
  rintro e W1 ⟨s, W, p, rfl, hs0, hv1, hv2, hu1, hu2, hb⟩
  have hs : s.size ≤ maxLen := by unfold maxLen; omega
  clear hbig
  have hlen := rows_small s W
  have hc1 := fun w hM => iRO_any s W p w hs hM
  have hc2 := fun w => sRO_any s W p w hs
  have hc3 := fun w hM => iWR_any s W w hs hM
  by_cases hok : place s p = true ∧ wOk s W = true
  · obtain ⟨hp, hw⟩ := hok
    obtain ⟨hv, wn, rfl, hw4, hw40⟩ := wOk_s hw
    obtain ⟨k, hk, hkl, hgk, hno⟩ := ro_ok hp hw
    obtain ⟨m, rfl, hm⟩ := place_nat hp
    obtain ⟨x1, x2, x3⟩ := ro_in hw hm hkl hgk hno
    obtain ⟨a1, _⟩ := rows_at hw hkl
    have h120 := valid_size hv
    have hcl := cnt_le s s.size
    have hc4 := fun w => iLM_any s w hs
    rw [lm_cnt hv] at hc4
    have hline := ro_line hw hp hm
    have hc5 := fun w => iLO_any s m w hs
    rw [show loI s m = cntN s m by unfold loI; rw [if_pos hp]; rfl] at hc5
    rw [hk] at hc1 hc2 hline
    generalize rowsL s wn = xs at *
    generalize rowX xs k = X at *
    generalize rowY xs k = Y at *
    generalize cntN s s.size = cc at *
    generalize cntN s m = cm at *
    have H1 := Lib.hid hc1
    have H2 := Lib.hid hc2
    have H3 := Lib.hid hc3
    have H4 := Lib.hid hc4
    have H5 := Lib.hid hc5
    have HL := Lib.hid hline
    have HA := Lib.hid a1
    have e0 : ((k : Int) != (k : Int)) = false := by simp
    have hk0 : (0 : Int) ≤ (k : Int) := by omega
    have hk1 : (k : Int) < (xs.length : Int) := by omega
    have hx1 : (X : Int) ≤ (m : Int) := by omega
    have hx2 : (m : Int) ≤ (Y : Int) := by omega
    clear hc1 hc2 hc3 hc4 hc5 hline a1 hk hgk hno
    go_wp2_with fail
    refine (H1.out _ (hM.below hb hML)).mono ?_
    rintro e W2 ⟨rfl, hb2⟩
    have hbw2 := hb.trans (hb2.mono hb.size)
    clear hb2
    go_wp2_with fail
    refine (H2.out _).mono ?_
    rintro e W3 ⟨rfl, hb3⟩
    have hbw3 := hbw2.trans (hb3.mono hbw2.size)
    clear hb3 hbw2
    go_wp2_with fail
    refine (H3.out _ (hM.below hbw3 hML)).mono ?_
    rintro e W4 ⟨A4, c4, rfl, ho4, hb4⟩
    have hr4 := Row.of_own2 ho4
    have hbw4 := hbw3.trans (hb4.mono hbw3.size)
    obtain ⟨b, o, rfl, hbb, d0, d1⟩ := hr4.pair hkl
    rw [HA.out] at d0 d1
    simp only at d0 d1
    clear hb4 hbw3 ho4 hr4
    by_cases hmore : cc + 1 < xs.length
    · have hmore' : 1 + (cc : Int) < (xs.length : Int) := by omega
      go_wp2_with fail
      refine (H4.out _).mono ?_
      rintro e w' ⟨rfl, rfl⟩
      go_wp2_with fail
      go_ret
      exact ⟨by first | rfl | simp, hbw4⟩
    · have hmore' : (xs.length : Int) ≤ 1 + (cc : Int) := by omega
      have hkc := HL.out (by omega)
      have hkc2 : k = cm := by omega
      have e1 : ((k : Int) == (cm : Int)) = true := by simp [hkc2]
      clear hkc hkc2
      go_wp2_with fail
      refine (H4.out _).mono ?_
      rintro e w' ⟨rfl, rfl⟩
      go_wp2_with fail
      refine (H5.out _).mono ?_
      rintro e w' ⟨rfl, rfl⟩
      go_wp2_with fail
      go_ret
      exact ⟨by first | rfl | simp, hbw4⟩
  · have hr : roI s W p = -1 := by
      cases hp : place s p
      · exact ro_no (.inl hp)
      · cases hw : wOk s W
        · exact ro_no (.inr hw)
        · exact absurd ⟨hp, hw⟩ hok
    have hcs : (rowsL s W).length = 0 ∨ (¬ (rowsL s W).length = 0 ∧ place s p = false) := by
      by_cases h0 : (rowsL s W).length = 0
      · exact .inl h0
      · refine .inr ⟨h0, ?_⟩
        cases hp : place s p
        · rfl
        · exfalso
          apply h0
          have hw : wOk s W = false := by
            cases hw : wOk s W
            · rfl
            · exact absurd ⟨hp, hw⟩ hok
          unfold rowsL; rw [if_neg (by simp [hw])]; rfl
    rw [hr] at hc1 hc2
    generalize rowsL s W = xs at *
    have H1 := Lib.hid hc1
    have H2 := Lib.hid hc2
    have H3 := Lib.hid hc3
    have e0 : ((-1 : Int) != (-1 : Int)) = false := by simp
    clear hc1 hc2 hc3 hr hok
    go_wp2_with fail
    refine (H1.out _ (hM.below hb hML)).mono ?_
    rintro e W2 ⟨rfl, hb2⟩
    have hbw2 := hb.trans (hb2.mono hb.size)
    clear hb2
    go_wp2_with fail
    refine (H2.out _).mono ?_
    rintro e W3 ⟨rfl, hb3⟩
    have hbw3 := hbw2.trans (hb3.mono hbw2.size)
    clear hb3 hbw2
    go_wp2_with fail
    refine (H3.out _ (hM.below hbw3 hML)).mono ?_
    rintro e W4 ⟨A4, c4, rfl, ho4, hb4⟩
    have hbw4 := hbw3.trans (hb4.mono hbw3.size)
    clear hb4 hbw3 ho4
    rcases hcs with h0 | ⟨h0, hp⟩
    · have e1 : ((xs.length : Int) == 0) = true := by simp [h0]
      clear h0
      go_wp2_with (go_at_call 28; refine (alive_any _).mono ?_; rintro e w' ⟨rfl, rfl⟩)
      go_ret
      exact ⟨rfl, hbw4⟩
    · have e1 : ((xs.length : Int) == 0) = false := beq_eq_false_iff_ne.2 (by omega)
      clear h0
      go_wp2_with fail
      refine (placeOk_any s p _ hs).mono ?_
      rintro e w' ⟨rfl, rfl⟩
      go_wp2_with (go_at_call 28; refine (alive_any _).mono ?_; rintro e w' ⟨rfl, rfl⟩)
      go_ret
      exact ⟨rfl, hbw4⟩

end Go.Proofs.YtglnkcggcgbaiaaDoor
