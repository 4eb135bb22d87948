/- The laws on FindNext, FindLast and FindPlaces over drawn inputs, walked. -/
import Derived.Test.YtpnbfhnljjcciaaRw
import Derived.Test.YtpnbfhnljjcciaaAl
import Derived.Test.YtpnbfhnljjcciaaFl
import Derived.Test.YtpnbfhnljjcciaaIs
namespace Go.Proofs.Ytpnbfhnljjcciaa
open Go.RowKit
set_option linter.unusedVariables false

section
variable {s what : ByteArray} {w : World}
theorem iFN_no {p : Int} (hs : s.size ≤ maxLen) (hw : what.size ≤ 200) (hM : ML w) (hp : fnOk s what p = false) : Calls Try.prog 14 #[.string s, .string what, .int .i64 p] w fun e w' => e = .returned (.int .i64 (-1)) ∧ w = w' :=
  (iFN_any s what p w hs (by unfold maxLen; omega) hM).mono fun _ _ h => ⟨by rw [h.1]; unfold fnI; rw [if_neg (by simp [hp])], h.2⟩
theorem sFN_no {p : Int} (hs : s.size ≤ maxLen) (hw : what.size ≤ 200) (hp : fnOk s what p = false) : Calls Try.prog 15 #[.string s, .string what, .int .i64 p] w fun e w' => e = .returned (.int .i64 (-1)) ∧ w = w' :=
  (sFN_any s what p w hs (by omega)).mono fun _ _ h => ⟨by rw [h.1]; unfold fnI; rw [if_neg (by simp [hp])], h.2⟩
theorem fnI_at {n : Nat} (hp : fnOk s what n = true) : fnI s what n = fnN s what n := by unfold fnI; rw [if_pos hp]; rfl
theorem fnOk_cases (p : Int) : (fnOk s what p = true ∧ place s p = true ∧ what.toList.isEmpty = false) ∨ (fnOk s what p = false ∧ place s p = false) ∨ (fnOk s what p = false ∧ place s p = true ∧ what.toList.isEmpty = true ∧ what.toList = []) := by
  by_cases h : fnOk s what p = true
  · exact .inl ⟨h, fnOkS h⟩
  · rcases fnOkF h with h1 | ⟨h1, h2⟩
    · exact .inr (.inl ⟨by simpa using h, h1⟩)
    · exact .inr (.inr ⟨by simpa using h, h1, h2, what_eq h2⟩)
end

theorem law_FnFindNext (A : Option Addr) (n c : Nat) (zs : List Int) (w : World) (h : IsBytes w A n c zs) (hM : ML w) :
    Calls Try.prog 3 #[.slice A n c] w fun e w' => e = .returned (.bool true) ∧ Below w.heap.size w w' := by
  by_cases hbig : 1048576 < n
  · go_enter Try.func3, Try.ntmps3
    go_wp2
    go_ret
    exact ⟨rfl, Below.refl _ _⟩
  have hbg : decide ((1048576 : Int) < (n : Int)) = false := by simp; omega
  have hML := hM.lt
  go_enter Try.func3, Try.ntmps3
  go_wp2_with fail
  refine (dDrawFindNext A n c zs _ h).mono ?_
  rintro e W1 ⟨s, what, v, rfl, hs0, hw0, hv1, hv2, hb⟩
  have hM1 := hM.below hb hML
  have hs : s.size ≤ maxLen := by unfold maxLen; omega
  clear hbig
  rcases fnOk_cases (s := s) (what := what) v with ⟨hok, hp, hne⟩ | ⟨hok, hp⟩ | ⟨hok, hp, hne, hnl⟩
  · obtain ⟨m, rfl, hm⟩ := place_nat hp
    obtain ⟨hne1, hne2, hne3⟩ := what_ne hne
    have HN := Lib.hid hne1
    have hc1 := iFN_any s what m W1 hs (by unfold maxLen; omega) hM1
    have hc2 := sFN_any s what m W1 hs (by omega)
    rw [fnI_at hok] at hc1 hc2
    generalize hx : fnN s what m = x at hc1 hc2
    have HX := Lib.hid hx
    have H1 := Lib.hid hc1
    have H2 := Lib.hid hc2
    clear hc1 hc2 hx hne1
    go_wp2_with fail
    refine (H1.out).mono ?_
    rintro e w' ⟨rfl, rfl⟩
    go_wp2_with fail
    refine (H2.out).mono ?_
    rintro e w' ⟨rfl, rfl⟩
    go_wp2_with fail
    refine (placeOk_any s m _ hs).mono ?_
    rintro e w' ⟨rfl, rfl⟩
    go_wp2_with fail
    go_loop [7] (fun i => ∃ k : Nat, m ≤ k ∧ k ≤ s.size + 1 ∧ i = .int .i64 k ∧ ∀ j, m ≤ j → j < k → occ s what j = false) (fun i => s.size + 1 - (intOf i).toNat)
    case atStart => exact ⟨m, Nat.le_refl _, by omega, rfl, fun j h1 h2 => by omega⟩
    case round =>
      obtain ⟨k, hk1, hk2, rfl, hno⟩ := hrel
      have HO := Lib.hid hno
      clear hno
      by_cases hkm : k + what.size ≤ s.size
      · have hxe := extract_eq s what k hkm
        have hkm' : (k : Int) + (what.size : Int) ≤ (s.size : Int) := by omega
        cases ho : occ s what k
        · rw [ho] at hxe
          go_wp2_with fail
          go_round
          case rel => exact ⟨k + 1, by omega, by omega, by go_num, fun j h1 h2 => by
            rcases Nat.lt_or_ge j k with h3 | h3
            · exact HO.out j h1 h3
            · obtain rfl : j = k := by omega
              exact ho⟩
          case measure => (simp [intOf] <;> omega)
        · rw [ho] at hxe
          have hxk : (x == (k : Int)) = true := by
            have := HX.out
            rw [fnN_hit hk1 (by omega) ho HO.out] at this
            simp [this]
          go_wp2_with fail
          go_ret
          exact ⟨rfl, hb⟩
      · have hkm' : (s.size : Int) < (k : Int) + (what.size : Int) := by omega
        have hxk : (x == -1) = true := by
          have := HX.out
          rw [fnN_none (fun j h1 h2 => by
            rcases Nat.lt_or_ge j k with h3 | h3
            · exact HO.out j h1 h3
            · exact occ_room HN.out (by omega)) hm] at this
          simp [← this]
        go_wp2_with fail
        go_ret
        exact ⟨rfl, hb⟩
  all_goals
    go_wp2_with fail
    refine (iFN_no hs hw0 hM1 hok).mono ?_
    rintro e w' ⟨rfl, rfl⟩
    go_wp2_with fail
    refine (sFN_no hs hw0 hok).mono ?_
    rintro e w' ⟨rfl, rfl⟩
    go_wp2_with fail
    refine (placeOk_any s v _ hs).mono ?_
    rintro e w' ⟨rfl, rfl⟩
    go_wp2_with (go_at_call 17; refine (alive_any _).mono ?_; rintro e w' ⟨rfl, rfl⟩)
    go_ret
    exact ⟨rfl, hb⟩
theorem lastN_spec (s what : ByteArray) : ∀ b, (lastN s what b = -1 ∧ ∀ j, j < b → occ s what j = false) ∨ ∃ l : Nat, lastN s what b = l ∧ l < b ∧ occ s what l = true ∧ ∀ j, l < j → j < b → occ s what j = false
  | 0 => .inl ⟨rfl, fun j h => by omega⟩
  | b + 1 => by
    cases ho : occ s what b
    · rcases lastN_spec s what b with ⟨h1, h2⟩ | ⟨l, h1, h2, h3, h4⟩
      · refine .inl ⟨by rw [lastN_miss ho, h1], fun j hj => ?_⟩
        rcases Nat.lt_or_ge j b with h | h
        · exact h2 j h
        · obtain rfl : j = b := by omega
          exact ho
      · refine .inr ⟨l, by rw [lastN_miss ho, h1], by omega, h3, fun j hj1 hj2 => ?_⟩
        rcases Nat.lt_or_ge j b with h | h
        · exact h4 j hj1 h
        · obtain rfl : j = b := by omega
          exact ho
    · exact .inr ⟨b, by rw [lastN_hit ho], by omega, ho, fun j h1 h2 => by omega⟩
/-- From behind the last one on, none is found before b. -/
theorem fn_after {s what : ByteArray} {l b : Nat} (hl : l ≤ s.size) (hv : place s l = true) (hne : what.toList.isEmpty = false) (hno : ∀ j, l ≤ j → j < b → occ s what j = false) : fnI s what l = -1 ∨ (b : Int) ≤ fnI s what l := by
  have hok : fnOk s what l = true := by unfold fnOk; rw [hv, hne]; rfl
  rw [fnI_at hok]
  by_cases hall : ∃ j, l ≤ j ∧ j ≤ s.size ∧ occ s what j = true
  · right
    rcases fn_range s what l with h | ⟨h1, h2, h3, h4, h5, h6⟩
    · exfalso
      obtain ⟨j, hj1, hj2, hj3⟩ := hall
      have : ∀ d j, j - l = d → l ≤ j → j ≤ s.size → occ s what j = true → fnN s what l ≠ -1 := by
        intro d
        induction d using Nat.strongRecOn with
        | ind d ih =>
          intro j hd h4 h5 h6
          by_cases hex : ∃ i, l ≤ i ∧ i < j ∧ occ s what i = true
          · obtain ⟨i, h7, h8, h9⟩ := hex
            exact ih (i - l) (by omega) i rfl h7 (by omega) h9
          · rw [fnN_hit h4 h5 h6 (fun i h7 h8 => by
              cases ho : occ s what i
              · rfl
              · exact absurd ⟨i, h7, h8, ho⟩ hex)]
            omega
      rw [fnI_at hok] at h
      exact this _ j rfl hj1 hj2 hj3 h
    · rw [fnI_at hok] at h2 h3
      obtain ⟨k, hk⟩ := Int.eq_ofNat_of_zero_le (show 0 ≤ fnN s what l by omega)
      rw [hk] at h2 h3 ⊢
      rcases Nat.lt_or_ge k b with hkb | hkb
      · exfalso
        /- the place that is found is one at which the text stands -/
        have hfit : occ s what k = true := by
          by_cases hex : ∃ j, l ≤ j ∧ j ≤ s.size ∧ occ s what j = true ∧ ∀ i, l ≤ i → i < j → occ s what i = false
          · obtain ⟨j, g1, g2, g3, g4⟩ := hex
            have := fnN_hit g1 g2 g3 g4
            rw [hk] at this
            obtain rfl : k = j := by omega
            exact g3
          · exfalso
            have := fnN_none (s := s) (what := what) (p := l) (fun j g1 g2 => by
              have key : ∀ d j, j - l = d → l ≤ j → j ≤ s.size → occ s what j = false := by
                intro d
                induction d using Nat.strongRecOn with
                | ind d ih =>
                  intro j hd g1 g2
                  cases ho : occ s what j
                  · rfl
                  · exact absurd ⟨j, g1, g2, ho, fun i g3 g4 => ih (i - l) (by omega) i rfl g3 (by omega)⟩ hex
              exact key _ j rfl g1 g2) hl
            rw [hk] at this; omega
        rw [hno k (by omega) hkb] at hfit
        cases hfit
      · omega
  · left
    exact fnN_none (fun j h1 h2 => by
      cases ho : occ s what j
      · rfl
      · exact absurd ⟨j, h1, h2, ho⟩ hall) hl

theorem law_FnFindLast (A : Option Addr) (n c : Nat) (zs : List Int) (w : World) (h : IsBytes w A n c zs) (hM : ML w) :
    Calls Try.prog 5 #[.slice A n c] w fun e w' => e = .returned (.bool true) ∧ Below w.heap.size w w' := by
  by_cases hbig : 1048576 < n
  · go_enter Try.func5, Try.ntmps5
    go_wp2
    go_ret
    exact ⟨rfl, Below.refl _ _⟩
  have hML := hM.lt
  go_enter Try.func5, Try.ntmps5
  go_wp2_with fail
  refine (dDrawFindLast A n c zs _ h).mono ?_
  rintro e W1 ⟨s, what, v, rfl, hs0, hw0, hv1, hv2, hb⟩
  have hM1 := hM.below hb hML
  have hs : s.size ≤ maxLen := by unfold maxLen; omega
  have hwm : what.size ≤ maxLen := by unfold maxLen; omega
  clear hbig
  rcases fnOk_cases (s := s) (what := what) v with ⟨hok, hp, hne⟩ | ⟨hok, hp⟩ | ⟨hok, hp, hne, hnl⟩
  · obtain ⟨m, rfl, hm⟩ := place_nat hp
    obtain ⟨hne1, hne2, hne3⟩ := what_ne hne
    have hvl := (placeS hp).1
    have hc1 := iFL_any s what m W1 hs (by omega)
    have hc2 := sFL_any s what m W1 hs (by omega)
    rw [show flI s what m = lastN s what m by unfold flI; rw [if_pos hok]; rfl] at hc1 hc2
    rcases lastN_spec s what m with ⟨hl, hno⟩ | ⟨l, hl, hlm, hlo, hno⟩
    · rw [hl] at hc1 hc2
      have hc3 := iFN_any s what ((0 : Nat) : Int) W1 hs hwm hM1
      have ha := fn_after (s := s) (what := what) (l := 0) (b := m) (Nat.zero_le _) (by unfold place inI; rw [hvl]; simp) hne (fun j _ h2 => hno j h2)
      have hr := fn_range s what ((0 : Nat) : Int)
      generalize fnI s what ((0 : Nat) : Int) = x at hc3 ha hr
      have hm0 : (-1 : Int) < (m : Int) := by omega
      have H1 := Lib.hid hc1
      have H2 := Lib.hid hc2
      have H3 := Lib.hid hc3
      clear hc1 hc2 hc3 hr hno hl hne1
      have hxx : ((x == -1) = true) ∨ ((x == -1) = false ∧ (m : Int) ≤ x) := by
        rcases ha with h | h
        · exact .inl (by simp [h])
        · exact .inr ⟨by simp; omega, h⟩
      clear ha
      go_wp2_with fail
      refine (H1.out).mono ?_
      rintro e w' ⟨rfl, rfl⟩
      go_wp2_with fail
      refine (H2.out).mono ?_
      rintro e w' ⟨rfl, rfl⟩
      go_wp2_with fail
      refine (placeOk_any s m _ hs).mono ?_
      rintro e w' ⟨rfl, rfl⟩
      go_wp2_with fail
      refine (H3.out).mono ?_
      rintro e w' ⟨rfl, rfl⟩
      rcases hxx with hx | ⟨hx, hx'⟩
      all_goals
        go_wp2_with fail
        go_ret
        exact ⟨rfl, hb⟩
    · rw [hl] at hc1 hc2
      have hpl : place s l = true := by unfold place inI; rw [hvl]; simp; omega
      have hpl1 : place s (l + 1 : Nat) = true := by unfold place inI; rw [hvl]; simp; omega
      have hc3 := iFN_any s what ((l + 1 : Nat) : Int) W1 hs hwm hM1
      have hc4 := iFN_any s what l W1 hs hwm hM1
      have hokl : fnOk s what l = true := by unfold fnOk; rw [hpl, hne]; rfl
      rw [fnI_at hokl, fnN_hit (Nat.le_refl _) (by omega) hlo (fun j h1 h2 => by omega)] at hc4
      have ha := fn_after (s := s) (what := what) (l := l + 1) (b := m) (by omega) hpl1 hne (fun j h1 h2 => hno j (by omega) h2)
      generalize fnI s what ((l + 1 : Nat) : Int) = x at hc3 ha
      have hlm' : (l : Int) < (m : Int) := by omega
      have hll : ((l : Int) == -1) = false := by (simp <;> omega)
      have hl2 : ((l : Int) == (l : Int)) = true := by simp
      have H1 := Lib.hid hc1
      have H2 := Lib.hid hc2
      have H3 := Lib.hid hc3
      have H4 := Lib.hid hc4
      clear hc1 hc2 hc3 hc4 hno hl hne1
      have hxx : ((x == -1) = true) ∨ ((x == -1) = false ∧ (m : Int) ≤ x) := by
        rcases ha with h | h
        · exact .inl (by simp [h])
        · exact .inr ⟨by simp; omega, h⟩
      clear ha
      go_wp2_with fail
      refine (H1.out).mono ?_
      rintro e w' ⟨rfl, rfl⟩
      go_wp2_with fail
      refine (H2.out).mono ?_
      rintro e w' ⟨rfl, rfl⟩
      go_wp2_with fail
      refine (placeOk_any s m _ hs).mono ?_
      rintro e w' ⟨rfl, rfl⟩
      go_wp2_with fail
      refine (H3.out).mono ?_
      rintro e w' ⟨rfl, rfl⟩
      rcases hxx with hx | ⟨hx, hx'⟩
      all_goals
        go_wp2_with (go_at_call 14; refine (H4.out).mono ?_; rintro e w' ⟨rfl, rfl⟩)
        go_ret
        exact ⟨rfl, hb⟩
  all_goals
    have hfl : flI s what v = -1 := by unfold flI; rw [if_neg (by simp [hok])]
    have hc1 := iFL_any s what v W1 hs (by omega)
    have hc2 := sFL_any s what v W1 hs (by omega)
    rw [hfl] at hc1 hc2
    have H1 := Lib.hid hc1
    have H2 := Lib.hid hc2
    clear hc1 hc2 hfl
    go_wp2_with fail
    refine (H1.out).mono ?_
    rintro e w' ⟨rfl, rfl⟩
    go_wp2_with fail
    refine (H2.out).mono ?_
    rintro e w' ⟨rfl, rfl⟩
    go_wp2_with fail
    refine (placeOk_any s v _ hs).mono ?_
    rintro e w' ⟨rfl, rfl⟩
    go_wp2_with (go_at_call 17; refine (alive_any _).mono ?_; rintro e w' ⟨rfl, rfl⟩)
    go_ret
    exact ⟨rfl, hb⟩
end Go.Proofs.Ytpnbfhnljjcciaa
