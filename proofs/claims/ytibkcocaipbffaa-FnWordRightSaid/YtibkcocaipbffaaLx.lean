/- The laws on words over drawn inputs, walked. -/
import Derived.Test.YtibkcocaipbffaaWz
import Derived.Test.YtibkcocaipbffaaWp
import Derived.Test.YtibkcocaipbffaaRy
import Derived.Test.YtibkcocaipbffaaAl
namespace Go.Proofs.Ytibkcocaipbffaa
open Go.RowKit
set_option linter.unusedVariables false

theorem place_ok {s : ByteArray} {k : Nat} (hv : valid s.data.toList = true) (hk : k ≤ s.size) : place s k = true := by
  unfold place inI; rw [hv]; simp; omega
section
variable {s : ByteArray} {w : World}
theorem iWL_at {n : Nat} (hs : s.size ≤ maxLen) (hp : place s n = true) : Calls Try.prog 22 #[.string s, .int .i64 n] w fun e w' => e = .returned (.int .i64 (wlN s n)) ∧ w = w' :=
  (iWL_any s n w hs).mono fun _ _ h => ⟨by rw [h.1]; unfold wlI; rw [if_pos hp]; rfl, h.2⟩
theorem sWL_at {n : Nat} (hs : s.size ≤ maxLen) (hp : place s n = true) : Calls Try.prog 21 #[.string s, .int .i64 n] w fun e w' => e = .returned (.int .i64 (wlN s n)) ∧ w = w' :=
  (sWL_any s n w hs).mono fun _ _ h => ⟨by rw [h.1]; unfold wlI; rw [if_pos hp]; rfl, h.2⟩
theorem iWL_no {p : Int} (hs : s.size ≤ maxLen) (hp : place s p = false) : Calls Try.prog 22 #[.string s, .int .i64 p] w fun e w' => e = .returned (.int .i64 (-1)) ∧ w = w' :=
  (iWL_any s p w hs).mono fun _ _ h => ⟨by rw [h.1]; unfold wlI; rw [if_neg (by simp [hp])], h.2⟩
theorem sWL_no {p : Int} (hs : s.size ≤ maxLen) (hp : place s p = false) : Calls Try.prog 21 #[.string s, .int .i64 p] w fun e w' => e = .returned (.int .i64 (-1)) ∧ w = w' :=
  (sWL_any s p w hs).mono fun _ _ h => ⟨by rw [h.1]; unfold wlI; rw [if_neg (by simp [hp])], h.2⟩
theorem iWA_at {n : Nat} (hs : s.size ≤ maxLen) (hp : place s n = true) : Calls Try.prog 29 #[.string s, .int .i64 n] w fun e w' => e = .returned (.tuple #[.int .i64 (waA s n), .int .i64 (waB s n)]) ∧ w = w' :=
  (iWA_any s n w hs).mono fun _ _ h => ⟨by rw [h.1]; unfold waAI waBI; rw [if_pos hp, if_pos hp]; rfl, h.2⟩
theorem sWA_at {n : Nat} (hs : s.size ≤ maxLen) (hp : place s n = true) : Calls Try.prog 28 #[.string s, .int .i64 n] w fun e w' => e = .returned (.tuple #[.int .i64 (waA s n), .int .i64 (waB s n)]) ∧ w = w' :=
  (sWA_any s n w hs).mono fun _ _ h => ⟨by rw [h.1]; unfold waAI waBI; rw [if_pos hp, if_pos hp]; rfl, h.2⟩
theorem iWA_no {p : Int} (hs : s.size ≤ maxLen) (hp : place s p = false) : Calls Try.prog 29 #[.string s, .int .i64 p] w fun e w' => e = .returned (.tuple #[.int .i64 (-1), .int .i64 (-1)]) ∧ w = w' :=
  (iWA_any s p w hs).mono fun _ _ h => ⟨by rw [h.1]; unfold waAI waBI; rw [if_neg (by simp [hp]), if_neg (by simp [hp])], h.2⟩
theorem sWA_no {p : Int} (hs : s.size ≤ maxLen) (hp : place s p = false) : Calls Try.prog 28 #[.string s, .int .i64 p] w fun e w' => e = .returned (.tuple #[.int .i64 (-1), .int .i64 (-1)]) ∧ w = w' :=
  (sWA_any s p w hs).mono fun _ _ h => ⟨by rw [h.1]; unfold waAI waBI; rw [if_neg (by simp [hp]), if_neg (by simp [hp])], h.2⟩
theorem iWR_at {n : Nat} (hs : s.size ≤ maxLen) (hp : place s n = true) : Calls Try.prog 20 #[.string s, .int .i64 n] w fun e w' => e = .returned (.int .i64 (wrN s n)) ∧ w = w' :=
  (iWR_any s n w hs).mono fun _ _ h => ⟨by rw [h.1]; unfold wrI; rw [if_pos hp]; rfl, h.2⟩
theorem sWR_at {n : Nat} (hs : s.size ≤ maxLen) (hp : place s n = true) : Calls Try.prog 19 #[.string s, .int .i64 n] w fun e w' => e = .returned (.int .i64 (wrN s n)) ∧ ∃ m, w' = w.drewN m :=
  (sWR_any s n w hs).mono fun _ _ h => ⟨by rw [h.1]; unfold wrI; rw [if_pos hp]; rfl, h.2⟩
theorem iWR_no {p : Int} (hs : s.size ≤ maxLen) (hp : place s p = false) : Calls Try.prog 20 #[.string s, .int .i64 p] w fun e w' => e = .returned (.int .i64 (-1)) ∧ w = w' :=
  (iWR_any s p w hs).mono fun _ _ h => ⟨by rw [h.1]; unfold wrI; rw [if_neg (by simp [hp])], h.2⟩
theorem sWR_no {p : Int} (hs : s.size ≤ maxLen) (hp : place s p = false) : Calls Try.prog 19 #[.string s, .int .i64 p] w fun e w' => e = .returned (.int .i64 (-1)) ∧ ∃ m, w' = w.drewN m :=
  (sWR_any s p w hs).mono fun _ _ h => ⟨by rw [h.1]; unfold wrI; rw [if_neg (by simp [hp])], h.2⟩
end

theorem word_ne {s : ByteArray} {k : Nat} (h : isWord s k = true) (hk : k < s.size) : ((s[k].toNat : Int) != 32) = true ∧ ((s[k].toNat : Int) != 10) = true := by
  unfold isWord at h
  rw [dif_pos hk] at h
  have h1 : ¬ clsI s[k].toNat = 0 := by simpa using h
  rw [cls_zero] at h1
  simp; omega
theorem word_eq {s : ByteArray} {k : Nat} (h : isWord s k = false) (hk : k < s.size) : ((s[k].toNat : Int) != 32) = false ∨ (((s[k].toNat : Int) != 32) = true ∧ ((s[k].toNat : Int) != 10) = false) := by
  unfold isWord at h
  rw [dif_pos hk] at h
  have h1 : clsI s[k].toNat = 0 := by simpa using h
  rw [cls_zero] at h1
  simp; omega
theorem law_FnWordLeft (A : Option Addr) (n c : Nat) (zs : List Int) (w : World) (h : IsBytes w A n c zs) :
    Calls Try.prog 13 #[.slice A n c] w fun e w' => e = .returned (.bool true) ∧ Below w.heap.size w w' := by
  by_cases hbig : 1048576 < n
  · go_enter Try.func13, Try.ntmps13
    go_wp2
    go_ret
    exact ⟨rfl, Below.refl _ _⟩
  go_enter Try.func13, Try.ntmps13
  go_wp2_with fail
  refine (dDrawWordLeft A n c zs _ h).mono ?_
  rintro e W1 ⟨s, v, rfl, hs0, hv1, hv2, hb⟩
  have hs : s.size ≤ maxLen := by unfold maxLen; omega
  clear hbig
  cases hp : place s v
  · go_wp2_with fail
    refine (iWL_no hs hp).mono ?_
    rintro e w' ⟨rfl, rfl⟩
    go_wp2_with fail
    refine (sWL_no hs hp).mono ?_
    rintro e w' ⟨rfl, rfl⟩
    go_wp2_with fail
    refine (placeOk_any s v _ hs).mono ?_
    rintro e w' ⟨rfl, rfl⟩
    go_wp2_with (go_at_call 41; refine (alive_any _).mono ?_; rintro e w' ⟨rfl, rfl⟩)
    go_ret
    exact ⟨rfl, hb⟩
  · obtain ⟨m, rfl, hm⟩ := place_nat hp
    have hx1 := wl_start hm
    have hx2 : wlN s m = 0 ∨ (isWord s (wlN s m) = true ∧ wlN s m < s.size) := by
      by_cases h0 : wlN s m = 0
      · exact .inl h0
      · exact .inr (wl_word hm h0)
    have hx3 : m = 0 ∨ wlN s m < m := by
      by_cases h0 : m = 0
      · exact .inl h0
      · exact .inr (wl_lt hm h0)
    have hx4 : wlN s m ≤ m := by
      rcases hx3 with h0 | h0
      · have := wl_le hm; have := backN_le s 0 m; omega
      · omega
    have hvl := (placeS hp).1
    have hpx : place s (wlN s m) = true := place_ok hvl (by omega)
    have hc1 := (fun w => iWL_at (s := s) (w := w) hs hp)
    have hc2 := (fun w => sWL_at (s := s) (w := w) hs hp)
    have hc3 := (fun w => iWA_at (s := s) (w := w) hs hpx)
    rw [hx1] at hc3
    generalize wlN s m = x at *
    have H1 := Lib.hid hc1
    have H2 := Lib.hid hc2
    have H3 := Lib.hid hc3
    clear hc1 hc2 hc3 hx1
    go_wp2_with fail
    refine (H1.out _).mono ?_
    rintro e w' ⟨rfl, rfl⟩
    go_wp2_with fail
    refine (H2.out _).mono ?_
    rintro e w' ⟨rfl, rfl⟩
    go_wp2_with fail
    refine (placeOk_any s m _ hs).mono ?_
    rintro e w' ⟨rfl, rfl⟩
    go_wp2_with fail
    refine (H3.out _).mono ?_
    rintro e w' ⟨rfl, rfl⟩
    clear H1 H2 H3 hp hpx
    rcases hx2 with rfl | ⟨hw, hxl⟩
    · rcases hx3 with rfl | hx3
      all_goals
        go_wp2_with fail
        go_ret
        exact ⟨rfl, hb⟩
    · obtain ⟨g1, g2⟩ := word_ne hw hxl
      clear hw
      have h0 : x < m ∨ m = 0 := by omega
      rcases h0 with h0 | rfl
      all_goals
        go_wp2_with fail
        all_goals (go_ret; exact ⟨by first | rfl | simp_all, hb⟩)
theorem law_FnWordAround (A : Option Addr) (n c : Nat) (zs : List Int) (w : World) (h : IsBytes w A n c zs) :
    Calls Try.prog 12 #[.slice A n c] w fun e w' => e = .returned (.bool true) ∧ Below w.heap.size w w' := by
  by_cases hbig : 1048576 < n
  · go_enter Try.func12, Try.ntmps12
    go_wp2
    go_ret
    exact ⟨rfl, Below.refl _ _⟩
  have hbg : decide ((1048576 : Int) < (n : Int)) = false := by simp; omega
  go_enter Try.func12, Try.ntmps12
  go_wp2_with fail
  refine (dDrawWordAround A n c zs _ h).mono ?_
  rintro e W1 ⟨s, v, rfl, hs0, hv1, hv2, hb⟩
  have hs : s.size ≤ maxLen := by unfold maxLen; omega
  clear hbig
  cases hp : place s v
  · go_wp2_with fail
    refine (iWA_no hs hp).mono ?_
    rintro e w' ⟨rfl, rfl⟩
    go_wp2_with fail
    refine (sWA_no hs hp).mono ?_
    rintro e w' ⟨rfl, rfl⟩
    go_wp2_with fail
    refine (placeOk_any s v _ hs).mono ?_
    rintro e w' ⟨rfl, rfl⟩
    go_wp2_with (go_at_call 41; refine (alive_any _).mono ?_; rintro e w' ⟨rfl, rfl⟩)
    go_ret
    exact ⟨rfl, hb⟩
  · obtain ⟨m, rfl, hm⟩ := place_nat hp
    have ha := @waA_le s m
    have hbm := @waB_ge s m
    have hbl := waB_le hm
    have hlt := @wa_lt s m
    have hvl := (placeS hp).1
    have hsame : ∀ k, waA s m ≤ k → k < waB s m → ∀ w : World, Calls Try.prog 29 #[.string s, .int .i64 k] w fun e w' => e = .returned (.tuple #[.int .i64 (waA s m), .int .i64 (waB s m)]) ∧ w = w' := by
      intro k h1 h2 w
      have hk := wa_same hm h1 h2
      have := iWA_at (s := s) (w := w) (n := k) hs (place_ok hvl (by omega))
      rw [hk.1, hk.2] at this
      exact this
    have hc1 := (fun w => iWA_at (s := s) (w := w) hs hp)
    have hc2 := (fun w => sWA_at (s := s) (w := w) hs hp)
    generalize waA s m = x at *
    generalize waB s m = y at *
    have H1 := Lib.hid hc1
    have H2 := Lib.hid hc2
    have H3 := Lib.hid hsame
    have HL := Lib.hid hlt
    clear hc1 hc2 hsame hlt
    go_wp2_with fail
    refine (H1.out _).mono ?_
    rintro e w' ⟨rfl, rfl⟩
    go_wp2_with fail
    refine (H2.out _).mono ?_
    rintro e w' ⟨rfl, rfl⟩
    go_wp2_with fail
    refine (placeOk_any s m _ hs).mono ?_
    rintro e w' ⟨rfl, rfl⟩
    go_wp2_with fail
    go_loop [9] (fun i => ∃ k : Nat, x ≤ k ∧ k ≤ y ∧ i = .int .i64 k) (fun i => y - (intOf i).toNat)
    case atStart => exact ⟨x, Nat.le_refl _, by omega, rfl⟩
    case round =>
      obtain ⟨k, hk1, hk2, rfl⟩ := hrel
      by_cases hky : k < y
      · go_wp2_with fail
        refine (H3.out k hk1 hky _).mono ?_
        rintro e w' ⟨rfl, rfl⟩
        go_wp2_with fail
        go_round
        case rel => exact ⟨k + 1, by omega, by omega, by go_num⟩
        case measure => (simp [intOf] <;> omega)
      · by_cases hml : m < s.size
        · rcases hw : isWord s m with _ | _
          · have hxy : x = y := by have := HL.out; rw [hw] at this; simp at this; omega
            have hms : m = x := by omega
            subst hxy
            subst hms
            rcases word_eq hw hml with g | g
            all_goals
              go_wp2_with fail
              all_goals (go_ret; exact ⟨by first | rfl | simp_all, hb⟩)
          · have hxy : x < y := HL.out.2 hw
            obtain ⟨g1, g2⟩ := word_ne hw hml
            clear hw
            go_wp2_with fail
            all_goals (go_ret; exact ⟨by first | rfl | simp_all, hb⟩)
        · have hw : isWord s m = false := by unfold isWord; rw [dif_neg hml]
          have hxy : x = y := by have := HL.out; rw [hw] at this; simp at this; omega
          have hms : m = x := by omega
          subst hxy
          subst hms
          clear hw
          go_wp2_with fail
          all_goals (go_ret; exact ⟨by first | rfl | simp_all, hb⟩)
theorem law_FnWordRight (A : Option Addr) (n c : Nat) (zs : List Int) (w : World) (h : IsBytes w A n c zs) :
    Calls Try.prog 14 #[.slice A n c] w fun e w' => e = .returned (.bool true) ∧ Below w.heap.size w w' := by
  by_cases hbig : 1048576 < n
  · go_enter Try.func14, Try.ntmps14
    go_wp2
    go_ret
    exact ⟨rfl, Below.refl _ _⟩
  go_enter Try.func14, Try.ntmps14
  go_wp2_with fail
  refine (dDrawWordRight A n c zs _ h).mono ?_
  rintro e W1 ⟨s, v, rfl, hs0, hv1, hv2, hb⟩
  have hs : s.size ≤ maxLen := by unfold maxLen; omega
  clear hbig
  cases hp : place s v
  · go_wp2_with fail
    refine (iWR_no hs hp).mono ?_
    rintro e w' ⟨rfl, rfl⟩
    go_wp2_with fail
    refine (sWR_no hs hp).mono ?_
    rintro e w' ⟨rfl, q1, rfl⟩
    go_wp2_with fail
    refine (placeOk_any s v _ hs).mono ?_
    rintro e w' ⟨rfl, rfl⟩
    go_wp2_with (go_at_call 41; refine (alive_any _).mono ?_; rintro e w' ⟨rfl, rfl⟩)
    go_ret
    exact ⟨rfl, below_drewN hb _⟩
  · obtain ⟨m, rfl, hm⟩ := place_nat hp
    have hx1 := wr_le hm
    have hx2 : wrN s m = s.size ∨ (isWord s (wrN s m) = true ∧ wrN s m < s.size) := by
      by_cases h0 : wrN s m < s.size
      · exact .inr ⟨wr_word h0, h0⟩
      · exact .inl (by omega)
    have hx3 : (m = s.size ∧ wrN s m = s.size) ∨ (m < s.size ∧ m < wrN s m) := by
      by_cases h0 : m < s.size
      · exact .inr ⟨h0, wr_gt h0⟩
      · exact .inl ⟨by omega, by unfold wrN; rw [dif_neg h0]; omega⟩
    have hx4 := wr_left hm
    have hvl := (placeS hp).1
    have ha := @waA_le s m
    have hpx : place s (wrN s m) = true := place_ok hvl hx1
    have hpa : place s (waA s m) = true := place_ok hvl (by omega)
    have hc1 := (fun w => iWR_at (s := s) (w := w) hs hp)
    have hc2 := (fun w => sWR_at (s := s) (w := w) hs hp)
    have hc3 := (fun w => iWA_at (s := s) (w := w) hs hp)
    have hc4 := (fun w => iWL_at (s := s) (w := w) hs hpx)
    have hc5 := (fun w => iWR_at (s := s) (w := w) hs hpa)
    rw [wr_same hm] at hc5
    generalize wlN s (wrN s m) = y at *
    generalize wrN s m = x at *
    generalize waA s m = a at *
    have H1 := Lib.hid hc1
    have H2 := Lib.hid hc2
    have H3 := Lib.hid hc3
    have H4 := Lib.hid hc4
    have H5 := Lib.hid hc5
    clear hc1 hc2 hc3 hc4 hc5
    go_wp2_with fail
    refine (H1.out _).mono ?_
    rintro e w' ⟨rfl, rfl⟩
    go_wp2_with fail
    refine (H2.out _).mono ?_
    rintro e w' ⟨rfl, q1, rfl⟩
    go_wp2_with fail
    refine (placeOk_any s m _ hs).mono ?_
    rintro e w' ⟨rfl, rfl⟩
    go_wp2_with fail
    refine (H3.out _).mono ?_
    rintro e w' ⟨rfl, rfl⟩
    clear hp hpx hpa H1 H2 H3
    have hxb : ((x : Int) == (x : Int)) = true := by simp
    have hxc : decide ((y : Int) ≤ (m : Int)) = true := by simpa using hx4
    rcases Nat.eq_or_lt_of_le ha with rfl | ham
    · rcases hx2 with rfl | ⟨hw, hxl⟩
      · rcases hx3 with ⟨rfl, _⟩ | ⟨hx3, hx5⟩
        all_goals
          go_wp2_with (go_at_call 22; refine (H4.out _).mono ?_; rintro e w' ⟨rfl, rfl⟩)
          go_ret
          exact ⟨by first | rfl | simp, below_drewN hb _⟩
      · obtain ⟨g1, g2⟩ := word_ne hw hxl
        clear hw
        have hx5 : a < x ∧ a < s.size := by omega
        obtain ⟨hx5, hx6⟩ := hx5
        clear hx3
        go_wp2_with (go_at_call 22; refine (H4.out _).mono ?_; rintro e w' ⟨rfl, rfl⟩)
        go_ret
        exact ⟨by first | rfl | simp, below_drewN hb _⟩
    · have hne : ((a : Int) == (m : Int)) = false := by simp; omega
      rcases hx2 with rfl | ⟨hw, hxl⟩
      · rcases hx3 with ⟨rfl, _⟩ | ⟨hx3, hx5⟩
        all_goals
          go_wp2_with (first | (go_at_call 22; refine (H4.out _).mono ?_; rintro e w' ⟨rfl, rfl⟩) | (go_at_call 20; refine (H5.out _).mono ?_; rintro e w' ⟨rfl, rfl⟩))
          go_ret
          exact ⟨by first | rfl | simp, below_drewN hb _⟩
      · obtain ⟨g1, g2⟩ := word_ne hw hxl
        clear hw
        have hx5 : m < x ∧ m < s.size := by omega
        obtain ⟨hx5, hx6⟩ := hx5
        clear hx3
        go_wp2_with (first | (go_at_call 22; refine (H4.out _).mono ?_; rintro e w' ⟨rfl, rfl⟩) | (go_at_call 20; refine (H5.out _).mono ?_; rintro e w' ⟨rfl, rfl⟩))
        go_ret
        exact ⟨by first | rfl | simp, below_drewN hb _⟩
end Go.Proofs.Ytibkcocaipbffaa
