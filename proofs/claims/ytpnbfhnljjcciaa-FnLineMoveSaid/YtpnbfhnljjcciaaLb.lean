/- The contracts of LineMove, of the program and of the reference. -/
import Derived.Test.YtpnbfhnljjcciaaLa
import Derived.Test.YtpnbfhnljjcciaaNo
import Derived.Test.YtpnbfhnljjcciaaPv
set_option linter.unusedVariables false
set_option linter.unusedSimpArgs false
namespace Go.Proofs.Ytpnbfhnljjcciaa
open Go.RowKit
theorem lv_no {s : ByteArray} {p b c : Int} (h : ¬ (place s p = true ∧ inI b (-120) 120 = true ∧ 0 ≤ c)) : lmvI s p b c = -1 := by unfold lmvI; rw [if_neg h]
theorem lv_yes {s : ByteArray} {p b c : Int} (hp : place s p = true) (hb : inI b (-120) 120 = true) (hc : 0 ≤ c) : paI s (max 0 (min (loI s p + b) (lmI s - 1))) c = lmvI s p b c := by unfold lmvI; rw [if_pos ⟨hp, hb, hc⟩]; rfl
set_option maxRecDepth 100000 in
theorem iLV_any (s : ByteArray) (p b c : Int) (w : World) (hs : s.size ≤ maxLen) :
    Calls Try.prog 33 #[.string s, .int .i64 p, .int .i64 b, .int .i64 c] w fun e w' => e = .returned (.int .i64 (lmvI s p b c)) ∧ Below w.heap.size w w' := by
  have hs' := hs
  unfold maxLen at hs'
  cases hp : place s p
  · have HE := Lib.hid (lv_no (s := s) (p := p) (b := b) (c := c) (fun h => by rw [hp] at h; exact absurd h.1 (by simp)))
    go_enter Try.func33, Try.ntmps33
    go_wp2_with fail
    refine (iPl_any _ _ _ hs).mono ?_
    rintro e w' ⟨rfl, rfl⟩
    go_wp2_with fail
    go_ret
    exact ⟨ret_int HE.out.symm, Below.refl _ _⟩
  · cases hb : inI b (-120) 120
    · have HE := Lib.hid (lv_no (s := s) (p := p) (b := b) (c := c) (fun h => by rw [hb] at h; exact absurd h.2.1 (by simp)))
      go_enter Try.func33, Try.ntmps33
      go_wp2_with fail
      refine (iPl_any _ _ _ hs).mono ?_
      rintro e w' ⟨rfl, rfl⟩
      go_wp2_with fail
      refine (in_any _ _ _ _).mono ?_
      rintro e w' ⟨rfl, rfl⟩
      go_wp2_with fail
      go_ret
      exact ⟨ret_int HE.out.symm, Below.refl _ _⟩
    · by_cases hc : c < 0
      · have HE := Lib.hid (lv_no (s := s) (p := p) (b := b) (c := c) (fun h => by omega))
        have e0 : decide (c < 0) = true := by simp; omega
        clear hc
        go_enter Try.func33, Try.ntmps33
        go_wp2_with fail
        refine (iPl_any _ _ _ hs).mono ?_
        rintro e w' ⟨rfl, rfl⟩
        go_wp2_with fail
        refine (in_any _ _ _ _).mono ?_
        rintro e w' ⟨rfl, rfl⟩
        go_wp2_with fail
        go_ret
        exact ⟨ret_int HE.out.symm, Below.refl _ _⟩
      · have HE := Lib.hid (lv_yes hp hb (show 0 ≤ c by omega))
        have e0 : decide (c < 0) = false := by simp; omega
        obtain ⟨K, k1, k2, _⟩ := lv_ok hp hb (show 0 ≤ c by omega)
        have hlo : loI s p ≤ 120 ∧ 0 ≤ loI s p ∧ 1 ≤ lmI s ∧ lmI s ≤ 121 := by
          obtain ⟨m, rfl, hm⟩ := place_nat hp
          have hv := (placeS hp).1
          have := valid_size hv
          have := cnt_le s s.size
          have := cnt_le s m
          have : loI s m = cntN s m := by unfold loI; rw [if_pos hp]; rfl
          have := lm_cnt hv
          omega
        have hbb : -120 ≤ b ∧ b ≤ 120 := by simpa [inI] using hb
        have H1 := Lib.hid fun w => iLO_any s p w hs
        have H2 := Lib.hid fun w => iLM_any s w hs
        have H3 := Lib.hid fun l w => iPA_any s l c w hs
        generalize loI s p = lo at *
        generalize lmI s = lm at *
        clear hc k1 k2
        go_enter Try.func33, Try.ntmps33
        go_wp2_with fail
        refine (iPl_any _ _ _ hs).mono ?_
        rintro e w' ⟨rfl, rfl⟩
        go_wp2_with fail
        refine (in_any _ _ _ _).mono ?_
        rintro e w' ⟨rfl, rfl⟩
        go_wp2_with fail
        refine (H1.out _).mono ?_
        rintro e w' ⟨rfl, rfl⟩
        go_wp2_with fail
        refine (H2.out _).mono ?_
        rintro e w' ⟨rfl, rfl⟩
        go_wp2_with fail
        all_goals
          refine (H3.out _ _).mono ?_
          rintro e W2 ⟨rfl, hb2⟩
          go_wp2_with fail
          go_ret
          refine ⟨ret_int ?_, hb2⟩
          rw [← HE.out] <;> (congr 1 <;> omega)
set_option maxRecDepth 100000 in
theorem sLV_any (s : ByteArray) (p b c : Int) (w : World) (hs : s.size ≤ maxLen) :
    Calls Try.prog 32 #[.string s, .int .i64 p, .int .i64 b, .int .i64 c] w fun e w' => e = .returned (.int .i64 (lmvI s p b c)) ∧ Below w.heap.size w w' := by
  have hs' := hs
  unfold maxLen at hs'
  cases hp : place s p
  · have HE := Lib.hid (lv_no (s := s) (p := p) (b := b) (c := c) (fun h => by rw [hp] at h; exact absurd h.1 (by simp)))
    have hlo : loI s p = -1 := by unfold loI; rw [if_neg (by simp [hp])]
    have hc := fun w => sLO_any s p w hs
    rw [hlo] at hc
    have HC := Lib.hid hc
    clear hc hlo
    go_enter Try.func32, Try.ntmps32
    go_wp2_with fail
    refine (HC.out _).mono ?_
    rintro e w' ⟨rfl, rfl⟩
    go_wp2_with fail
    go_ret
    exact ⟨ret_int HE.out.symm, Below.refl _ _⟩
  · obtain ⟨m, rfl, hm⟩ := place_nat hp
    have hv := (placeS hp).1
    have hv120 := valid_size hv
    have hc1 := cnt_le s s.size
    have hc2 := cnt_le s m
    have hlo : loI s m = cntN s m := by unfold loI; rw [if_pos hp]; rfl
    have hlm := lm_cnt hv
    have H1 := Lib.hid fun w => sLO_any s m w hs
    have hlo' : loI s m ≤ 120 ∧ 0 ≤ loI s m ∧ 1 ≤ lmI s ∧ lmI s ≤ 121 := by omega
    clear hlo hlm hc1 hc2
    cases hb : inI b (-120) 120
    · have HE := Lib.hid (lv_no (s := s) (p := m) (b := b) (c := c) (fun h => by rw [hb] at h; exact absurd h.2.1 (by simp)))
      generalize loI s m = lo at *
      go_enter Try.func32, Try.ntmps32
      go_wp2_with fail
      refine (H1.out _).mono ?_
      rintro e w' ⟨rfl, rfl⟩
      go_wp2_with fail
      refine (l1In_any _ _ _ _).mono ?_
      rintro e w' ⟨rfl, rfl⟩
      go_wp2_with fail
      go_ret
      exact ⟨ret_int HE.out.symm, Below.refl _ _⟩
    · have hE : lmvI s m b c = paI s (max 0 (min (lmI s - 1) (loI s m + b))) c := by
        unfold lmvI
        by_cases hc : 0 ≤ c
        · rw [if_pos ⟨hp, hb, hc⟩]; unfold lvK; congr 1; omega
        · rw [if_neg (fun h => hc h.2.2)]; unfold paI; rw [if_neg (fun h => hc h.2)]
      have hbb : -120 ≤ b ∧ b ≤ 120 := by simpa [inI] using hb
      have HE := Lib.hid hE
      have H2 := Lib.hid fun w => sLM_any s w hs
      have H3 := Lib.hid fun l w => sPA_any s l c w hs
      clear hE
      generalize loI s m = lo at *
      generalize lmI s = lm at *
      go_enter Try.func32, Try.ntmps32
      go_wp2_with fail
      refine (H1.out _).mono ?_
      rintro e w' ⟨rfl, rfl⟩
      go_wp2_with fail
      refine (l1In_any _ _ _ _).mono ?_
      rintro e w' ⟨rfl, rfl⟩
      go_wp2_with fail
      refine (H2.out _).mono ?_
      rintro e w' ⟨rfl, rfl⟩
      go_wp2_with fail
      all_goals
        refine (H3.out _ _).mono ?_
        rintro e w' ⟨rfl, rfl⟩
        go_wp2_with fail
        go_ret
        refine ⟨ret_int ?_, Below.refl _ _⟩
        rw [HE.out] <;> (congr 1 <;> omega)
end Go.Proofs.Ytpnbfhnljjcciaa
