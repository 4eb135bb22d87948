/- The contract of the reference's HistoryValid. -/
import Derived.Test.YtlnldnenkajcdaaHy
set_option linter.unusedVariables false
set_option linter.unusedSimpArgs false
namespace Go.Proofs.Ytlnldnenkajcdaa
open Go.RowKit
set_option maxHeartbeats 4000000 in
set_option maxRecDepth 100000 in
theorem sHV_any (A : Option Addr) (n c : Nat) (at_ : Int) (ms : List Mom) (s : ByteArray) (w : World) (h : Row w w.heap.size A (moms ms)) (hl : ms.length = n) (hn : n ≤ 3000000) (hs : s.size ≤ maxLen) (hx : ∀ m ∈ ms, m.x.size ≤ 2000000 ∧ m.y.size ≤ 2000000) (hat : -9223372036854775808 ≤ at_ ∧ at_ ≤ 9223372036854775807) :
    Calls Try.prog 8 #[.agg #[.slice A n c, .int .i64 at_], .string s] w fun e w' => (∃ b : Bool, e = .returned (.bool b) ∧ (b = true ↔ HvP ms at_ s)) ∧ Below w.heap.size w w' := by
  subst hl
  have hTV := fun W => sTV_any s W hs
  have hb0 := (Below.refl w.heap.size w).alloc (Nat.le_refl _) (.cells #[.slice A ms.length c, .int .i64 at_] 29)
  have HB := Lib.hid hb0
  cases hv : valid s.data.toList
  · rw [hv] at hTV
    have HTV := Lib.hid hTV
    have hno := not_iff (valid_fail (ms := ms) (n := at_) hv)
    clear hTV hv hb0
    go_enter Try.func8, Try.ntmps8
    go_wp2_with fail
    refine (HTV.out _).mono ?_
    rintro e w' ⟨rfl, rfl⟩
    go_wp2_with fail
    go_ret
    exact ⟨⟨_, rfl, hno⟩, HB.out⟩
  rw [hv] at hTV
  have HTV := Lib.hid hTV
  clear hTV
  have hin1 := fun W => l1In_any (ms.length : Int) 1 30 W
  by_cases h30 : 1 ≤ ms.length ∧ ms.length ≤ 30
  rotate_left
  · have e1 : inI (ms.length : Int) 1 30 = false := by unfold inI; exact decide_eq_false (by omega)
    rw [e1] at hin1
    have HIN := Lib.hid hin1
    have hno := not_iff (len_fail (n := at_) (s := s) h30)
    clear hin1 e1 h30 hb0
    go_enter Try.func8, Try.ntmps8
    go_wp2_with fail
    refine (HTV.out _).mono ?_
    rintro e w' ⟨rfl, rfl⟩
    go_wp2_with fail
    refine (HIN.out _).mono ?_
    rintro e w' ⟨rfl, rfl⟩
    go_wp2_with fail
    go_ret
    exact ⟨⟨_, rfl, hno⟩, HB.out⟩
  have e1 : inI (ms.length : Int) 1 30 = true := by unfold inI; exact decide_eq_true (by omega)
  rw [e1] at hin1
  have HIN := Lib.hid hin1
  clear hin1 e1
  have hrow := (h.below hb0).more hb0.size
  obtain ⟨b0, o0, rfl, hbb, hm0⟩ := hrow.mom (j := 0) (by omega)
  have hms0 : ms[0]? = some (ms[0]'(by omega)) := List.getElem?_eq_getElem _
  generalize (ms[0]'(by omega)) = m at hm0 hms0
  obtain ⟨q0, q1, q2, q3, q4, q5, q6⟩ := hm0
  simp only [Nat.zero_mul, Nat.add_zero] at q0 q1 q2 q3 q4 q5 q6
  obtain ⟨Y, hY⟩ : ∃ Y, w.alloc (.cells #[.slice (some ⟨b0, o0, none⟩) ms.length c, .int .i64 at_] 29) = Y := ⟨_, rfl⟩
  have hbox := HBox.new w 29 (.slice (some ⟨b0, o0, none⟩) ms.length c) at_
  obtain ⟨B, hB⟩ : ∃ B, w.heap.size = B := ⟨_, rfl⟩
  rw [hY] at hrow hbox hb0 q0 q1 q2 q3 q4 q5 q6 hbb
  rw [hB] at hbox
  have hx0 := hbox.c0
  have hx1 := hbox.c1
  have HY := Lib.hid hb0
  have hlen1 : (1 : Int) ≤ (ms.length : Int) := by omega
  by_cases hz : Zer m
  rotate_left
  · have HNO := Lib.hid (not_iff (zer_fail (n := at_) (s := s) hms0 hz))
    clear hrow hbox hb0 HB
    go_enter Try.func8, Try.ntmps8
    go_wp2_with fail
    refine (HTV.out _).mono ?_
    rintro e w' ⟨rfl, rfl⟩
    go_wp2_with fail
    refine (HIN.out _).mono ?_
    rintro e w' ⟨rfl, rfl⟩
    go_wp2_with fail
    all_goals first
      | exact absurd (show Zer m from ⟨by assumption, by assumption, by assumption, nil_text (by assumption), by assumption, by assumption, nil_text (by assumption)⟩) hz
      | (go_ret
         exact ⟨⟨_, rfl, HNO.out⟩, HY.out⟩)
  have hlt := fun W h' => sLt_any (some ⟨b0, o0, none⟩) ms.length c at_ ms s W h' rfl h30 hv hx m hms0 hz hat
  have HLT := Lib.hid hlt
  have HROW := Lib.hid hrow
  obtain ⟨z0, z1, z2, z3, z4, z5, z6⟩ := hz
  rw [z0] at q0
  rw [z1] at q1
  rw [z2] at q2
  rw [z3] at q3
  rw [z4] at q4
  rw [z5] at q5
  rw [z6] at q6
  clear hrow hbox hb0 HB hlt hms0 z0 z1 z2 z3 z4 z5 z6
  go_enter Try.func8, Try.ntmps8
  go_wp2_with fail
  refine (HTV.out _).mono ?_
  rintro e w' ⟨rfl, rfl⟩
  go_wp2_with fail
  refine (HIN.out _).mono ?_
  rintro e w' ⟨rfl, rfl⟩
  go_wp2_with fail
  refine (HLT.out _ HROW.out).mono ?_
  rintro e W2 ⟨v, b, rfl, hiff, _, hb2⟩
  have HI := Lib.hid hiff
  have HF := Lib.hid (HY.out.trans (hb2.mono HY.out.size))
  clear hiff hb2
  go_wp2_with fail
  go_ret
  exact ⟨⟨b, rfl, HI.out⟩, HF.out⟩
end Go.Proofs.Ytlnldnenkajcdaa
