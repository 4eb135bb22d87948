/- The law on marks that come back, walked. -/
import Derived.Test.YtlnldnenkajcdaaLmm
set_option linter.unusedVariables false
set_option linter.unusedSimpArgs false
namespace Go.Proofs.Ytlnldnenkajcdaa
open Go.RowKit
theorem mmL_nil (s put : ByteArray) (a c : Int) : mmL s put a c [] = [] := by
  unfold mmL
  split <;> rfl
/-- The reversed change, in parts. -/
theorem rv_parts {s put : ByteArray} {a c : Int} (hs : s.size ≤ 200) : ∃ (ra rc : Int) (rp : ByteArray), (if fitB s put a c = true then Value.agg #[.int .i64 a, .int .i64 put.size, .string (s.extract a.toNat (a + c).toNat)] else .agg #[.int .i64 0, .int .i64 0, .string ⟨#[]⟩]) = .agg #[.int .i64 ra, .int .i64 rc, .string rp] ∧ rp.size ≤ 1000 ∧ (fitB s put a c = true → ra = a ∧ rc = put.size ∧ rp = s.extract a.toNat (a + c).toNat) := by
  by_cases h : fitB s put a c = true
  · exact ⟨_, _, _, by rw [if_pos h], by rw [ByteArray.size_extract]; omega, fun _ => ⟨rfl, rfl, rfl⟩⟩
  · exact ⟨_, _, _, by rw [if_neg h], Nat.zero_le _, fun h' => absurd h' h⟩
theorem mb_all {s put x : ByteArray} {a c ra rc : Int} {rp : ByteArray} {ms : List (Int × Bool)} (hx : fitB s put a c = true → x = apX s put a c) (hr : fitB s put a c = true → ra = a ∧ rc = put.size ∧ rp = s.extract a.toNat (a + c).toNat) :
    (mmL x rp ra rc (mmL s put a c ms)).length ≤ ms.length ∧ ∀ k (hk : k < (mmL x rp ra rc (mmL s put a c ms)).length), fitB s put a c = true ∧ 0 ≤ a + c ∧ a + c ≤ 120 ∧ ∀ hk' : k < ms.length, ms[k].1 < a ∨ a + c < ms[k].1 → (mmL x rp ra rc (mmL s put a c ms))[k] = ms[k] := by
  refine ⟨Nat.le_trans (mmL_len _ _ _ _ _) (mmL_len _ _ _ _ _), fun k hk => ?_⟩
  by_cases hb : (mvB s ms && fitB s put a c) = true
  · rw [Bool.and_eq_true] at hb
    obtain ⟨hm, hf⟩ := hb
    obtain ⟨_, _, g3, g4, _⟩ := mm_good2 hf hm
    obtain ⟨b1, b2⟩ := mm_back hf hm
    obtain ⟨rfl, rfl, rfl⟩ := hr hf
    obtain rfl := hx hf
    exact ⟨hf, g4, g3, fun hk' ho => b2 k hk' hk ho⟩
  · have hn : mmL s put a c ms = [] := mm_bad (by simpa using hb)
    rw [hn, mmL_nil] at hk
    exact absurd hk (Nat.not_lt_zero _)
set_option maxHeartbeats 4000000 in
set_option maxRecDepth 100000 in
theorem law_FnMarksBack (A : Option Addr) (n c : Nat) (zs : List Int) (w : World) (h : IsBytes w A n c zs) :
    Calls Try.prog 5 #[.slice A n c] w fun e w' => e = .returned (.bool true) ∧ Below w.heap.size w w' := by
  have hn0 : n ≤ maxLen := by obtain ⟨_, h1, h2, _⟩ := h; omega
  unfold maxLen at hn0
  by_cases hn : n ≤ 1048576
  rotate_left
  · go_enter Try.func5, Try.ntmps5
    go_wp2
    go_ret
    exact ⟨rfl, Below.refl _ _⟩
  have HD := Lib.hid (dDrawMoveMarks A n c zs w h)
  clear h
  go_enter Try.func5, Try.ntmps5
  go_wp2_with fail
  refine HD.out.mono ?_
  rintro e W1 ⟨s, A1, c1, ms, a, cc, put, rfl, hs, hput, hl, hr1, hb1⟩
  have hsm : s.size ≤ maxLen := by unfold maxLen; omega
  have hc1 := fun A c W h => iMM_any s put a cc A _ c ms W hs hput h rfl (by omega)
  have hc2 := fun A c W h => sMM_any s put a cc A _ c ms W hs hput h rfl (by omega)
  have hac := fun W => iAC_any s put a cc W hs hput
  have hrv := fun W => iRV_any s put a cc W hs hput
  have hxz := ap_size (s := s) (put := put) (a := a) (c := cc) hs
  have hxi := ap_is (s := s) (put := put) (a := a) (c := cc)
  obtain ⟨ra, rc, rp, hre, hrp, hri⟩ := rv_parts (s := s) (put := put) (a := a) (c := cc) hs
  rw [hre] at hrv
  generalize (if valid s.data.toList = true then (if fitB s put a cc = true then apX s put a cc else s) else (⟨#[]⟩ : ByteArray)) = x at *
  obtain ⟨hyl, hall⟩ := mb_all (ms := ms) hxi hri
  have hll := mmL_len s put a cc ms
  generalize mmL s put a cc ms = l at *
  have hc3 := fun A c W h => iMM_any x rp ra rc A _ c l W hxz hrp h rfl (by omega)
  generalize mmL x rp ra rc l = yl at *
  generalize fitB s put a cc = b1 at *
  have H1 := Lib.hid hc1
  have H2 := Lib.hid hc2
  have H3 := Lib.hid hc3
  have HAC := Lib.hid hac
  have HRV := Lib.hid hrv
  have HALL := Lib.hid hall
  clear hc1 hc2 hc3 hac hrv hall hxi hri hre
  obtain ⟨g, hg⟩ : ∃ g, W1.heap.size = g := ⟨_, rfl⟩
  obtain ⟨X, hX⟩ : ∃ X, W1.alloc (.cells #[.int .i64 a, .int .i64 cc, .string put] 36) = X := ⟨_, rfl⟩
  have hGX := CBox.new W1 a cc put
  have hrX := (hr1.alloc (Nat.le_refl _) (.cells #[.int .i64 a, .int .i64 cc, .string put] 36)).more (B' := X.heap.size) (by rw [← hX]; simp)
  have hbX := hb1.trans (((Below.refl W1.heap.size W1).alloc (Nat.le_refl _) (.cells #[.int .i64 a, .int .i64 cc, .string put] 36)).mono hb1.size)
  rw [hX] at hGX hrX hbX
  rw [hg] at hGX
  have g0 := hGX.c0
  have g1 := hGX.c1
  have g2 := hGX.c2
  have HGX := Lib.hid hGX
  have HR1 := Lib.hid hrX
  have HBX := Lib.hid hbX
  clear hr1 hb1 hGX hrX hbX
  go_wp2_with fail
  refine (H1.out _ _ _ HR1.out).mono ?_
  rintro e W2 ⟨A2, c2, rfl, ho2, hb2⟩
  have hr12 := row_on HR1.out hb2
  have hr2 := Row.of_ownM ho2
  have hbw2 := below_on HBX.out hb2
  have hG2 := HGX.out.below hb2 HGX.out.lt
  have g0 := hG2.c0
  have g1 := hG2.c1
  have g2 := hG2.c2
  have HG2 := Lib.hid hG2
  clear ho2 hb2 HBX HR1 hG2 HGX hX
  go_wp2_with fail
  refine (H2.out _ _ _ hr12).mono ?_
  rintro e W3 ⟨A3, c3, rfl, ho3, hb3⟩
  have hr13 := row_on hr12 hb3
  have hr23 := row_on hr2 hb3
  have hr3 := Row.of_ownM ho3
  have hbw3 := below_on hbw2 hb3
  have hG3 := Lib.hid (HG2.out.below hb3 HG2.out.lt)
  clear ho3 hr12 hr2 hbw2 hb3 H1 H2 HG2 g0 g1 g2
  go_wp2_with fail
  refine (sameMarks_same A2 A3 _ _ c2 c3 l _ hr23 hr3 rfl rfl (by omega)).mono ?_
  rintro e w' ⟨rfl, q4, rfl⟩
  have hb4 := drewN_on W3 q4
  have hG4 := hG3.out.below hb4 hG3.out.lt
  generalize W3.drewN q4 = W4 at *
  have hr14 := row_on hr13 hb4
  have hr24 := row_on hr23 hb4
  have hbw4 := below_on hbw3 hb4
  have g0 := hG4.c0
  have g1 := hG4.c1
  have g2 := hG4.c2
  have hG4' := Lib.hid hG4
  clear hr13 hr23 hr3 hbw3 hb4 hG3 hG4
  go_wp2_with fail
  refine (HAC.out _).mono ?_
  rintro e W5 ⟨rfl, hb5⟩
  have hr15 := row_on hr14 hb5
  have hr25 := row_on hr24 hb5
  have hbw5 := below_on hbw4 hb5
  have hG5 := hG4'.out.below hb5 hG4'.out.lt
  clear g0 g1 g2 hr14 hr24 hbw4 hb5 HAC hG4'
  have g0 := hG5.c0
  have g1 := hG5.c1
  have g2 := hG5.c2
  have hG5' := Lib.hid hG5
  clear hG5
  go_wp2_with fail
  refine (HRV.out _).mono ?_
  rintro e W6 ⟨rfl, hb6⟩
  have hr16 := row_on hr15 hb6
  have hr26 := row_on hr25 hb6
  have hbw6 := below_on hbw5 hb6
  have hG6 := hG5'.out.below hb6 hG5'.out.lt
  clear g0 g1 g2 hr15 hr25 hbw5 hb6 HRV hG5'
  obtain ⟨g9, hg9⟩ : ∃ g9, W6.heap.size = g9 := ⟨_, rfl⟩
  obtain ⟨X6, hX6⟩ : ∃ X6, W6.alloc (.cells #[.int .i64 ra, .int .i64 rc, .string rp] 36) = X6 := ⟨_, rfl⟩
  have hH6 := CBox.new W6 ra rc rp
  have hbX6 := (Below.refl W6.heap.size W6).alloc (Nat.le_refl _) (.cells #[.int .i64 ra, .int .i64 rc, .string rp] 36)
  rw [hX6] at hH6 hbX6
  have hrX1 := row_on hr16 hbX6
  have hrX2 := row_on hr26 hbX6
  have hbX7 := below_on hbw6 hbX6
  have hGX6 := hG6.below hbX6 hG6.lt
  rw [hg9] at hH6
  have g0 := hH6.c0
  have g1 := hH6.c1
  have g2 := hH6.c2
  have HGX6 := Lib.hid hGX6
  clear hr16 hr26 hbw6 hG6 hbX6 hH6 hGX6
  go_wp2_with fail
  refine (H3.out _ _ _ hrX2).mono ?_
  rintro e W7 ⟨A7, c7, rfl, ho7, hb7⟩
  have hr17 := row_on hrX1 hb7
  have hr77 := Row.of_ownM ho7
  have hbw7 := below_on hbX7 hb7
  have hG7 := HGX6.out.below hb7 HGX6.out.lt
  clear g0 g1 g2 hrX1 hrX2 hbX7 ho7 hb7 HGX6 H3 hX6
  have g0 := hG7.c0
  have g1 := hG7.c1
  clear hG7
  have HR1 := Lib.hid hr17
  have HR7 := Lib.hid hr77
  clear hr17 hr77
  go_wp2_with fail
  go_loopw [12] (fun iv wr => ∃ k : Nat, k ≤ yl.length ∧ iv = .int .i64 k ∧ ∃ q, wr = W7.drewN q) (fun iv _ => yl.length - (intOf iv).toNat)
  case atStart => exact ⟨0, Nat.zero_le _, rfl, 0, rfl⟩
  case round =>
    obtain ⟨j, hj, rfl, q, rfl⟩ := hrel
    by_cases hjx : j < yl.length
    · have hjm : j < ms.length := by omega
      obtain ⟨rfl, ha0, ha1, heq⟩ := HALL.out j hjx
      have heq := heq hjm
      obtain ⟨b, o, rfl, hgb, cw0, cw1⟩ := HR1.out.mark hjm
      obtain ⟨b', o', rfl, hgb', dw0, dw1⟩ := HR7.out.mark hjx
      have hj' : (j : Int) < (yl.length : Int) := by omega
      have hj0 : (0 : Int) ≤ (j : Int) := by omega
      have hjm' : (j : Int) < (ms.length : Int) := by omega
      have hjd : decide ((ms.length : Int) ≤ (j : Int)) = false := decide_eq_false (by omega)
      have hjd2 : decide (ms.length ≤ j) = false := decide_eq_false (by omega)
      have hacc : IntKind.i64.wrap (a + cc) = a + cc := IntWalk.i64_in _ (by omega)
      generalize (yl[j]'hjx) = z at *
      generalize (ms[j]'hjm) = y at *
      obtain ⟨y1, y2⟩ := y
      simp only at cw0 cw1 heq
      by_cases hc1 : y1 < a
      · have hd1 : decide (y1 < a) = true := decide_eq_true hc1
        obtain rfl := heq (.inl hc1)
        simp only at dw0 dw1
        clear heq
        go_wp2_with fail
        go_quiet (fail)
        go_wp2_with fail
        go_roundw
        case rel => exact ⟨j + 1, by omega, by go_num, _, rfl⟩
        case measure => (simp [intOf] <;> omega)
      · have hd1 : decide (y1 < a) = false := decide_eq_false hc1
        by_cases hc2 : a + cc < y1
        · have hd2 : decide (a + cc < y1) = true := decide_eq_true hc2
          obtain rfl := heq (.inr hc2)
          simp only at dw0 dw1
          clear heq
          go_wp2_with fail
          go_quiet (fail)
          go_wp2_with fail
          go_roundw
          case rel => exact ⟨j + 1, by omega, by go_num, _, rfl⟩
          case measure => (simp [intOf] <;> omega)
        · have hd2 : decide (a + cc < y1) = false := decide_eq_false hc2
          clear heq
          go_wp2_with fail
          go_quiet (fail)
          go_wp2_with fail
          go_roundw
          case rel => exact ⟨j + 1, by omega, by go_num, _, rfl⟩
          case measure => (simp [intOf] <;> omega)
    · have hb8 := drewN_on W7 q
      generalize W7.drewN q = W8 at *
      have hbw8 := below_on hbw7 hb8
      clear hb8 hbw7 g0 g1
      go_wp2_with fail
      refine (alive_any _).mono ?_
      rintro e w' ⟨rfl, rfl⟩
      go_wp2_with fail
      go_ret
      exact ⟨rfl, hbw8⟩
end Go.Proofs.Ytlnldnenkajcdaa
