/- The law on marks that move, walked. -/
import Derived.Test.YtlnldnenkajcdaaVz
set_option linter.unusedVariables false
set_option linter.unusedSimpArgs false
namespace Go.Proofs.Ytlnldnenkajcdaa
open Go.RowKit
theorem mmL_len (s put : ByteArray) (a c : Int) (ms : List (Int × Bool)) : (mmL s put a c ms).length ≤ ms.length := by
  unfold mmL
  split
  · simp
  · exact Nat.zero_le _
theorem ap_size {s put : ByteArray} {a c : Int} (hs : s.size ≤ 200) : (if valid s.data.toList = true then (if fitB s put a c = true then apX s put a c else s) else (⟨#[]⟩ : ByteArray)).size ≤ 200 := by
  split
  · split
    · rename_i h
      obtain ⟨p, q, rfl, rfl, h3, h4, h5, h6, h7, h8⟩ := fit_nat h
      rw [h6]
      exact Nat.le_trans (valid_size h7) (by omega)
    · exact hs
  · exact Nat.zero_le _
theorem ap_is {s put : ByteArray} {a c : Int} (h : fitB s put a c = true) : (if valid s.data.toList = true then (if fitB s put a c = true then apX s put a c else s) else (⟨#[]⟩ : ByteArray)) = apX s put a c := by
  obtain ⟨p, q, rfl, rfl, h3, h4, h5, h6, h7, h8⟩ := fit_nat h
  rw [if_pos h5, if_pos h]
theorem mm_good2 {s put : ByteArray} {a c : Int} {ms : List (Int × Bool)} (hf : fitB s put a c = true) (hm : mvB s ms = true) :
    (mmL s put a c ms).length = ms.length ∧ mvB (apX s put a c) (mmL s put a c ms) = true ∧ a + c ≤ 120 ∧ 0 ≤ a + c ∧
    ∀ k (hk : k < ms.length) (hk' : k < (mmL s put a c ms).length), ∃ m n : Nat, ms[k].1 = m ∧ m ≤ s.size ∧ (mmL s put a c ms)[k].1 = n ∧ n ≤ (apX s put a c).size ∧ (a + c < (m : Int) → (apX s put a c).extract n (apX s put a c).size = s.extract m s.size) := by
  obtain ⟨g1, g2, g3⟩ := mm_good hf hm
  obtain ⟨p, q, rfl, rfl, h3, h4, h5, h6, h7, h8⟩ := fit_nat hf
  have := valid_size h5
  refine ⟨g1, g2, by omega, by omega, fun k hk hk' => ?_⟩
  obtain ⟨e1, m, n, e2, e3, e4, e5, e6⟩ := g3 k hk hk'
  exact ⟨m, n, e2, e3, by rw [e1]; exact e4, e5, fun h => e6 (by rw [e2]; exact h)⟩
set_option maxHeartbeats 4000000 in
set_option maxRecDepth 100000 in
theorem law_FnMoveMarks (A : Option Addr) (n c : Nat) (zs : List Int) (w : World) (h : IsBytes w A n c zs) :
    Calls Try.prog 4 #[.slice A n c] w fun e w' => e = .returned (.bool true) ∧ Below w.heap.size w w' := by
  have hn0 : n ≤ maxLen := by obtain ⟨_, h1, h2, _⟩ := h; omega
  unfold maxLen at hn0
  by_cases hn : n ≤ 1048576
  rotate_left
  · go_enter Try.func4, Try.ntmps4
    go_wp2
    go_ret
    exact ⟨rfl, Below.refl _ _⟩
  have HD := Lib.hid (dDrawMoveMarks A n c zs w h)
  clear h
  go_enter Try.func4, Try.ntmps4
  go_wp2_with fail
  refine HD.out.mono ?_
  rintro e W1 ⟨s, A1, c1, ms, a, cc, put, rfl, hs, hput, hl, hr1, hb1⟩
  have hsm : s.size ≤ maxLen := by unfold maxLen; omega
  have hc1 := fun A c W h => iMM_any s put a cc A _ c ms W hs hput h rfl (by omega)
  have hc2 := fun A c W h => sMM_any s put a cc A _ c ms W hs hput h rfl (by omega)
  have hac := fun W => iAC_any s put a cc W hs hput
  have hmv := fun A c W h => sMV_any s A _ c ms W hsm h rfl (by omega)
  have hbad := mm_bad (s := s) (put := put) (a := a) (c := cc) (ms := ms)
  have hgood := mm_good2 (s := s) (put := put) (a := a) (c := cc) (ms := ms)
  have hxz := ap_size (s := s) (put := put) (a := a) (c := cc) hs
  have hxi := ap_is (s := s) (put := put) (a := a) (c := cc)
  have hll := mmL_len s put a cc ms
  generalize (if valid s.data.toList = true then (if fitB s put a cc = true then apX s put a cc else s) else (⟨#[]⟩ : ByteArray)) = x at *
  generalize mmL s put a cc ms = l at *
  generalize apX s put a cc = y at *
  generalize fitB s put a cc = b1 at *
  generalize mvB s ms = b2 at *
  have H1 := Lib.hid hc1
  have H2 := Lib.hid hc2
  have HAC := Lib.hid hac
  have HMV := Lib.hid hmv
  have HB := Lib.hid hbad
  have HG := Lib.hid hgood
  have HXI := Lib.hid hxi
  clear hc1 hc2 hac hmv hbad hgood hxi
  obtain ⟨g, hg⟩ : ∃ g, W1.heap.size = g := ⟨_, rfl⟩
  obtain ⟨X, hX⟩ : ∃ X, W1.alloc (.cells #[.int .i64 a, .int .i64 cc, .string put] 36) = X := ⟨_, rfl⟩
  have hGX := CBox.new W1 a cc put
  have hrX := (hr1.alloc (Nat.le_refl _) (.cells #[.int .i64 a, .int .i64 cc, .string put] 36)).more (B' := X.heap.size) (by rw [← hX]; simp)
  have hbX := hb1.trans (((Below.refl W1.heap.size W1).alloc (Nat.le_refl _) (.cells #[.int .i64 a, .int .i64 cc, .string put] 36)).mono hb1.size)
  rw [hX] at hGX hrX hbX
  rw [hg] at hGX
  have g0 := hGX.c0
  have g1 := hGX.c1
  have g2 := hGX.c2
  have HGX := Lib.hid hGX
  have HR1 := Lib.hid hrX
  have HBX := Lib.hid hbX
  clear hr1 hb1 hGX hrX hbX
  go_wp2_with fail
  refine (H1.out _ _ _ HR1.out).mono ?_
  rintro e W2 ⟨A2, c2, rfl, ho2, hb2⟩
  have hr12 := row_on HR1.out hb2
  have hr2 := Row.of_ownM ho2
  have hbw2 := below_on HBX.out hb2
  have hG2 := HGX.out.below hb2 HGX.out.lt
  have g0 := hG2.c0
  have g1 := hG2.c1
  have g2 := hG2.c2
  have HG2 := Lib.hid hG2
  clear ho2 hb2 HBX HR1 hG2 HGX hX
  go_wp2_with fail
  refine (H2.out _ _ _ hr12).mono ?_
  rintro e W3 ⟨A3, c3, rfl, ho3, hb3⟩
  have hr13 := row_on hr12 hb3
  have hr23 := row_on hr2 hb3
  have hr3 := Row.of_ownM ho3
  have hbw3 := below_on hbw2 hb3
  have hG3 := Lib.hid (HG2.out.below hb3 HG2.out.lt)
  clear ho3 hr12 hr2 hbw2 hb3 H1 H2 HG2 g0 g1 g2
  go_wp2_with fail
  refine (sameMarks_same A2 A3 _ _ c2 c3 l _ hr23 hr3 rfl rfl (by omega)).mono ?_
  rintro e w' ⟨rfl, q4, rfl⟩
  have hb4 := drewN_on W3 q4
  have hG4 := hG3.out.below hb4 hG3.out.lt
  generalize W3.drewN q4 = W4 at *
  have hr14 := row_on hr13 hb4
  have hr24 := row_on hr23 hb4
  have hbw4 := below_on hbw3 hb4
  have g0 := hG4.c0
  have g1 := hG4.c1
  have g2 := hG4.c2
  have hG4' := Lib.hid hG4
  clear hr13 hr23 hr3 hbw3 hb4 hG3 hG4
  go_wp2_with fail
  refine (HAC.out _).mono ?_
  rintro e W5 ⟨rfl, hb5⟩
  have hr15 := row_on hr14 hb5
  have hr25 := row_on hr24 hb5
  have hbw5 := below_on hbw4 hb5
  have hG5 := hG4'.out.below hb5 hG4'.out.lt
  clear g0 g1 g2 hr14 hr24 hbw4 hb5 HAC hG4'
  have g0 := hG5.c0
  have g1 := hG5.c1
  have g2 := hG5.c2
  have hgl := hG5.lt
  clear hG5
  cases b1
  · have hnil := HB.out (by simp)
    subst hnil
    clear HB HG
    go_wp2_with fail
    refine (alive_any _).mono ?_
    rintro e w' ⟨rfl, rfl⟩
    go_wp2_with fail
    go_ret
    exact ⟨rfl, hbw5⟩
  cases b2
  · have hnil := HB.out (by simp)
    subst hnil
    clear HB HG
    go_wp2_with fail
    refine (HMV.out _ _ _ hr15).mono ?_
    rintro e w' ⟨rfl, rfl⟩
    go_wp2_with fail
    refine (alive_any _).mono ?_
    rintro e w' ⟨rfl, rfl⟩
    go_wp2_with fail
    go_ret
    exact ⟨rfl, hbw5⟩
  obtain ⟨k1, k2, k3, k3', k4⟩ := HG.out rfl rfl
  obtain rfl := HXI.out rfl
  have HK := Lib.hid (And.intro k2 k4)
  have hxm : x.size ≤ maxLen := by unfold maxLen; omega
  have hk1' : (l.length : Int) = (ms.length : Int) := by omega
  have HK1 := Lib.hid hk1'
  have HKL := Lib.hid k1
  clear HB HG k2 k4 HXI hk1' k1
  go_wp2_with fail
  refine (HMV.out _ _ _ hr15).mono ?_
  rintro e w' ⟨rfl, rfl⟩
  clear HMV
  have HR15 := Lib.hid hr15
  have HR25 := Lib.hid hr25
  clear hr15 hr25
  have hacc : IntKind.i64.wrap (a + cc) = a + cc := IntWalk.i64_in _ (by omega)
  go_wp2_with fail
  go_loopw [9] (fun iv wr => ∃ k : Nat, k ≤ l.length ∧ iv = .int .i64 k ∧ ∃ q, wr = W5.drewN q) (fun iv _ => l.length - (intOf iv).toNat)
  case atStart => exact ⟨0, Nat.zero_le _, rfl, 0, rfl⟩
  case round =>
    obtain ⟨j, hj, rfl, q, rfl⟩ := hrel
    by_cases hjx : j < l.length
    · have hjm : j < ms.length := by have := HKL.out; omega
      obtain ⟨b, o, rfl, hgb, cw0, cw1⟩ := HR15.out.mark hjm
      obtain ⟨b', o', rfl, hgb', dw0, dw1⟩ := HR25.out.mark hjx
      obtain ⟨m, n', e1, e2, e3, e4, e5⟩ := HK.out.2 j hjm hjx
      rw [e1] at cw0
      rw [e3] at dw0
      have hj' : (j : Int) < (l.length : Int) := by omega
      have hj0 : (0 : Int) ≤ (j : Int) := by omega
      have hjm' : (j : Int) < (ms.length : Int) := by omega
      have HE5 := Lib.hid e5
      clear e1 e3 e5 cw1 dw1
      have hn1 : decide ((n' : Int) < 0) = false := decide_eq_false (by omega)
      have hn2 : decide ((x.size : Int) < (n' : Int)) = false := decide_eq_false (by omega)
      by_cases hc : a + cc < (m : Int)
      · have hex := HE5.out hc
        have hd : decide (a + cc < (m : Int)) = true := decide_eq_true hc
        go_wp2_with fail
        go_quiet (fail)
        trace_state
        go_wp2_with fail
        go_roundw
        case rel => exact ⟨j + 1, by omega, by go_num, _, rfl⟩
        case measure => (simp [intOf] <;> omega)
      · have hd : decide (a + cc < (m : Int)) = false := decide_eq_false hc
        go_wp2_with fail
        go_quiet (fail)
        go_wp2_with fail
        go_roundw
        case rel => exact ⟨j + 1, by omega, by go_num, _, rfl⟩
        case measure => (simp [intOf] <;> omega)
    · have hb6 := drewN_on W5 q
      generalize W5.drewN q = W6 at *
      have hr26 := row_on HR25.out hb6
      have hbw6 := below_on hbw5 hb6
      have hmx := fun W h => iMV_any x A2 _ c2 l W hxm h rfl (by omega)
      rw [HK.out.1] at hmx
      have HMX := Lib.hid hmx
      clear hmx hb6 hbw5 HR15 HR25 hgl g0 g1 g2
      have hbe : ((l.length : Int) == (ms.length : Int)) = true := by rw [HK1.out]; simp
      go_wp2_with fail
      refine (HMX.out _ hr26).mono ?_
      rintro e W7 ⟨rfl, hb7⟩
      have hbw7 := below_on hbw6 hb7
      go_wp2_with fail
      go_ret
      exact ⟨by first | rfl | simp, hbw7⟩
end Go.Proofs.Ytlnldnenkajcdaa
