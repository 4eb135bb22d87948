/- The law that asks for equality with the reference of HistoryValid, walked. -/
import Derived.Test.YtlnldnenkajcdaaHv
import Derived.Test.YtlnldnenkajcdaaHz
import Derived.Test.YtlnldnenkajcdaaOh
set_option linter.unusedVariables false
set_option linter.unusedSimpArgs false
namespace Go.Proofs.Ytlnldnenkajcdaa
open Go.RowKit
set_option linter.unusedVariables false
set_option maxHeartbeats 4000000 in
set_option maxRecDepth 100000 in
theorem law_FnExactHistoryValid (A : Option Addr) (n c : Nat) (at_ : Int) (ms : List Mom) (w : World) (h : IsHist w A n c at_ ms) (s : ByteArray) (hs : s.size ≤ maxLen) :
    Calls Try.prog 3 #[.agg #[.slice A n c, .int .i64 at_], .string s] w fun e w' => e = .returned (.bool true) ∧ Below w.heap.size w w' := by
  obtain ⟨rfl, hn0, hwf, hstr, hrow⟩ := h
  have hs' := hs
  unfold maxLen at hs'
  have hb0 := (Below.refl w.heap.size w).alloc (Nat.le_refl _) (.cells #[.slice A ms.length c, .int .i64 at_] 24)
  have hrow0 := (hrow.below hb0).more hb0.size
  have hbox := HBox.new w 24 (.slice A ms.length c) at_
  obtain ⟨B, hB⟩ : ∃ B, w.heap.size = B := ⟨_, rfl⟩
  obtain ⟨Y, hY⟩ : ∃ Y, w.alloc (.cells #[.slice A ms.length c, .int .i64 at_] 24) = Y := ⟨_, rfl⟩
  rw [hY] at hb0 hrow0 hbox
  rw [hB] at hbox
  have HB0 := Lib.hid hb0
  by_cases h1 : s.size ≤ 1048576
  rotate_left
  · clear hb0 hrow0 hbox
    go_enter Try.func3, Try.ntmps3
    go_wp2_with fail
    go_ret
    exact ⟨rfl, HB0.out⟩
  have hc0 := hbox.c0
  have hc1 := hbox.c1
  have hszz := szHistory_any A ms.length c at_ ms 1048576 Y hrow0 rfl hn0 hstr (by omega) (by omega)
  have HBX := Lib.hid (And.intro hrow0 hbox)
  clear hb0 hrow0 hbox
  go_enter Try.func3, Try.ntmps3
  go_wp2_with fail
  refine hszz.mono ?_
  rintro e W1 ⟨r, rfl, hr, hb1⟩
  rcases hr with rfl | ⟨r0, r1, r2⟩
  · have HF := Lib.hid (HB0.out.trans (hb1.mono HB0.out.size))
    clear hb1
    go_wp2_with fail
    go_ret
    exact ⟨rfl, HF.out⟩
  have r0' : decide (r < 0) = false := decide_eq_false (by omega)
  have hn3 : ms.length ≤ 3000000 := by omega
  have hx : ∀ m ∈ ms, m.x.size ≤ 2000000 ∧ m.y.size ≤ 2000000 := fun m hm => by
    have := r2 m hm
    unfold Mom.small at this
    omega
  have hat : -9223372036854775808 ≤ at_ ∧ at_ ≤ 9223372036854775807 := by
    have g : (decide (IntKind.i64.min ≤ at_) && decide (at_ ≤ IntKind.i64.max)) = true := hwf
    rw [Bool.and_eq_true] at g
    exact ⟨of_decide_eq_true g.1, of_decide_eq_true g.2⟩
  have HX := Lib.hid hx
  have hbw1 := HB0.out.trans (hb1.mono HB0.out.size)
  have hrw1 := (HBX.out.1.below hb1).more hb1.size
  have hbx1 := HBX.out.2.below hb1 HBX.out.2.lt
  have c0 := hbx1.c0
  have c1 := hbx1.c1
  have H1 := Lib.hid (And.intro hbw1 (And.intro hrw1 hbx1))
  clear hc0 hc1 r2 hx hb1 hbw1 hrw1 hbx1 hszz
  go_wp2_with fail
  refine (toHistory_any A ms.length c at_ ms _ H1.out.2.1 rfl hn3).mono ?_
  rintro e W2 ⟨A2, c2, rfl, hcp2, hr2, hb2⟩
  have hbw2 := H1.out.1.trans (hb2.mono H1.out.1.size)
  have hrw2 := (H1.out.2.1.below hb2).more hb2.size
  have hbx2 := H1.out.2.2.below hb2 H1.out.2.2.lt
  have H2 := Lib.hid (And.intro hbw2 (And.intro hrw2 hbx2))
  clear hb2 hbw2 hrw2 hbx2 c0 c1
  go_wp2_with fail
  refine (sHV_any A2 ms.length c2 at_ ms s _ hr2 rfl hn3 hs HX.out hat).mono ?_
  rintro e W3 ⟨⟨b3, rfl, hi3⟩, hb3⟩
  have hbw3 := H2.out.1.trans (hb3.mono H2.out.1.size)
  have hrw3 := (H2.out.2.1.below hb3).more hb3.size
  have hbx3 := H2.out.2.2.below hb3 H2.out.2.2.lt
  have c0 := hbx3.c0
  have c1 := hbx3.c1
  have HI3 := Lib.hid hi3
  have H3 := Lib.hid (And.intro hbw3 (And.intro hrw3 hbx3))
  clear hb3 hbw3 hrw3 hbx3 hr2 hi3
  go_wp2_with fail
  refine (toHistory_any A ms.length c at_ ms _ H3.out.2.1 rfl hn3).mono ?_
  rintro e W4 ⟨A4, c4, rfl, hcp4, hr4, hb4⟩
  have hbw4 := (H3.out.1.trans (hb4.mono H3.out.1.size)).alloc (Nat.le_trans H3.out.1.size hb4.size) (.cells #[.slice A4 ms.length c4, .int .i64 at_] 29)
  have hal4 := (Below.refl W4.heap.size W4).alloc (Nat.le_refl _) (.cells #[.slice A4 ms.length c4, .int .i64 at_] 29)
  have hrw4 := (((H3.out.2.1.below hb4).more hb4.size).below hal4).more hal4.size
  have hbx4 := (H3.out.2.2.below hb4 H3.out.2.2.lt).alloc (.cells #[.slice A4 ms.length c4, .int .i64 at_] 29)
  have hrr4 := (hr4.below hal4).more hal4.size
  have hvx4 := HBox.new W4 29 (.slice A4 ms.length c4) at_
  obtain ⟨g, hg⟩ : ∃ g, W4.heap.size = g := ⟨_, rfl⟩
  obtain ⟨X, hX⟩ : ∃ X, W4.alloc (.cells #[.slice A4 ms.length c4, .int .i64 at_] 29) = X := ⟨_, rfl⟩
  rw [hX] at hbw4 hrw4 hbx4 hrr4 hvx4
  rw [hg] at hvx4
  have d0 := hvx4.c0
  have d1 := hvx4.c1
  have H4 := Lib.hid (And.intro (And.intro hbw4 (And.intro hrw4 hbx4)) (And.intro hrr4 hvx4))
  clear hb4 hbw4 hrw4 hbx4 hrr4 hvx4 hr4 hal4 c0 c1
  go_wp2_with fail
  refine (iHV_any A4 ms.length c4 at_ ms s _ H4.out.2.1 rfl hcp4 hn3 hs HX.out hat).mono ?_
  rintro e W5 ⟨⟨b5, rfl, hi5⟩, hb5⟩
  have hbb : b5 = b3 := by
    have h3 := HI3.out
    cases b5 <;> cases b3 <;> simp_all
  subst hbb
  have hne : (b5 != b5) = false := by simp
  have hbw5 := H4.out.1.1.trans (hb5.mono H4.out.1.1.size)
  have hrw5 := (H4.out.1.2.1.below hb5).more hb5.size
  have hbx5 := H4.out.1.2.2.below hb5 H4.out.1.2.2.lt
  have hrr5 := (H4.out.2.1.below hb5).more hb5.size
  have hvx5 := H4.out.2.2.below hb5 H4.out.2.2.lt
  have c0 := hbx5.c0
  have c1 := hbx5.c1
  have e0 := hvx5.c0
  have e1 := hvx5.c1
  have hBl := hbx5.lt
  have hgl := hvx5.lt
  have H5 := Lib.hid (And.intro (And.intro hbw5 (And.intro hrw5 hbx5)) (And.intro hrr5 hvx5))
  clear hb5 hbw5 hrw5 hbx5 hrr5 hvx5 hi5 d0 d1 HI3
  go_wp2_with fail
  go_region_held3 (fun w' => (w'.cell? ⟨B, 0, none⟩ = some (.slice A ms.length c) ∧ w'.cell? ⟨B, 1, none⟩ = some (.int .i64 at_)) ∧ (w'.cell? ⟨g, 0, none⟩ = some (.slice A4 ms.length c4) ∧ w'.cell? ⟨g, 1, none⟩ = some (.int .i64 at_))) (go_keep)
    (first
      | (go_at_call 9
         refine (toHistory_any A ms.length c at_ ms _ (H5.out.1.2.1.drewN 1) rfl hn3).mono ?_
         rintro e W6 ⟨A6, c6, rfl, hcp6, hr6, hb6⟩
         have k0 := (hb6.cell (p := ⟨B, 0, none⟩) hBl).trans c0
         have k1 := (hb6.cell (p := ⟨B, 1, none⟩) hBl).trans c1
         have k2 := (hb6.cell (p := ⟨g, 0, none⟩) hgl).trans e0
         have k3 := (hb6.cell (p := ⟨g, 1, none⟩) hgl).trans e1
         have hBl6 : B < W6.heap.size := Nat.lt_of_lt_of_le hBl hb6.size
         have hgl6 : g < W6.heap.size := Nat.lt_of_lt_of_le hgl hb6.size
         have hbw6 := (below_drewN H5.out.1.1 1).trans (hb6.mono H5.out.1.1.size)
         have hrr6 := ((H5.out.2.1.drewN 1).below hb6).more hb6.size
         have H6 := Lib.hid (And.intro hbw6 (And.intro hr6 hrr6))
         clear hb6 hbw6 hr6 hrr6)
      | (go_at_call 11
         refine (eqHistory_eq A4 A6 ms.length c4 c6 at_ ms _ (by first | exact H6.out.2.2 | exact H6.out.2.2.drewN 1) (by first | exact H6.out.2.1 | exact H6.out.2.1.drewN 1) rfl hn3).mono ?_
         rintro e W7 ⟨rfl, hb7⟩
         have l0 := (hb7.cell (p := ⟨B, 0, none⟩) hBl6).trans k0
         have l1 := (hb7.cell (p := ⟨B, 1, none⟩) hBl6).trans k1
         have l2 := (hb7.cell (p := ⟨g, 0, none⟩) hgl6).trans k2
         have l3 := (hb7.cell (p := ⟨g, 1, none⟩) hgl6).trans k3
         have H7 := Lib.hid (H6.out.1.trans (hb7.mono H6.out.1.size)))
      | fail)
  all_goals
    go_wp2_with fail
    go_ret
    exact ⟨rfl, H7.out⟩
end Go.Proofs.Ytlnldnenkajcdaa
