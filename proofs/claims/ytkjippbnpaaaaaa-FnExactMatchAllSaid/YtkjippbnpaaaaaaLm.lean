/- The laws that ask for equality with the reference of MatchEnd, MatchNext, MatchAll, walked. -/
import Derived.Test.YtkjippbnpaaaaaaMa
set_option linter.unusedVariables false
set_option linter.unusedSimpArgs false
namespace Go.Proofs.Ytkjippbnpaaaaaa
open Go.RowKit
set_option linter.unusedVariables false
theorem law_FnExactMatchEnd (p : ByteArray) (hp : p.size ≤ maxLen) (s : ByteArray) (hs : s.size ≤ maxLen) (n : Int) (hn : (Lit.int .i64 n).wf = true) (w : World) :
    Calls Try.prog 3 #[.string p, .string s, .int .i64 n] w fun e w' => e = .returned (.bool true) ∧ Below w.heap.size w w' := by
  have hs' := hs
  unfold maxLen at hs'
  have hp' := hp
  unfold maxLen at hp'
  by_cases h1 : p.size ≤ 1048576
  · by_cases h2 : s.size ≤ 1048576
    · have hc1 := fun W => sME_any p s n W hp hs
      have hc2 := fun W => iME_any p s n W hp hs
      generalize meI p s n = x at hc1 hc2
      have H1 := Lib.hid hc1
      have H2 := Lib.hid hc2
      have e0 : (x != x) = false := by simp
      clear hc1 hc2
      go_enter Try.func3, Try.ntmps3
      go_wp2_with fail
      refine (H1.out _).mono ?_
      rintro e W1 ⟨rfl, hb1⟩
      go_wp2_with fail
      refine (H2.out _).mono ?_
      rintro e W2 ⟨rfl, hb2⟩
      have hb := hb1.trans (hb2.mono hb1.size)
      go_wp2_with fail
      go_ret
      exact ⟨rfl, hb⟩
    · go_enter Try.func3, Try.ntmps3
      go_wp2
      go_ret
      exact ⟨rfl, Below.refl _ _⟩
  · go_enter Try.func3, Try.ntmps3
    go_wp2
    go_ret
    exact ⟨rfl, Below.refl _ _⟩
theorem law_FnExactMatchNext (p : ByteArray) (hp : p.size ≤ maxLen) (s : ByteArray) (hs : s.size ≤ maxLen) (n : Int) (hn : (Lit.int .i64 n).wf = true) (w : World) :
    Calls Try.prog 4 #[.string p, .string s, .int .i64 n] w fun e w' => e = .returned (.bool true) ∧ Below w.heap.size w w' := by
  have hs' := hs
  unfold maxLen at hs'
  have hp' := hp
  unfold maxLen at hp'
  by_cases h1 : p.size ≤ 1048576
  · by_cases h2 : s.size ≤ 1048576
    · have hc1 := fun W => sMN_any p s n W hp hs
      have hc2 := fun W => iMN_any p s n W hp hs
      generalize mnFrom p s n = x at hc1 hc2
      generalize mnTo p s n = y at hc1 hc2
      generalize mnOk p s n = z at hc1 hc2
      have H1 := Lib.hid hc1
      have H2 := Lib.hid hc2
      clear hc1 hc2
      go_enter Try.func4, Try.ntmps4
      go_wp2_with fail
      refine (H1.out _).mono ?_
      rintro e W1 ⟨rfl, hb1⟩
      have hbw := hb1.alloc hb1.size (.cells #[.int .i64 x, .int .i64 y] 25)
      have hr1 := heap_alloc_new W1 (.cells #[.int .i64 x, .int .i64 y] 25)
      have HR1 := Lib.hid (And.intro hbw hr1)
      clear hb1 hbw hr1
      go_wp2_with fail
      refine (H2.out _).mono ?_
      rintro e W2 ⟨rfl, hb2⟩
      have hr2 := (hb2.block W1.heap.size (by simp)).trans HR1.out.2
      have hl2 : W1.heap.size < W2.heap.size := by have := hb2.size; simp at this; omega
      have hbw2 := (HR1.out.1.trans (hb2.mono HR1.out.1.size)).alloc (by have := HR1.out.1.size; have := hb2.size; omega) (.cells #[.int .i64 x, .int .i64 y] 25)
      have c0 : W2.cell? ⟨W1.heap.size, 0, none⟩ = some (.int .i64 x) := cell_of_row W2 _ 0 _ _ _ hr2
      have c1 : W2.cell? ⟨W1.heap.size, 1, none⟩ = some (.int .i64 y) := cell_of_row W2 _ 1 _ _ _ hr2
      have HB := Lib.hid hbw2
      clear hb2 hr2 hbw2 HR1
      cases z
      all_goals
        go_wp2_with fail
        refine (eqSpan_same _ _ _).mono ?_
        rintro e W3 ⟨rfl, hb3⟩
        have hfin := HB.out.trans (hb3.mono HB.out.size)
        go_wp2_with fail
        go_ret
        exact ⟨rfl, hfin⟩
    · go_enter Try.func4, Try.ntmps4
      go_wp2
      go_ret
      exact ⟨rfl, Below.refl _ _⟩
  · go_enter Try.func4, Try.ntmps4
    go_wp2
    go_ret
    exact ⟨rfl, Below.refl _ _⟩
theorem law_FnExactMatchAll (p : ByteArray) (hp : p.size ≤ maxLen) (s : ByteArray) (hs : s.size ≤ maxLen) (w : World) :
    Calls Try.prog 5 #[.string p, .string s] w fun e w' => e = .returned (.bool true) ∧ Below w.heap.size w w' := by
  have hs' := hs
  unfold maxLen at hs'
  have hp' := hp
  unfold maxLen at hp'
  by_cases h1 : p.size ≤ 1048576
  · by_cases h2 : s.size ≤ 1048576
    · have hlen := maL_small p s
      have hc1 := fun W => sMA_any p s W hp hs
      have hc2 := fun W => iMA_any p s W hp hs
      generalize maL p s = xs at hlen hc1 hc2
      have H1 := Lib.hid hc1
      have H2 := Lib.hid hc2
      clear hc1 hc2
      go_enter Try.func5, Try.ntmps5
      go_wp2_with fail
      refine (H1.out _).mono ?_
      rintro e W1 ⟨A, c, rfl, ho1, hb1⟩
      have hr1 := Row.of_own2 ho1
      clear ho1
      go_wp2_with fail
      refine (H2.out _).mono ?_
      rintro e W2 ⟨A2, c2, rfl, ho2, hb2⟩
      have hr2 := Row.of_own2 ho2
      have hr12 := (hr1.below hb2).more hb2.size
      have hbw2 := hb1.trans (hb2.mono hb1.size)
      go_wp2_with fail
      refine (eqSpanS_same A2 A _ _ c2 c xs W2 hr2 hr12 rfl rfl (by omega)).mono ?_
      rintro e W3 ⟨rfl, hb3⟩
      have ho3 := own_below ho2 hb3
      have hr13 := (hr12.below hb3).more hb3.size
      have hbw3 := hbw2.trans (hb3.mono hbw2.size)
      clear ho2 hr2 hr12
      go_wp2_with fail
      refine (markSpanS_any A2 xs.length c2 W1.heap.size xs 1 W3 ho3 (by omega) (by omega) (by omega)).mono ?_
      rintro e W4 ⟨rfl, ho4, hb4, hz4⟩
      have hr4 := Row.of_own2 ho4
      have hr14 := (((hr1.below hb2).below (hb3.mono hb2.size)).below hb4).more (Nat.le_trans (Nat.le_trans hb2.size hb3.size) hb4.size)
      have hbw4 := hbw3.trans (hb4.mono hb1.size)
      clear ho3 ho4 hr13 hz4
      go_wp2_with fail
      refine (heldSpanS_any A2 xs.length c2 1 W4 hr4 (by omega) (by omega) (by omega)).mono ?_
      rintro e w' ⟨rfl, q5, rfl⟩
      have hbw5 := below_drewN hbw4 q5
      go_wp2_with fail
      refine (H2.out _).mono ?_
      rintro e W6 ⟨A6, c6, rfl, ho6, hb6⟩
      have hr6 := Row.of_own2 ho6
      have hr16 := ((hr14.drewN q5).below hb6).more hb6.size
      have hr46 := ((hr4.drewN q5).below hb6).more hb6.size
      have hbw6 := hbw5.trans (hb6.mono hbw5.size)
      clear ho6
      go_wp2_with fail
      refine (eqSpanS_same A6 A _ _ c6 c xs W6 hr6 hr16 rfl rfl (by omega)).mono ?_
      rintro e W7 ⟨rfl, hb7⟩
      have hr47 := (hr46.below hb7).more hb7.size
      have hbw7 := hbw6.trans (hb7.mono hbw6.size)
      go_wp2_with fail
      refine (heldSpanS_any A2 xs.length c2 1 W7 hr47 (by omega) (by omega) (by omega)).mono ?_
      rintro e w' ⟨rfl, q8, rfl⟩
      have hfin := below_drewN hbw7 q8
      go_wp2_with fail
      all_goals (go_ret; exact ⟨by first | rfl | simp, hfin⟩)
    · go_enter Try.func5, Try.ntmps5
      go_wp2
      go_ret
      exact ⟨rfl, Below.refl _ _⟩
  · go_enter Try.func5, Try.ntmps5
    go_wp2
    go_ret
    exact ⟨rfl, Below.refl _ _⟩
end Go.Proofs.Ytkjippbnpaaaaaa
