/- What is drawn for the law on moves by lines: a text, a place, a number and a column. -/
import Derived.Test.YtpnbfhnljjcciaaRy
set_option linter.unusedVariables false
set_option linter.unusedSimpArgs false
namespace Go.Proofs.Ytpnbfhnljjcciaa
open Go.RowKit
theorem results_tmp4 {fn : Func} {t u v x : Tmp} (h : fn.results = #[.tmp t, .tmp u, .tmp v, .tmp x]) (tmps : Array Value) (P : Program) (w : World) :
    (results fn tmps).run P w = .ok (.tuple #[tmps.getD t undef, tmps.getD u undef, tmps.getD v undef, tmps.getD x undef]) w := by
  simp [results, h]
def DLineMove (w : World) (e : Ending) (w' : World) : Prop :=
  ∃ (s : ByteArray) (u b c : Int), e = .returned (.tuple #[.string s, .int .i64 u, .int .i64 b, .int .i64 c]) ∧ s.size ≤ 200 ∧ -1 ≤ u ∧ u ≤ s.size + 1 ∧ -121 ≤ b ∧ b ≤ 121 ∧ -1 ≤ c ∧ c ≤ 9 ∧ Below w.heap.size w w'
set_option maxRecDepth 100000 in
theorem dDrawLineMove (A : Option Addr) (n c : Nat) (zs : List Int) (w : World) (h : IsBytes w A n c zs) :
    Calls Try.prog 34 #[.slice A n c] w (DLineMove w) := by
  go_enter Try.func34, Try.ntmps34
  go_wp2_with fail
  refine (open_any A n c zs _ h).mono ?_
  rintro e W1 ⟨rfl, hR, hb, hsz⟩
  obtain ⟨B, hB⟩ : ∃ B, w.heap.size = B := ⟨_, rfl⟩
  rw [hB] at hR hb hsz ⊢
  have HB := Lib.hid hB
  clear hB
  go_wp2_with fail
  refine (spot_any B 0 _ hR (by omega)).mono ?_
  rintro e W4 ⟨s, u, p4, rfl, hs, hu1, hu2, hp1, hp2, hR4, hb4⟩
  go_wp2_with fail
  refine (pick_any B p4 7 _ hR4 (by omega) (by omega)).mono ?_
  rintro e W5 ⟨x, hx1, hx2, rfl, hR5, hb5, hs5⟩
  have hxx := hx2 (by omega)
  have hb6 := hb4.trans hb5
  clear hx2 hs5 hb4 hb5
  go_wp2_with fail
  refine (pick_any B (p4 + 1) 8 ((W5.alloc (.cells #[.int .i64 (x - 3), .int .i64 120, .int .i64 (-120), .int .i64 121] 3)).alloc (.cells #[.int .i64 0, .int .i64 0, .int .i64 0, .int .i64 0, .int .i64 0, .int .i64 1, .int .i64 2, .int .i64 3] 3)) ((hR5.alloc _).alloc _) (by omega) (by omega)).mono ?_
  rintro e W6 ⟨j, hj1, hj2, rfl, hR6, hb7, hs7⟩
  have hjj := hj2 (by omega)
  have hb8 := hb.trans ((((hb6.alloc _).alloc _).trans hb7).below (Nat.le_refl _) (by omega))
  obtain ⟨hd, hq⟩ := hb7.two hR5.lt
  have hd0 := hd 0
  have hd1 := hd 1
  have hd2 := hd 2
  have hd3 := hd 3
  have hq0 := hq 0
  have hq1 := hq 1
  have hq2 := hq 2
  have hq3 := hq 3
  have hq4 := hq 4
  have hq5 := hq 5
  have hq6 := hq 6
  have hq7 := hq 7
  simp at hd0 hd1 hd2 hd3 hq0 hq1 hq2 hq3 hq4 hq5 hq6 hq7
  have H8 := Lib.hid hb8
  clear hd hq hb7 hs7 hj2 hR5 hb6 hb8
  rcases (show j = 0 ∨ j = 1 ∨ j = 2 ∨ j = 3 ∨ j = 4 ∨ j = 5 ∨ j = 6 ∨ j = 7 by omega) with rfl | rfl | rfl | rfl | rfl | rfl | rfl | rfl
  all_goals
    go_wp2_with fail
    refine (pick_any B (p4 + 1 + 1) 9 _ hR6 (by omega) (by omega)).mono ?_
    rintro e W7 ⟨y, hy1, hy2, rfl, hR7, hb9, hs9⟩
    have hyy := hy2 (by omega)
    clear hd0 hd1 hd2 hd3 hq0 hq1 hq2 hq3 hq4 hq5 hq6 hq7
    go_wp2_with fail
    refine (pick_any B (p4 + 1 + 1 + 1) 14 _ hR7 (by omega) (by omega)).mono ?_
    rintro e W8 ⟨z, hz1, hz2, rfl, hR8, hb10, hs10⟩
    have hzz := hz2 (by omega)
    have hzt : z.tdiv 13 = z / 13 := Int.tdiv_eq_ediv_of_nonneg (by omega)
    have hfin := H8.out.trans ((hb9.trans hb10).below (Nat.le_refl _) (by have := hR6.lt; omega))
    have HF := Lib.hid hfin
    clear hfin hb9 hb10 hy2 hz2 hs9 hs10
    go_wp2_with fail
    (try simp only [Exit.inBlock, Exit.then])
    refine bodyPost_ret (results_tmp4 rfl _ _ _) rfl ?_
    exact ⟨s, u, _, _, rfl, hs, hu1, hu2, by omega, by omega, by omega, by omega, by rw [HB.out]; exact HF.out⟩
end Go.Proofs.Ytpnbfhnljjcciaa
