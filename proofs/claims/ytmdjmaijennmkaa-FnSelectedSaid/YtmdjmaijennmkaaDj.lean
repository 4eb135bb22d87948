/- What is drawn: a text with joined cursors; lists of cursors that are compared. -/
import Derived.Test.YtmdjmaijennmkaaDc
import Derived.Test.YtmdjmaijennmkaaAl
set_option linter.unusedVariables false
set_option linter.unusedSimpArgs false
namespace Go.Proofs.Ytmdjmaijennmkaa
open Go.RowKit
def JoinedPost (R p : Nat) (w : World) (e : Ending) (w' : World) : Prop :=
  ∃ (s : ByteArray) (A : Option Addr) (c : Nat) (zs : List (Int × Int)) (p' : Nat), e = .returned (.tuple #[.string s, .slice A zs.length c]) ∧ s.size ≤ 200 ∧ zs.length ≤ 9 ∧ p ≤ p' ∧ p' ≤ p + 110 ∧ w'.ownsRow w.heap.size 44 2 (.slice A zs.length c) zs.length (pairs zs) ∧ IsRd w' R p' ∧ Beside R w w'
theorem jc_small9 (s : ByteArray) (l : List (Int × Int)) : (jcL s l).length ≤ 8 := by
  unfold jcL
  split
  · rename_i h
    exact Nat.le_trans (joinR_len l) (plV_iff.1 h).2.2
  · simp
set_option maxRecDepth 100000 in
theorem joined_any (R p : Nat) (n : Int) (w : World) (h : IsRd w R p) (hp : p ≤ 800000) (hn : n ≤ 1000000) (hn0 : -1000000 ≤ n) :
    Calls Try.prog 55 #[.pointer (some ⟨R, 0, none⟩), .int .i64 n] w (JoinedPost R p w) := by
  have hRl := h.lt
  go_enter Try.func55, Try.ntmps55
  go_wp2_with fail
  refine (cursors_any R p 0 _ h (by omega) (by omega) (by omega)).mono ?_
  rintro e W1 ⟨s, A, c, zs, p1, rfl, hs, hz, hp1, hp2, ho1, hr1, hb1⟩
  go_wp2_with fail
  refine (sJC_any s A _ c zs W1 (by unfold maxLen; omega) (Row.of_own2 ho1) rfl (by omega)).mono ?_
  rintro e W2 ⟨A2, c2, rfl, ho2, hb2⟩
  have hl := jc_small9 s zs
  generalize jcL s zs = xs at *
  have hr2 := hr1.below hb2 hr1.lt
  have ho3 := own_below ho1 hb2
  have hbs := hb1.then_below (hb2.mono hb1.size)
  have ho4 := own_le ho2 hb1.size
  clear hr1 ho1 hb1 hb2 ho2
  go_wp2_with fail
  refine (odd_any R p1 n _ hr2 (by omega) hn hn0).mono ?_
  rintro e W3 ⟨b, p2, rfl, hp5, hp6, hR3, hb4, hs3⟩
  have ho5 := own_beside ho3 hb4 hRl
  have ho6 := own_beside ho4 hb4 hRl
  have hb5 := hbs.trans hb4
  clear hb4 ho3 ho4 hbs hr2 hs3
  cases b
  · go_wp2_with fail
    go_ret2
    refine ⟨s, A2, c2, xs, p2, rfl, hs, by omega, by omega, by omega, ho6, hR3, hb5⟩
  · go_wp2_with fail
    go_ret2
    refine ⟨s, A, c, zs, p2, rfl, hs, by omega, by omega, by omega, ho5, hR3, hb5⟩
/-- What is drawn: a text and cursors. -/
def DCurs (w : World) (e : Ending) (w' : World) : Prop :=
  ∃ (s : ByteArray) (A : Option Addr) (c : Nat) (zs : List (Int × Int)), e = .returned (.tuple #[.string s, .slice A zs.length c]) ∧ s.size ≤ 200 ∧ zs.length ≤ 9 ∧ w'.ownsRow w.heap.size 44 2 (.slice A zs.length c) zs.length (pairs zs) ∧ Below w.heap.size w w'
theorem dDrawCursorsValid (A : Option Addr) (n c : Nat) (zs : List Int) (w : World) (h : IsBytes w A n c zs) :
    Calls Try.prog 32 #[.slice A n c] w (DCurs w) := by
  go_enter Try.func32, Try.ntmps32
  go_wp2_with fail
  refine (open_any A n c zs w h).mono ?_
  rintro e W1 ⟨rfl, hr1, hb1, hz1⟩
  have hz1' : w.heap.size ≤ W1.heap.size := by omega
  go_wp2_with fail
  refine (pick_any w.heap.size 0 2 _ hr1 (by omega) (by omega)).mono ?_
  rintro e W2 ⟨v, hv1, hv2, rfl, hr2, hb2, hs2⟩
  have hvv := hv2 (by omega)
  have hb3 := hb1.trans (hb2.below (Nat.le_refl _) hz1')
  have hz2 : w.heap.size ≤ W2.heap.size := by omega
  clear hb2 hr1 hb1 hs2 hv2
  by_cases c0 : v = 0
  · have e0 : (v == 0) = true := by simp [c0]
    clear c0
    go_wp2_with fail
    refine (joined_any w.heap.size 1 0 _ hr2 (by omega) (by omega) (by omega)).mono ?_
    rintro e W3 ⟨s, A3, c3, ys, p', rfl, hs, hl, _, _, ho, hr3, hb4⟩
    go_wp2_with fail
    go_ret2
    exact ⟨s, A3, c3, ys, rfl, hs, hl, own_le ho hz2, hb3.trans (hb4.below (Nat.le_refl _) hz2)⟩
  · have e0 : (v == 0) = false := by simp [c0]
    clear c0
    go_wp2_with fail
    refine (cursors_any w.heap.size 1 3 _ hr2 (by omega) (by omega) (by omega)).mono ?_
    rintro e W3 ⟨s, A3, c3, ys, p', rfl, hs, hl, _, _, ho, hr3, hb4⟩
    go_wp2_with fail
    go_ret2
    exact ⟨s, A3, c3, ys, rfl, hs, hl, own_le ho hz2, hb3.trans (hb4.below (Nat.le_refl _) hz2)⟩
theorem dDrawSelected (A : Option Addr) (n c : Nat) (zs : List Int) (w : World) (h : IsBytes w A n c zs) :
    Calls Try.prog 34 #[.slice A n c] w (DCurs w) := by
  go_enter Try.func34, Try.ntmps34
  go_wp2_with fail
  refine (open_any A n c zs w h).mono ?_
  rintro e W1 ⟨rfl, hr1, hb1, hz1⟩
  have hz1' : w.heap.size ≤ W1.heap.size := by omega
  go_wp2_with fail
  refine (joined_any w.heap.size 0 6 _ hr1 (by omega) (by omega) (by omega)).mono ?_
  rintro e W3 ⟨s, A3, c3, ys, p', rfl, hs, hl, _, _, ho, hr3, hb4⟩
  go_wp2_with fail
  go_ret2
  exact ⟨s, A3, c3, ys, rfl, hs, hl, own_le ho hz1', hb1.trans (hb4.below (Nat.le_refl _) hz1')⟩
theorem dDrawEraseAll (A : Option Addr) (n c : Nat) (zs : List Int) (w : World) (h : IsBytes w A n c zs) :
    Calls Try.prog 39 #[.slice A n c] w (DCurs w) := by
  go_enter Try.func39, Try.ntmps39
  go_wp2_with fail
  refine (open_any A n c zs w h).mono ?_
  rintro e W1 ⟨rfl, hr1, hb1, hz1⟩
  have hz1' : w.heap.size ≤ W1.heap.size := by omega
  go_wp2_with fail
  refine (joined_any w.heap.size 0 9 _ hr1 (by omega) (by omega) (by omega)).mono ?_
  rintro e W3 ⟨s, A3, c3, ys, p', rfl, hs, hl, _, _, ho, hr3, hb4⟩
  go_wp2_with fail
  go_ret2
  exact ⟨s, A3, c3, ys, rfl, hs, hl, own_le ho hz1', hb1.trans (hb4.below (Nat.le_refl _) hz1')⟩
theorem dDrawJoinCursors (A : Option Addr) (n c : Nat) (zs : List Int) (w : World) (h : IsBytes w A n c zs) :
    Calls Try.prog 36 #[.slice A n c] w (DCurs w) := by
  go_enter Try.func36, Try.ntmps36
  go_wp2_with fail
  refine (open_any A n c zs w h).mono ?_
  rintro e W1 ⟨rfl, hr1, hb1, hz1⟩
  have hz1' : w.heap.size ≤ W1.heap.size := by omega
  go_wp2_with fail
  refine (cursors_any w.heap.size 0 9 _ hr1 (by omega) (by omega) (by omega)).mono ?_
  rintro e W3 ⟨s, A3, c3, ys, p', rfl, hs, hl, _, _, ho, hr3, hb4⟩
  go_wp2_with fail
  go_ret2
  exact ⟨s, A3, c3, ys, rfl, hs, hl, own_le ho hz1', hb1.trans (hb4.below (Nat.le_refl _) hz1')⟩
end Go.Proofs.Ytmdjmaijennmkaa
