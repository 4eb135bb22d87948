/- What is drawn: a text that perhaps stands in another one; two texts and a place. -/
import Derived.Test.YtkjippbnpaaaaaaRy
set_option linter.unusedVariables false
set_option linter.unusedSimpArgs false
namespace Go.Proofs.Ytkjippbnpaaaaaa
open Go.RowKit

def WhatPost (R p : Nat) (w : World) (e : Ending) (w' : World) : Prop :=
  ∃ (t : ByteArray) (p' : Nat), e = .returned (.string t) ∧ t.size ≤ 200 ∧ p ≤ p' ∧ p' ≤ p + 4 ∧ IsRd w' R p' ∧ Beside R w w'
set_option maxRecDepth 100000 in
theorem what_any (R p : Nat) (s : ByteArray) (w : World) (h : IsRd w R p) (hp : p ≤ 900000) (hs : s.size ≤ 200) :
    Calls Try.prog 57 #[.pointer (some ⟨R, 0, none⟩), .string s] w (WhatPost R p w) := by
  go_enter Try.func57, Try.ntmps57
  go_wp2_with fail
  all_goals
    refine (pick_any R p _ _ h (by omega) (by omega)).mono ?_
    rintro e W3 ⟨v, hv1, hv2, rfl, hR3, hb3, hs3⟩
    have hvv := hv2 (by omega)
    obtain ⟨i, rfl⟩ := Int.eq_ofNat_of_zero_le hv1
    have his : i ≤ s.size := by omega
    clear hv2 hs3
    go_wp2_with fail
    refine (pick_any R (p + 1) 3 _ hR3 (by omega) (by omega)).mono ?_
    rintro e W4 ⟨u, hu1, hu2, rfl, hR4, hb4, hs4⟩
    have huu := hu2 (by omega)
    obtain ⟨m, rfl⟩ := Int.eq_ofNat_of_zero_le hu1
    have hb5 := hb3.trans hb4
    clear hb3 hb4 hs4 hR3 hu2
    go_wp2_with fail
    all_goals
      refine (pick_any R (p + 1 + 1) 6 ((W4.alloc (.cells #[.string _, .string _, .string ⟨#[97]⟩, .string ⟨#[97, 97]⟩, .string ⟨#[]⟩] 9)).alloc (.cells #[.int .i64 0, .int .i64 0, .int .i64 1, .int .i64 2, .int .i64 3, .int .i64 4] 3)) ((hR4.alloc _).alloc _) (by omega) (by omega)).mono ?_
      rintro e W5 ⟨j, hj1, hj2, rfl, hR5, hb6, hs6⟩
      have hjj := hj2 (by omega)
      have hb7 := ((hb5.alloc _).alloc _).trans hb6
      obtain ⟨hd, hq⟩ := hb6.two hR4.lt
      have hd0 := hd 0
      have hd1 := hd 1
      have hd2 := hd 2
      have hd3 := hd 3
      have hd4 := hd 4
      have hq0 := hq 0
      have hq1 := hq 1
      have hq2 := hq 2
      have hq3 := hq 3
      have hq4 := hq 4
      have hq5 := hq 5
      simp at hd0 hd1 hd2 hd3 hd4 hq0 hq1 hq2 hq3 hq4 hq5
      clear hd hq hb6 hs6 hb5 hj2 hR4
      rcases (show j = 0 ∨ j = 1 ∨ j = 2 ∨ j = 3 ∨ j = 4 ∨ j = 5 by omega) with rfl | rfl | rfl | rfl | rfl | rfl
      all_goals
        go_wp2_with fail
        go_ret
        exact ⟨_, p + 1 + 1 + 1, rfl, by first | (simp [ByteArray.size_extract, lit_size]; done) | (simp [ByteArray.size_extract, lit_size]; omega), by omega, by omega, hR5, hb7⟩
/-- Two texts that are drawn from a code. -/
def DTwo (w : World) (e : Ending) (w' : World) : Prop :=
  ∃ (s t : ByteArray), e = .returned (.tuple #[.string s, .string t]) ∧ s.size ≤ 200 ∧ t.size ≤ 200 ∧ Below w.heap.size w w'
theorem dDrawFindPlaces (A : Option Addr) (n c : Nat) (zs : List Int) (w : World) (h : IsBytes w A n c zs) :
    Calls Try.prog 33 #[.slice A n c] w (DTwo w) := by
  go_enter Try.func33, Try.ntmps33
  go_wp2_with fail
  refine (open_any A n c zs _ h).mono ?_
  rintro e W1 ⟨rfl, hR, hb, hsz⟩
  obtain ⟨B, hB⟩ : ∃ B, w.heap.size = B := ⟨_, rfl⟩
  rw [hB] at hR hb hsz ⊢
  have HB := Lib.hid hB
  clear hB
  go_wp2_with fail
  refine (text_any B 0 14 _ hR (by omega) (by omega) (by omega)).mono ?_
  rintro e W2 ⟨s, p2, rfl, hs, hp1, hp2, hR2, hb2⟩
  go_wp2_with fail
  refine (what_any B p2 s _ hR2 (by omega) hs).mono ?_
  rintro e W3 ⟨t, p3, rfl, ht, hp3, hp4, hR3, hb3⟩
  have hb4 := hb.trans ((hb2.trans hb3).below (Nat.le_refl _) (by omega))
  go_wp2_with fail
  go_ret2
  exact ⟨s, t, rfl, hs, ht, by rw [HB.out]; exact hb4⟩
end Go.Proofs.Ytkjippbnpaaaaaa
