/- What is drawn: a pattern. -/
import Derived.Test.YtlnldnenkajcdaaDoorRy
set_option linter.unusedVariables false
set_option linter.unusedSimpArgs false
namespace Go.Proofs.YtlnldnenkajcdaaDoor
open Go.RowKit
def PatPost (R p : Nat) (w : World) (e : Ending) (w' : World) : Prop :=
  ∃ (t : ByteArray) (p' : Nat), e = .returned (.string t) ∧ t.size ≤ 200 ∧ p ≤ p' ∧ p' ≤ p + 40 ∧ IsRd w' R p' ∧ Beside R w w'
def PatRel (R p : Nat) (w : World) (sv kv : Value) (wr : World) : Prop :=
  ∃ (s : ByteArray) (k p1 : Nat), sv = .string s ∧ kv = .int .i64 k ∧ k ≤ 4 ∧ s.size + 10 * k ≤ 40 ∧ p ≤ p1 ∧ p1 + 2 * k ≤ p + 9 ∧ IsRd wr R p1 ∧ Beside R w wr
set_option maxRecDepth 100000 in
theorem pattern_any (R p : Nat) (n : Int) (w : World) (h : IsRd w R p) (hp : p ≤ 900000) (hn : n ≤ 1000000) (hn0 : -1000000 ≤ n) :
    Calls Tryd.prog 34 #[.pointer (some ⟨R, 0, none⟩), .int .i64 n] w (PatPost R p w) := by
  go_enter Tryd.func34, Tryd.ntmps34
  go_wp2_with fail
  refine (pick_any R p 5 _ h (by omega) (by omega)).mono ?_
  rintro e W1 ⟨v, hv1, hv2, rfl, hr1, hb1, hs1⟩
  have hvv := hv2 (by omega)
  obtain ⟨k0, rfl⟩ := Int.eq_ofNat_of_zero_le hv1
  clear hs1 hv2 hv1
  go_wp2_with fail
  go_loopw [5, 6] (fun sv kv wr => PatRel R p w sv kv wr) (fun _ kv _ => (intOf kv).toNat)
  case atStart => exact ⟨_, k0, p + 1, rfl, rfl, by omega, by show 0 + 10 * k0 ≤ 40; omega, by omega, by omega, hr1, hb1⟩
  case round =>
    obtain ⟨s, k, p1, rfl, rfl, hk, hsz, hp1, hp2, hR, hbs⟩ := hrel
    clear hr1 hb1
    rcases k with _ | q
    · go_wp2_with fail
      refine (odd_any R p1 5 _ hR (by omega) (by omega) (by omega)).mono ?_
      rintro e W2 ⟨b, p2, rfl, hp3, hp4, hR2, hb2, hs2⟩
      have hb3 := hbs.trans hb2
      clear hb2 hR hbs hs2
      have hs1 : s.size ≤ 40 := by omega
      cases b
      all_goals
        go_wp2_with fail
        refine (odd_any R p2 5 _ hR2 (by omega) (by omega) (by omega)).mono ?_
        rintro e W3 ⟨b, p3, rfl, hp5, hp6, hR3, hb4, hs4⟩
        have hb5 := hb3.trans hb4
        clear hb4 hs4
        cases b
        all_goals
          go_wp2_with fail
          refine (odd_any R p3 n _ hR3 (by omega) hn hn0).mono ?_
          rintro e W4 ⟨b, p4, rfl, hp7, hp8, hR4, hb6, hs6⟩
          have hb7 := hb5.trans hb6
          clear hb6 hs6
          cases b
          · go_wp2_with fail
            go_ret
            exact ⟨_, p4, rfl, by first | omega | (simp [ByteArray.size_append, lit_size]; omega), by omega, by omega, hR4, hb7⟩
          · go_wp2_with fail
            refine (pick_any R p4 7 _ (hR4.alloc _) (by omega) (by omega)).mono ?_
            rintro e W5 ⟨j, hj1, hj2, rfl, hR5, hb8, hs8⟩
            have hjj := hj2 (by omega)
            have hd := hb8.one hR4.lt
            have hb9 := (hb7.alloc _).trans hb8
            have hd0 := hd 0
            have hd1 := hd 1
            have hd2 := hd 2
            have hd3 := hd 3
            have hd4 := hd 4
            have hd5 := hd 5
            have hd6 := hd 6
            simp at hd0 hd1 hd2 hd3 hd4 hd5 hd6
            clear hd hb8 hs8 hj2 hR4 hb7
            rcases (show j = 0 ∨ j = 1 ∨ j = 2 ∨ j = 3 ∨ j = 4 ∨ j = 5 ∨ j = 6 by omega) with rfl | rfl | rfl | rfl | rfl | rfl | rfl
            all_goals
              go_wp2_with fail
              go_ret
              exact ⟨_, p4 + 1, rfl, by first | (simp [lit_size]; done) | (simp [ByteArray.size_append, lit_size]; omega), by omega, by omega, hR5, hb9⟩
    · go_wp2_with fail
      refine (pick_any R p1 7 _ (hR.alloc _) (by omega) (by omega)).mono ?_
      rintro e W2 ⟨v, hv1, hv2, rfl, hR2, hb2, hs2⟩
      have hvv := hv2 (by omega)
      obtain ⟨i, rfl⟩ := Int.eq_ofNat_of_zero_le hv1
      obtain ⟨t, ht, hcell⟩ := ((Parts.new wr _ _ (by decide)).beside hb2 (by simp) (by have := hR.lt; omega)) i (by simp; omega)
      have hb3 := (hbs.alloc _).trans hb2
      clear hb2 hR hbs hs2 hv2 hv1
      go_wp2_with fail
      refine (pick_any R (p1 + 1) 3 _ hR2 (by omega) (by omega)).mono ?_
      rintro e W3 ⟨u, hu1, hu2, rfl, hR3, hb4, hs4⟩
      have hb5 := hb3.trans hb4
      clear hb3 hb4 hs4 hR2 hu2
      by_cases c0 : u = 0
      · have e0 : (u == 0) = true := by simp [c0]
        clear c0
        go_wp2_with fail
        go_roundw
        case rel => exact ⟨_, q, p1 + 1 + 1, rfl, rfl, by omega, by simp [ByteArray.size_append, lit_size]; omega, by omega, by omega, hR3, hb5⟩
        case measure => (simp [intOf] <;> omega)
      · have e0 : (u == 0) = false := by simp [c0]
        clear c0
        go_wp2_with fail
        go_roundw
        case rel => exact ⟨_, q, p1 + 1 + 1, rfl, rfl, by omega, by simp [ByteArray.size_append, lit_size]; omega, by omega, by omega, hR3, hb5⟩
        case measure => (simp [intOf] <;> omega)
end Go.Proofs.YtlnldnenkajcdaaDoor
