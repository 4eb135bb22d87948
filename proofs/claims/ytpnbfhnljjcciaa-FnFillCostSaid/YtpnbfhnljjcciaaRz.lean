/- What is drawn for the law on costs: lines and a width. -/
import Derived.Test.YtpnbfhnljjcciaaRu
import Derived.Test.YtpnbfhnljjcciaaFh
set_option linter.unusedVariables false
set_option linter.unusedSimpArgs false
namespace Go.Proofs.Ytpnbfhnljjcciaa
open Go.RowKit
theorem own_beside {w w' : World} {base size n R : Nat} {e : TypeId} {v : Value} {xs : List Value} (h : w.ownsRow base e size v n xs) (hb : Beside R w w') (hR : R < base) : w'.ownsRow base e size v n xs := by
  refine h.kept (row := some R) hb ?_
  cases hv : v.ownBlock with
  | none => exact .inl rfl
  | some k =>
    refine .inr fun e => ?_
    injection e with e
    have := (h.lt k hv).1
    omega
theorem own_cap {w : World} {base size n c : Nat} {e : TypeId} {A : Option Addr} {xs : List Value} (h : w.ownsRow base e size (.slice A n c) n xs) : n ≤ c := by
  rcases h.2 with ⟨h1, h2⟩ | ⟨g, cap, cur, h1, _, _, h3, _⟩
  · omega
  · injection h1 with _ _ h1
    omega
theorem empties : (madeCells #[Value.string .empty] 121).toList = strVals (List.replicate 121 .empty) := by first | kernel_rfl | simp [madeCells, strVals] | decide
def DFill (w : World) (e : Ending) (w' : World) : Prop :=
  ∃ (A : Option Addr) (c : Nat) (ss : List ByteArray) (v : Int), e = .returned (.tuple #[.slice A ss.length c, .int .i64 v]) ∧ Row w' w'.heap.size A (strVals ss) ∧ ss.length ≤ c ∧ ss.length ≤ 300 ∧ (∀ x ∈ ss, x.size ≤ 100000) ∧ 3 ≤ v ∧ v ≤ 41 ∧ Below w.heap.size w w'
set_option maxRecDepth 100000 in
set_option maxHeartbeats 2000000 in
theorem dDrawFillCost (A : Option Addr) (n c : Nat) (zs : List Int) (w : World) (h : IsBytes w A n c zs) :
    Calls Try.prog 29 #[.slice A n c] w (DFill w) := by
  obtain ⟨i0, hi, hz0, hz1, hz2⟩ := info_parts infoStr
  have hmk : ∀ W, (Instr.makeSlice 39 (.int .i64 121) (.int .i64 121)).run Try.prog W = .ok (.slice (some ⟨W.heap.size, 0, none⟩) 121 121) (W.alloc (.cells (madeCells #[Value.string .empty] 121) 9)) := fun W => mk_row (P := Try.prog) (z := .string .empty) Try.underlying39 hi hz0 hz1 121 (by rw [hz2]; omega) (by omega) W
  go_enter Try.func29, Try.ntmps29
  go_wp2_with fail
  refine (open_any A n c zs _ h).mono ?_
  rintro e W1 ⟨rfl, hR, hb, hsz⟩
  obtain ⟨B, hB⟩ : ∃ B, w.heap.size = B := ⟨_, rfl⟩
  rw [hB] at hR hb hsz ⊢
  have HB := Lib.hid hB
  clear hB
  go_wp2_with fail
  refine (text_any B 0 0 _ hR (by omega) (by omega) (by omega)).mono ?_
  rintro e W2 ⟨s, p2, rfl, hs, hp1, hp2, hR2, hb2⟩
  go_wp2_with fail
  refine (width_any B p2 _ hR2 (by omega)).mono ?_
  rintro e W3 ⟨v, p3, rfl, hv1, hv2, hp3, hp4, hR3, hb3⟩
  have hbw3 := hb.trans ((hb2.trans hb3).below (Nat.le_refl _) (by omega))
  have hB3 : B < W3.heap.size := hR3.lt
  clear hb hb2 hb3 hsz hR hR2
  go_wp2_with fail
  refine (sFG_few s v _ hs).mono ?_
  rintro e W4 ⟨ss, ⟨A4, c4, rfl, ho4, hb4⟩, hl4, hz4⟩
  have hR4 := hR3.below hb4 hB3
  have hbw4 := hbw3.trans (hb4.mono (Nat.le_of_lt hB3))
  have hB4 : B < W4.heap.size := hR4.lt
  have hBs4 : W3.heap.size ≤ W4.heap.size := hb4.size
  clear hb4 hbw3
  go_wp2_with fail
  refine (pick_any B p3 2 _ hR4 (by omega) (by omega)).mono ?_
  rintro e W5 ⟨x, hx1, hx2, rfl, hR5, hb5, hs5⟩
  have hxx := hx2 (by omega)
  have ho5 := own_beside ho4 hb5 hB3
  have hBs5 : W3.heap.size ≤ W5.heap.size := by have := hb5.size; omega
  have hbw5 := hbw4.trans (hb5.below (Nat.le_refl _) (Nat.le_of_lt hB4))
  have hB5 : B < W5.heap.size := hR5.lt
  have HZ4 := Lib.hid hz4
  clear hb5 hbw4 ho4 hs5 hx2 hR4 hz4
  rcases (show x = 0 ∨ x = 1 by omega) with rfl | rfl
  · go_wp2_with fail
    refine (sLns_few s _ hs).mono ?_
    rintro e W6 ⟨ss6, ⟨A6, c6, rfl, ho6, hb6⟩, hl6, hz6⟩
    have hR6 := hR5.below hb6 hB5
    have hbw6 := hbw5.trans (hb6.mono (Nat.le_of_lt hB5))
    have hB6 : B < W6.heap.size := hR6.lt
    have hBs6 : W5.heap.size ≤ W6.heap.size := hb6.size
    have HZ6 := Lib.hid hz6
    clear hb6 hbw5 ho5 hz6
    go_wp2_with fail
    refine (odd_any B (p3 + 1) 14 _ hR6 (by omega) (by omega) (by omega)).mono ?_
    rintro e W7 ⟨b7, p7, rfl, hp7, hp7', hR7, hb7, hs7⟩
    have ho7 := own_beside ho6 hb7 (by omega)
    have hbw7 := hbw6.trans (hb7.below (Nat.le_refl _) (Nat.le_of_lt hB6))
    have hB7 : B < W7.heap.size := hR7.lt
    have hBs7 : W5.heap.size ≤ W7.heap.size := by have := hb7.size; omega
    clear hb7 hs7 ho6
    cases b7
    · skip
      go_wp2_with fail
      refine (odd_any B p7 24 _ hR7 (by omega) (by omega) (by omega)).mono ?_
      rintro e W9 ⟨b9, p9, rfl, hp9, hp9', hR9, hb9, hs9⟩
      have ho9 := own_beside ho7 hb9 (by omega)
      have hbw9 := hbw7.trans (hb9.below (Nat.le_refl _) (Nat.le_of_lt hB7))
      have hr9 := Row.of_own ho9
      have hc9 := own_cap ho9
      have HW9 := Lib.hid hbw9
      have hB9 : B ≤ W9.heap.size := Nat.le_of_lt hR9.lt
      clear hb9 hs9 ho9 hbw9
      cases b9
      · go_wp2_with fail
        go_ret2
        exact ⟨A6, c6, ss6, v, by first | rfl | (rw [List.length_append]; rfl), hr9, hc9, by first | omega | (simp; omega), HZ6.out, hv1, hv2, by rw [HB.out]; exact HW9.out⟩
      · have hm := World.ownsRow_lit (base := W9.heap.size) (e := 9) (size := 1) W9 (madeCells #[Value.string .empty] 121) 121 (Nat.le_refl _) (by unfold maxLen; omega) (by rw [size_madeCells] <;> rfl)
        rw [empties] at hm
        have HMM := Lib.hid (And.intro (Row.of_own hm) (HW9.out.alloc hB9 (.cells (madeCells #[Value.string .empty] 121) 9)))
        clear hm
        go_wp2_with fail
        go_ret2
        exact ⟨_, 121, List.replicate 121 .empty, v, rfl, HMM.out.1, by simp, by simp, fun x hx => by (have := List.eq_of_mem_replicate hx); subst this; exact Nat.zero_le _, hv1, hv2, by rw [HB.out]; exact HMM.out.2⟩
    · go_wp2_with (first | (at_builtin; refine wpList_append_own _ rfl _ _ 39 rfl W5.heap.size 9 i0 (.string .empty) 1 16 Try.underlying39 hi hz0 hz1 hz2 rfl (by decide) _ _ _ rfl (ho7.alloc _) ⟨W7.heap.size, 0, none⟩ 1 1 [.string (⟨([108, 111, 110, 103, 32, 108, 111, 110, 103, 32, 108, 111, 110, 103, 32, 108, 111, 110, 103, 32, 108, 111, 110, 103, 32, 108, 111, 110, 103, 32, 108, 111, 110, 103, 32, 108, 111, 110, 103, 32, 108, 111, 110, 103, 32, 108, 111, 110, 103, 32, 108, 111, 110, 103, 32, 108, 111, 110, 103, 32, 108, 111].append [110, 103, 32, 108, 111, 110, 103, 32, 108, 111, 110, 103, 32, 108, 111, 110, 103, 32, 108, 111, 110, 103, 32, 108, 111, 110, 103, 32, 108, 111, 110, 103, 32, 108, 111, 110, 103, 32, 108, 111, 110, 103, 32, 108, 111, 110, 103, 32, 108, 111, 110, 103, 32, 108, 111, 110, 103, 32, 108, 111, 110, 103, 32]).toArray⟩ : ByteArray)] rfl rfl (news1 _ _ _) (ones1 _) (by unfold maxLen; omega) (by omega) (by simp; omega) ?_))
      intro v' w8 hown' hgrow _
      obtain ⟨ho8, hbx8⟩ := str_add (xs := ss6) (Below.refl W5.heap.size W7) hBs7 ho7 hown' hgrow
      have hR8 := hR7.below hbx8 (by omega)
      have hbw8 := hbw7.trans (hbx8.mono (by omega))
      have hB8 : B < w8.heap.size := hR8.lt
      obtain ⟨A8, c8, rfl⟩ := own_form3 ho8
      have HZ8 : Hid (∀ x ∈ ss6 ++ [(⟨([108, 111, 110, 103, 32, 108, 111, 110, 103, 32, 108, 111, 110, 103, 32, 108, 111, 110, 103, 32, 108, 111, 110, 103, 32, 108, 111, 110, 103, 32, 108, 111, 110, 103, 32, 108, 111, 110, 103, 32, 108, 111, 110, 103, 32, 108, 111, 110, 103, 32, 108, 111, 110, 103, 32, 108, 111, 110, 103, 32, 108, 111].append [110, 103, 32, 108, 111, 110, 103, 32, 108, 111, 110, 103, 32, 108, 111, 110, 103, 32, 108, 111, 110, 103, 32, 108, 111, 110, 103, 32, 108, 111, 110, 103, 32, 108, 111, 110, 103, 32, 108, 111, 110, 103, 32, 108, 111, 110, 103, 32, 108, 111, 110, 103, 32, 108, 111, 110, 103, 32, 108, 111, 110, 103, 32]).toArray⟩ : ByteArray)], x.size ≤ 100000) := Lib.hid (fun x hx => by
        rcases List.mem_append.1 hx with h | h
        · exact HZ6.out x h
        · obtain rfl : x = (⟨([108, 111, 110, 103, 32, 108, 111, 110, 103, 32, 108, 111, 110, 103, 32, 108, 111, 110, 103, 32, 108, 111, 110, 103, 32, 108, 111, 110, 103, 32, 108, 111, 110, 103, 32, 108, 111, 110, 103, 32, 108, 111, 110, 103, 32, 108, 111, 110, 103, 32, 108, 111, 110, 103, 32, 108, 111, 110, 103, 32, 108, 111].append [110, 103, 32, 108, 111, 110, 103, 32, 108, 111, 110, 103, 32, 108, 111, 110, 103, 32, 108, 111, 110, 103, 32, 108, 111, 110, 103, 32, 108, 111, 110, 103, 32, 108, 111, 110, 103, 32, 108, 111, 110, 103, 32, 108, 111, 110, 103, 32, 108, 111, 110, 103, 32, 108, 111, 110, 103, 32, 108, 111, 110, 103, 32]).toArray⟩ : ByteArray) := by simpa using h
          decide)
      clear hown' hgrow hbx8 ho7
      go_wp2_with fail
      refine (odd_any B p7 24 _ hR8 (by omega) (by omega) (by omega)).mono ?_
      rintro e W9 ⟨b9, p9, rfl, hp9, hp9', hR9, hb9, hs9⟩
      have ho9 := own_beside ho8 hb9 (by omega)
      have hbw9 := hbw8.trans (hb9.below (Nat.le_refl _) (Nat.le_of_lt hB8))
      have hr9 := Row.of_own ho9
      have hc9 := own_cap ho9
      have HW9 := Lib.hid hbw9
      have hB9 : B ≤ W9.heap.size := Nat.le_of_lt hR9.lt
      clear hb9 hs9 ho9 hbw9
      cases b9
      · go_wp2_with fail
        go_ret2
        exact ⟨A8, c8, ss6 ++ [(⟨([108, 111, 110, 103, 32, 108, 111, 110, 103, 32, 108, 111, 110, 103, 32, 108, 111, 110, 103, 32, 108, 111, 110, 103, 32, 108, 111, 110, 103, 32, 108, 111, 110, 103, 32, 108, 111, 110, 103, 32, 108, 111, 110, 103, 32, 108, 111, 110, 103, 32, 108, 111, 110, 103, 32, 108, 111, 110, 103, 32, 108, 111].append [110, 103, 32, 108, 111, 110, 103, 32, 108, 111, 110, 103, 32, 108, 111, 110, 103, 32, 108, 111, 110, 103, 32, 108, 111, 110, 103, 32, 108, 111, 110, 103, 32, 108, 111, 110, 103, 32, 108, 111, 110, 103, 32, 108, 111, 110, 103, 32, 108, 111, 110, 103, 32, 108, 111, 110, 103, 32, 108, 111, 110, 103, 32]).toArray⟩ : ByteArray)], v, by first | rfl | (rw [List.length_append]; rfl), hr9, hc9, by first | omega | (simp; omega), HZ8.out, hv1, hv2, by rw [HB.out]; exact HW9.out⟩
      · have hm := World.ownsRow_lit (base := W9.heap.size) (e := 9) (size := 1) W9 (madeCells #[Value.string .empty] 121) 121 (Nat.le_refl _) (by unfold maxLen; omega) (by rw [size_madeCells] <;> rfl)
        rw [empties] at hm
        have HMM := Lib.hid (And.intro (Row.of_own hm) (HW9.out.alloc hB9 (.cells (madeCells #[Value.string .empty] 121) 9)))
        clear hm
        go_wp2_with fail
        go_ret2
        exact ⟨_, 121, List.replicate 121 .empty, v, rfl, HMM.out.1, by simp, by simp, fun x hx => by (have := List.eq_of_mem_replicate hx); subst this; exact Nat.zero_le _, hv1, hv2, by rw [HB.out]; exact HMM.out.2⟩
  · skip
    go_wp2_with fail
    refine (odd_any B (p3 + 1) 14 _ hR5 (by omega) (by omega) (by omega)).mono ?_
    rintro e W7 ⟨b7, p7, rfl, hp7, hp7', hR7, hb7, hs7⟩
    have ho7 := own_beside ho5 hb7 (by omega)
    have hbw7 := hbw5.trans (hb7.below (Nat.le_refl _) (Nat.le_of_lt hB5))
    have hB7 : B < W7.heap.size := hR7.lt
    have hBs7 : W3.heap.size ≤ W7.heap.size := by have := hb7.size; omega
    clear hb7 hs7 ho5
    cases b7
    · skip
      go_wp2_with fail
      refine (odd_any B p7 24 _ hR7 (by omega) (by omega) (by omega)).mono ?_
      rintro e W9 ⟨b9, p9, rfl, hp9, hp9', hR9, hb9, hs9⟩
      have ho9 := own_beside ho7 hb9 (by omega)
      have hbw9 := hbw7.trans (hb9.below (Nat.le_refl _) (Nat.le_of_lt hB7))
      have hr9 := Row.of_own ho9
      have hc9 := own_cap ho9
      have HW9 := Lib.hid hbw9
      have hB9 : B ≤ W9.heap.size := Nat.le_of_lt hR9.lt
      clear hb9 hs9 ho9 hbw9
      cases b9
      · go_wp2_with fail
        go_ret2
        exact ⟨A4, c4, ss, v, by first | rfl | (rw [List.length_append]; rfl), hr9, hc9, by first | omega | (simp; omega), HZ4.out, hv1, hv2, by rw [HB.out]; exact HW9.out⟩
      · have hm := World.ownsRow_lit (base := W9.heap.size) (e := 9) (size := 1) W9 (madeCells #[Value.string .empty] 121) 121 (Nat.le_refl _) (by unfold maxLen; omega) (by rw [size_madeCells] <;> rfl)
        rw [empties] at hm
        have HMM := Lib.hid (And.intro (Row.of_own hm) (HW9.out.alloc hB9 (.cells (madeCells #[Value.string .empty] 121) 9)))
        clear hm
        go_wp2_with fail
        go_ret2
        exact ⟨_, 121, List.replicate 121 .empty, v, rfl, HMM.out.1, by simp, by simp, fun x hx => by (have := List.eq_of_mem_replicate hx); subst this; exact Nat.zero_le _, hv1, hv2, by rw [HB.out]; exact HMM.out.2⟩
    · go_wp2_with (first | (at_builtin; refine wpList_append_own _ rfl _ _ 39 rfl W3.heap.size 9 i0 (.string .empty) 1 16 Try.underlying39 hi hz0 hz1 hz2 rfl (by decide) _ _ _ rfl (ho7.alloc _) ⟨W7.heap.size, 0, none⟩ 1 1 [.string (⟨([108, 111, 110, 103, 32, 108, 111, 110, 103, 32, 108, 111, 110, 103, 32, 108, 111, 110, 103, 32, 108, 111, 110, 103, 32, 108, 111, 110, 103, 32, 108, 111, 110, 103, 32, 108, 111, 110, 103, 32, 108, 111, 110, 103, 32, 108, 111, 110, 103, 32, 108, 111, 110, 103, 32, 108, 111, 110, 103, 32, 108, 111].append [110, 103, 32, 108, 111, 110, 103, 32, 108, 111, 110, 103, 32, 108, 111, 110, 103, 32, 108, 111, 110, 103, 32, 108, 111, 110, 103, 32, 108, 111, 110, 103, 32, 108, 111, 110, 103, 32, 108, 111, 110, 103, 32, 108, 111, 110, 103, 32, 108, 111, 110, 103, 32, 108, 111, 110, 103, 32, 108, 111, 110, 103, 32]).toArray⟩ : ByteArray)] rfl rfl (news1 _ _ _) (ones1 _) (by unfold maxLen; omega) (by omega) (by simp; omega) ?_))
      intro v' w8 hown' hgrow _
      obtain ⟨ho8, hbx8⟩ := str_add (xs := ss) (Below.refl W3.heap.size W7) hBs7 ho7 hown' hgrow
      have hR8 := hR7.below hbx8 (by omega)
      have hbw8 := hbw7.trans (hbx8.mono (by omega))
      have hB8 : B < w8.heap.size := hR8.lt
      obtain ⟨A8, c8, rfl⟩ := own_form3 ho8
      have HZ8 : Hid (∀ x ∈ ss ++ [(⟨([108, 111, 110, 103, 32, 108, 111, 110, 103, 32, 108, 111, 110, 103, 32, 108, 111, 110, 103, 32, 108, 111, 110, 103, 32, 108, 111, 110, 103, 32, 108, 111, 110, 103, 32, 108, 111, 110, 103, 32, 108, 111, 110, 103, 32, 108, 111, 110, 103, 32, 108, 111, 110, 103, 32, 108, 111, 110, 103, 32, 108, 111].append [110, 103, 32, 108, 111, 110, 103, 32, 108, 111, 110, 103, 32, 108, 111, 110, 103, 32, 108, 111, 110, 103, 32, 108, 111, 110, 103, 32, 108, 111, 110, 103, 32, 108, 111, 110, 103, 32, 108, 111, 110, 103, 32, 108, 111, 110, 103, 32, 108, 111, 110, 103, 32, 108, 111, 110, 103, 32, 108, 111, 110, 103, 32]).toArray⟩ : ByteArray)], x.size ≤ 100000) := Lib.hid (fun x hx => by
        rcases List.mem_append.1 hx with h | h
        · exact HZ4.out x h
        · obtain rfl : x = (⟨([108, 111, 110, 103, 32, 108, 111, 110, 103, 32, 108, 111, 110, 103, 32, 108, 111, 110, 103, 32, 108, 111, 110, 103, 32, 108, 111, 110, 103, 32, 108, 111, 110, 103, 32, 108, 111, 110, 103, 32, 108, 111, 110, 103, 32, 108, 111, 110, 103, 32, 108, 111, 110, 103, 32, 108, 111, 110, 103, 32, 108, 111].append [110, 103, 32, 108, 111, 110, 103, 32, 108, 111, 110, 103, 32, 108, 111, 110, 103, 32, 108, 111, 110, 103, 32, 108, 111, 110, 103, 32, 108, 111, 110, 103, 32, 108, 111, 110, 103, 32, 108, 111, 110, 103, 32, 108, 111, 110, 103, 32, 108, 111, 110, 103, 32, 108, 111, 110, 103, 32, 108, 111, 110, 103, 32]).toArray⟩ : ByteArray) := by simpa using h
          decide)
      clear hown' hgrow hbx8 ho7
      go_wp2_with fail
      refine (odd_any B p7 24 _ hR8 (by omega) (by omega) (by omega)).mono ?_
      rintro e W9 ⟨b9, p9, rfl, hp9, hp9', hR9, hb9, hs9⟩
      have ho9 := own_beside ho8 hb9 (by omega)
      have hbw9 := hbw8.trans (hb9.below (Nat.le_refl _) (Nat.le_of_lt hB8))
      have hr9 := Row.of_own ho9
      have hc9 := own_cap ho9
      have HW9 := Lib.hid hbw9
      have hB9 : B ≤ W9.heap.size := Nat.le_of_lt hR9.lt
      clear hb9 hs9 ho9 hbw9
      cases b9
      · go_wp2_with fail
        go_ret2
        exact ⟨A8, c8, ss ++ [(⟨([108, 111, 110, 103, 32, 108, 111, 110, 103, 32, 108, 111, 110, 103, 32, 108, 111, 110, 103, 32, 108, 111, 110, 103, 32, 108, 111, 110, 103, 32, 108, 111, 110, 103, 32, 108, 111, 110, 103, 32, 108, 111, 110, 103, 32, 108, 111, 110, 103, 32, 108, 111, 110, 103, 32, 108, 111, 110, 103, 32, 108, 111].append [110, 103, 32, 108, 111, 110, 103, 32, 108, 111, 110, 103, 32, 108, 111, 110, 103, 32, 108, 111, 110, 103, 32, 108, 111, 110, 103, 32, 108, 111, 110, 103, 32, 108, 111, 110, 103, 32, 108, 111, 110, 103, 32, 108, 111, 110, 103, 32, 108, 111, 110, 103, 32, 108, 111, 110, 103, 32, 108, 111, 110, 103, 32]).toArray⟩ : ByteArray)], v, by first | rfl | (rw [List.length_append]; rfl), hr9, hc9, by first | omega | (simp; omega), HZ8.out, hv1, hv2, by rw [HB.out]; exact HW9.out⟩
      · have hm := World.ownsRow_lit (base := W9.heap.size) (e := 9) (size := 1) W9 (madeCells #[Value.string .empty] 121) 121 (Nat.le_refl _) (by unfold maxLen; omega) (by rw [size_madeCells] <;> rfl)
        rw [empties] at hm
        have HMM := Lib.hid (And.intro (Row.of_own hm) (HW9.out.alloc hB9 (.cells (madeCells #[Value.string .empty] 121) 9)))
        clear hm
        go_wp2_with fail
        go_ret2
        exact ⟨_, 121, List.replicate 121 .empty, v, rfl, HMM.out.1, by simp, by simp, fun x hx => by (have := List.eq_of_mem_replicate hx); subst this; exact Nat.zero_le _, hv1, hv2, by rw [HB.out]; exact HMM.out.2⟩
end Go.Proofs.Ytpnbfhnljjcciaa
