/- What is drawn: a text with marks. -/
import Derived.Test.YtlnldnenkajcdaaRy
import Derived.Test.YtlnldnenkajcdaaVs
set_option linter.unusedVariables false
set_option linter.unusedSimpArgs false
namespace Go.Proofs.Ytlnldnenkajcdaa
open Go.RowKit
theorem Beside.then_below {R : Nat} {a w w' : World} (h : Beside R a w) (k : Below a.heap.size w w') : Beside R a w' :=
  ⟨k.os.trans h.os, k.tape.trans h.tape, k.output.trans h.output, Nat.le_trans h.size k.size, fun i hi hne => (k.block i hi).trans (h.block i hi hne)⟩
theorem own_beside {R : Nat} {w w' : World} {base size n c : Nat} {e : TypeId} {A : Option Addr} {xs : List Value} (h : w.ownsRow base e size (.slice A n c) n xs) (hb : Beside R w w') (hR : R < base) : w'.ownsRow base e size (.slice A n c) n xs := by
  refine h.kept hb ?_
  cases A with
  | none => exact .inl rfl
  | some a =>
    right
    have := (h.lt a.block rfl).1
    intro e
    injection e with e
    omega
theorem made11 : (madeCells #[Value.int IntKind.i64 0, Value.bool false] 22).toList = mks (List.replicate 11 ((0 : Int), false)) := by
  simp [madeCells, mks, List.replicate, List.range, List.range.loop]
/-- A text and marks that are drawn. -/
def MkPost (R p : Nat) (w : World) (e : Ending) (w' : World) : Prop :=
  ∃ (s : ByteArray) (A : Option Addr) (c : Nat) (zs : List (Int × Bool)) (p' : Nat), e = .returned (.tuple #[.string s, .slice A zs.length c]) ∧ s.size ≤ 200 ∧ zs.length ≤ 11 ∧ p ≤ p' ∧ p' ≤ p + 200 ∧ w'.ownsRow w.heap.size 46 2 (.slice A zs.length c) zs.length (mks zs) ∧ IsRd w' R p' ∧ Beside R w w'
def MkRel (R p B : Nat) (w : World) (lv kv : Value) (wr : World) : Prop :=
  ∃ (A : Option Addr) (c : Nat) (zs : List (Int × Bool)) (k p1 : Nat), lv = .slice A zs.length c ∧ kv = .int .i64 k ∧ zs.length + k ≤ 5 ∧ p ≤ p1 ∧ p1 + 10 * k ≤ p + 150 ∧ Hid (wr.ownsRow B 46 2 (.slice A zs.length c) zs.length (mks zs)) ∧ IsRd wr R p1 ∧ Beside R w wr
set_option maxHeartbeats 4000000 in
set_option maxRecDepth 100000 in
theorem marks_any (R p : Nat) (n : Int) (w : World) (h : IsRd w R p) (hp : p ≤ 800000) (hn : n ≤ 1000000) (hn0 : -1000000 ≤ n) :
    Calls Try.prog 30 #[.pointer (some ⟨R, 0, none⟩), .int .i64 n] w (MkPost R p w) := by
  have hmade : ∀ W : World, w.heap.size ≤ W.heap.size → (W.alloc (.cells #[] 46)).ownsRow w.heap.size 46 2 (.slice (some ⟨W.heap.size, 0, none⟩) 0 0) 0 [] := fun W hW => World.ownsRow_made W #[] 0 hW (by decide) rfl
  have hRl := h.lt
  obtain ⟨i0, hi, hz0, hz1, hz2⟩ := info_parts2 infoMark
  obtain ⟨B, hB⟩ : ∃ B, w.heap.size = B := ⟨_, rfl⟩
  go_enter Try.func30, Try.ntmps30
  go_wp2_with fail
  refine (text_any R p n _ h (by omega) hn hn0).mono ?_
  rintro e W1 ⟨s, p1, rfl, hs1, hp1, hp2, hr1, hb1⟩
  have HM := Lib.hid (hmade W1 hb1.size)
  clear hmade
  go_wp2_with fail
  refine (pick_any R p1 6 _ (hr1.alloc _) (by omega) (by omega)).mono ?_
  rintro e W2 ⟨v, hv1, hv2, rfl, hr2, hb2, hs2⟩
  have hvv := hv2 (by omega)
  obtain ⟨k0, rfl⟩ := Int.eq_ofNat_of_zero_le hv1
  have HO := Lib.hid (own_beside HM.out hb2 hRl)
  have hb3 := (hb1.alloc _).trans hb2
  clear hb1 hb2 hs2 hv2 hv1 hr1 HM
  rw [hB] at HO hRl
  go_wp2_with fail
  go_loopw [7, 8] (fun lv kv wr => MkRel R p B w lv kv wr) (fun _ kv _ => (intOf kv).toNat)
  case atStart => exact ⟨_, 0, [], k0, p1 + 1, rfl, rfl, by simp; omega, by omega, by omega, HO, hr2, hb3⟩
  case round =>
    obtain ⟨A, c, zs, k, p2, rfl, rfl, hk, hp3, hp4, hO, hR, hbs⟩ := hrel
    clear hr2 hb3 HO
    rcases k with _ | q
    · go_wp2_with fail
      refine (odd_any R p2 n _ hR (by omega) hn hn0).mono ?_
      rintro e W3 ⟨b, p3, rfl, hp5, hp6, hR3, hb4, hs3⟩
      have HO3 := Lib.hid (own_beside hO.out hb4 hRl)
      have hb5 := hbs.trans hb4
      clear hb4 hR hO hbs hs3
      cases b
      · go_wp2_with fail
        go_ret2
        refine ⟨s, A, c, zs, p3, rfl, hs1, by omega, by omega, by omega, hB.symm ▸ HO3.out, hR3, hb5⟩
      · go_wp2_with fail
        refine (pick_any R p3 2 _ hR3 (by omega) (by omega)).mono ?_
        rintro e W4 ⟨v, hv1, hv2, rfl, hR4, hb6, hs4⟩
        have hvv := hv2 (by omega)
        have HO4 := Lib.hid (own_beside HO3.out hb6 hRl)
        have hb7 := hb5.trans hb6
        have hszW : B ≤ W4.heap.size := hB ▸ hb7.size
        clear hb6 hb5 hR3 hs4 hv2 HO3
        by_cases c0 : v = 0
        · have e0 : (v == 0) = true := by simp [c0]
          clear c0
          go_wp2_with fail
          refine (place_any R (p3 + 1) s 1 _ hR4 (by omega) (by omega) (by omega) (by omega)).mono ?_
          rintro e W5 ⟨a, p5, rfl, ha1, ha2, hp7, hp8, hR5, hb8⟩
          have hO5 := own_beside HO4.out hb8 hRl
          have hb9 := hb7.trans hb8
          have hszW5 : B ≤ W5.heap.size := hB ▸ hb9.size
          clear hb8 hb7 hR4 HO4
          go_wp2_with (first | (at_builtin; refine wpList_append_own _ rfl _ _ 34 rfl B 46 i0 (.agg #[.int .i64 0, .bool false]) 2 16 Try.underlying34 hi hz0 hz1 hz2 rfl (by decide) _ zs.length (mks zs) rfl (hO5.alloc _) ⟨W5.heap.size, 0, none⟩ 1 1 [_, _] rfl rfl (newsM _ _ _ _) (onesM _ _) (by unfold maxLen; omega) (by omega) (by simp; omega) ?_))
          intro v6 w6 hown6 hg6 _
          have hbg : Below B W5 w6 := ((Below.refl B W5).alloc hszW5 _).grown hg6 (by simp; omega) (fun q hq => (hO5.lt q hq).1)
          have hR6 := hR5.below hbg hRl
          have hB6 := hb9.then_below (hB.symm ▸ hbg)
          rw [← mks_snoc] at hown6
          have hl6 : (zs ++ [(a, false)]).length = zs.length + 1 := by simp
          rw [← hl6] at hown6
          obtain ⟨A6, c6, rfl⟩ := own_form2 hown6
          have HO6 := Lib.hid hown6
          clear hO5 hb9 hR5 hg6 hown6 hbg
          rw [hl6] at HO6 ⊢
          go_wp2_with fail
          go_ret2
          refine ⟨s, A6, c6, _, _, by rw [hl6]; rfl, hs1, by rw [hl6]; omega, ?_, ?_, by rw [hB, hl6]; exact HO6.out, hR6, hB6⟩
          all_goals omega
        have e0 : (v == 0) = false := by simp [c0]
        clear c0
        have hO4 := HO4.out
        go_wp2_with (first | (at_make; refine wpList_make_full _ rfl _ _ 34 rfl B 46 i0 (.agg #[.int .i64 0, .bool false]) 2 Try.underlying34 hi hz0 hz1 .i64 .i64 11 11 11 rfl rfl rfl rfl (by rw [hz2]; decide) (by unfold maxLen; omega) hszW ?_))
        intro w5 hown5 hg5
        have hbg : Below B W4 w5 := (Below.refl B W4).grown hg5 (by omega) (fun q hq => by cases hq)
        have hR5 := hR4.below hbg hRl
        have hB5 := hb7.then_below (hB.symm ▸ hbg)
        replace hown5 : w5.ownsRow B 46 2 (.slice (some ⟨W4.heap.size, 0, none⟩) 11 11) 11 (mks (List.replicate 11 (0, false))) := made11 ▸ hown5
        have HO5 := Lib.hid hown5
        clear hO4 hb7 hR4 hg5 hown5 hbg
        go_wp2_with fail
        go_ret2
        refine ⟨s, _, 11, List.replicate 11 (0, false), _, rfl, hs1, by simp, ?_, ?_, by rw [hB]; exact HO5.out, hR5, hB5⟩
        all_goals omega
    · go_wp2_with fail
      refine (place_any R p2 s 0 _ hR (by omega) (by omega) (by omega) (by omega)).mono ?_
      rintro e W3 ⟨a, p3, rfl, ha1, ha2, hp5, hp6, hR3, hb4⟩
      have HO3 := Lib.hid (own_beside hO.out hb4 hRl)
      have hb5 := hbs.trans hb4
      clear hb4 hR hO hbs
      go_wp2_with fail
      refine (pick_any R p3 2 _ hR3 (by omega) (by omega)).mono ?_
      rintro e W7 ⟨d, hd1, hd2, rfl, hR7, hb12, hsd⟩
      have hdd := hd2 (by omega)
      have hO7 := own_beside HO3.out hb12 hRl
      have hb13 := hb5.trans hb12
      have hszW : B ≤ W7.heap.size := hB ▸ hb13.size
      clear hb12 hb5 hR3 HO3 hd2 hsd
      generalize hbb : (d == 0) = bb
      go_wp2_with (first | (at_builtin; refine wpList_append_own _ rfl _ _ 34 rfl B 46 i0 (.agg #[.int .i64 0, .bool false]) 2 16 Try.underlying34 hi hz0 hz1 hz2 rfl (by decide) _ zs.length (mks zs) rfl (hO7.alloc _) ⟨W7.heap.size, 0, none⟩ 1 1 [_, _] rfl rfl (newsM _ _ _ _) (onesM _ _) (by unfold maxLen; omega) (by omega) (by simp; omega) ?_))
      intro v5 w5 hown5 hg5 _
      have hbg : Below B W7 w5 := ((Below.refl B W7).alloc hszW _).grown hg5 (by simp; omega) (fun q hq => (hO7.lt q hq).1)
      have hR5 := hR7.below hbg hRl
      have hB5 := hb13.then_below (hB.symm ▸ hbg)
      rw [← mks_snoc] at hown5
      have hl5 : (zs ++ [(a, bb)]).length = zs.length + 1 := by simp
      rw [← hl5] at hown5
      obtain ⟨A5, c5, rfl⟩ := own_form2 hown5
      have HO5 := Lib.hid hown5
      clear hO7 hb13 hR7 hg5 hown5 hbg
      go_wp2_with fail
      go_roundw
      case rel => exact ⟨A5, c5, _, q, _, rfl, rfl, by rw [hl5]; omega, by omega, by omega, HO5, hR5, hB5⟩
      case measure => (simp [intOf] <;> omega)
end Go.Proofs.Ytlnldnenkajcdaa
