/- What is drawn for the law on RectPut: a text, a place and a rectangle. -/
import Derived.Test.YthcijegcnecnmaaDoorQg
import Derived.Test.YthcijegcnecnmaaDoorQo
set_option linter.unusedVariables false
set_option linter.unusedSimpArgs false
namespace Go.Proofs.YthcijegcnecnmaaDoor
open Go.RowKit
theorem bes_then {R : Nat} {a w w' : World} (h : Beside R a w) (k : Below a.heap.size w w') : Beside R a w' :=
  ⟨k.os.trans h.os, k.tape.trans h.tape, k.output.trans h.output, Nat.le_trans h.size k.size, fun i hi hne => (k.block i hi).trans (h.block i hi hne)⟩
theorem own_bes {R : Nat} {w w' : World} {base size n : Nat} {v : Value} {e : TypeId} {xs : List Value} (h : w.ownsRow base e size v n xs) (hb : Beside R w w') (hR : R < base) : w'.ownsRow base e size v n xs := by
  refine h.kept hb (.inr ?_)
  intro e
  have := (h.lt R e).1
  omega
def DPut (w : World) (e : Ending) (w' : World) : Prop :=
  ∃ (s : ByteArray) (u : Int) (A : Option Addr) (c : Nat) (ps : List ByteArray), e = .returned (.tuple #[.string s, .int .i64 u, .slice A ps.length c]) ∧ s.size ≤ 200 ∧ -1 ≤ u ∧ u ≤ s.size + 1 ∧ ps.length ≤ 4 ∧ (∀ x ∈ ps, x.size ≤ 3) ∧ Row w' w'.heap.size A (strVals ps) ∧ Below w.heap.size w w'
set_option maxHeartbeats 4000000 in
set_option maxRecDepth 100000 in
theorem dDrawRectPut (A : Option Addr) (n c : Nat) (zs : List Int) (w : World) (h : IsBytes w A n c zs) :
    Calls Tryd.prog 16 #[.slice A n c] w (DPut w) := by
  obtain ⟨i0, hi, hz0, hz1, hz2⟩ := info_parts infoStr
  go_enter Tryd.func16, Tryd.ntmps16
  go_wp2_with fail
  refine (open_any A n c zs _ h).mono ?_
  rintro e W1 ⟨rfl, hR, hb, hsz⟩
  obtain ⟨B, hB⟩ : ∃ B, w.heap.size = B := ⟨_, rfl⟩
  rw [hB] at hR hb hsz ⊢
  have HB := Lib.hid hB
  clear hB
  go_wp2_with fail
  refine (spot_any B 0 _ hR (by omega)).mono ?_
  rintro e W2 ⟨s, u, p1, rfl, hs, hu1, hu2, hp1, hp2, hR2, hb2⟩
  have hRB := hR2.lt
  have hb2s := hb2.size
  have hmade : (W2.alloc (.cells #[] 9)).ownsRow W2.heap.size 9 1 (.slice (some ⟨W2.heap.size, 0, none⟩) 0 0) 0 [] := World.ownsRow_made W2 #[] 0 (Nat.le_refl _) (by decide) rfl
  have HM := Lib.hid hmade
  have HBE := Lib.hid (hb2.alloc (.cells #[] 9))
  have hR3 := hR2.alloc (.cells #[] 9)
  clear hmade hR hR2 hb2
  go_wp2_with fail
  refine (pick_any B p1 4 _ hR3 (by omega) (by omega)).mono ?_
  rintro e W3 ⟨k0, hk1, hk2, rfl, hR4, hb4, hs4⟩
  have hkk := hk2 (by omega)
  have hown3 := own_bes HM.out hb4 hRB
  have hbe3 := HBE.out.trans hb4
  have hsz3 : W2.heap.size ≤ W3.heap.size := by simp at hs4; omega
  have HO3 := Lib.hid (And.intro hown3 (And.intro hbe3 hR4))
  clear hk2 hb4 HM HBE hR3 hR4 hown3 hbe3 hs4
  obtain ⟨kk, rfl⟩ := Int.eq_ofNat_of_zero_le hk1
  go_wp2_with fail
  go_loopw [8, 9] (fun ov kv wr => ∃ (k p : Nat) (ps : List ByteArray), kv = .int .i64 k ∧ k + ps.length ≤ 3 ∧ p ≤ 100 + ps.length ∧ Hid (∀ x ∈ ps, x.size ≤ 3) ∧ IsRd wr B p ∧ W2.heap.size ≤ wr.heap.size ∧ wr.ownsRow W2.heap.size 9 1 ov ps.length (strVals ps) ∧ Beside B W1 wr) (fun _ kv _ => (intOf kv).toNat)
  case atStart => exact ⟨kk, p1 + 1, [], rfl, by simp; omega, by omega, Lib.hid (by simp), HO3.out.2.2, hsz3, HO3.out.1, HO3.out.2.1⟩
  case round =>
    obtain ⟨k, p, ps, rfl, hkl, hpl, HX, hRr, hszr, hown, hbe⟩ := hrel
    have hRl := hRr.lt
    by_cases hk0 : 0 < k
    · have hk' : (0 : Int) < (k : Int) := by omega
      go_wp2_with fail
      refine (pick_any B p 4 _ (hRr.alloc _) (by omega) (by omega)).mono ?_
      rintro e W6 ⟨j, hj1, hj2, rfl, hR6, hb10, hsc⟩
      have hjj := hj2 (by omega)
      obtain ⟨i, rfl⟩ := Int.eq_ofNat_of_zero_le hj1
      obtain ⟨z, hz, hz3⟩ : ∃ z : ByteArray, W6.cell? ⟨wr.heap.size, i, none⟩ = some (.string z) ∧ z.size ≤ 3 := by
        have h1 := hb10.one hRl i
        rcases (show i = 0 ∨ i = 1 ∨ i = 2 ∨ i = 3 by omega) with rfl | rfl | rfl | rfl
        · exact ⟨_, h1, by decide⟩
        · exact ⟨_, h1, by decide⟩
        · exact ⟨_, h1, by decide⟩
        · exact ⟨_, h1, by decide⟩
      have hown6 := own_bes (hown.alloc _) hb10 hRB
      have hbe6 := (hbe.alloc _).trans hb10
      have hsz6 : W2.heap.size ≤ W6.heap.size := by simp at hsc; omega
      have HBE6 := Lib.hid hbe6
      have HR6 := Lib.hid hR6
      have HXZ : Hid (∀ x ∈ ps ++ [z], x.size ≤ 3) := Lib.hid (fun x hx => by
        rcases List.mem_append.1 hx with h | h
        · exact HX.out x h
        · have e : x = z := by simpa using h
          rw [e]; exact hz3)
      have hi0 : (0 : Int) ≤ (i : Int) := by omega
      have hi4 : (i : Int) < 4 := by omega
      clear hown hbe hb10 hbe6 hR6 hj2 hsc hRr
      go_wp2_with (first | (at_builtin; refine wpList_append_own _ rfl _ _ 22 rfl W2.heap.size 9 i0 (.string .empty) 1 16 Tryd.underlying22 hi hz0 hz1 hz2 rfl (by decide) _ _ _ rfl (hown6.alloc _) ⟨W6.heap.size, 0, none⟩ 1 1 [.string z] rfl rfl (news1 _ _ _) (ones1 _) (by unfold maxLen; omega) (by omega) (by simp; omega) ?_))
      intro v' w1 hown' hgrow _
      have hbg : Below W2.heap.size W6 w1 := ((Below.refl W2.heap.size W6).alloc hsz6 _).grown hgrow (by simp; omega) (fun q hq => ((hown6.alloc (.cells #[.string z] 9)).lt q hq).1)
      have hR7 := HR6.out.below hbg hRB
      have hbe7 := bes_then HBE6.out (hbg.mono hb2s)
      have hsz7 : W2.heap.size ≤ w1.heap.size := Nat.le_trans hsz6 hbg.size
      have e1 : strVals ps ++ [.string z] = strVals (ps ++ [z]) := by simp [strVals]
      have e2 : (ps ++ [z]).length = ps.length + 1 := by simp
      rw [e1, ← e2] at hown'
      have HF := Lib.hid (And.intro hown' (And.intro hR7 hbe7))
      obtain ⟨k', rfl⟩ : ∃ k', k = k' + 1 := ⟨k - 1, by omega⟩
      clear hown6 hgrow hown' hbg hR7 hbe7 HBE6 HR6 hz
      go_wp2_with fail
      go_roundw
      case rel => exact ⟨k', p + 1, ps ++ [z], by first | rfl | trivial | (congr 1; omega) | congr 1, by rw [e2]; omega, by rw [e2]; omega, HXZ, HF.out.2.1, hsz7, HF.out.1, HF.out.2.2⟩
      case measure => (simp [intOf] <;> omega)
    · obtain rfl : k = 0 := by omega
      have HBE6 := Lib.hid hbe
      go_wp2_with fail
      refine (odd_any B p 12 _ hRr (by omega) (by omega) (by omega)).mono ?_
      rintro e W5 ⟨b, p2, rfl, hp3, hp4, hR5, hb5, hs5⟩
      have hown5 := own_bes hown hb5 hRB
      have hbe5 := hbe.trans hb5
      have hsz5 : W2.heap.size ≤ W5.heap.size := by omega
      have hRl5 := hR5.lt
      clear hown hbe hb5 hRr HBE6 hs5
      cases b
      · obtain ⟨A5, c5, rfl⟩ := own_form2 hown5
        have hr5 := Row.of_own hown5
        have hfin := hb.trans (hbe5.below (Nat.le_refl _) (by omega))
        clear hown5 hbe5
        go_wp2_with fail
        go_ret3
        exact ⟨s, u, A5, c5, ps, rfl, hs, hu1, hu2, by omega, HX.out, hr5, by rw [HB.out]; exact hfin⟩
      · go_wp2_with fail
        refine (pick_any B p2 2 _ (hR5.alloc _) (by omega) (by omega)).mono ?_
        rintro e W6 ⟨j, hj1, hj2, rfl, hR6, hb10, hsc⟩
        have hjj := hj2 (by omega)
        obtain ⟨i, rfl⟩ := Int.eq_ofNat_of_zero_le hj1
        obtain ⟨z, hz, hz3⟩ : ∃ z : ByteArray, W6.cell? ⟨W5.heap.size, i, none⟩ = some (.string z) ∧ z.size ≤ 3 := by
          have h1 := hb10.one hRl5 i
          rcases (show i = 0 ∨ i = 1 by omega) with rfl | rfl
          · exact ⟨_, h1, by decide⟩
          · exact ⟨_, h1, by decide⟩
        have hown6 := own_bes (hown5.alloc _) hb10 hRB
        have hbe6 := (hbe5.alloc _).trans hb10
        have hsz6 : W2.heap.size ≤ W6.heap.size := by simp at hsc; omega
        have HBE6 := Lib.hid hbe6
        have HXZ : Hid (∀ x ∈ ps ++ [z], x.size ≤ 3) := Lib.hid (fun x hx => by
          rcases List.mem_append.1 hx with h | h
          · exact HX.out x h
          · have e : x = z := by simpa using h
            rw [e]; exact hz3)
        have hi0 : (0 : Int) ≤ (i : Int) := by omega
        have hi4 : (i : Int) < 2 := by omega
        clear hown5 hbe5 hb10 hbe6 hR6 hj2 hsc hR5
        go_wp2_with (first | (at_builtin; refine wpList_append_own _ rfl _ _ 22 rfl W2.heap.size 9 i0 (.string .empty) 1 16 Tryd.underlying22 hi hz0 hz1 hz2 rfl (by decide) _ _ _ rfl (hown6.alloc _) ⟨W6.heap.size, 0, none⟩ 1 1 [.string z] rfl rfl (news1 _ _ _) (ones1 _) (by unfold maxLen; omega) (by omega) (by simp; omega) ?_))
        intro v' w1 hown' hgrow _
        have hbg : Below W2.heap.size W6 w1 := ((Below.refl W2.heap.size W6).alloc hsz6 _).grown hgrow (by simp; omega) (fun q hq => ((hown6.alloc (.cells #[.string z] 9)).lt q hq).1)
        have hbe7 := bes_then HBE6.out (hbg.mono hb2s)
        have e1 : strVals ps ++ [.string z] = strVals (ps ++ [z]) := by simp [strVals]
        have e2 : (ps ++ [z]).length = ps.length + 1 := by simp
        rw [e1] at hown'
        obtain ⟨A5, c5, rfl⟩ := own_form2 hown'
        have hr5 := Row.of_own hown'
        have hfin := hb.trans (hbe7.below (Nat.le_refl _) (by omega))
        clear hown6 hgrow hown' hbg hbe7 HBE6 hz
        go_wp2_with fail
        go_ret3
        exact ⟨s, u, A5, c5, ps ++ [z], by rw [e2]; rfl, hs, hu1, hu2, by rw [e2]; omega, HXZ.out, hr5, by rw [HB.out]; exact hfin⟩
end Go.Proofs.YthcijegcnecnmaaDoor
