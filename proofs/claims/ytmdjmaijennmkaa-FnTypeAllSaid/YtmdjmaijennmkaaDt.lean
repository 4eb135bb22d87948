/- What is drawn for TypeAll: a text, cursors and a text that is put. -/
import Derived.Test.YtmdjmaijennmkaaDs
set_option linter.unusedVariables false
set_option linter.unusedSimpArgs false
namespace Go.Proofs.Ytmdjmaijennmkaa
open Go.RowKit
def DTy (w : World) (e : Ending) (w' : World) : Prop :=
  ∃ (s : ByteArray) (A : Option Addr) (c : Nat) (zs : List (Int × Int)) (put : ByteArray), e = .returned (.tuple #[.string s, .slice A zs.length c, .string put]) ∧ s.size ≤ 200 ∧ put.size ≤ 200 ∧ zs.length ≤ 9 ∧ Row w' w'.heap.size A (pairs zs) ∧ Below w.heap.size w w'
set_option maxHeartbeats 4000000 in
set_option maxRecDepth 100000 in
theorem dDrawTypeAll (A : Option Addr) (n c : Nat) (zs : List Int) (w : World) (h : IsBytes w A n c zs) :
    Calls Try.prog 38 #[.slice A n c] w (DTy w) := by
  go_enter Try.func38, Try.ntmps38
  go_wp2_with fail
  refine (open_any A n c zs _ h).mono ?_
  rintro e W1 ⟨rfl, hR, hb, hsz⟩
  obtain ⟨B, hB⟩ : ∃ B, w.heap.size = B := ⟨_, rfl⟩
  rw [hB] at hR hb hsz ⊢
  have HB := Lib.hid hB
  clear hB
  go_wp2_with fail
  refine (joined_any B 0 9 _ hR (by omega) (by omega) (by omega)).mono ?_
  rintro e W2 ⟨s, A3, c3, ys, p2, rfl, hs, hl, hp1, hp2, ho2, hR2, hb2⟩
  have hRl := hR.lt
  go_wp2_with fail
  refine (text_any B p2 14 _ hR2 (by omega) (by omega) (by omega)).mono ?_
  rintro e W4 ⟨x, p4, rfl, hx, hp5, hp6, hR4, hb4⟩
  have ho4 := Lib.hid (own_beside ho2 hb4 hRl)
  have hb5 := hb2.trans hb4
  clear hb2 hb4 ho2 hR2 hR
  go_wp2_with fail
  have hlit : ∀ v : Int, 0 ≤ v → v < 4 → ∃ u : Nat, u ≤ 200 ∧ (#[Value.int .i64 0, .int .i64 1, .int .i64 4, .int .i64 200] : Array Value)[v.toNat]? = some (.int .i64 u) ∧ ∃ h : v.toNat < [Value.int .i64 0, .int .i64 1, .int .i64 4, .int .i64 200].length, [Value.int .i64 0, .int .i64 1, .int .i64 4, .int .i64 200][v.toNat] = .int .i64 u := by
    intro v h0 h1
    rcases (show v = 0 ∨ v = 1 ∨ v = 2 ∨ v = 3 by omega) with rfl | rfl | rfl | rfl
    · exact ⟨0, by omega, rfl, by decide, rfl⟩
    · exact ⟨1, by omega, rfl, by decide, rfl⟩
    · exact ⟨4, by omega, rfl, by decide, rfl⟩
    · exact ⟨200, by omega, rfl, by decide, rfl⟩
  have HL := Lib.hid hlit
  clear hlit
  go_region_with (first
    | (go_at_call 54
       refine (pick_any B p4 4 ((W4.alloc (Obj.cells #[.int .i64 0, .int .i64 1, .int .i64 4, .int .i64 200] 3)).drew) (hR4.alloc _) (by omega) (by omega)).mono ?_
       rintro e W5 ⟨v, hv1, hv2, rfl, hR5, hb6, hs6⟩
       obtain ⟨u, hu, hlu, _⟩ := HL.out v hv1 (hv2 (by omega))
       have hb6' := ((Beside.refl B _).drewN 1).trans hb6
       have hcA := (Beside.one hb6' hR4.lt v.toNat).trans hlu
       have hvv := hv2 (by omega))
    | (go_at_call 54
       refine (pick_any B p4 4 W4.drew hR4 (by omega) (by omega)).mono ?_
       rintro e W5 ⟨v, hv1, hv2, rfl, hR5, hb6, hs6⟩
       obtain ⟨u, hu, _, hlu, hcB⟩ := HL.out v hv1 (hv2 (by omega))
       have hvv := hv2 (by omega)))
  all_goals first
    | (exfalso; omega)
    | (have hb7 := ((Beside.refl B W4).alloc (Obj.cells #[.int .i64 0, .int .i64 1, .int .i64 4, .int .i64 200] 3)).trans hb6'
       have hb8 := hb.trans ((hb5.trans hb7).below (Nat.le_refl _) (by omega))
       have hr8 := Lib.hid (Row.of_own2 (own_beside ho4.out hb7 hRl))
       clear hb7
       go_wp2_with fail
       go_ret3
       exact ⟨s, A3, c3, ys, _, rfl, hs, by (simp only [ByteArray.size_extract]; omega), hl, hr8.out, by rw [HB.out]; exact hb8⟩)
    | (have hb7 := (((Beside.refl B W4).drewN 1).trans hb6).alloc (Obj.cells #[.int .i64 0, .int .i64 1, .int .i64 4, .int .i64 200] 3)
       have hb8 := hb.trans ((hb5.trans hb7).below (Nat.le_refl _) (by omega))
       have hr8 := Lib.hid (Row.of_own2 (own_beside ho4.out hb7 hRl))
       clear hb7
       go_wp2_with fail
       go_ret3
       exact ⟨s, A3, c3, ys, _, rfl, hs, by (simp only [ByteArray.size_extract]; omega), hl, hr8.out, by rw [HB.out]; exact hb8⟩)
end Go.Proofs.Ytmdjmaijennmkaa
