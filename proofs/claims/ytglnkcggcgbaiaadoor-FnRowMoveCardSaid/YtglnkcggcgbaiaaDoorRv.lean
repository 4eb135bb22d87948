/- What is drawn: a text, a width, a place and a number. -/
import Derived.Test.YtglnkcggcgbaiaaDoorRu
import Derived.Deep.RegionWith
set_option linter.unusedVariables false
set_option linter.unusedSimpArgs false
namespace Go.Proofs.YtglnkcggcgbaiaaDoor
open Go.RowKit
theorem results_tmp4 {fn : Func} {t u v x : Tmp} (h : fn.results = #[.tmp t, .tmp u, .tmp v, .tmp x]) (tmps : Array Value) (P : Program) (w : World) :
    (results fn tmps).run P w = .ok (.tuple #[tmps.getD t undef, tmps.getD u undef, tmps.getD v undef, tmps.getD x undef]) w := by
  simp [results, h]
theorem Beside.undrew {R : Nat} {w w' : World} (h : Beside R w.drew w') : Beside R w w' := ⟨h.os, h.tape, h.output, h.size, h.block⟩
theorem tabs (jn : Nat) (x : Int) (hj : jn < 8) (hx : 0 ≤ x) (hx2 : x < 7) : ∃ (t : Nat) (v : Int), t < 4 ∧ (#[Value.int .i64 0, .int .i64 0, .int .i64 0, .int .i64 0, .int .i64 0, .int .i64 1, .int .i64 2, .int .i64 3] : Array Value)[jn]? = some (.int .i64 (t : Int)) ∧ (#[Value.int .i64 (x - 3), .int .i64 120, .int .i64 (-120), .int .i64 121] : Array Value)[t]? = some (.int .i64 v) ∧ -121 ≤ v ∧ v ≤ 121 := by
  rcases (show jn = 0 ∨ jn = 1 ∨ jn = 2 ∨ jn = 3 ∨ jn = 4 ∨ jn = 5 ∨ jn = 6 ∨ jn = 7 by omega) with rfl | rfl | rfl | rfl | rfl | rfl | rfl | rfl
  · exact ⟨0, x - 3, by omega, rfl, rfl, by omega, by omega⟩
  · exact ⟨0, x - 3, by omega, rfl, rfl, by omega, by omega⟩
  · exact ⟨0, x - 3, by omega, rfl, rfl, by omega, by omega⟩
  · exact ⟨0, x - 3, by omega, rfl, rfl, by omega, by omega⟩
  · exact ⟨0, x - 3, by omega, rfl, rfl, by omega, by omega⟩
  · exact ⟨1, 120, by omega, rfl, rfl, by omega, by omega⟩
  · exact ⟨2, -120, by omega, rfl, rfl, by omega, by omega⟩
  · exact ⟨3, 121, by omega, rfl, rfl, by omega, by omega⟩
def DRowMove (w : World) (e : Ending) (w' : World) : Prop :=
  ∃ (s : ByteArray) (v u b : Int), e = .returned (.tuple #[.string s, .int .i64 v, .int .i64 u, .int .i64 b]) ∧ s.size ≤ 200 ∧ 3 ≤ v ∧ v ≤ 41 ∧ -1 ≤ u ∧ u ≤ s.size + 1 ∧ -121 ≤ b ∧ b ≤ 121 ∧ Below w.heap.size w w'
set_option maxRecDepth 100000 in
set_option maxHeartbeats 4000000 in
theorem dDrawRowMove (A : Option Addr) (n c : Nat) (zs : List Int) (w : World) (h : IsBytes w A n c zs) :
    Calls Tryd.prog 36 #[.slice A n c] w (DRowMove w) := by
  go_enter Tryd.func36, Tryd.ntmps36
  go_wp2_with fail
  refine (open_any A n c zs _ h).mono ?_
  rintro e W1 ⟨rfl, hR, hb, hsz⟩
  obtain ⟨B, hB⟩ : ∃ B, w.heap.size = B := ⟨_, rfl⟩
  rw [hB] at hR hb hsz ⊢
  have HB := Lib.hid hB
  clear hB
  go_wp2_with fail
  refine (text_any B 0 14 _ hR (by omega) (by omega) (by omega)).mono ?_
  rintro e W2 ⟨s, p2, rfl, hs, hp1, hp2, hR2, hb2⟩
  go_wp2_with fail
  refine (width_any B p2 _ hR2 (by omega)).mono ?_
  rintro e W3 ⟨v, p3, rfl, hv1, hv2, hp3, hp4, hR3, hb3⟩
  go_wp2_with fail
  refine (place_any B p3 s 14 _ hR3 (by omega) (by omega) (by omega) (by omega)).mono ?_
  rintro e W4 ⟨u, p4, rfl, hu1, hu2, hp5, hp6, hR4, hb4⟩
  have hb5 := hb.trans (((hb2.trans hb3).trans hb4).below (Nat.le_refl _) (by omega))
  have H5 := Lib.hid hb5
  have hlt4 := hR4.lt
  clear hb hb2 hb3 hb4 hb5 hR hR2 hR3
  go_wp2_with fail
  go_region_with (first
    | (go_at_call_of 55 (Value.int IntKind.i64 7)
       refine (pick_any B p4 7 _ ?h1 ?h2 ?h3).mono ?_
       case h1 => first | exact hR4 | exact hR4.alloc _
       case h2 => omega
       case h3 => omega
       rintro e W5 ⟨x, hx1, hx2, rfl, hR5, hb5, hs5⟩
       have hxx := hx2 (by omega)
       have hb5 := Beside.undrew hb5
       have hlt5 := hR5.lt
       have x1 : IntKind.i64.wrap (x - 3) = x - 3 := IntWalk.i64_in _ (by omega)
       first
         | (have hq := hb5.one hlt4
            have hs5' : W4.heap.size < W5.heap.size := by (try simp at hs5); omega)
         | skip
       have b5 : Below B w W5 := H5.out.trans (Beside.below (R := B) (a := W4) (by first | exact hb5 | exact ((Beside.refl B W4).alloc _).trans hb5) (Nat.le_refl _) (by omega))
       have B5 := Lib.hid b5
       clear hs5 b5)
    | (go_at_call_of 55 (Value.int IntKind.i64 8)
       refine (pick_any B (p4 + 1) 8 _ ?h1 ?h2 ?h3).mono ?_
       case h1 => first | exact hR5 | exact hR5.alloc _ | exact (hR5.alloc _).alloc _
       case h2 => omega
       case h3 => omega
       rintro e W6 ⟨j, hj1, hj2, rfl, hR6, hb6, hs6⟩
       have hjj := hj2 (by omega)
       obtain ⟨jn, rfl⟩ := Int.eq_ofNat_of_zero_le hj1
       obtain ⟨t, bv, ht, e1, e2, hv3, hv4⟩ := tabs jn x (by omega) hx1 (by omega)
       have ht0 : (0 : Int) ≤ (t : Int) := by omega
       have ht4 : (t : Int) < 4 := by omega
       have e1' := e1
       have e2' := e2
       simp only [List.getElem?_toArray] at e1' e2'
       have e3 : ([Value.int .i64 (x - 3), .int .i64 120, .int .i64 (-120), .int .i64 121] : List Value)[t]'(by simpa using ht) = .int .i64 bv := (List.getElem?_eq_some_iff.1 e2').2
       have e4 : ([Value.int .i64 0, .int .i64 0, .int .i64 0, .int .i64 0, .int .i64 0, .int .i64 1, .int .i64 2, .int .i64 3] : List Value)[jn]'(by simp; omega) = .int .i64 (t : Int) := (List.getElem?_eq_some_iff.1 e1').2
       first
         | (have q1 : W6.cell? ⟨W5.heap.size, t, none⟩ = some (.int .i64 bv) := ((hb6.two hlt5).1 t).trans e2
            have q2 : W6.cell? ⟨W5.heap.size + 1, jn, none⟩ = some (.int .i64 (t : Int)) := ((hb6.two hlt5).2 jn).trans e1)
         | (have q1 : W6.cell? ⟨W5.heap.size, jn, none⟩ = some (.int .i64 (t : Int)) := ((hb6.two hlt5).1 jn).trans e1
            have q2 : W6.cell? ⟨W5.heap.size + 1, t, none⟩ = some (.int .i64 bv) := ((hb6.two hlt5).2 t).trans e2)
         | (have q1 : W6.cell? ⟨W5.heap.size, t, none⟩ = some (.int .i64 bv) := (hb6.one hlt5 t).trans e2
            have q3 : W5.heap.size < W6.heap.size := by (try simp at hs6); omega)
         | (have q1 : W6.cell? ⟨W5.heap.size, jn, none⟩ = some (.int .i64 (t : Int)) := (hb6.one hlt5 jn).trans e1
            have q3 : W5.heap.size < W6.heap.size := by (try simp at hs6); omega)
         | skip
       first
         | (have q4 : W6.cell? ⟨W4.heap.size, jn, none⟩ = some (.int .i64 (t : Int)) := (hb6.cell (p := ⟨W4.heap.size, jn, none⟩) hs5' (by (try simp); omega)).trans ((hq jn).trans e1)
            have q5 : W4.heap.size < W6.heap.size := by (try simp at hs6); omega)
         | (have q4 : W6.cell? ⟨W4.heap.size, jn, none⟩ = some (.int .i64 (t : Int)) := (hb6.cell (p := ⟨W4.heap.size, jn, none⟩) (by (try simp); omega) (by (try simp); omega)).trans ((((Below.refl W5.heap.size W5).alloc (Nat.le_refl _) _).cell (p := ⟨W4.heap.size, jn, none⟩) hs5').trans ((hq jn).trans e1))
            have q5 : W4.heap.size < W6.heap.size := by (try simp at hs6); omega)
         | skip
       have b6 : Below B w W6 := B5.out.trans (Beside.below (R := B) (a := W5) (by first | exact hb6 | exact ((Beside.refl B W5).alloc _).trans hb6 | exact (((Beside.refl B W5).alloc _).alloc _).trans hb6) (Nat.le_refl _) (by omega))
       have h6 : B ≤ W6.heap.size := Nat.le_of_lt hR6.lt
       have B6 := Lib.hid b6
       clear hs6 b6 hb6))
  all_goals
    go_wp2_with fail
    (try simp only [Exit.inBlock, Exit.then])
    refine bodyPost_ret (results_tmp4 rfl _ _ _) rfl ?_
    refine ⟨s, v, u, bv, by first | rfl | (show Ending.returned (.tuple #[.string s, .int .i64 v, .int .i64 u, ([Value.int .i64 (x - 3), .int .i64 120, .int .i64 (-120), .int .i64 121] : List Value)[t]'(by simpa using ht)]) = _; rw [e3]), hs, hv1, hv2, hu1, hu2, hv3, hv4, ?_⟩
    rw [HB.out]
    first
      | exact B6.out
      | exact B6.out.alloc h6 _
      | exact (B6.out.alloc h6 _).alloc (by simp; omega) _
end Go.Proofs.YtglnkcggcgbaiaaDoor
