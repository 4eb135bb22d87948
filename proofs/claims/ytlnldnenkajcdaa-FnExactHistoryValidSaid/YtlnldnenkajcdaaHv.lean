/- The laws' helpers that compare two histories. -/
import Derived.Test.YtlnldnenkajcdaaHu
import Derived.Deep.RegionHeld3
set_option linter.unusedVariables false
set_option linter.unusedSimpArgs false
namespace Go.Proofs.Ytlnldnenkajcdaa
open Go.RowKit
theorem two_blk {w W2 : World} {cs ds : Array Value} {T U : TypeId} (hb : Below ((w.alloc (.cells cs T)).alloc (.cells ds U)).heap.size ((w.alloc (.cells cs T)).alloc (.cells ds U)) W2) (i : Nat) :
    W2.cell? ⟨w.heap.size, i, none⟩ = cs[i]? ∧ W2.cell? ⟨w.heap.size + 1, i, none⟩ = ds[i]? := by
  have e : (w.alloc (.cells cs T)).heap.size = w.heap.size + 1 := by simp
  refine ⟨(hb.cell (p := ⟨w.heap.size, i, none⟩) (by simp; omega)).trans ?_, (hb.cell (p := ⟨w.heap.size + 1, i, none⟩) (by simp)).trans ?_⟩
  · exact cell_of_row _ _ i cs T (0, 0) ((Below.heap_alloc (w.alloc (.cells cs T)) (.cells ds U) w.heap.size (by simp)).trans (heap_alloc_new w _))
  · have h := heap_alloc_new (w.alloc (.cells cs T)) (.cells ds U)
    rw [e] at h
    exact cell_of_row _ _ i ds U (0, 0) h
theorem eqChange_eq (a b : Int) (x : ByteArray) (w : World) :
    Calls Try.prog 60 #[.agg #[.int .i64 a, .int .i64 b, .string x], .agg #[.int .i64 a, .int .i64 b, .string x]] w fun e w' => e = .returned (.bool true) ∧ Below w.heap.size w w' := by
  have hb : Below w.heap.size w ((w.alloc (.cells #[.int .i64 a, .int .i64 b, .string x] 36)).alloc (.cells #[.int .i64 a, .int .i64 b, .string x] 36)) := ((Below.refl w.heap.size w).alloc (Nat.le_refl _) _).alloc (by simp) _
  have HB := Lib.hid hb
  clear hb
  go_enter Try.func60, Try.ntmps60
  go_wp2_with fail
  go_ret
  exact ⟨rfl, HB.out⟩
theorem eqMoment_eq (p a b : Int) (x : ByteArray) (c d : Int) (y : ByteArray) (w : World) :
    Calls Try.prog 47 #[.agg #[.int .i64 p, .int .i64 a, .int .i64 b, .string x, .int .i64 c, .int .i64 d, .string y], .agg #[.int .i64 p, .int .i64 a, .int .i64 b, .string x, .int .i64 c, .int .i64 d, .string y]] w fun e w' => e = .returned (.bool true) ∧ Below w.heap.size w w' := by
  have hb : Below w.heap.size w ((w.alloc (.cells #[.int .i64 p, .int .i64 a, .int .i64 b, .string x, .int .i64 c, .int .i64 d, .string y] 56)).alloc (.cells #[.int .i64 p, .int .i64 a, .int .i64 b, .string x, .int .i64 c, .int .i64 d, .string y] 56)) := ((Below.refl w.heap.size w).alloc (Nat.le_refl _) _).alloc (by simp) _
  have HB := Lib.hid hb
  clear hb
  go_enter Try.func47, Try.ntmps47
  go_wp2_with fail
  refine (eqChange_eq _ _ _ _).mono ?_
  rintro e W2 ⟨rfl, hb2⟩
  obtain ⟨c4, d4⟩ := two_blk hb2 4
  obtain ⟨c5, d5⟩ := two_blk hb2 5
  obtain ⟨c6, d6⟩ := two_blk hb2 6
  simp at c4 c5 c6 d4 d5 d6
  have HB2 := Lib.hid (HB.out.trans (hb2.mono (by simp; omega)))
  clear hb2
  go_wp2_with fail
  refine (eqChange_eq _ _ _ _).mono ?_
  rintro e W3 ⟨rfl, hb3⟩
  have HB3 := Lib.hid (HB2.out.trans (hb3.mono HB2.out.size))
  clear hb3
  go_wp2_with fail
  go_ret
  exact ⟨rfl, HB3.out⟩
set_option maxHeartbeats 4000000 in
set_option maxRecDepth 100000 in
theorem eqMomentS_eq (A C : Option Addr) (n c d : Nat) (ms : List Mom) (w : World) (h1 : Row w w.heap.size A (moms ms)) (h2 : Row w w.heap.size C (moms ms)) (hn : ms.length = n) (hmax : n ≤ 3000000) :
    Calls Try.prog 28 #[.slice A n c, .slice C n d] w fun e w' => e = .returned (.bool true) ∧ Below w.heap.size w w' := by
  have HN := Lib.hid hn
  clear hn
  go_enter Try.func28, Try.ntmps28
  go_wp2_with fail
  go_loopw [5] (fun i wr => ∃ k : Nat, k ≤ n ∧ i = .int .i64 k ∧ Below w.heap.size w wr) (fun i _ => n - (intOf i).toNat)
  case atStart => exact ⟨0, Nat.zero_le _, rfl, Below.refl _ _⟩
  case round =>
    obtain ⟨k, hk, rfl, hb⟩ := hrel
    by_cases hkn : k < n
    · have hkl : k < ms.length := by rw [HN.out]; exact hkn
      obtain ⟨g, o, rfl, hg, hm⟩ := (h1.below hb).mom (j := k) hkl
      obtain ⟨f, u, rfl, hf, hm'⟩ := (h2.below hb).mom (j := k) hkl
      generalize (ms[k]'hkl) = m at hm hm'
      obtain ⟨p, a, b, x, cc, dd, y⟩ := m
      obtain ⟨c0, c1, c2, c3, c4, c5, c6⟩ := hm
      obtain ⟨d0, d1, d2, d3, d4, d5, d6⟩ := hm'
      simp only at c0 c1 c2 c3 c4 c5 c6 d0 d1 d2 d3 d4 d5 d6
      have hk' : (k : Int) < (n : Int) := by omega
      have hk0 : (0 : Int) ≤ (k : Int) := by omega
      have hgz : g < wr.heap.size := by have := hb.size; omega
      have hfz : f < wr.heap.size := by have := hb.size; omega
      have HB := Lib.hid hb
      clear hb h1 h2
      go_wp2_with fail
      go_region_held3 (fun w' => (w'.cell? ⟨g, o + k * 7, none⟩ = some (.int .i64 p) ∧ w'.cell? ⟨g, o + k * 7 + 1, none⟩ = some (.int .i64 a) ∧ w'.cell? ⟨g, o + k * 7 + 2, none⟩ = some (.int .i64 b) ∧ w'.cell? ⟨g, o + k * 7 + 3, none⟩ = some (.string x) ∧ w'.cell? ⟨g, o + k * 7 + 4, none⟩ = some (.int .i64 cc) ∧ w'.cell? ⟨g, o + k * 7 + 5, none⟩ = some (.int .i64 dd) ∧ w'.cell? ⟨g, o + k * 7 + 6, none⟩ = some (.string y)) ∧ (w'.cell? ⟨f, u + k * 7, none⟩ = some (.int .i64 p) ∧ w'.cell? ⟨f, u + k * 7 + 1, none⟩ = some (.int .i64 a) ∧ w'.cell? ⟨f, u + k * 7 + 2, none⟩ = some (.int .i64 b) ∧ w'.cell? ⟨f, u + k * 7 + 3, none⟩ = some (.string x) ∧ w'.cell? ⟨f, u + k * 7 + 4, none⟩ = some (.int .i64 cc) ∧ w'.cell? ⟨f, u + k * 7 + 5, none⟩ = some (.int .i64 dd) ∧ w'.cell? ⟨f, u + k * 7 + 6, none⟩ = some (.string y))) (go_keep)
        ((go_at_call 47; refine (eqMoment_eq _ _ _ _ _ _ _ _).mono ?_; rintro e w1 ⟨rfl, hb1⟩; have k0 := (hb1.cell (p := ⟨g, o + k * 7, none⟩) hgz).trans c0; have k1 := (hb1.cell (p := ⟨g, o + k * 7 + 1, none⟩) hgz).trans c1; have k2 := (hb1.cell (p := ⟨g, o + k * 7 + 2, none⟩) hgz).trans c2; have k3 := (hb1.cell (p := ⟨g, o + k * 7 + 3, none⟩) hgz).trans c3; have k4 := (hb1.cell (p := ⟨g, o + k * 7 + 4, none⟩) hgz).trans c4; have k5 := (hb1.cell (p := ⟨g, o + k * 7 + 5, none⟩) hgz).trans c5; have k6 := (hb1.cell (p := ⟨g, o + k * 7 + 6, none⟩) hgz).trans c6; have l0 := (hb1.cell (p := ⟨f, u + k * 7, none⟩) hfz).trans d0; have l1 := (hb1.cell (p := ⟨f, u + k * 7 + 1, none⟩) hfz).trans d1; have l2 := (hb1.cell (p := ⟨f, u + k * 7 + 2, none⟩) hfz).trans d2; have l3 := (hb1.cell (p := ⟨f, u + k * 7 + 3, none⟩) hfz).trans d3; have l4 := (hb1.cell (p := ⟨f, u + k * 7 + 4, none⟩) hfz).trans d4; have l5 := (hb1.cell (p := ⟨f, u + k * 7 + 5, none⟩) hfz).trans d5; have l6 := (hb1.cell (p := ⟨f, u + k * 7 + 6, none⟩) hfz).trans d6))
      all_goals
        have HB1 := Lib.hid ((Below.drew HB.out).trans (hb1.mono HB.out.size))
        clear hb1
        go_wp2_with fail
        go_roundw
        case rel => exact ⟨k + 1, by omega, by go_num, HB1.out⟩
        case measure => (simp [intOf] <;> omega)
    · go_wp2_with fail
      go_ret
      exact ⟨rfl, hb⟩
theorem eqHistory_eq (A C : Option Addr) (n c d : Nat) (at_ : Int) (ms : List Mom) (w : World) (h1 : Row w w.heap.size A (moms ms)) (h2 : Row w w.heap.size C (moms ms)) (hn : ms.length = n) (hmax : n ≤ 3000000) :
    Calls Try.prog 11 #[.agg #[.slice A n c, .int .i64 at_], .agg #[.slice C n d, .int .i64 at_]] w fun e w' => e = .returned (.bool true) ∧ Below w.heap.size w w' := by
  have hb : Below w.heap.size w ((w.alloc (.cells #[.slice A n c, .int .i64 at_] 29)).alloc (.cells #[.slice C n d, .int .i64 at_] 29)) := ((Below.refl w.heap.size w).alloc (Nat.le_refl _) _).alloc (by simp) _
  have HB := Lib.hid hb
  have H1 := Lib.hid ((h1.below hb).more hb.size)
  have H2 := Lib.hid ((h2.below hb).more hb.size)
  clear hb h1 h2
  go_enter Try.func11, Try.ntmps11
  go_wp2_with fail
  refine (eqMomentS_eq A C n c d ms _ H1.out H2.out hn hmax).mono ?_
  rintro e W2 ⟨rfl, hb2⟩
  obtain ⟨c1, d1⟩ := two_blk hb2 1
  simp at c1 d1
  have HB2 := Lib.hid (HB.out.trans (hb2.mono (by simp; omega)))
  clear hb2
  go_wp2_with fail
  go_ret
  exact ⟨rfl, HB2.out⟩
end Go.Proofs.Ytlnldnenkajcdaa
