/- The laws' helpers that copy moments and histories. -/
import Derived.Test.YtlnldnenkajcdaaHs
set_option linter.unusedVariables false
set_option linter.unusedSimpArgs false
namespace Go.Proofs.Ytlnldnenkajcdaa
open Go.RowKit
/-- A box that holds these cells. -/
def MBox (w : World) (g : Nat) (T : TypeId) (p a b : Int) (x : ByteArray) (c d : Int) (y : ByteArray) : Prop :=
  w.heap[g]? = some (.cells #[.int .i64 p, .int .i64 a, .int .i64 b, .string x, .int .i64 c, .int .i64 d, .string y] T (0, 0))
section
variable {w w' : World} {g B : Nat} {T : TypeId} {p a b : Int} {x : ByteArray} {c d : Int} {y : ByteArray}
theorem MBox.cell (h : MBox w g T p a b x c d y) (i : Nat) : w.cell? ⟨g, i, none⟩ = (#[Value.int .i64 p, .int .i64 a, .int .i64 b, .string x, .int .i64 c, .int .i64 d, .string y])[i]? := cell_of_row w g i _ _ _ h
theorem MBox.fr (h : MBox w g T p a b x c d y) (i : Nat) : w.frozen? ⟨g, i, none⟩ = false := by
  unfold MBox at h
  simp [World.frozen?, h]
theorem MBox.lt (h : MBox w g T p a b x c d y) : g < w.heap.size := (Array.getElem?_eq_some_iff.1 h).1
theorem MBox.below (h : MBox w g T p a b x c d y) (hb : Below B w w') (hg : g < B) : MBox w' g T p a b x c d y := (hb.block g hg).trans h
theorem MBox.new (w : World) (T : TypeId) (p a b : Int) (x : ByteArray) (c d : Int) (y : ByteArray) : MBox (w.alloc (.cells #[.int .i64 p, .int .i64 a, .int .i64 b, .string x, .int .i64 c, .int .i64 d, .string y] T)) w.heap.size T p a b x c d y := heap_alloc_new w _
theorem MBox.alloc (h : MBox w g T p a b x c d y) (o : Obj) : MBox (w.alloc o) g T p a b x c d y := (heap_alloc_old w o h.lt).trans h
theorem MBox.set1 (h : MBox w g T p a b x c d y) (v : Int) : MBox (w.setCell ⟨g, 1, none⟩ (.int .i64 v)) g T p v b x c d y := by
  unfold MBox at h ⊢
  simp [World.setCell, Array.getElem?_modify, h]
theorem MBox.set2 (h : MBox w g T p a b x c d y) (v : Int) : MBox (w.setCell ⟨g, 2, none⟩ (.int .i64 v)) g T p a v x c d y := by
  unfold MBox at h ⊢
  simp [World.setCell, Array.getElem?_modify, h]
theorem MBox.set3 (h : MBox w g T p a b x c d y) (v : ByteArray) : MBox (w.setCell ⟨g, 3, none⟩ (.string v)) g T p a b v c d y := by
  unfold MBox at h ⊢
  simp [World.setCell, Array.getElem?_modify, h]
theorem MBox.set4 (h : MBox w g T p a b x c d y) (v : Int) : MBox (w.setCell ⟨g, 4, none⟩ (.int .i64 v)) g T p a b x v d y := by
  unfold MBox at h ⊢
  simp [World.setCell, Array.getElem?_modify, h]
theorem MBox.set5 (h : MBox w g T p a b x c d y) (v : Int) : MBox (w.setCell ⟨g, 5, none⟩ (.int .i64 v)) g T p a b x c v y := by
  unfold MBox at h ⊢
  simp [World.setCell, Array.getElem?_modify, h]
theorem MBox.set6 (h : MBox w g T p a b x c d y) (v : ByteArray) : MBox (w.setCell ⟨g, 6, none⟩ (.string v)) g T p a b x c d v := by
  unfold MBox at h ⊢
  simp [World.setCell, Array.getElem?_modify, h]
theorem MBox.other (h : MBox w g T p a b x c d y) {q : Addr} (hq : q.block ≠ g) (v : Value) : MBox (w.setCell q v) g T p a b x c d y := (Below.heap_setCell w q v g (fun e => hq e.symm)).trans h
end
set_option maxHeartbeats 4000000 in
set_option maxRecDepth 100000 in
theorem toMoment_any (p a b : Int) (x : ByteArray) (c d : Int) (y : ByteArray) (w : World) :
    Calls Try.prog 45 #[.agg #[.int .i64 p, .int .i64 a, .int .i64 b, .string x, .int .i64 c, .int .i64 d, .string y]] w fun e w' => e = .returned (.agg #[.int .i64 p, .int .i64 a, .int .i64 b, .string x, .int .i64 c, .int .i64 d, .string y]) ∧ Below w.heap.size w w' := by
  obtain ⟨Y, hY⟩ : ∃ Y, ((w.alloc (.cells #[.int .i64 p, .int .i64 a, .int .i64 b, .string x, .int .i64 c, .int .i64 d, .string y] 77)).alloc (.cells #[.int .i64 0, .int .i64 0, .int .i64 0, .string ⟨#[]⟩, .int .i64 0, .int .i64 0, .string ⟨#[]⟩] 56)).alloc (.cells #[.int .i64 p, .int .i64 0, .int .i64 0, .string ⟨#[]⟩, .int .i64 0, .int .i64 0, .string ⟨#[]⟩] 56) = Y := ⟨_, rfl⟩
  have hbY : Below w.heap.size w Y := hY ▸ (((Below.refl w.heap.size w).alloc (Nat.le_refl _) _).alloc (by simp) _).alloc (by simp; omega) _
  obtain ⟨s, hs⟩ : ∃ s, w.heap.size = s := ⟨_, rfl⟩
  have hzY : Y.heap.size = s + 3 := by rw [← hY, ← hs]; simp
  have hA : MBox Y s 77 p a b x c d y := by rw [← hY, ← hs]; exact ((MBox.new w _ _ _ _ _ _ _ _).alloc _).alloc _
  have hR : MBox Y (s + 1) 56 0 0 0 ⟨#[]⟩ 0 0 ⟨#[]⟩ := by
    have h1 := (MBox.new (w.alloc (.cells #[.int .i64 p, .int .i64 a, .int .i64 b, .string x, .int .i64 c, .int .i64 d, .string y] 77)) 56 0 0 0 ⟨#[]⟩ 0 0 ⟨#[]⟩).alloc (.cells #[.int .i64 p, .int .i64 0, .int .i64 0, .string ⟨#[]⟩, .int .i64 0, .int .i64 0, .string ⟨#[]⟩] 56)
    rw [hY] at h1
    rw [← hs]; simpa using h1
  have hO : MBox Y (s + 2) 56 p 0 0 ⟨#[]⟩ 0 0 ⟨#[]⟩ := by
    have h1 := MBox.new ((w.alloc (.cells #[.int .i64 p, .int .i64 a, .int .i64 b, .string x, .int .i64 c, .int .i64 d, .string y] 77)).alloc (.cells #[.int .i64 0, .int .i64 0, .int .i64 0, .string ⟨#[]⟩, .int .i64 0, .int .i64 0, .string ⟨#[]⟩] 56)) 56 p 0 0 ⟨#[]⟩ 0 0 ⟨#[]⟩
    rw [hY] at h1
    rw [← hs]; simpa using h1
  have HY := Lib.hid (And.intro hbY (And.intro hA (And.intro hR hO)))
  have ya1 : Y.cell? ⟨s, 1, none⟩ = some (.int .i64 a) := hA.cell 1
  have ya2 : Y.cell? ⟨s, 2, none⟩ = some (.int .i64 b) := hA.cell 2
  have ya3 : Y.cell? ⟨s, 3, none⟩ = some (.string x) := hA.cell 3
  clear hbY hA hR hO
  go_enter Try.func45, Try.ntmps45
  go_wp2_with fail
  refine (toChange_any a b x _).mono ?_
  rintro e W1 ⟨rfl, hb1⟩
  have hA1 := HY.out.2.1.below hb1 (by omega)
  have hR1 := HY.out.2.2.1.below hb1 (by omega)
  have hO1 : MBox W1 (s + 1 + 1) 56 p 0 0 ⟨#[]⟩ 0 0 ⟨#[]⟩ := HY.out.2.2.2.below hb1 (by omega)
  have hbw1 := HY.out.1.trans (hb1.mono HY.out.1.size)
  have ne1 : s + 1 + 1 ≠ s := by omega
  have ne2 : s + 1 + 1 ≠ s + 1 := by omega
  have ne3 : s ≠ s + 1 + 1 := by omega
  have ge1 : w.heap.size ≤ s + 1 + 1 := by omega
  have HX := Lib.hid (And.intro (((hbw1.setCell (p := ⟨s + 1 + 1, 1, none⟩) ge1 (.int .i64 a)).setCell (p := ⟨s + 1 + 1, 2, none⟩) ge1 (.int .i64 b)).setCell (p := ⟨s + 1 + 1, 3, none⟩) ge1 (.string x))
    (And.intro (((hA1.other (q := ⟨s + 1 + 1, 1, none⟩) ne1 (.int .i64 a)).other (q := ⟨s + 1 + 1, 2, none⟩) ne1 (.int .i64 b)).other (q := ⟨s + 1 + 1, 3, none⟩) ne1 (.string x))
    (And.intro (((hR1.other (q := ⟨s + 1 + 1, 1, none⟩) ne2 (.int .i64 a)).other (q := ⟨s + 1 + 1, 2, none⟩) ne2 (.int .i64 b)).other (q := ⟨s + 1 + 1, 3, none⟩) ne2 (.string x))
      (((hO1.set1 a).set2 b).set3 x))))
  have o1 : W1.cell? ⟨s + 1 + 1, 1, none⟩ = some (.int .i64 0) := hO1.cell 1
  have o2 : W1.cell? ⟨s + 1 + 1, 2, none⟩ = some (.int .i64 0) := hO1.cell 2
  have o3 : W1.cell? ⟨s + 1 + 1, 3, none⟩ = some (.string ⟨#[]⟩) := hO1.cell 3
  have f1 := hO1.fr 1
  have f2 := hO1.fr 2
  have f3 := hO1.fr 3
  have a4 : W1.cell? ⟨s, 4, none⟩ = some (.int .i64 c) := hA1.cell 4
  have a5 : W1.cell? ⟨s, 5, none⟩ = some (.int .i64 d) := hA1.cell 5
  have a6 : W1.cell? ⟨s, 6, none⟩ = some (.string y) := hA1.cell 6
  have hz1 : Y.heap.size ≤ W1.heap.size := hb1.size
  clear hb1 hA1 hR1 hO1 hbw1 HY ya1 ya2 ya3
  go_wp2_with fail
  refine (toChange_any c d y _).mono ?_
  obtain ⟨X, hX⟩ : ∃ X, ((W1.setCell ⟨s + 1 + 1, 1, none⟩ (.int .i64 a)).setCell ⟨s + 1 + 1, 2, none⟩ (.int .i64 b)).setCell ⟨s + 1 + 1, 3, none⟩ (.string x) = X := ⟨_, rfl⟩
  rw [hX] at HX ⊢
  rintro e W2 ⟨rfl, hb2⟩
  have hzx := HX.out.2.2.2.lt
  have hR2 := HX.out.2.2.1.below hb2 (by omega)
  have hO2 := HX.out.2.2.2.below hb2 (by omega)
  have hbw2 := HX.out.1.trans (hb2.mono HX.out.1.size)
  have o0 : W2.cell? ⟨s + 1 + 1, 0, none⟩ = some (.int .i64 p) := hO2.cell 0
  have o1 : W2.cell? ⟨s + 1 + 1, 1, none⟩ = some (.int .i64 a) := hO2.cell 1
  have o2 : W2.cell? ⟨s + 1 + 1, 2, none⟩ = some (.int .i64 b) := hO2.cell 2
  have o3 : W2.cell? ⟨s + 1 + 1, 3, none⟩ = some (.string x) := hO2.cell 3
  have o4 : W2.cell? ⟨s + 1 + 1, 4, none⟩ = some (.int .i64 0) := hO2.cell 4
  have o5 : W2.cell? ⟨s + 1 + 1, 5, none⟩ = some (.int .i64 0) := hO2.cell 5
  have o6 : W2.cell? ⟨s + 1 + 1, 6, none⟩ = some (.string ⟨#[]⟩) := hO2.cell 6
  have f4 := hO2.fr 4
  have f5 := hO2.fr 5
  have f6 := hO2.fr 6
  have r0 : W2.cell? ⟨s + 1, 0, none⟩ = some (.int .i64 0) := hR2.cell 0
  have r1 : W2.cell? ⟨s + 1, 1, none⟩ = some (.int .i64 0) := hR2.cell 1
  have r2 : W2.cell? ⟨s + 1, 2, none⟩ = some (.int .i64 0) := hR2.cell 2
  have r3 : W2.cell? ⟨s + 1, 3, none⟩ = some (.string ⟨#[]⟩) := hR2.cell 3
  have r4 : W2.cell? ⟨s + 1, 4, none⟩ = some (.int .i64 0) := hR2.cell 4
  have r5 : W2.cell? ⟨s + 1, 5, none⟩ = some (.int .i64 0) := hR2.cell 5
  have r6 : W2.cell? ⟨s + 1, 6, none⟩ = some (.string ⟨#[]⟩) := hR2.cell 6
  have q0 := hR2.fr 0
  have q1 := hR2.fr 1
  have q2 := hR2.fr 2
  have q3 := hR2.fr 3
  have q4 := hR2.fr 4
  have q5 := hR2.fr 5
  have q6 := hR2.fr 6
  have ge2 : w.heap.size ≤ s + 1 := by omega
  have HB2 := Lib.hid hbw2
  clear HX hb2 hR2 hO2 hbw2 a4 a5 a6 f1 f2 f3 hX
  go_wp2_with fail
  have hfin : Below w.heap.size w ((((((((((W2.setCell ⟨s + 1 + 1, 4, none⟩ (.int .i64 c)).setCell ⟨s + 1 + 1, 5, none⟩ (.int .i64 d)).setCell ⟨s + 1 + 1, 6, none⟩ (.string y)).setCell ⟨s + 1, 0, none⟩ (.int .i64 p)).setCell ⟨s + 1, 1, none⟩ (.int .i64 a)).setCell ⟨s + 1, 2, none⟩ (.int .i64 b)).setCell ⟨s + 1, 3, none⟩ (.string x)).setCell ⟨s + 1, 4, none⟩ (.int .i64 c)).setCell ⟨s + 1, 5, none⟩ (.int .i64 d)).setCell ⟨s + 1, 6, none⟩ (.string y)) :=
    (((((((((HB2.out.setCell (p := ⟨s + 1 + 1, 4, none⟩) ge1 _).setCell (p := ⟨s + 1 + 1, 5, none⟩) ge1 _).setCell (p := ⟨s + 1 + 1, 6, none⟩) ge1 _).setCell (p := ⟨s + 1, 0, none⟩) ge2 _).setCell (p := ⟨s + 1, 1, none⟩) ge2 _).setCell (p := ⟨s + 1, 2, none⟩) ge2 _).setCell (p := ⟨s + 1, 3, none⟩) ge2 _).setCell (p := ⟨s + 1, 4, none⟩) ge2 _).setCell (p := ⟨s + 1, 5, none⟩) ge2 _).setCell (p := ⟨s + 1, 6, none⟩) ge2 _
  have HF := Lib.hid hfin
  clear hfin
  refine bodyPost_ret (v := .agg #[.int .i64 p, .int .i64 a, .int .i64 b, .string x, .int .i64 c, .int .i64 d, .string y]) ?_ rfl ⟨rfl, HF.out⟩
  simp [results, Try.results45, go_sem, r0, r1, r2, r3, r4, r5, r6]
theorem mk_row7 {P : Program} {t e : TypeId} {i : TypeInfo} {z : Value} (ht : P.underlying t = some (.slice e)) (hi : P.info? e = some i) (hz : i.zero = some z) (hs : i.size = 7) (n : Nat) (hb : i.bytes * n ≤ 281474976710656) (hn : n ≤ 9223372036854775807) (W : World) :
    (Instr.makeSlice t (.int .i64 (n : Int)) (.int .i64 (n : Int))).run P W = .ok (.slice (some ⟨W.heap.size, 0, none⟩) n n) (W.alloc (.cells (madeCells z.cells (n * 7)) e)) := by
  have hb' : (i.bytes : Int) * (n : Int) ≤ 281474976710656 := by
    have h : ((i.bytes * n : Nat) : Int) ≤ 281474976710656 := by omega
    rwa [Int.natCast_mul] at h
  have hr := run_make (P := P) W t e i z ht hi hz .i64 .i64 n n (by omega) (by omega) hb' (by omega)
  simp only [Int.toNat_natCast, hs] at hr
  exact hr
def Mom.zero : Mom := ⟨0, 0, 0, ⟨#[]⟩, 0, 0, ⟨#[]⟩⟩
theorem made_moms (n : Nat) : (madeCells #[Value.int .i64 0, .int .i64 0, .int .i64 0, .string ⟨#[]⟩, .int .i64 0, .int .i64 0, .string ⟨#[]⟩] (n * 7)).toList = moms (List.replicate n Mom.zero) := by
  apply List.ext_getElem?
  intro j
  by_cases hj : j < n * 7
  · have hq : j / 7 < (List.replicate n Mom.zero).length := by simp; omega
    have h2 := moms_get (List.replicate n Mom.zero) (j / 7) hq (j % 7) (Nat.mod_lt _ (by decide))
    rw [show j / 7 * 7 + j % 7 = j by omega, List.getElem_replicate] at h2
    rw [h2, Array.getElem?_toList]
    simp only [madeCells]
    rcases (show j % 7 = 0 ∨ j % 7 = 1 ∨ j % 7 = 2 ∨ j % 7 = 3 ∨ j % 7 = 4 ∨ j % 7 = 5 ∨ j % 7 = 6 by omega) with hm | hm | hm | hm | hm | hm | hm <;> simp [hj, hm, Mom.zero, Mom.cells]
  · rw [List.getElem?_eq_none (by simp [size_madeCells]; omega), List.getElem?_eq_none (by rw [moms_len]; simp; omega)]
theorem infoMom : (Try.prog.info? 56).map (fun i => (i.zero, i.size, i.bytes)) = some (some (.agg #[.int .i64 0, .int .i64 0, .int .i64 0, .string ⟨#[]⟩, .int .i64 0, .int .i64 0, .string ⟨#[]⟩]), 7, 72) := by kernel_rfl
theorem mom_parts : ∃ i0, Try.prog.info? 56 = some i0 ∧ i0.zero = some (.agg #[.int .i64 0, .int .i64 0, .int .i64 0, .string ⟨#[]⟩, .int .i64 0, .int .i64 0, .string ⟨#[]⟩]) ∧ i0.size = 7 ∧ i0.bytes = 72 := by
  have h := infoMom
  cases hi : Try.prog.info? 56 with
  | none => rw [hi] at h; cases h
  | some i0 =>
    rw [hi] at h
    simp only [Option.map_some, Option.some.injEq, Prod.mk.injEq] at h
    exact ⟨i0, rfl, h.1, h.2.1, h.2.2⟩
theorem seven_stores {wr : World} {B E n c g : Nat} {ys : List Mom} (h : wr.ownsRow B E 7 (.slice (some ⟨g, 0, none⟩) n c) n (moms ys)) {k : Nat} (hk : k < ys.length) (m : Mom) :
    (((((((wr.setCell ⟨g, k * 7, none⟩ (.int .i64 m.p)).setCell ⟨g, k * 7 + 1, none⟩ (.int .i64 m.a)).setCell ⟨g, k * 7 + 2, none⟩ (.int .i64 m.b)).setCell ⟨g, k * 7 + 3, none⟩ (.string m.x)).setCell ⟨g, k * 7 + 4, none⟩ (.int .i64 m.c)).setCell ⟨g, k * 7 + 5, none⟩ (.int .i64 m.d)).setCell ⟨g, k * 7 + 6, none⟩ (.string m.y)).ownsRow B E 7 (.slice (some ⟨g, 0, none⟩) n c) n (moms (ys.set k m)) := by
  have h1 := (h.stored (k * 7) (.int .i64 m.p)).1
  have h2 := (h1.stored (k * 7 + 1) (.int .i64 m.a)).1
  have h3 := (h2.stored (k * 7 + 2) (.int .i64 m.b)).1
  have h4 := (h3.stored (k * 7 + 3) (.string m.x)).1
  have h5 := (h4.stored (k * 7 + 4) (.int .i64 m.c)).1
  have h6 := (h5.stored (k * 7 + 5) (.int .i64 m.d)).1
  have h7 := (h6.stored (k * 7 + 6) (.string m.y)).1
  rw [moms_set ys k m hk] at h7
  exact h7
theorem seven_below {w wr : World} {B g k : Nat} (hb : Below B w wr) (hg : B ≤ g) (m : Mom) :
    Below B w (((((((wr.setCell ⟨g, k * 7, none⟩ (.int .i64 m.p)).setCell ⟨g, k * 7 + 1, none⟩ (.int .i64 m.a)).setCell ⟨g, k * 7 + 2, none⟩ (.int .i64 m.b)).setCell ⟨g, k * 7 + 3, none⟩ (.string m.x)).setCell ⟨g, k * 7 + 4, none⟩ (.int .i64 m.c)).setCell ⟨g, k * 7 + 5, none⟩ (.int .i64 m.d)).setCell ⟨g, k * 7 + 6, none⟩ (.string m.y)) :=
  ((((((hb.setCell (p := ⟨g, k * 7, none⟩) hg _).setCell (p := ⟨g, k * 7 + 1, none⟩) hg _).setCell (p := ⟨g, k * 7 + 2, none⟩) hg _).setCell (p := ⟨g, k * 7 + 3, none⟩) hg _).setCell (p := ⟨g, k * 7 + 4, none⟩) hg _).setCell (p := ⟨g, k * 7 + 5, none⟩) hg _).setCell (p := ⟨g, k * 7 + 6, none⟩) hg _
theorem own_below7 {w w' : World} {base e size n : Nat} {v : Value} {xs : List Value} (h : w.ownsRow base e size v n xs) (hb : Below w.heap.size w w') : w'.ownsRow base e size v n xs :=
  h.kept (row := none) ⟨hb.os, hb.tape, hb.output, hb.size, fun i hi _ => hb.block i hi⟩ (by cases v.ownBlock <;> simp)
theorem own_mom {w : World} {B E n c g : Nat} {ys : List Mom} (h : w.ownsRow B E 7 (.slice (some ⟨g, 0, none⟩) n c) n (moms ys)) {k : Nat} (hk : k < ys.length) : MomAt w g (k * 7) ys[k] := by
  obtain ⟨b, o, e, _, hm⟩ := (Row.of_own7 h).mom hk
  injection e with e
  injection e with e1 e2
  subst e1 e2
  simpa using hm
theorem copy_rel7 {n c B g k : Nat} {ms ys : List Mom} {m : Mom} {w wr : World}
    (hs : (((((((wr.setCell ⟨g, k * 7, none⟩ (.int .i64 m.p)).setCell ⟨g, k * 7 + 1, none⟩ (.int .i64 m.a)).setCell ⟨g, k * 7 + 2, none⟩ (.int .i64 m.b)).setCell ⟨g, k * 7 + 3, none⟩ (.string m.x)).setCell ⟨g, k * 7 + 4, none⟩ (.int .i64 m.c)).setCell ⟨g, k * 7 + 5, none⟩ (.int .i64 m.d)).setCell ⟨g, k * 7 + 6, none⟩ (.string m.y)).ownsRow B 56 7 (.slice (some ⟨g, 0, none⟩) n c) n (moms (ys.set k m)))
    (hb : Below B w wr) (hy : ∀ j, j < k → ys[j]? = ms[j]?) (hk : k < n) (hg : B ≤ g) (hyl : ys.length = n) (hp : ms[k]? = some m) :
    ∃ (k' : Nat) (ys' : List Mom), k' ≤ n ∧ Value.int .i64 ((k : Int) + 1) = .int .i64 k' ∧
      (((((((wr.setCell ⟨g, k * 7, none⟩ (.int .i64 m.p)).setCell ⟨g, k * 7 + 1, none⟩ (.int .i64 m.a)).setCell ⟨g, k * 7 + 2, none⟩ (.int .i64 m.b)).setCell ⟨g, k * 7 + 3, none⟩ (.string m.x)).setCell ⟨g, k * 7 + 4, none⟩ (.int .i64 m.c)).setCell ⟨g, k * 7 + 5, none⟩ (.int .i64 m.d)).setCell ⟨g, k * 7 + 6, none⟩ (.string m.y)).ownsRow B 56 7 (.slice (some ⟨g, 0, none⟩) n c) n (moms ys') ∧ (∀ j, j < k' → ys'[j]? = ms[j]?) ∧
      Below B w (((((((wr.setCell ⟨g, k * 7, none⟩ (.int .i64 m.p)).setCell ⟨g, k * 7 + 1, none⟩ (.int .i64 m.a)).setCell ⟨g, k * 7 + 2, none⟩ (.int .i64 m.b)).setCell ⟨g, k * 7 + 3, none⟩ (.string m.x)).setCell ⟨g, k * 7 + 4, none⟩ (.int .i64 m.c)).setCell ⟨g, k * 7 + 5, none⟩ (.int .i64 m.d)).setCell ⟨g, k * 7 + 6, none⟩ (.string m.y)) := by
  refine ⟨k + 1, ys.set k m, by omega, by go_num, hs, ?_, seven_below hb hg m⟩
  intro j hj
  rcases Nat.lt_or_ge j k with h | h
  · rw [List.getElem?_set_ne (by omega)]; exact hy j h
  · obtain rfl : j = k := by omega
    rw [List.getElem?_set_self (by omega), hp]
set_option maxHeartbeats 4000000 in
set_option maxRecDepth 100000 in
theorem toMomentS_any (A : Option Addr) (n c : Nat) (ms : List Mom) (w : World) (h : Row w w.heap.size A (moms ms)) (hl : ms.length = n) (hn : n ≤ 3000000) :
    Calls Try.prog 26 #[.slice A n c] w (MomsPost ms w) := by
  obtain ⟨i0, hi, hz0, hz1, hz2⟩ := mom_parts
  have hmk := mk_row7 (P := Try.prog) Try.underlying27 hi hz0 hz1 n (by rw [hz2]; omega) (by omega)
  obtain ⟨B, hB⟩ : ∃ B, w.heap.size = B := ⟨_, rfl⟩
  have HB := Lib.hid hB
  have hown0 := World.ownsRow_lit (base := w.heap.size) (e := 56) (size := 7) w (madeCells #[Value.int .i64 0, .int .i64 0, .int .i64 0, .string ⟨#[]⟩, .int .i64 0, .int .i64 0, .string ⟨#[]⟩] (n * 7)) n (Nat.le_refl _) (by unfold maxLen; omega) (by rw [size_madeCells])
  rw [made_moms] at hown0
  have hb0 := (Below.refl w.heap.size w).alloc (Nat.le_refl _) (.cells (madeCells #[Value.int .i64 0, .int .i64 0, .int .i64 0, .string ⟨#[]⟩, .int .i64 0, .int .i64 0, .string ⟨#[]⟩] (n * 7)) 56)
  rw [hB] at hown0 hb0 h
  clear hB
  go_enter Try.func26, Try.ntmps26
  go_wp2_with fail
  rw [HB.out]
  generalize w.alloc (.cells (madeCells #[Value.int .i64 0, Value.int .i64 0, Value.int .i64 0, Value.string ⟨#[]⟩, Value.int .i64 0, Value.int .i64 0, Value.string ⟨#[]⟩] (n * 7)) 56) = W1 at hown0 hb0 ⊢
  clear hmk
  have HL := Lib.hid hl
  clear hl
  go_loopw [4] (fun i wr => ∃ (k : Nat) (ys : List Mom), k ≤ n ∧ i = .int .i64 k ∧ wr.ownsRow B 56 7 (.slice (some ⟨B, 0, none⟩) n n) n (moms ys) ∧ (∀ j, j < k → ys[j]? = ms[j]?) ∧ Below B w wr) (fun i _ => n - (intOf i).toNat)
  case atStart => exact ⟨0, _, Nat.zero_le _, rfl, hown0, fun j hj => by omega, hb0⟩
  case round =>
    obtain ⟨k, ys, hk, rfl, hown, hys, hb⟩ := hrel
    have hyl : ys.length = n := by have := hown.1; rw [moms_len] at this; omega
    have HY := Lib.hid hys
    have HYL := Lib.hid hyl
    clear hys hown0 hb0 hyl
    by_cases hkn : k < n
    · have hkl : k < ms.length := by rw [HL.out]; exact hkn
      obtain ⟨b, o, rfl, hbb, hm⟩ := (h.below hb).mom (j := k) hkl
      have hu : ms[k]? = some (ms[k]'hkl) := List.getElem?_eq_getElem hkl
      generalize (ms[k]'hkl) = m at hm hu
      obtain ⟨m0, m1, m2, m3, m4, m5, m6⟩ := hm
      have HU := Lib.hid hu
      have hk' : (k : Int) < (n : Int) := by omega
      have hk0 : (0 : Int) ≤ (k : Int) := by omega
      have HOW := Lib.hid hown
      have HBB := Lib.hid hb
      have hBw : B ≤ wr.heap.size := by rw [← HB.out]; exact hb.size
      clear hu hown hb h
      go_wp2_with fail
      refine (toMoment_any _ _ _ _ _ _ _ _).mono ?_
      rintro e W2 ⟨rfl, hb2⟩
      have hown := own_below7 HOW.out hb2
      have hykl : k < ys.length := by rw [HYL.out]; exact hkn
      have hold := own_mom hown hykl
      generalize (ys[k]'hykl) = y at hold
      obtain ⟨y0, y1, y2, y3, y4, y5, y6⟩ := hold
      have z0 := hown.frozenAt (k * 7)
      have z1 := hown.frozenAt (k * 7 + 1)
      have z2 := hown.frozenAt (k * 7 + 2)
      have z3 := hown.frozenAt (k * 7 + 3)
      have z4 := hown.frozenAt (k * 7 + 4)
      have z5 := hown.frozenAt (k * 7 + 5)
      have z6 := hown.frozenAt (k * 7 + 6)
      have HC := Lib.hid (copy_rel7 (w := w) (seven_stores hown hykl m) (HBB.out.trans (hb2.mono hBw)) HY.out hkn (Nat.le_refl _) HYL.out HU.out)
      clear hown hb2 m0 m1 m2 m3 m4 m5 m6
      go_wp2_with fail
      go_roundw
      case rel => exact HC.out
      case measure => (simp [intOf] <;> omega)
    · obtain rfl : k = n := by omega
      have he : ys = ms := by
        apply List.ext_getElem?
        intro j
        rcases Nat.lt_or_ge j k with hj | hj
        · exact HY.out j hj
        · rw [List.getElem?_eq_none (by rw [HYL.out]; exact hj), List.getElem?_eq_none (by rw [HL.out]; exact hj)]
      subst he
      have HO := Lib.hid hown
      have HBB := Lib.hid hb
      clear hown hb h
      go_wp2_with fail
      go_ret
      have hl := HL.out
      subst hl
      have hB := HB.out
      subst hB
      exact ⟨_, _, rfl, HO.out, HBB.out⟩
end Go.Proofs.Ytlnldnenkajcdaa
