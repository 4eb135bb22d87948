/- Histories of one moment: HistoryOf and the law's helpers. -/
import Derived.Test.YtpnbfhnljjcciaaMk
set_option linter.unusedVariables false
set_option linter.unusedSimpArgs false
namespace Go.Proofs.Ytpnbfhnljjcciaa
open Go.RowKit
/-- A moment's seven cells. -/
def mo (p a b : Int) (x : ByteArray) (c d : Int) (y : ByteArray) : List Value := [.int .i64 p, .int .i64 a, .int .i64 b, .string x, .int .i64 c, .int .i64 d, .string y]
theorem ho_own (w : World) (T : TypeId) (o : Obj) (cs : Array Value) (hc : cs.size = 7) : ((w.alloc o).alloc (.cells cs T)).ownsRow w.heap.size T 7 (.slice (some ⟨w.heap.size + 1, 0, none⟩) 1 1) 1 cs.toList := by
  have h := World.ownsRow_lit (base := w.heap.size) (e := T) (size := 7) (w.alloc o) cs 1 (by simp) (by decide) (by rw [hc])
  have e : (w.alloc o).heap.size = w.heap.size + 1 := by simp
  rw [e] at h
  exact h
def HoPost (w : World) (e : Ending) (w' : World) : Prop :=
  ∃ (A : Option Addr) (c : Nat), e = .returned (.agg #[.slice A 1 c, .int .i64 0]) ∧ w'.ownsRow w.heap.size 96 7 (.slice A 1 c) 1 (mo (-1) 0 0 ⟨#[]⟩ 0 0 ⟨#[]⟩) ∧ Below w.heap.size w w'

theorem iHO_any (w : World) : Calls Try.prog 39 #[] w (HoPost w) := by
  go_enter Try.func39, Try.ntmps39
  go_wp2_with fail
  exact bodyPost_ret (v := .agg #[.slice (some ⟨w.heap.size + 1, 0, none⟩) 1 1, .int .i64 0]) (by simp [results, Try.results39, go_sem]) rfl
    ⟨_, _, rfl, ho_own w _ _ _ rfl, ((Below.refl _ _).alloc (Nat.le_refl _) _).alloc (by simp) _⟩
theorem sHO_any (w : World) : Calls Try.prog 38 #[] w (HoPost w) := by
  go_enter Try.func38, Try.ntmps38
  go_wp2_with fail
  exact bodyPost_ret (v := .agg #[.slice (some ⟨w.heap.size + 1, 0, none⟩) 1 1, .int .i64 0]) (by simp [results, Try.results38, go_sem]) rfl
    ⟨_, _, rfl, ho_own w _ _ _ rfl, ((Below.refl _ _).alloc (Nat.le_refl _) _).alloc (by simp) _⟩
theorem eqChange_same (a b : Int) (x : ByteArray) (w : World) :
    Calls Try.prog 113 #[.agg #[.int .i64 a, .int .i64 b, .string x], .agg #[.int .i64 a, .int .i64 b, .string x]] w fun e w' => e = .returned (.bool true) ∧ Below w.heap.size w w' := by
  have hb : Below w.heap.size w ((w.alloc (.cells #[.int .i64 a, .int .i64 b, .string x] 57)).alloc (.cells #[.int .i64 a, .int .i64 b, .string x] 57)) := ((Below.refl w.heap.size w).alloc (Nat.le_refl _) _).alloc (by simp) _
  have HB := Lib.hid hb
  clear hb
  go_enter Try.func113, Try.ntmps113
  go_wp2_with fail
  go_ret
  exact ⟨rfl, HB.out⟩
theorem two_blocks {w W2 : World} {cs ds : Array Value} {T U : TypeId} (hb : Below ((w.alloc (.cells cs T)).alloc (.cells ds U)).heap.size ((w.alloc (.cells cs T)).alloc (.cells ds U)) W2) (i : Nat) :
    W2.cell? ⟨w.heap.size, i, none⟩ = cs[i]? ∧ W2.cell? ⟨w.heap.size + 1, i, none⟩ = ds[i]? := by
  have e : (w.alloc (.cells cs T)).heap.size = w.heap.size + 1 := by simp
  refine ⟨(hb.cell (p := ⟨w.heap.size, i, none⟩) (by simp; omega)).trans ?_, (hb.cell (p := ⟨w.heap.size + 1, i, none⟩) (by simp)).trans ?_⟩
  · exact cell_of_row _ _ i cs T (0, 0) ((Below.heap_alloc (w.alloc (.cells cs T)) (.cells ds U) w.heap.size (by simp)).trans (heap_alloc_new w _))
  · have h := heap_alloc_new (w.alloc (.cells cs T)) (.cells ds U)
    rw [e] at h
    exact cell_of_row _ _ i ds U (0, 0) h
theorem eqMoment_same (p a b : Int) (x : ByteArray) (c d : Int) (y : ByteArray) (w : World) :
    Calls Try.prog 104 #[.agg #[.int .i64 p, .int .i64 a, .int .i64 b, .string x, .int .i64 c, .int .i64 d, .string y], .agg #[.int .i64 p, .int .i64 a, .int .i64 b, .string x, .int .i64 c, .int .i64 d, .string y]] w fun e w' => e = .returned (.bool true) ∧ Below w.heap.size w w' := by
  have hb : Below w.heap.size w ((w.alloc (.cells #[.int .i64 p, .int .i64 a, .int .i64 b, .string x, .int .i64 c, .int .i64 d, .string y] 96)).alloc (.cells #[.int .i64 p, .int .i64 a, .int .i64 b, .string x, .int .i64 c, .int .i64 d, .string y] 96)) := ((Below.refl w.heap.size w).alloc (Nat.le_refl _) _).alloc (by simp) _
  have HB := Lib.hid hb
  clear hb
  go_enter Try.func104, Try.ntmps104
  go_wp2_with fail
  refine (eqChange_same _ _ _ _).mono ?_
  rintro e W2 ⟨rfl, hb2⟩
  obtain ⟨c4, d4⟩ := two_blocks hb2 4
  obtain ⟨c5, d5⟩ := two_blocks hb2 5
  obtain ⟨c6, d6⟩ := two_blocks hb2 6
  simp at c4 c5 c6 d4 d5 d6
  have HB2 := Lib.hid (HB.out.trans (hb2.mono (by simp; omega)))
  clear hb2
  go_wp2_with fail
  refine (eqChange_same _ _ _ _).mono ?_
  rintro e W3 ⟨rfl, hb3⟩
  have HB3 := Lib.hid (HB2.out.trans (hb3.mono HB2.out.size))
  clear hb3
  go_wp2_with fail
  go_ret
  exact ⟨rfl, HB3.out⟩
theorem mo_get (p a b : Int) (x : ByteArray) (c d : Int) (y : ByteArray) : (mo p a b x c d y).length = 7 := rfl
theorem own_g {w : World} {base e n c : Nat} {A : Option Addr} {xs : List Value} (h : w.ownsRow base e 7 (.slice A n c) n xs) (hn : 0 < n) : ∃ g, A = some ⟨g, 0, none⟩ ∧ base ≤ g ∧ g < w.heap.size ∧ ∀ j u, xs[j]? = some u → w.cell? ⟨g, j, none⟩ = some u := by
  obtain ⟨g, cap, hv, hb, hlt⟩ := h.form hn
  injection hv with hA
  subst hA
  refine ⟨g, rfl, hb, hlt, fun j u hj => ?_⟩
  have hc := h.cells (g := g) rfl j u hj
  by_cases h0 : j = 0
  · subst h0; simpa [Addr.add] using hc
  · simpa [Addr.add, h0] using hc
/-- A moment's cells stand in a slice of one. -/
def MoAt (w : World) (A : Option Addr) (l : List Value) : Prop := ∃ g, A = some ⟨g, 0, none⟩ ∧ g < w.heap.size ∧ ∀ j u, l[j]? = some u → w.cell? ⟨g, j, none⟩ = some u
theorem MoAt.below {w w' : World} {A : Option Addr} {l : List Value} (h : MoAt w A l) (hb : Below w.heap.size w w') : MoAt w' A l := by
  obtain ⟨g, h1, h2, h3⟩ := h
  exact ⟨g, h1, Nat.lt_of_lt_of_le h2 hb.size, fun j u hj => (hb.cell (p := ⟨g, j, none⟩) h2).trans (h3 j u hj)⟩
theorem MoAt.own {w : World} {base e c : Nat} {A : Option Addr} {xs : List Value} (h : w.ownsRow base e 7 (.slice A 1 c) 1 xs) : MoAt w A xs := by
  obtain ⟨g, h1, _, h3, h4⟩ := own_g h (by decide)
  exact ⟨g, h1, h3, h4⟩
/-- Nothing but block g has turned. -/
def Oth (g : Nat) (w w' : World) : Prop := w.heap.size ≤ w'.heap.size ∧ ∀ p : Addr, p.block < w.heap.size → p.block ≠ g → w'.cell? p = w.cell? p
theorem Oth.refl (g : Nat) (w : World) : Oth g w w := ⟨Nat.le_refl _, fun _ _ _ => rfl⟩
theorem Oth.set {g : Nat} {w w' : World} (h : Oth g w w') (j : Nat) (u : Value) : Oth g w (w'.setCell ⟨g, j, none⟩ u) :=
  ⟨by have := h.1; simpa [World.setCell] using this, fun p h1 h2 => (World.cell?_setCell_far w' ⟨g, j, none⟩ p u (Ne.symm h2)).trans (h.2 p h1 h2)⟩
theorem Oth.below {g : Nat} {w w' w'' : World} (h : Oth g w w') (hb : Below w'.heap.size w' w'') : Oth g w w'' :=
  ⟨Nat.le_trans h.1 hb.size, fun p h1 h2 => (hb.cell (Nat.lt_of_lt_of_le h1 h.1)).trans (h.2 p h1 h2)⟩
theorem Oth.start {g : Nat} {w w' w'' : World} (hb : Below w.heap.size w w') (h : Oth g w' w'') : Oth g w w'' :=
  ⟨Nat.le_trans hb.size h.1, fun p h1 h2 => (h.2 p (Nat.lt_of_lt_of_le h1 hb.size) h2).trans (hb.cell h1)⟩
/-- A variable that holds a history of one moment. -/
def HV (w : World) (b : Nat) (A : Option Addr) (c : Nat) : Prop := w.cell? ⟨b, 0, none⟩ = some (.slice A 1 c) ∧ w.cell? ⟨b, 1, none⟩ = some (.int .i64 0) ∧ b < w.heap.size
theorem HV.below {w w' : World} {b c : Nat} {A : Option Addr} (h : HV w b A c) (hb : Below w.heap.size w w') : HV w' b A c :=
  ⟨(hb.cell (p := ⟨b, 0, none⟩) h.2.2).trans h.1, (hb.cell (p := ⟨b, 1, none⟩) h.2.2).trans h.2.1, Nat.lt_of_lt_of_le h.2.2 hb.size⟩
theorem HV.oth {g : Nat} {w w' : World} {b c : Nat} {A : Option Addr} (h : HV w b A c) (hb : Oth g w w') (hg : b ≠ g) : HV w' b A c :=
  ⟨(hb.2 ⟨b, 0, none⟩ h.2.2 hg).trans h.1, (hb.2 ⟨b, 1, none⟩ h.2.2 hg).trans h.2.1, Nat.lt_of_lt_of_le h.2.2 hb.1⟩
theorem HV.new (w : World) (T : TypeId) (A : Option Addr) (c : Nat) : HV (w.alloc (.cells #[.slice A 1 c, .int .i64 0] T)) w.heap.size A c :=
  ⟨cell_of_row _ _ 0 _ _ _ (heap_alloc_new w _), cell_of_row _ _ 1 _ _ _ (heap_alloc_new w _), by simp⟩
set_option maxRecDepth 100000 in
theorem eqMomentS_same (A C : Option Addr) (m n : Nat) (p a b : Int) (x : ByteArray) (c d : Int) (y : ByteArray) (w : World) (h1 : MoAt w A (mo p a b x c d y)) (h2 : MoAt w C (mo p a b x c d y)) :
    Calls Try.prog 79 #[.slice A 1 m, .slice C 1 n] w fun e w' => e = .returned (.bool true) ∧ Below w.heap.size w w' := by
  obtain ⟨g, rfl, hg, hc⟩ := h1
  obtain ⟨f, rfl, hf, hd⟩ := h2
  have c0 := hc 0 _ rfl
  have d0 := hd 0 _ rfl
  have c1 := hc 1 _ rfl
  have d1 := hd 1 _ rfl
  have c2 := hc 2 _ rfl
  have d2 := hd 2 _ rfl
  have c3 := hc 3 _ rfl
  have d3 := hd 3 _ rfl
  have c4 := hc 4 _ rfl
  have d4 := hd 4 _ rfl
  have c5 := hc 5 _ rfl
  have d5 := hd 5 _ rfl
  have c6 := hc 6 _ rfl
  have d6 := hd 6 _ rfl
  clear hc hd
  have HB0 := Lib.hid (Below.refl w.heap.size w)
  go_enter Try.func79, Try.ntmps79
  go_wp2_with fail
  refine wp_loop_rounds 2 ?_
  rw [rounds_succ]
  go_wp2_with fail
  go_region_held3 (fun w' => (w'.cell? ⟨g, 0, none⟩ = some (.int .i64 p) ∧ w'.cell? ⟨g, 1, none⟩ = some (.int .i64 a) ∧ w'.cell? ⟨g, 2, none⟩ = some (.int .i64 b) ∧ w'.cell? ⟨g, 3, none⟩ = some (.string x) ∧ w'.cell? ⟨g, 4, none⟩ = some (.int .i64 c) ∧ w'.cell? ⟨g, 5, none⟩ = some (.int .i64 d) ∧ w'.cell? ⟨g, 6, none⟩ = some (.string y)) ∧ (w'.cell? ⟨f, 0, none⟩ = some (.int .i64 p) ∧ w'.cell? ⟨f, 1, none⟩ = some (.int .i64 a) ∧ w'.cell? ⟨f, 2, none⟩ = some (.int .i64 b) ∧ w'.cell? ⟨f, 3, none⟩ = some (.string x) ∧ w'.cell? ⟨f, 4, none⟩ = some (.int .i64 c) ∧ w'.cell? ⟨f, 5, none⟩ = some (.int .i64 d) ∧ w'.cell? ⟨f, 6, none⟩ = some (.string y))) (go_keep)
    ((go_at_call 104; refine (eqMoment_same _ _ _ _ _ _ _ _).mono ?_; rintro e w1 ⟨rfl, hb1⟩; have k0 := (hb1.cell (p := ⟨g, 0, none⟩) hg).trans c0; have k1 := (hb1.cell (p := ⟨g, 1, none⟩) hg).trans c1; have k2 := (hb1.cell (p := ⟨g, 2, none⟩) hg).trans c2; have k3 := (hb1.cell (p := ⟨g, 3, none⟩) hg).trans c3; have k4 := (hb1.cell (p := ⟨g, 4, none⟩) hg).trans c4; have k5 := (hb1.cell (p := ⟨g, 5, none⟩) hg).trans c5; have k6 := (hb1.cell (p := ⟨g, 6, none⟩) hg).trans c6; have l0 := (hb1.cell (p := ⟨f, 0, none⟩) hf).trans d0; have l1 := (hb1.cell (p := ⟨f, 1, none⟩) hf).trans d1; have l2 := (hb1.cell (p := ⟨f, 2, none⟩) hf).trans d2; have l3 := (hb1.cell (p := ⟨f, 3, none⟩) hf).trans d3; have l4 := (hb1.cell (p := ⟨f, 4, none⟩) hf).trans d4; have l5 := (hb1.cell (p := ⟨f, 5, none⟩) hf).trans d5; have l6 := (hb1.cell (p := ⟨f, 6, none⟩) hf).trans d6))
  all_goals
    go_wp2_with fail
    rw [rounds_succ]
    go_wp2_with fail
    go_ret
    exact ⟨rfl, (Below.drew HB0.out).trans hb1⟩
theorem eqHistory_same (A C : Option Addr) (m n : Nat) (p a b : Int) (x : ByteArray) (c d : Int) (y : ByteArray) (w : World) (h1 : MoAt w A (mo p a b x c d y)) (h2 : MoAt w C (mo p a b x c d y)) :
    Calls Try.prog 40 #[.agg #[.slice A 1 m, .int .i64 0], .agg #[.slice C 1 n, .int .i64 0]] w fun e w' => e = .returned (.bool true) ∧ Below w.heap.size w w' := by
  have hb : Below w.heap.size w ((w.alloc (.cells #[.slice A 1 m, .int .i64 0] 51)).alloc (.cells #[.slice C 1 n, .int .i64 0] 51)) := ((Below.refl w.heap.size w).alloc (Nat.le_refl _) _).alloc (by simp) _
  have HB := Lib.hid hb
  have H1 := Lib.hid (h1.below hb)
  have H2 := Lib.hid (h2.below hb)
  clear hb h1 h2
  go_enter Try.func40, Try.ntmps40
  go_wp2_with fail
  refine (eqMomentS_same A C m n p a b x c d y _ H1.out H2.out).mono ?_
  rintro e W2 ⟨rfl, hb2⟩
  obtain ⟨c1, d1⟩ := two_blocks hb2 1
  simp at c1 d1
  have HB2 := Lib.hid (HB.out.trans (hb2.mono (by simp; omega)))
  clear hb2
  go_wp2_with fail
  go_ret
  exact ⟨rfl, HB2.out⟩
set_option maxRecDepth 100000 in
theorem markMomentS_any (g m B : Nat) (p a b : Int) (x : ByteArray) (c d : Int) (y : ByteArray) (w : World) (h : w.ownsRow B 96 7 (.slice (some ⟨g, 0, none⟩) 1 m) 1 (mo p a b x c d y)) (hgB : B ≤ g) (hB : B ≤ w.heap.size) :
    Calls Try.prog 80 #[.slice (some ⟨g, 0, none⟩) 1 m, .int .i64 1] w fun e w' => e = .returned (.int .i64 8) ∧ (w'.ownsRow B 96 7 (.slice (some ⟨g, 0, none⟩) 1 m) 1 (mo 1 2 3 (mkT 4) 5 6 (mkT 7)) ∧ Below B w w' ∧ Oth g w w') := by
  have c0 : w.cell? ⟨g, 0, none⟩ = some (.int .i64 p) := h.cellAt 0 (by decide)
  have f0 := h.frozenAt 0
  have c1 : w.cell? ⟨g, 1, none⟩ = some (.int .i64 a) := h.cellAt 1 (by decide)
  have f1 := h.frozenAt 1
  have c2 : w.cell? ⟨g, 2, none⟩ = some (.int .i64 b) := h.cellAt 2 (by decide)
  have f2 := h.frozenAt 2
  have c3 : w.cell? ⟨g, 3, none⟩ = some (.string x) := h.cellAt 3 (by decide)
  have f3 := h.frozenAt 3
  have c4 : w.cell? ⟨g, 4, none⟩ = some (.int .i64 c) := h.cellAt 4 (by decide)
  have f4 := h.frozenAt 4
  have c5 : w.cell? ⟨g, 5, none⟩ = some (.int .i64 d) := h.cellAt 5 (by decide)
  have f5 := h.frozenAt 5
  have c6 : w.cell? ⟨g, 6, none⟩ = some (.string y) := h.cellAt 6 (by decide)
  have f6 := h.frozenAt 6
  have ho1 : (((w.setCell ⟨g, 0, none⟩ (.int .i64 1)).setCell ⟨g, 1, none⟩ (.int .i64 2)).setCell ⟨g, 2, none⟩ (.int .i64 3)).ownsRow B 96 7 (.slice (some ⟨g, 0, none⟩) 1 m) 1 (mo 1 2 3 x c d y) :=
    (((h.stored 0 (.int .i64 1)).1.stored 1 (.int .i64 2)).1.stored 2 (.int .i64 3)).1
  have hb1 : Below B w (((w.setCell ⟨g, 0, none⟩ (.int .i64 1)).setCell ⟨g, 1, none⟩ (.int .i64 2)).setCell ⟨g, 2, none⟩ (.int .i64 3)) :=
    (((Below.refl B w).setCell (p := ⟨g, 0, none⟩) hgB _).setCell (p := ⟨g, 1, none⟩) hgB _).setCell (p := ⟨g, 2, none⟩) hgB _
  have hx1 := (((Oth.refl g w).set 0 (.int .i64 1)).set 1 (.int .i64 2)).set 2 (.int .i64 3)
  have HO := Lib.hid (And.intro ho1 (And.intro hb1 hx1))
  clear ho1 hb1 hx1
  go_enter Try.func80, Try.ntmps80
  go_wp2_with fail
  refine wp_loop_rounds 2 ?_
  rw [rounds_succ]
  go_wp2_with fail
  refine (markText_any 4 _ (by omega)).mono ?_
  rintro e W2 ⟨rfl, hb2⟩
  have ho2 := own_below1 HO.out.1 hb2
  have hb3 := HO.out.2.1.trans (hb2.mono (Nat.le_trans hB HO.out.2.1.size))
  have hx3 := HO.out.2.2.below hb2
  clear c0 c1 c2 c3 c4 c5 c6 f0 f1 f2 f3 f4 f5 f6 HO hb2 h
  have c3 : W2.cell? ⟨g, 3, none⟩ = some (.string x) := ho2.cellAt 3 (by decide)
  have f3 := ho2.frozenAt 3
  have c4 : W2.cell? ⟨g, 4, none⟩ = some (.int .i64 c) := ho2.cellAt 4 (by decide)
  have f4 := ho2.frozenAt 4
  have c5 : W2.cell? ⟨g, 5, none⟩ = some (.int .i64 d) := ho2.cellAt 5 (by decide)
  have f5 := ho2.frozenAt 5
  have c6 : W2.cell? ⟨g, 6, none⟩ = some (.string y) := ho2.cellAt 6 (by decide)
  have f6 := ho2.frozenAt 6
  have ho3 : (((W2.setCell ⟨g, 3, none⟩ (.string (mkT 4))).setCell ⟨g, 4, none⟩ (.int .i64 5)).setCell ⟨g, 5, none⟩ (.int .i64 6)).ownsRow B 96 7 (.slice (some ⟨g, 0, none⟩) 1 m) 1 (mo 1 2 3 (mkT 4) 5 6 y) :=
    (((ho2.stored 3 (.string (mkT 4))).1.stored 4 (.int .i64 5)).1.stored 5 (.int .i64 6)).1
  have hb4 := ((hb3.setCell (p := ⟨g, 3, none⟩) hgB (.string (mkT 4))).setCell (p := ⟨g, 4, none⟩) hgB (.int .i64 5)).setCell (p := ⟨g, 5, none⟩) hgB (.int .i64 6)
  have hx4 := ((hx3.set 3 (.string (mkT 4))).set 4 (.int .i64 5)).set 5 (.int .i64 6)
  have HO := Lib.hid (And.intro ho3 (And.intro hb4 hx4))
  clear ho2 hb3 hx3 ho3 hb4 hx4
  go_wp2_with fail
  refine (markText_any 7 _ (by omega)).mono ?_
  rintro e W4 ⟨rfl, hb5⟩
  have ho4 := own_below1 HO.out.1 hb5
  have hb6 := HO.out.2.1.trans (hb5.mono (Nat.le_trans hB HO.out.2.1.size))
  have hx6 := HO.out.2.2.below hb5
  clear c3 c4 c5 c6 f3 f4 f5 f6 HO hb5
  have c6 : W4.cell? ⟨g, 6, none⟩ = some (.string y) := ho4.cellAt 6 (by decide)
  have f6 := ho4.frozenAt 6
  have ho5 : (W4.setCell ⟨g, 6, none⟩ (.string (mkT 7))).ownsRow B 96 7 (.slice (some ⟨g, 0, none⟩) 1 m) 1 (mo 1 2 3 (mkT 4) 5 6 (mkT 7)) := (ho4.stored 6 (.string (mkT 7))).1
  have hb7 := hb6.setCell (p := ⟨g, 6, none⟩) hgB (.string (mkT 7))
  have hx7 := hx6.set 6 (.string (mkT 7))
  have HO := Lib.hid (And.intro ho5 (And.intro hb7 hx7))
  clear ho4 hb6 hx6 ho5 hb7 hx7
  go_wp2_with fail
  rw [rounds_succ]
  go_wp2_with fail
  go_ret
  exact ⟨rfl, HO.out.1, HO.out.2.1, HO.out.2.2⟩
end Go.Proofs.Ytpnbfhnljjcciaa
