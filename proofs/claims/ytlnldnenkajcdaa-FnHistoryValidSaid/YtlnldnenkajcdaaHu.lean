/- The laws' helpers that copy a history and compare two. -/
import Derived.Test.YtlnldnenkajcdaaHt
set_option linter.unusedVariables false
set_option linter.unusedSimpArgs false
namespace Go.Proofs.Ytlnldnenkajcdaa
open Go.RowKit
/-- A box that holds a history. -/
def HBox (w : World) (g : Nat) (T : TypeId) (v : Value) (n : Int) : Prop := w.heap[g]? = some (.cells #[v, .int .i64 n] T (0, 0))
section
variable {w w' : World} {g B : Nat} {T : TypeId} {v : Value} {n : Int}
theorem HBox.c0 (h : HBox w g T v n) : w.cell? ⟨g, 0, none⟩ = some v := cell_of_row w g 0 _ _ _ h
theorem HBox.c1 (h : HBox w g T v n) : w.cell? ⟨g, 1, none⟩ = some (.int .i64 n) := cell_of_row w g 1 _ _ _ h
theorem HBox.fr (h : HBox w g T v n) (i : Nat) : w.frozen? ⟨g, i, none⟩ = false := by
  unfold HBox at h
  simp [World.frozen?, h]
theorem HBox.lt (h : HBox w g T v n) : g < w.heap.size := (Array.getElem?_eq_some_iff.1 h).1
theorem HBox.below (h : HBox w g T v n) (hb : Below B w w') (hg : g < B) : HBox w' g T v n := (hb.block g hg).trans h
theorem HBox.new (w : World) (T : TypeId) (v : Value) (n : Int) : HBox (w.alloc (.cells #[v, .int .i64 n] T)) w.heap.size T v n := heap_alloc_new w _
theorem HBox.alloc (h : HBox w g T v n) (o : Obj) : HBox (w.alloc o) g T v n := (heap_alloc_old w o h.lt).trans h
end
theorem own_set {w : World} {base size n c : Nat} {e : TypeId} {A : Option Addr} {xs : List Value} (h : w.ownsRow base e size (.slice A n c) n xs) {q : Addr} (hq : q.block < base) (v : Value) : (w.setCell q v).ownsRow base e size (.slice A n c) n xs := by
  refine h.kept ((Beside.refl q.block w).set (p := q) (.inl rfl) v) ?_
  cases A with
  | none => exact .inl rfl
  | some a =>
    right
    have := (h.lt a.block rfl).1
    intro e
    injection e with e
    omega
theorem own_cap {w : World} {base size n c : Nat} {e : TypeId} {A : Option Addr} {xs : List Value} (h : w.ownsRow base e size (.slice A n c) n xs) : n ≤ c := by
  rcases h.2 with ⟨h1, h2⟩ | ⟨g, cap, cur, h1, _, _, h2, _⟩
  · omega
  · injection h1 with _ _ h3
    omega
def HisPost (ms : List Mom) (n : Int) (w : World) (e : Ending) (w' : World) : Prop :=
  ∃ A c, e = .returned (.agg #[.slice A ms.length c, .int .i64 n]) ∧ ms.length ≤ c ∧ Row w' w'.heap.size A (moms ms) ∧ Below w.heap.size w w'
set_option maxHeartbeats 4000000 in
set_option maxRecDepth 100000 in
theorem toHistory_any (A : Option Addr) (n c : Nat) (at_ : Int) (ms : List Mom) (w : World) (h : Row w w.heap.size A (moms ms)) (hl : ms.length = n) (hn : n ≤ 3000000) :
    Calls Try.prog 9 #[.agg #[.slice A n c, .int .i64 at_]] w (HisPost ms at_ w) := by
  subst hl
  obtain ⟨Y, hY⟩ : ∃ Y, ((w.alloc (.cells #[.slice A ms.length c, .int .i64 at_] 24)).alloc (.cells #[.slice none 0 0, .int .i64 0] 29)).alloc (.cells #[.slice none 0 0, .int .i64 0] 29) = Y := ⟨_, rfl⟩
  have hbY : Below w.heap.size w Y := hY ▸ (((Below.refl w.heap.size w).alloc (Nat.le_refl _) _).alloc (by simp) _).alloc (by simp; omega) _
  have hrY := (h.below hbY).more hbY.size
  obtain ⟨s, hs⟩ : ∃ s, w.heap.size = s := ⟨_, rfl⟩
  have hzY : Y.heap.size = s + 3 := by rw [← hY, ← hs]; simp
  have hA : HBox Y s 24 (.slice A ms.length c) at_ := by rw [← hY, ← hs]; exact ((HBox.new w _ _ _).alloc _).alloc _
  have hR : HBox Y (s + 1) 29 (.slice none 0 0) 0 := by
    have h1 := (HBox.new (w.alloc (.cells #[.slice A ms.length c, .int .i64 at_] 24)) 29 (.slice none 0 0) 0).alloc (.cells #[.slice none 0 0, .int .i64 0] 29)
    rw [hY] at h1
    rw [← hs]; simpa using h1
  have hO : HBox Y (s + 1 + 1) 29 (.slice none 0 0) 0 := by
    have h1 := HBox.new ((w.alloc (.cells #[.slice A ms.length c, .int .i64 at_] 24)).alloc (.cells #[.slice none 0 0, .int .i64 0] 29)) 29 (.slice none 0 0) 0
    rw [hY] at h1
    rw [← hs]; simpa using h1
  have HY := Lib.hid (And.intro hbY (And.intro hA (And.intro hR hO)))
  have ya0 := hA.c0
  clear hbY hA hR hO h
  go_enter Try.func9, Try.ntmps9
  go_wp2_with fail
  refine (toMomentS_any A ms.length c ms _ hrY rfl hn).mono ?_
  rintro e W1 ⟨A1, c1, rfl, ho, hb1⟩
  have hA1 := HY.out.2.1.below hb1 (by omega)
  have hR1 := HY.out.2.2.1.below hb1 (by omega)
  have hO1 := HY.out.2.2.2.below hb1 (by omega)
  have hbw1 := HY.out.1.trans (hb1.mono HY.out.1.size)
  have ls1 : s + 1 < Y.heap.size := by omega
  have ls2 : s + 1 + 1 < Y.heap.size := by omega
  have ho2 := own_set (own_set (own_set (own_set ho (q := ⟨s + 1 + 1, 0, none⟩) ls2 (.slice A1 ms.length c1)) (q := ⟨s + 1 + 1, 1, none⟩) ls2 (.int .i64 at_)) (q := ⟨s + 1, 0, none⟩) ls1 (.slice A1 ms.length c1)) (q := ⟨s + 1, 1, none⟩) ls1 (.int .i64 at_)
  have ge1 : w.heap.size ≤ s + 1 + 1 := by omega
  have ge2 : w.heap.size ≤ s + 1 := by omega
  have hb2 := (((hbw1.setCell (p := ⟨s + 1 + 1, 0, none⟩) ge1 (.slice A1 ms.length c1)).setCell (p := ⟨s + 1 + 1, 1, none⟩) ge1 (.int .i64 at_)).setCell (p := ⟨s + 1, 0, none⟩) ge2 (.slice A1 ms.length c1)).setCell (p := ⟨s + 1, 1, none⟩) ge2 (.int .i64 at_)
  have HF := Lib.hid (And.intro (Row.of_own7 ho2) hb2)
  have hcap := own_cap ho
  have a1 := hA1.c1
  have o0 := hO1.c0
  have o1 := hO1.c1
  have f0 := hO1.fr 0
  have f1 := hO1.fr 1
  have r0 := hR1.c0
  have r1 := hR1.c1
  have q0 := hR1.fr 0
  have q1 := hR1.fr 1
  have ne1 : s + 1 + 1 ≠ s := by omega
  clear ho ho2 hb1 hb2 hbw1 hA1 hR1 hO1 ya0
  go_wp2_with fail
  refine bodyPost_ret (v := .agg #[.slice A1 ms.length c1, .int .i64 at_]) ?_ rfl ⟨A1, c1, rfl, hcap, HF.out.1, HF.out.2⟩
  simp [results, Try.results9, go_sem, r0, r1]
end Go.Proofs.Ytlnldnenkajcdaa
