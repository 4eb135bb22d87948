/- The contract of the reference's texts of a history. -/
import Derived.Test.YtlnldnenkajcdaaHw
import Derived.Test.YtlnldnenkajcdaaHx
import Derived.Deep.RegionHeld3
set_option linter.unusedVariables false
set_option linter.unusedSimpArgs false
namespace Go.Proofs.Ytlnldnenkajcdaa
open Go.RowKit
/-- Block g holds exactly these cells. -/
def LR (w : World) (g : Nat) (T : TypeId) (xs : List Value) : Prop := w.heap[g]? = some (.cells xs.toArray T (0, 0))
section
variable {w w' : World} {g B : Nat} {T : TypeId} {xs : List Value}
theorem LR.cell (h : LR w g T xs) (j : Nat) : w.cell? ⟨g, j, none⟩ = xs[j]? := by
  rw [cell_of_row w g j _ _ _ h, List.getElem?_toArray]
theorem LR.fr (h : LR w g T xs) (i : Nat) : w.frozen? ⟨g, i, none⟩ = false := by
  unfold LR at h
  simp [World.frozen?, h]
theorem LR.lt (h : LR w g T xs) : g < w.heap.size := (Array.getElem?_eq_some_iff.1 h).1
theorem LR.below (h : LR w g T xs) (hb : Below B w w') (hg : g < B) : LR w' g T xs := (hb.block g hg).trans h
theorem LR.alloc (h : LR w g T xs) (o : Obj) : LR (w.alloc o) g T xs := (heap_alloc_old w o h.lt).trans h
theorem LR.other (h : LR w g T xs) {q : Addr} (hq : q.block ≠ g) (v : Value) : LR (w.setCell q v) g T xs := (Below.heap_setCell w q v g (fun e => hq e.symm)).trans h
theorem LR.set (h : LR w g T xs) (j : Nat) (v : Value) : LR (w.setCell ⟨g, j, none⟩ v) g T (xs.set j v) := by
  unfold LR at h ⊢
  simp [World.setCell, Array.getElem?_modify, h]
theorem LR.new (w : World) (T : TypeId) (z : Value) (n : Nat) : LR (w.alloc (.cells (madeCells #[z] n) T)) w.heap.size T (List.replicate n z) := by
  unfold LR
  rw [heap_alloc_new]
  congr 2
  apply Array.toList_inj.1
  rw [toList_madeCells_one]
theorem HBox.other {v : Value} {n : Int} (h : HBox w g T v n) {q : Addr} (hq : q.block ≠ g) (u : Value) : HBox (w.setCell q u) g T v n := (Below.heap_setCell w q u g (fun e => hq e.symm)).trans h
end
/-- A box that holds a change. -/
def CB (w : World) (g : Nat) (a c : Int) (put : ByteArray) : Prop := w.heap[g]? = some (.cells #[.int .i64 a, .int .i64 c, .string put] 36 (0, 0))
section
variable {w w' : World} {g B : Nat} {a c : Int} {put : ByteArray}
theorem CB.c0 (h : CB w g a c put) : w.cell? ⟨g, 0, none⟩ = some (.int .i64 a) := cell_of_row w g 0 _ _ _ h
theorem CB.c1 (h : CB w g a c put) : w.cell? ⟨g, 1, none⟩ = some (.int .i64 c) := cell_of_row w g 1 _ _ _ h
theorem CB.c2 (h : CB w g a c put) : w.cell? ⟨g, 2, none⟩ = some (.string put) := cell_of_row w g 2 _ _ _ h
theorem CB.fr (h : CB w g a c put) (i : Nat) : w.frozen? ⟨g, i, none⟩ = false := by
  unfold CB at h
  simp [World.frozen?, h]
theorem CB.lt (h : CB w g a c put) : g < w.heap.size := (Array.getElem?_eq_some_iff.1 h).1
theorem CB.below (h : CB w g a c put) (hb : Below B w w') (hg : g < B) : CB w' g a c put := (hb.block g hg).trans h
theorem CB.new (w : World) (a c : Int) (put : ByteArray) : CB (w.alloc (.cells #[.int .i64 a, .int .i64 c, .string put] 36)) w.heap.size a c put := heap_alloc_new w _
theorem CB.sets (h : CB w g a c put) (x y : Int) (z : ByteArray) : CB (((w.setCell ⟨g, 0, none⟩ (.int .i64 x)).setCell ⟨g, 1, none⟩ (.int .i64 y)).setCell ⟨g, 2, none⟩ (.string z)) g x y z := by
  unfold CB at h ⊢
  simp [World.setCell, Array.getElem?_modify, h]
end
theorem MBox.others {w : World} {g G : Nat} {T : TypeId} {p a b : Int} {x : ByteArray} {c d : Int} {y : ByteArray} (h : MBox w g T p a b x c d y) (hg : G ≠ g) (u v z : Value) : MBox (((w.setCell ⟨G, 0, none⟩ u).setCell ⟨G, 1, none⟩ v).setCell ⟨G, 2, none⟩ z) g T p a b x c d y :=
  ((h.other (q := ⟨G, 0, none⟩) hg u).other (q := ⟨G, 1, none⟩) hg v).other (q := ⟨G, 2, none⟩) hg z
def bVals (K : List Bool) : List Value := K.map Value.bool
theorem bVals_get (K : List Bool) (j : Nat) : (bVals K)[j]? = K[j]?.map Value.bool := by simp [bVals]
theorem bVals_set (K : List Bool) (j : Nat) (b : Bool) : (bVals K).set j (.bool b) = bVals (K.set j b) := by simp [bVals, List.map_set]
theorem strVals_set (T : List ByteArray) (j : Nat) (x : ByteArray) : (strVals T).set j (.string x) = strVals (T.set j x) := by simp [strVals, List.map_set]
theorem strVals_get (T : List ByteArray) (j : Nat) : (strVals T)[j]? = T[j]?.map Value.string := by simp [strVals]
/-- What is held while the reference works: the box of the history, its texts and what is known. -/
def St (w wr : World) (b : Nat) (sl : Value) (n : Int) (T : List ByteArray) (K : List Bool) : Prop :=
  Below b w wr ∧ HBox wr b 29 sl n ∧ LR wr (b + 1) 9 (strVals T) ∧ LR wr (b + 1 + 1) 4 (bVals K)
section
variable {w wr W : World} {b : Nat} {sl : Value} {n : Int} {T : List ByteArray} {K : List Bool}
theorem St.size (h : St w wr b sl n T K) : b + 1 + 1 < wr.heap.size := h.2.2.2.lt
theorem St.below (h : St w wr b sl n T K) (hb : Below wr.heap.size wr W) : St w W b sl n T K :=
  ⟨h.1.trans (hb.mono (by have := h.size; omega)), h.2.1.below hb h.2.1.lt, h.2.2.1.below hb h.2.2.1.lt, h.2.2.2.below hb h.2.2.2.lt⟩
theorem St.alloc (h : St w wr b sl n T K) (o : Obj) : St w (wr.alloc o) b sl n T K := h.below ((Below.refl _ _).alloc (Nat.le_refl _) o)
theorem St.drewN (h : St w wr b sl n T K) (m : Nat) : St w (wr.drewN m) b sl n T K := h.below (below_drewN (Below.refl _ _) m)
theorem St.text (h : St w wr b sl n T K) (k : Nat) (x : ByteArray) : St w (wr.setCell ⟨b + 1, k, none⟩ (.string x)) b sl n (T.set k x) K :=
  ⟨h.1.setCell (p := ⟨b + 1, k, none⟩) (by show b ≤ b + 1; omega) _, h.2.1.other (q := ⟨b + 1, k, none⟩) (by show b + 1 ≠ b; omega) _, by rw [← strVals_set]; exact h.2.2.1.set k _, h.2.2.2.other (q := ⟨b + 1, k, none⟩) (by show b + 1 ≠ b + 1 + 1; omega) _⟩
theorem St.mark (h : St w wr b sl n T K) (k : Nat) : St w (wr.setCell ⟨b + 1 + 1, k, none⟩ (.bool true)) b sl n T (K.set k true) :=
  ⟨h.1.setCell (p := ⟨b + 1 + 1, k, none⟩) (by show b ≤ b + 1 + 1; omega) _, h.2.1.other (q := ⟨b + 1 + 1, k, none⟩) (by show b + 1 + 1 ≠ b; omega) _, h.2.2.1.other (q := ⟨b + 1 + 1, k, none⟩) (by show b + 1 + 1 ≠ b + 1; omega) _, by rw [← bVals_set]; exact h.2.2.2.set k _⟩
theorem St.other (h : St w wr b sl n T K) {q : Addr} (hq : b + 1 + 1 < q.block) (v : Value) : St w (wr.setCell q v) b sl n T K :=
  ⟨h.1.setCell (p := q) (by omega) _, h.2.1.other (by omega) _, h.2.2.1.other (by omega) _, h.2.2.2.other (by omega) _⟩
theorem St.others (h : St w wr b sl n T K) {G : Nat} (hG : b + 1 + 1 < G) (u v z : Value) : St w (((wr.setCell ⟨G, 0, none⟩ u).setCell ⟨G, 1, none⟩ v).setCell ⟨G, 2, none⟩ z) b sl n T K :=
  ((h.other (q := ⟨G, 0, none⟩) hG u).other (q := ⟨G, 1, none⟩) hG v).other (q := ⟨G, 2, none⟩) hG z
theorem St.tcell (h : St w wr b sl n T K) {k : Nat} {x : ByteArray} (hx : T[k]? = some x) : wr.cell? ⟨b + 1, k, none⟩ = some (.string x) := by rw [h.2.2.1.cell, strVals_get, hx]; rfl
theorem St.kcell (h : St w wr b sl n T K) {k : Nat} {x : Bool} (hx : K[k]? = some x) : wr.cell? ⟨b + 1 + 1, k, none⟩ = some (.bool x) := by rw [h.2.2.2.cell, bVals_get, hx]; rfl
end
theorem infoBoo : (Try.prog.info? 4).map (fun i => (i.zero, i.size, i.bytes)) = some (some (.bool false), 1, 1) := by kernel_rfl
theorem RefF.good {ms : List Mom} {n : Nat} {s : ByteArray} {T : List ByteArray} {K : List Bool} {m : Mom} (h : RefF ms n s T K ms.length) (hn : 1 ≤ ms.length ∧ ms.length ≤ 30) (hv : valid s.data.toList = true) (hm : ms[0]? = some m) (hz : Zer m) (hk : n < ms.length) : Good ms n s T :=
  ⟨hn, hv, ⟨m, hm, hz⟩, ⟨n, rfl, hk, h.2.1⟩, h.1.1, fun j m' hj hm' => h.2.2.2.2.2 j m' hj (List.getElem?_eq_some_iff.1 hm').1 hm'⟩
def LtPost (ms : List Mom) (n : Int) (s : ByteArray) (w : World) (e : Ending) (w' : World) : Prop :=
  ∃ (v : Value) (b : Bool), e = .returned (.tuple #[v, .bool b]) ∧ (b = true ↔ HvP ms n s) ∧ (b = true → ∃ A T, v = .slice A ms.length ms.length ∧ Good ms n s T ∧ Row w' w'.heap.size A (strVals T)) ∧ Below w.heap.size w w'
theorem LtPost.no {ms : List Mom} {n : Int} {s : ByteArray} {w w' : World} {v : Value} (h : ¬ HvP ms n s) (hb : Below w.heap.size w w') : LtPost ms n s w (.returned (.tuple #[v, .bool false])) w' :=
  ⟨v, false, rfl, not_iff h, fun e => absurd e (by decide), hb⟩
set_option maxHeartbeats 8000000 in
set_option maxRecDepth 100000 in
theorem sLt_any (A : Option Addr) (n c : Nat) (at_ : Int) (ms : List Mom) (s : ByteArray) (w : World) (h : Row w w.heap.size A (moms ms)) (hl : ms.length = n) (h30 : 1 ≤ n ∧ n ≤ 30) (hv : valid s.data.toList = true) (hx : ∀ m ∈ ms, m.x.size ≤ 2000000 ∧ m.y.size ≤ 2000000) (m00 : Mom) (hm00 : ms[0]? = some m00) (hz00 : Zer m00) (hat : -9223372036854775808 ≤ at_ ∧ at_ ≤ 9223372036854775807) :
    Calls Try.prog 25 #[.agg #[.slice A n c, .int .i64 at_], .string s] w (LtPost ms at_ s w) := by
  subst hl
  obtain ⟨i0, hi, hz0, hz1, hz2⟩ := info_parts2 infoStr
  obtain ⟨i1, hi1, hy0, hy1, hy2⟩ := info_parts2 infoBoo
  have hmk1 := mk_row (P := Try.prog) Try.underlying57 hi hz0 hz1 ms.length (by rw [hz2]; omega) (by omega)
  have hmk2 := mk_row (P := Try.prog) Try.underlying78 hi1 hy0 hy1 ms.length (by rw [hy2]; omega) (by omega)
  obtain ⟨B, hB⟩ : ∃ B, w.heap.size = B := ⟨_, rfl⟩
  obtain ⟨Y, hY⟩ : ∃ Y, ((w.alloc (.cells #[.slice A ms.length c, .int .i64 at_] 29)).alloc (.cells (madeCells #[.string .empty] ms.length) 9)).alloc (.cells (madeCells #[.bool false] ms.length) 4) = Y := ⟨_, rfl⟩
  have hst : St w Y B (.slice A ms.length c) at_ (List.replicate ms.length ⟨#[]⟩) (List.replicate ms.length false) := by
    have hb : Below w.heap.size w Y := hY ▸ (((Below.refl w.heap.size w).alloc (Nat.le_refl _) _).alloc (by simp) _).alloc (by simp; omega) _
    have e1 : strVals (List.replicate ms.length ⟨#[]⟩) = List.replicate ms.length (.string .empty) := by unfold strVals; rw [List.map_replicate]; rfl
    have e2 : bVals (List.replicate ms.length false) = List.replicate ms.length (.bool false) := by simp [bVals]
    refine ⟨hB ▸ hb, ?_, ?_, ?_⟩
    · rw [← hY, ← hB]; exact ((HBox.new w _ _ _).alloc _).alloc _
    · rw [e1, ← hY, ← hB]
      have h1 := (LR.new (w.alloc (.cells #[.slice A ms.length c, .int .i64 at_] 29)) 9 (.string .empty) ms.length).alloc (.cells (madeCells #[.bool false] ms.length) 4)
      simpa using h1
    · rw [e2, ← hY, ← hB]
      have h1 := LR.new ((w.alloc (.cells #[.slice A ms.length c, .int .i64 at_] 29)).alloc (.cells (madeCells #[.string .empty] ms.length) 9)) 4 (.bool false) ms.length
      simpa using h1
  have HS := Lib.hid hst
  have y0 := hst.2.1.c0
  have y1 := hst.2.1.c1
  have hlen1 : (1 : Int) ≤ (ms.length : Int) := by omega
  have hin1 := fun W => l1In_any at_ 0 ((ms.length : Int) - 1) W
  clear hst
  by_cases hat2 : 0 ≤ at_ ∧ at_ < ms.length
  rotate_left
  · have e1 : inI at_ 0 ((ms.length : Int) - 1) = false := by unfold inI; exact decide_eq_false (by omega)
    rw [e1] at hin1
    have HIN := Lib.hid hin1
    have HNO := Lib.hid (at_fail (s := s) hat2)
    clear hin1 e1 hat2
    go_enter Try.func25, Try.ntmps25
    go_wp2_with fail
    refine (HIN.out _).mono ?_
    rintro e w' ⟨rfl, rfl⟩
    go_wp2_with fail
    go_ret2
    exact LtPost.no HNO.out (hB.symm ▸ HS.out.1)
  have e1 : inI at_ 0 ((ms.length : Int) - 1) = true := by unfold inI; exact decide_eq_true (by omega)
  rw [e1] at hin1
  have HIN := Lib.hid hin1
  clear hin1 e1
  obtain ⟨k0, rfl⟩ := Int.eq_ofNat_of_zero_le hat2.1
  have hk0l : k0 < ms.length := by omega
  have HR0 := Lib.hid (show RefB ms k0 s (List.replicate ms.length ⟨#[]⟩) (List.replicate ms.length false) k0 s from ⟨Kno.start ms k0 s, WayB.start hk0l hv, .inl ⟨rfl, rfl⟩⟩)
  obtain ⟨b0, o0, rfl, hb0, _⟩ := h.mom (j := 0) (by omega)
  rw [hB] at hb0
  have nb1 : b0 ≠ B + 1 := by omega
  have nb2 : b0 ≠ B + 1 + 1 := by omega
  have nb3 : B + 1 ≠ b0 := by omega
  have nb4 : B + 1 + 1 ≠ b0 := by omega
  have HV := Lib.hid hv
  have H30 := Lib.hid h30
  have HZ := Lib.hid (And.intro hm00 hz00)
  clear hv hm00 hz00
  go_enter Try.func25, Try.ntmps25
  go_wp2_with fail
  refine (HIN.out _).mono ?_
  rintro e w' ⟨rfl, rfl⟩
  go_wp2_with fail
  clear hmk1 hmk2 HIN y0 y1
  go_loopw [8, 9] (fun av xv wr => ∃ (k : Nat) (x : ByteArray) (T : List ByteArray) (K : List Bool), av = .int .i64 k ∧ xv = .string x ∧ k ≤ k0 ∧ RefB ms k0 s T K k x ∧ St w wr B (.slice (some ⟨b0, o0, none⟩) ms.length c) k0 T K) (fun av _ _ => (intOf av).toNat)
  case atStart => exact ⟨k0, s, _, _, rfl, rfl, Nat.le_refl _, HR0.out, HS.out⟩
  case round =>
    obtain ⟨k, x, T, K, rfl, rfl, hkk, href, hst⟩ := hrel
    have hway := href.2.1
    have hkl := hway.1
    have hTl := href.1.1
    have hKl := href.1.2.1
    have hx120 := valid_size hway.2.1
    obtain ⟨b2, o2, e2, hbb2, hm⟩ := (((hB ▸ h : Row w B (some ⟨b0, o0, none⟩) (moms ms)).below hst.1)).mom (j := k) hkl
    injection e2 with e2
    injection e2 with e2 e3
    subst e2 e3
    have hms : ms[k]? = some (ms[k]'hkl) := List.getElem?_eq_getElem hkl
    have hyy := (hx _ (List.getElem_mem hkl)).2
    generalize (ms[k]'hkl) = m at hm hms hyy
    obtain ⟨t1, hTk⟩ : ∃ t1, T[k]? = some t1 := ⟨_, List.getElem?_eq_getElem (by omega)⟩
    obtain ⟨t2, hKk⟩ : ∃ t2, K[k]? = some t2 := ⟨_, List.getElem?_eq_getElem (by omega)⟩
    have c1 := hst.tcell hTk
    have c2 := hst.kcell hKk
    have f1 := hst.2.2.1.fr k
    have f2 := hst.2.2.2.fr k
    have hk' : (k : Int) < (ms.length : Int) := by omega
    have hk1 : (0 : Int) ≤ (k : Int) := by omega
    have hst2 := (hst.text k x).mark k
    have hm2 : MomAt ((wr.setCell ⟨B + 1, k, none⟩ (.string x)).setCell ⟨B + 1 + 1, k, none⟩ (.bool true)) b0 (o0 + k * 7) m :=
      hm.below (((Below.refl B wr).setCell (p := ⟨B + 1, k, none⟩) (by show B ≤ B + 1; omega) _).setCell (p := ⟨B + 1 + 1, k, none⟩) (by show B ≤ B + 1 + 1; omega) _) hbb2
    obtain ⟨W1, hW1⟩ : ∃ W1, (wr.setCell ⟨B + 1, k, none⟩ (.string x)).setCell ⟨B + 1 + 1, k, none⟩ (.bool true) = W1 := ⟨_, rfl⟩
    rw [hW1] at hst2 hm2
    obtain ⟨m0, m1, m2, m3, m4, m5, m6⟩ := hm2
    have z0 := hst2.2.1.c0
    have HS2 := Lib.hid hst2
    have ne12 : B + 1 ≠ B + 1 + 1 := by omega
    have hbx := MBox.new W1 56 m.p m.a m.b m.x m.c m.d m.y
    obtain ⟨X, hX⟩ : ∃ X, W1.alloc (.cells #[.int .i64 m.p, .int .i64 m.a, .int .i64 m.b, .string m.x, .int .i64 m.c, .int .i64 m.d, .string m.y] 56) = X := ⟨_, rfl⟩
    have hstX := hst2.alloc (.cells #[.int .i64 m.p, .int .i64 m.a, .int .i64 m.b, .string m.x, .int .i64 m.c, .int .i64 m.d, .string m.y] 56)
    rw [hX] at hbx hstX
    obtain ⟨g, hg⟩ : ∃ g, W1.heap.size = g := ⟨_, rfl⟩
    rw [hg] at hbx
    have HX := Lib.hid (And.intro hstX hbx)
    have x0 : X.cell? ⟨g, 0, none⟩ = some (.int .i64 m.p) := hbx.cell 0
    have x4 : X.cell? ⟨g, 4, none⟩ = some (.int .i64 m.c) := hbx.cell 4
    have x5 : X.cell? ⟨g, 5, none⟩ = some (.int .i64 m.d) := hbx.cell 5
    have x6 : X.cell? ⟨g, 6, none⟩ = some (.string m.y) := hbx.cell 6
    have hgl := hbx.lt
    clear hst hst2 hm hTk hKk hTl hKl hstX hbx
    by_cases hk0 : k = 0
    · subst hk0
      have e00 : ((0 : Nat) : Int) = 0 := rfl
      have HF := Lib.hid (RefF.start href)
      simp only [Nat.zero_mul, Nat.add_zero] at m0 m1 m2 m3 m4 m5 m6
      clear href hway x4 x5 x6
      rw [e00]
      go_wp2_with fail
      have HXS := Lib.hid HX.out.1
      clear c1 c2 f1 f2 m0 m1 m2 m3 m4 m5 m6 z0 HS2 x0 hms HX
      go_loopw [13] (fun iv wr => ∃ (k : Nat) (T : List ByteArray) (K : List Bool), iv = .int .i64 k ∧ RefF ms k0 s T K k ∧ St w wr B (.slice (some ⟨b0, o0, none⟩) ms.length c) k0 T K) (fun iv _ => ms.length - (intOf iv).toNat)
      case atStart => exact ⟨1, _, _, rfl, HF.out, HXS.out⟩
      case round =>
        obtain ⟨k, T, K, rfl, href, hst⟩ := hrel
        clear HF HXS hW1 hX
        have hk1 := href.2.2.2.2.1
        have z0 := hst.2.1.c0
        by_cases hkn : k < ms.length
        · obtain ⟨b2, o2, e2, hbb2, hm⟩ := (((hB ▸ h : Row w B (some ⟨b0, o0, none⟩) (moms ms)).below hst.1)).mom (j := k) hkn
          injection e2 with e2
          injection e2 with e2 e3
          subst e2 e3
          have hms : ms[k]? = some (ms[k]'hkn) := List.getElem?_eq_getElem hkn
          have hxx := (hx _ (List.getElem_mem hkn)).1
          generalize (ms[k]'hkn) = m at hm hms hxx
          obtain ⟨m0, m1, m2, m3, m4, m5, m6⟩ := hm
          have hk' : (k : Int) < (ms.length : Int) := by omega
          have hk1i : (0 : Int) ≤ (k : Int) := by omega
          have hbx := MBox.new wr 56 m.p m.a m.b m.x m.c m.d m.y
          obtain ⟨X, hX⟩ : ∃ X, wr.alloc (.cells #[.int .i64 m.p, .int .i64 m.a, .int .i64 m.b, .string m.x, .int .i64 m.c, .int .i64 m.d, .string m.y] 56) = X := ⟨_, rfl⟩
          have hstX := hst.alloc (.cells #[.int .i64 m.p, .int .i64 m.a, .int .i64 m.b, .string m.x, .int .i64 m.c, .int .i64 m.d, .string m.y] 56)
          rw [hX] at hbx hstX
          obtain ⟨g, hg⟩ : ∃ g, wr.heap.size = g := ⟨_, rfl⟩
          have hgB : B + 1 + 1 < g := hg ▸ hst.size
          rw [hg] at hbx
          have hgl := hbx.lt
          have HX := Lib.hid (And.intro hstX hbx)
          have hin := fun W => l1In_any m.p 0 ((k : Int) - 1) W
          cases hpi : inI m.p 0 ((k : Int) - 1)
          · rw [hpi] at hin
            have hpi2 : ¬ (0 ≤ m.p ∧ m.p ≤ (k : Int) - 1) := by simpa [inI] using hpi
            have HI := Lib.hid hin
            have HNO := Lib.hid (par_fail (n := (k0 : Int)) (s := s) hk1.1 hms (by omega))
            have x0 : X.cell? ⟨g, 0, none⟩ = some (.int .i64 m.p) := hbx.cell 0
            clear href hst hstX hbx hpi hpi2 hin hms
            go_wp2_with fail
            refine (HI.out _).mono ?_
            rintro e w' ⟨rfl, rfl⟩
            go_wp2_with fail
            go_ret2
            exact LtPost.no HNO.out (hB.symm ▸ HX.out.1.1)
          · have hpi2 : 0 ≤ m.p ∧ m.p ≤ (k : Int) - 1 := by simpa [inI] using hpi
            rw [hpi] at hin
            obtain ⟨q, hq⟩ := Int.eq_ofNat_of_zero_le hpi2.1
            rw [hq] at hin
            have HI := Lib.hid hin
            have hqk : q < k := by omega
            obtain ⟨t, htq, hvt, _⟩ := href.text hqk
            have ht120 := valid_size hvt
            have hKq := href.2.2.2.1 q hqk
            have x0 : X.cell? ⟨g, 0, none⟩ = some (.int .i64 q) := hq ▸ hbx.cell 0
            have x1 : X.cell? ⟨g, 1, none⟩ = some (.int .i64 m.a) := hbx.cell 1
            have x2 : X.cell? ⟨g, 2, none⟩ = some (.int .i64 m.b) := hbx.cell 2
            have x3 : X.cell? ⟨g, 3, none⟩ = some (.string m.x) := hbx.cell 3
            have xt : X.cell? ⟨B + 1, q, none⟩ = some (.string t) := hstX.tcell htq
            have xk : X.cell? ⟨B + 1 + 1, q, none⟩ = some (.bool true) := hstX.kcell hKq
            have hq0 : (0 : Int) ≤ (q : Int) := by omega
            have hqn : (q : Int) < (ms.length : Int) := by omega
            have hbl1 : B + 1 < X.heap.size := by omega
            have hac := fun W => sAC_any t m.x m.a m.b W (by omega) hxx
            rw [if_pos hvt] at hac
            have hrv := fun W => sRV_any t m.x m.a m.b W (by omega) hxx
            have HQ := Lib.hid (And.intro hq (And.intro htq hms))
            have HRF := Lib.hid href
            clear href hst hstX hbx hpi hpi2 hin hms hq htq hvt hKq
            go_wp2_with fail
            refine (HI.out _).mono ?_
            rintro e w' ⟨rfl, rfl⟩
            clear m0 m1 m2 m3 m4 m5 m6
            go_wp2_with fail
            obtain ⟨Z, hZ⟩ : ∃ Z, (if fitB t m.x m.a m.b = true then apX t m.x m.a m.b else t) = Z := ⟨_, rfl⟩
            obtain ⟨F, hF⟩ : ∃ F, fitB t m.x m.a m.b = F := ⟨_, rfl⟩
            rw [hZ, hF] at hac
            have HAC := Lib.hid hac
            have HZF := Lib.hid (And.intro hZ hF)
            clear hac hZ hF
            go_region_held3 (fun w' => w'.cell? ⟨B + 1, q, none⟩ = some (.string t) ∧ w'.cell? ⟨g, 0, none⟩ = some (.int .i64 q) ∧ w'.cell? ⟨g, 1, none⟩ = some (.int .i64 m.a) ∧ w'.cell? ⟨g, 2, none⟩ = some (.int .i64 m.b) ∧ w'.cell? ⟨g, 3, none⟩ = some (.string m.x)) (go_keep)
              ((go_at_call 43; refine (HAC.out _).mono ?_; rintro e w1 ⟨rfl, hb1⟩; have n0 := (hb1.cell (p := ⟨B + 1, q, none⟩) hbl1).trans xt; have n1 := (hb1.cell (p := ⟨g, 0, none⟩) hgl).trans x0; have n2 := (hb1.cell (p := ⟨g, 1, none⟩) hgl).trans x1; have n3 := (hb1.cell (p := ⟨g, 2, none⟩) hgl).trans x2; have n4 := (hb1.cell (p := ⟨g, 3, none⟩) hgl).trans x3))
            all_goals
              have hst1 := (HX.out.1.drewN 1).below hb1
              have hbx1 : MBox w1 g 56 m.p m.a m.b m.x m.c m.d m.y := MBox.below (w := X.drew) HX.out.2 hb1 hgl
              have hz1 : X.heap.size ≤ w1.heap.size := hb1.size
              have H1 := Lib.hid (And.intro hst1 hbx1)
              clear hb1 hst1 hbx1 x0 x1 x2 x3 xt xk
              obtain ⟨ra, rc, rp, hrr, hrt⟩ : ∃ (ra rc : Int) (rp : ByteArray), (if fitB t m.x m.a m.b = true then Value.agg #[.int .i64 m.a, .int .i64 m.x.size, .string (t.extract m.a.toNat (m.a + m.b).toNat)] else .agg #[.int .i64 0, .int .i64 0, .string ⟨#[]⟩]) = .agg #[.int .i64 ra, .int .i64 rc, .string rp] ∧ (F = true → ra = m.a ∧ rc = m.x.size ∧ rp = t.extract m.a.toNat (m.a + m.b).toNat) := by
                rw [HZF.out.2]
                cases F
                · exact ⟨0, 0, ⟨#[]⟩, rfl, fun e => absurd e (by decide)⟩
                · exact ⟨m.a, m.x.size, _, rfl, fun _ => ⟨rfl, rfl, rfl⟩⟩
              rw [hrr, HZF.out.2] at hrv
              have HRV := Lib.hid hrv
              have HRT := Lib.hid hrt
              clear hrv hrt hrr
              go_upto_region 23 with fail
              go_cut [17, 18] (fun v17 v18 wx => ∃ G : Nat, v17 = .pointer (some ⟨G, 0, none⟩) ∧ v18 = .bool F ∧ CB wx G ra rc rp ∧ St w wx B (.slice (some ⟨b0, o0, none⟩) ms.length c) k0 T K ∧ MBox wx g 56 m.p m.a m.b m.x m.c m.d m.y)
              case first =>
                have hg1 : g < w1.heap.size := H1.out.2.lt
                have hs1 : B + 1 + 1 < w1.heap.size := H1.out.1.size
                have hs2 : B + 1 < w1.heap.size := by omega
                go_wp2_with fail
                go_region_with (go_at_call 44
                                refine (HRV.out _).mono ?_
                                rintro e W5 ⟨rfl, hb5⟩
                                have hst5 : St w W5 B (.slice (some ⟨b0, o0, none⟩) ms.length c) k0 T K := by first | exact (H1.out.1.drewN 1).below hb5 | exact ((H1.out.1.drewN 1).alloc _).below hb5
                                have hmb5 : MBox W5 g 56 m.p m.a m.b m.x m.c m.d m.y := by first | exact MBox.below (w := w1.drew) H1.out.2 hb5 hg1 | exact MBox.below (w := w1.drew.alloc _) (MBox.alloc (w := w1.drew) H1.out.2 _) hb5 (by simp; omega)
                                first
                                  | (have hcb : CB W5 w1.heap.size 0 0 ⟨#[]⟩ := CB.below (w := w1.drew.alloc _) (CB.new w1.drew 0 0 ⟨#[]⟩) hb5 (by simp)
                                     have p0 := hcb.c0
                                     have p1 := hcb.c1
                                     have p2 := hcb.c2
                                     have g0 := hcb.fr 0
                                     have g1 := hcb.fr 1
                                     have g2 := hcb.fr 2
                                     have HCB := Lib.hid hcb
                                     clear hcb)
                                  | skip
                                have H5 := Lib.hid (And.intro hst5 hmb5)
                                clear hb5 hst5 hmb5)
                all_goals
                  go_wp2_with fail
                  go_meet
                  first
                    | exact ⟨_, rfl, rfl, CB.new _ _ _ _, H5.out.1.alloc _, H5.out.2.alloc _⟩
                    | exact ⟨_, rfl, rfl, HCB.out.sets _ _ _, H5.out.1.others hs1 _ _ _, H5.out.2.others (by omega) _ _ _⟩
              case rest =>
              obtain ⟨G, rfl, rfl, hcb, hst2, hbx2⟩ := hcut
              have u0 := hcb.c0
              have u1 := hcb.c1
              have u2 := hcb.c2
              have v4 : wc.cell? ⟨g, 4, none⟩ = some (.int .i64 m.c) := hbx2.cell 4
              have v5 : wc.cell? ⟨g, 5, none⟩ = some (.int .i64 m.d) := hbx2.cell 5
              have v6 : wc.cell? ⟨g, 6, none⟩ = some (.string m.y) := hbx2.cell 6
              obtain ⟨hq, htq, hms⟩ := HQ.out
              have href := HRF.out
              obtain ⟨hZ, hF⟩ := HZF.out
              have HS2 := Lib.hid hst2
              clear hcb hbx2 H1 HX
              cases F
              · have HNO := Lib.hid (href.fail hms hq hqk htq (by rw [hF]; exact fun e => absurd e.1 (by decide)))
                clear hst2 href hq htq hms hZ hF
                go_wp2_with fail
                go_ret2
                exact LtPost.no HNO.out (hB.symm ▸ HS2.out.1)
              · rw [if_pos hF] at hZ
                obtain ⟨r1, r2, r3⟩ := HRT.out rfl
                by_cases hbk : Bk t m
                · obtain ⟨t1, hTk⟩ : ∃ t1, T[k]? = some t1 := ⟨_, List.getElem?_eq_getElem (by rw [href.1.1]; exact hkn)⟩
                  obtain ⟨kb, hKk⟩ : ∃ kb, K[k]? = some kb := ⟨_, List.getElem?_eq_getElem (by rw [href.1.2.1]; exact hkn)⟩
                  have ck := hst2.kcell hKk
                  have ct := hst2.tcell hTk
                  have fk := hst2.2.2.2.fr k
                  have ft := hst2.2.2.1.fr k
                  have w4 : wc.cell? ⟨g, 4, none⟩ = some (.int .i64 ra) := by rw [v4, r1, hbk.1]
                  have w5 : wc.cell? ⟨g, 5, none⟩ = some (.int .i64 rc) := by rw [v5, r2, hbk.2.1]
                  have w6 : wc.cell? ⟨g, 6, none⟩ = some (.string rp) := by rw [v6, r3, hbk.2.2]
                  clear v4 v5 v6
                  have hgo : (kb = true → t1 = Z) → RefF ms k0 s (T.set k Z) (K.set k true) (k + 1) := fun he => by
                    rw [← hZ]
                    refine href.step hms hq hqk htq hF hbk fun e => ?_
                    rw [hTk, hZ, he (by rw [hKk] at e; injection e)]
                  have hno : kb = true → t1 ≠ Z → ¬ HvP ms k0 s := fun e1 e2 => by
                    subst e1
                    exact href.other hms hq hqk htq hF hKk hTk (by rw [hZ]; exact fun e => e2 e.symm)
                  have HGO := Lib.hid hgo
                  have HNO := Lib.hid hno
                  have hst3 := (hst2.text k Z).mark k
                  have HS3 := Lib.hid hst3
                  have ne12 : B + 1 ≠ B + 1 + 1 := by omega
                  clear hgo hno hst2 hst3 href hq htq hms hZ hF hTk hKk r1 r2 r3 hbk
                  cases kb
                  · have HR := Lib.hid (HGO.out (fun e => absurd e (by decide)))
                    clear HGO HNO
                    go_wp2_with fail
                    go_roundw
                    case rel => exact ⟨k + 1, _, _, by go_num, HR.out, HS3.out⟩
                    case measure => (simp [intOf] <;> omega)
                  · by_cases htz : t1 = Z
                    · subst htz
                      have HR := Lib.hid (HGO.out (fun _ => rfl))
                      clear HGO HNO
                      go_wp2_with fail
                      go_roundw
                      case rel => exact ⟨k + 1, _, _, by go_num, HR.out, HS3.out⟩
                      case measure => (simp [intOf] <;> omega)
                    · have HN := Lib.hid (HNO.out rfl htz)
                      have hne : ¬ Z.toList = t1.toList := fun e => htz (ba_ext2 (by rw [← ByteArray.toList_eq, ← ByteArray.toList_eq]; exact e.symm))
                      have hne2 : (!(Z.toList == t1.toList)) = true := by simpa using hne
                      clear HGO HNO
                      go_wp2_with fail
                      go_ret2
                      exact LtPost.no HN.out (hB.symm ▸ HS2.out.1)
                · have HNO := Lib.hid (href.fail hms hq hqk htq (fun e => hbk e.2))
                  have hbk2 : ¬ (ra = m.c ∧ rc = m.d ∧ rp = m.y) := by rw [r1, r2, r3]; exact hbk
                  have HBK := Lib.hid hbk2
                  clear hst2 href hq htq hms hZ hF r1 r2 r3 hbk hbk2
                  by_cases h1 : ra = m.c
                  · rw [← h1] at v4
                    by_cases h2 : rc = m.d
                    · rw [← h2] at v5
                      have h3 : ¬ rp = m.y := fun e => HBK.out ⟨h1, h2, e⟩
                      have h4 : ¬ rp.toList = m.y.toList := fun e => h3 (ba_ext2 (by rw [← ByteArray.toList_eq, ← ByteArray.toList_eq]; exact e))
                      clear h1 h2 HBK
                      go_wp2_with fail
                      go_ret2
                      exact LtPost.no HNO.out (hB.symm ▸ HS2.out.1)
                    · clear h1 HBK
                      go_wp2_with fail
                      go_ret2
                      exact LtPost.no HNO.out (hB.symm ▸ HS2.out.1)
                  · clear HBK
                    go_wp2_with fail
                    go_ret2
                    exact LtPost.no HNO.out (hB.symm ▸ HS2.out.1)
        · obtain rfl : k = ms.length := by omega
          have hgd := href.good H30.out HV.out HZ.out.1 HZ.out.2 hk0l
          have hTl := hgd.2.2.2.2.1
          have hrow : ∀ W, St w W B (.slice (some ⟨b0, o0, none⟩) ms.length c) k0 T K → Row W W.heap.size (some ⟨B + 1, 0, none⟩) (strVals T) := fun W hW => by
            intro j u hj
            refine ⟨B + 1, 0, rfl, hW.2.2.1.lt, ?_⟩
            rw [Nat.zero_add, hW.2.2.1.cell]; exact hj
          have HP : Hid (LtPost ms k0 s w (.returned (.tuple #[.slice (some ⟨B + 1, 0, none⟩) ms.length ms.length, .bool true])) wr) := Lib.hid ⟨_, true, rfl, ⟨fun _ => ⟨T, hgd⟩, fun _ => rfl⟩, fun _ => ⟨_, T, rfl, hgd, hrow _ hst⟩, hB.symm ▸ hst.1⟩
          clear hgd hTl hrow hst href
          go_wp2_with fail
          go_ret2
          exact HP.out
    · have hk2 : ((k : Int) == 0) = false := by simp; omega
      have hac := fun W => sAC_any x m.y m.c m.d W (by omega) hyy
      rw [if_pos hway.2.1] at hac
      cases hf : fitB x m.y m.c m.d
      · rw [hf, if_neg (by simp)] at hac
        have HAC := Lib.hid hac
        have HNO := Lib.hid (hway.fail (by omega) hms hf)
        clear hac hf href hway hms
        go_wp2_with fail
        refine (HAC.out _).mono ?_
        rintro e W3 ⟨rfl, hb3⟩
        have hfin := (HX.out.1.below hb3).1
        have HFI := Lib.hid hfin
        clear hb3 hfin x4 x5 x6
        go_wp2_with fail
        go_ret2
        exact LtPost.no HNO.out (hB.symm ▸ HFI.out)
      · rw [hf, if_pos rfl] at hac
        have HAC := Lib.hid hac
        have hin := fun W => l1In_any m.p 0 ((k : Int) - 1) W
        cases hpi : inI m.p 0 ((k : Int) - 1)
        · rw [hpi] at hin
          have hpi2 : ¬ (0 ≤ m.p ∧ m.p ≤ (k : Int) - 1) := by simpa [inI] using hpi
          have HI := Lib.hid hin
          have HNO := Lib.hid (par_fail (n := (k0 : Int)) (s := s) (show 1 ≤ k by omega) hms (by omega))
          clear hac hf href hway hms hin hpi hpi2
          generalize apX x m.y m.c m.d = z at *
          go_wp2_with fail
          refine (HAC.out _).mono ?_
          rintro e W3 ⟨rfl, hb3⟩
          have hfin := (HX.out.1.below hb3).1
          have n0 := (hb3.cell (p := ⟨g, 0, none⟩) hgl).trans x0
          have HFI := Lib.hid hfin
          clear hb3 hfin x4 x5 x6
          go_wp2_with fail
          refine (HI.out _).mono ?_
          rintro e w' ⟨rfl, rfl⟩
          go_wp2_with fail
          go_ret2
          exact LtPost.no HNO.out (hB.symm ▸ HFI.out)
        · rw [hpi] at hin
          have hpi2 : 0 ≤ m.p ∧ m.p ≤ (k : Int) - 1 := by simpa [inI] using hpi
          obtain ⟨q, hq⟩ := Int.eq_ofNat_of_zero_le hpi2.1
          have HI := Lib.hid hin
          have HST := Lib.hid (href.step hkk (by omega) hms hq (by omega) hf)
          have hqk : q < k := by omega
          have HQ := Lib.hid hq
          clear hac hf href hway hms hin hpi hpi2 hq
          generalize apX x m.y m.c m.d = z at *
          go_wp2_with fail
          refine (HAC.out _).mono ?_
          rintro e W3 ⟨rfl, hb3⟩
          have hfin := HX.out.1.below hb3
          have n0 := (hb3.cell (p := ⟨g, 0, none⟩) hgl).trans x0
          have HFI := Lib.hid hfin
          clear hb3 hfin x0 x4 x5 x6
          go_wp2_with fail
          refine (HI.out _).mono ?_
          rintro e w' ⟨rfl, rfl⟩
          rw [HQ.out] at n0
          go_wp2_with fail
          go_roundw
          case rel => exact ⟨q, z, _, _, rfl, rfl, by omega, HST.out, HFI.out⟩
          case measure => (simp [intOf] <;> omega)
end Go.Proofs.Ytlnldnenkajcdaa
