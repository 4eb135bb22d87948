/- The contracts of the reference's HistoryBack, HistoryTo and HistoryDo at histories that are valid. -/
import Derived.Test.YtlnldnenkajcdaaIa
import Derived.Test.YtlnldnenkajcdaaHz
set_option linter.unusedVariables false
set_option linter.unusedSimpArgs false
namespace Go.Proofs.Ytlnldnenkajcdaa
open Go.RowKit
def Sm (ms : List Mom) : Prop := ∀ m ∈ ms, m.x.size ≤ 1000 ∧ m.y.size ≤ 1000
theorem Sm.wide {ms : List Mom} (h : Sm ms) : ∀ m ∈ ms, m.x.size ≤ 2000000 ∧ m.y.size ≤ 2000000 := fun m hm => by have := h m hm; omega
theorem own_setN {w : World} {base size n c : Nat} {e : TypeId} {A : Option Addr} {xs : List Value} (h : w.ownsRow base e size (.slice A n c) n xs) {q : Addr} (hq : ∀ a, A = some a → a.block ≠ q.block) (v : Value) : (w.setCell q v).ownsRow base e size (.slice A n c) n xs := by
  refine h.kept ((Beside.refl q.block w).set (p := q) (.inl rfl) v) ?_
  cases A with
  | none => exact .inl rfl
  | some a =>
    right
    have := hq a rfl
    intro e
    injection e with e
    exact this e
theorem own_lt {w : World} {base size n c : Nat} {e : TypeId} {A : Option Addr} {xs : List Value} (h : w.ownsRow base e size (.slice A n c) n xs) : ∀ a, A = some a → base ≤ a.block ∧ a.block < w.heap.size := by
  intro a ha
  subst ha
  exact h.lt a.block rfl
/-- A new history with its text is returned; it is valid. -/
def HPost (w : World) (e : Ending) (w' : World) : Prop :=
  ∃ (ms : List Mom) (k : Nat) (s : ByteArray) (T : List ByteArray) (v : Value) (b : Bool), e = .returned (.tuple #[v, .string s, .bool b]) ∧ Good ms k s T ∧ Sm ms ∧ OwnH ms k w v w' ∧ Below w.heap.size w w'
theorem HBox.set1 {w : World} {g : Nat} {T : TypeId} {v : Value} {n : Int} (h : HBox w g T v n) (x : Int) : HBox (w.setCell ⟨g, 1, none⟩ (.int .i64 x)) g T v x := by
  unfold HBox at h ⊢
  simp [World.setCell, Array.getElem?_modify, h]
theorem HBox.set0 {w : World} {g : Nat} {T : TypeId} {v : Value} {n : Int} (h : HBox w g T v n) (x : Value) : HBox (w.setCell ⟨g, 0, none⟩ x) g T x n := by
  unfold HBox at h ⊢
  simp [World.setCell, Array.getElem?_modify, h]
theorem HBox.not_str {w : World} {g i : Nat} {T : TypeId} {a : Option Addr} {n c : Nat} {k : Int} {t : ByteArray} (h : HBox w g T (.slice a n c) k) : w.cell? ⟨g, i, none⟩ ≠ some (.string t) := by
  rw [cell_of_row w g i _ _ _ h]
  match i with
  | 0 => simp
  | 1 => simp
  | i + 2 => simp
theorem hv_true {ms : List Mom} {n : Int} {s : ByteArray} {T : List ByteArray} {b : Bool} (h : Good ms n s T) (hb : b = true ↔ HvP ms n s) : b = true := hb.2 ⟨T, h⟩
set_option maxHeartbeats 4000000 in
set_option maxRecDepth 100000 in
theorem sHB_any (A : Option Addr) (n c : Nat) (k : Nat) (ms : List Mom) (s : ByteArray) (T : List ByteArray) (w : World) (h : Row w w.heap.size A (moms ms)) (hl : ms.length = n) (hgd : Good ms k s T) (hsm : Sm ms) :
    Calls Try.prog 55 #[.agg #[.slice A n c, .int .i64 k], .string s] w (HPost w) := by
  subst hl
  have h30 := hgd.1
  obtain ⟨k', ek, hkl, hTk⟩ := hgd.2.2.2.1
  obtain rfl : k = k' := by omega
  have hv := hgd.2.1
  have hs120 := valid_size hv
  have hsm' : s.size ≤ maxLen := by unfold maxLen; omega
  obtain ⟨b0, o0, rfl, hb0, _⟩ := h.mom (j := k) hkl
  obtain ⟨B, hB⟩ : ∃ B, w.heap.size = B := ⟨_, rfl⟩
  obtain ⟨Y, hY⟩ : ∃ Y, (w.alloc (.cells #[.slice (some ⟨b0, o0, none⟩) ms.length c, .int .i64 k] 29)).alloc (.cells #[.slice none 0 0, .int .i64 0] 29) = Y := ⟨_, rfl⟩
  have hbY : Below w.heap.size w Y := hY ▸ ((Below.refl w.heap.size w).alloc (Nat.le_refl _) _).alloc (by simp) _
  have hA : HBox Y B 29 (.slice (some ⟨b0, o0, none⟩) ms.length c) k := by rw [← hY, ← hB]; exact (HBox.new w _ _ _).alloc _
  have hR : HBox Y (B + 1) 29 (.slice none 0 0) 0 := by
    have h1 := HBox.new (w.alloc (.cells #[.slice (some ⟨b0, o0, none⟩) ms.length c, .int .i64 k] 29)) 29 (.slice none 0 0) 0
    rw [← hY, ← hB]; simpa using h1
  have hzY : B + 1 < Y.heap.size := hR.lt
  have hrow := (h.below hbY).more hbY.size
  have y0 := hA.c0
  have y1 := hA.c1
  have HY := Lib.hid (And.intro hbY (And.intro hA (And.intro hR hrow)))
  clear hbY hA hR hrow
  go_enter Try.func55, Try.ntmps55
  go_wp2_with fail
  refine (sHV_any _ _ c k ms s _ HY.out.2.2.2 rfl (by omega) hsm' hsm.wide (by omega)).mono ?_
  rintro e W1 ⟨⟨b1, rfl, hi1⟩, hb1⟩
  obtain rfl : b1 = true := hv_true hgd hi1
  have hbw1 := HY.out.1.trans (hb1.mono HY.out.1.size)
  have hA1 := HY.out.2.1.below hb1 HY.out.2.1.lt
  have hR1 := HY.out.2.2.1.below hb1 HY.out.2.2.1.lt
  have hrow1 := (HY.out.2.2.2.below hb1).more hb1.size
  have z0 := hA1.c0
  have z1 := hA1.c1
  have hz1 : B + 1 < W1.heap.size := hR1.lt
  have H1 := Lib.hid (And.intro hbw1 (And.intro hA1 (And.intro hR1 hrow1)))
  clear hbw1 hA1 hR1 hrow1 hb1 hi1 y0 y1 HY
  go_wp2_with fail
  refine (copy_any _ _ c k ms _ H1.out.2.2.2 rfl h30).mono ?_
  rintro e W2 ⟨v, rfl, ⟨A2, c2, rfl, hown2⟩, hb2⟩
  have hbw2 := H1.out.1.trans (hb2.mono H1.out.1.size)
  have hA2 := H1.out.2.1.below hb2 H1.out.2.1.lt
  have hR2 := H1.out.2.2.1.below hb2 H1.out.2.2.1.lt
  have hrow2 := (H1.out.2.2.2.below hb2).more hb2.size
  have hlt2 := own_lt hown2
  -- the copy's box
  obtain ⟨g, hg⟩ : ∃ g, W2.heap.size = g := ⟨_, rfl⟩
  obtain ⟨X, hX⟩ : ∃ X, W2.alloc (.cells #[.slice A2 ms.length c2, .int .i64 k] 29) = X := ⟨_, rfl⟩
  have hal : Below W2.heap.size W2 X := hX ▸ (Below.refl _ _).alloc (Nat.le_refl _) _
  have hbX := hbw2.trans (hal.mono hbw2.size)
  have hAX := hA2.below hal hA2.lt
  have hRX := hR2.below hal hR2.lt
  have hrX := (hrow2.below hal).more hal.size
  have hoX := own_below7 hown2 hal
  have hxX : HBox X g 29 (.slice A2 ms.length c2) k := by rw [← hX, ← hg]; exact HBox.new W2 _ _ _
  obtain ⟨b9, o9, e9, hb9, hm⟩ := hrX.mom (j := k) hkl
  injection e9 with e9
  injection e9 with e9 e10
  subst e9 e10
  have hms : ms[k]? = some (ms[k]'hkl) := List.getElem?_eq_getElem hkl
  have hyy := (hsm _ (List.getElem_mem hkl)).2
  generalize (ms[k]'hkl) = m at hm hms hyy
  obtain ⟨m0, m1, m2, m3, m4, m5, m6⟩ := hm
  have u0 := hAX.c0
  have u1 := hAX.c1
  have hk' : (k : Int) < (ms.length : Int) := by omega
  have hk1 : (0 : Int) ≤ (k : Int) := by omega
  have hgb : B + 1 < g := by have := hR2.lt; omega
  have hbx := MBox.new X 56 m.p m.a m.b m.x m.c m.d m.y
  have hal2 : Below X.heap.size X (X.alloc (.cells #[.int .i64 m.p, .int .i64 m.a, .int .i64 m.b, .string m.x, .int .i64 m.c, .int .i64 m.d, .string m.y] 56)) := (Below.refl _ _).alloc (Nat.le_refl _) _
  obtain ⟨X2, hX2⟩ : ∃ X2, X.alloc (.cells #[.int .i64 m.p, .int .i64 m.a, .int .i64 m.b, .string m.x, .int .i64 m.c, .int .i64 m.d, .string m.y] 56) = X2 := ⟨_, rfl⟩
  rw [hX2] at hbx hal2
  have hzX0 : X.heap.size = g + 1 := by rw [← hX, ← hg]; simp
  obtain ⟨g2, hg2⟩ : ∃ g2, X.heap.size = g2 := ⟨_, rfl⟩
  have hzX : g2 = g + 1 := by omega
  rw [hg2] at hbx
  clear hzX0
  have hA3 := hAX.below hal2 hAX.lt
  have hR3 := hRX.below hal2 hRX.lt
  have hx3 := hxX.below hal2 hxX.lt
  have ho3 := own_below7 hoX hal2
  have hb3 := hbX.trans (hal2.mono hbX.size)
  have H3 := Lib.hid (And.intro hb3 (And.intro hA3 (And.intro hR3 (And.intro hx3 (And.intro ho3 hbx)))))
  have w1 := hA3.c1
  have v0 := hx3.c0
  have v1 := hx3.c1
  have r0 := hR3.c0
  have r1 := hR3.c1
  have fr0 := hR3.fr 0
  have fr1 := hR3.fr 1
  have x0 : X2.cell? ⟨g2, 0, none⟩ = some (.int .i64 m.p) := hbx.cell 0
  have x4 : X2.cell? ⟨g2, 4, none⟩ = some (.int .i64 m.c) := hbx.cell 4
  have x5 : X2.cell? ⟨g2, 5, none⟩ = some (.int .i64 m.d) := hbx.cell 5
  have x6 : X2.cell? ⟨g2, 6, none⟩ = some (.string m.y) := hbx.cell 6
  have hA2g : ∀ a, A2 = some a → W1.heap.size ≤ a.block ∧ a.block < g := fun a ha => hg ▸ hlt2 a ha
  have HA2 := Lib.hid hA2g
  have HZX := Lib.hid hzX
  clear hb2 hbw2 hA2 hR2 hrow2 hlt2 hown2 hal hbX hAX hRX hrX hoX hxX hbx hal2 hA3 hR3 hx3 ho3 hb3 hA2g hzX H1
  by_cases hk0 : k = 0
  · have hk2 : ((k : Int) == 0) = true := by simp [hk0]
    have ge2 : B ≤ B + 1 := by omega
    have ho5 := own_set (own_set H3.out.2.2.2.2.1 (q := ⟨B + 1, 0, none⟩) hz1 (.slice A2 ms.length c2)) (q := ⟨B + 1, 1, none⟩) hz1 (.int .i64 k)
    have hb5 := ((hB ▸ H3.out.1 : Below B w X2).setCell (p := ⟨B + 1, 0, none⟩) ge2 (.slice A2 ms.length c2)).setCell (p := ⟨B + 1, 1, none⟩) ge2 (.int .i64 k)
    have HF : Hid (HPost w (.returned (.tuple #[.agg #[.slice A2 ms.length c2, .int .i64 k], .string s, .bool false])) ((X2.setCell ⟨B + 1, 0, none⟩ (.slice A2 ms.length c2)).setCell ⟨B + 1, 1, none⟩ (.int .i64 k))) :=
      Lib.hid ⟨ms, k, s, T, _, false, rfl, hgd, hsm, ⟨A2, c2, rfl, own_leM ho5 (by omega)⟩, hB.symm ▸ hb5⟩
    clear ho5 hb5 hk0
    go_wp2_with fail
    refine bodyPost_ret (v := .tuple #[.agg #[.slice A2 ms.length c2, .int .i64 k], .string s, .bool false]) ?_ rfl HF.out
    simp [results, Try.results55, go_sem, r0, r1]
  · have hk2 : ((k : Int) == 0) = false := by simp; omega
    obtain ⟨hf, q, hq, hgd2⟩ := hgd.goBack (by omega) hms
    have hac := fun W => sAC_any s m.y m.c m.d W (by omega) (by omega)
    rw [if_pos hv, hf, if_pos rfl] at hac
    have HAC := Lib.hid hac
    have HQ := Lib.hid hq
    have HG2 := Lib.hid hgd2
    have hgl : g2 < X2.heap.size := (H3.out.2.2.2.2.2).lt
    have hgl0 : g < X2.heap.size := by have := HZX.out; omega
    have hBl : B + 1 < X2.heap.size := by omega
    clear hac hf hq hgd2 hms
    generalize apX s m.y m.c m.d = z at *
    go_wp2_with fail
    refine (HAC.out _).mono ?_
    rintro e W5 ⟨rfl, hb5⟩
    have n0 : W5.cell? ⟨g2, 0, none⟩ = some (.int .i64 q) := HQ.out ▸ (hb5.cell (p := ⟨g2, 0, none⟩) hgl).trans x0
    have hx5 := H3.out.2.2.2.1.below hb5 hgl0
    have hR5 := H3.out.2.2.1.below hb5 hBl
    have n1 := hx5.c0
    have n2 := hx5.c1
    have nf1 := hx5.fr 1
    have s0 := hR5.c0
    have s1 := hR5.c1
    have sf0 := hR5.fr 0
    have sf1 := hR5.fr 1
    have ge2 : B ≤ B + 1 := by omega
    have ge3 : B ≤ g := by omega
    have ho5 := own_set (own_set (own_setN (own_below7 H3.out.2.2.2.2.1 hb5) (q := ⟨g, 1, none⟩) (fun a ha => by have := HA2.out a ha; show a.block ≠ g; omega) (.int .i64 q)) (q := ⟨B + 1, 0, none⟩) hz1 (.slice A2 ms.length c2)) (q := ⟨B + 1, 1, none⟩) hz1 (.int .i64 q)
    have hb6 := (((hB ▸ H3.out.1.trans (hb5.mono H3.out.1.size) : Below B w W5).setCell (p := ⟨g, 1, none⟩) ge3 (.int .i64 q)).setCell (p := ⟨B + 1, 0, none⟩) ge2 (.slice A2 ms.length c2)).setCell (p := ⟨B + 1, 1, none⟩) ge2 (.int .i64 q)
    have HF : Hid (HPost w (.returned (.tuple #[.agg #[.slice A2 ms.length c2, .int .i64 q], .string z, .bool true])) (((W5.setCell ⟨g, 1, none⟩ (.int .i64 q)).setCell ⟨B + 1, 0, none⟩ (.slice A2 ms.length c2)).setCell ⟨B + 1, 1, none⟩ (.int .i64 q))) :=
      Lib.hid ⟨ms, q, z, T, _, true, rfl, HG2.out, hsm, ⟨A2, c2, rfl, own_leM ho5 (by omega)⟩, hB.symm ▸ hb6⟩
    have neg : g ≠ B + 1 := by omega
    clear ho5 hb6 hb5 hx5 hR5 x0 x4 x5 x6 r0 r1 fr0 fr1 v0 v1
    go_wp2_with fail
    refine bodyPost_ret (v := .tuple #[.agg #[.slice A2 ms.length c2, .int .i64 q], .string z, .bool true]) ?_ rfl HF.out
    simp [results, Try.results55, go_sem, s0, s1]
set_option maxHeartbeats 4000000 in
set_option maxRecDepth 100000 in
theorem sHT_any (A : Option Addr) (n c : Nat) (k j : Nat) (ms : List Mom) (s : ByteArray) (T : List ByteArray) (w : World) (h : Row w w.heap.size A (moms ms)) (hl : ms.length = n) (hgd : Good ms k s T) (hsm : Sm ms) (hj : j < n) :
    Calls Try.prog 56 #[.agg #[.slice A n c, .int .i64 k], .string s, .int .i64 j] w (HPost w) := by
  subst hl
  have h30 := hgd.1
  obtain ⟨m00, hm00, hz00⟩ := hgd.2.2.1
  have hv := hgd.2.1
  have hs120 := valid_size hv
  have hsm' : s.size ≤ maxLen := by unfold maxLen; omega
  have hkl : k < ms.length := by obtain ⟨k', e, e2, _⟩ := hgd.2.2.2.1; omega
  obtain ⟨B, hB⟩ : ∃ B, w.heap.size = B := ⟨_, rfl⟩
  obtain ⟨Y, hY⟩ : ∃ Y, (w.alloc (.cells #[.slice A ms.length c, .int .i64 k] 29)).alloc (.cells #[.slice none 0 0, .int .i64 0] 29) = Y := ⟨_, rfl⟩
  have hbY : Below w.heap.size w Y := hY ▸ ((Below.refl w.heap.size w).alloc (Nat.le_refl _) _).alloc (by simp) _
  have hA : HBox Y B 29 (.slice A ms.length c) k := by rw [← hY, ← hB]; exact (HBox.new w _ _ _).alloc _
  have hR : HBox Y (B + 1) 29 (.slice none 0 0) 0 := by
    have h1 := HBox.new (w.alloc (.cells #[.slice A ms.length c, .int .i64 k] 29)) 29 (.slice none 0 0) 0
    rw [← hY, ← hB]; simpa using h1
  have hzY : B + 1 < Y.heap.size := hR.lt
  have hrow := (h.below hbY).more hbY.size
  have y0 := hA.c0
  have y1 := hA.c1
  have HY := Lib.hid (And.intro hbY (And.intro hA (And.intro hR hrow)))
  clear hbY hA hR hrow
  go_enter Try.func56, Try.ntmps56
  go_wp2_with fail
  refine (sHV_any _ _ c k ms s _ HY.out.2.2.2 rfl (by omega) hsm' hsm.wide (by omega)).mono ?_
  rintro e W1 ⟨⟨b1, rfl, hi1⟩, hb1⟩
  obtain rfl : b1 = true := hv_true hgd hi1
  have hbw1 := HY.out.1.trans (hb1.mono HY.out.1.size)
  have hA1 := HY.out.2.1.below hb1 HY.out.2.1.lt
  have hR1 := HY.out.2.2.1.below hb1 HY.out.2.2.1.lt
  have hrow1 := (HY.out.2.2.2.below hb1).more hb1.size
  have z0 := hA1.c0
  have z1 := hA1.c1
  have hz1 : B + 1 < W1.heap.size := hR1.lt
  have H1 := Lib.hid (And.intro hbw1 (And.intro hA1 (And.intro hR1 hrow1)))
  clear hbw1 hA1 hR1 hrow1 hb1 hi1 y0 y1 HY
  go_wp2_with fail
  refine (copy_any _ _ c k ms _ H1.out.2.2.2 rfl h30).mono ?_
  rintro e W2 ⟨v, rfl, ⟨A2, c2, rfl, hown2⟩, hb2⟩
  have hbw2 := H1.out.1.trans (hb2.mono H1.out.1.size)
  have hA2 := H1.out.2.1.below hb2 H1.out.2.1.lt
  have hR2 := H1.out.2.2.1.below hb2 H1.out.2.2.1.lt
  have hrow2 := (H1.out.2.2.2.below hb2).more hb2.size
  have hlt2 := own_lt hown2
  obtain ⟨g, hg⟩ : ∃ g, W2.heap.size = g := ⟨_, rfl⟩
  obtain ⟨X, hX⟩ : ∃ X, W2.alloc (.cells #[.slice A2 ms.length c2, .int .i64 k] 29) = X := ⟨_, rfl⟩
  have hal : Below W2.heap.size W2 X := hX ▸ (Below.refl _ _).alloc (Nat.le_refl _) _
  have hbX := hbw2.trans (hal.mono hbw2.size)
  have hAX := hA2.below hal hA2.lt
  have hRX := hR2.below hal hR2.lt
  have hrX := (hrow2.below hal).more hal.size
  have hoX := own_below7 hown2 hal
  have hxX : HBox X g 29 (.slice A2 ms.length c2) k := by rw [← hX, ← hg]; exact HBox.new W2 _ _ _
  have u0 := hAX.c0
  have u1 := hAX.c1
  have hgb : B + 1 < g := by have := hR2.lt; omega
  have hA2g : ∀ a, A2 = some a → W1.heap.size ≤ a.block ∧ a.block < g := fun a ha => hg ▸ hlt2 a ha
  have HA2 := Lib.hid hA2g
  have H3 := Lib.hid (And.intro hbX (And.intro hrX (And.intro hRX (And.intro hxX hoX))))
  have hgl := hxX.lt
  have hBl := hRX.lt
  have hin := fun W => l1In_any (j : Int) 0 ((ms.length : Int) - 1) W
  have ein : inI (j : Int) 0 ((ms.length : Int) - 1) = true := by unfold inI; exact decide_eq_true (by omega)
  rw [ein] at hin
  have HI := Lib.hid hin
  clear hb2 hbw2 hA2 hR2 hrow2 hlt2 hown2 hal hbX hAX hRX hrX hoX hxX hA2g H1 hin ein
  go_wp2_with fail
  refine (HI.out _).mono ?_
  rintro e w' ⟨rfl, rfl⟩
  go_wp2_with fail
  refine (sLt_any _ _ c k ms s _ H3.out.2.1 rfl h30 hv hsm.wide m00 hm00 hz00 (by omega)).mono ?_
  rintro e W5 ⟨v5, b5, rfl, hi5, hv5, hb5⟩
  obtain rfl : b5 = true := hv_true hgd hi5
  obtain ⟨A5, T5, rfl, hgd5, hr5⟩ := hv5 rfl
  have hjT : j < T5.length := by rw [hgd5.2.2.2.2.1]; exact hj
  obtain ⟨b6, o6, rfl, hb6, ht6⟩ := hr5.str hjT
  have hTj : T5[j]? = some (T5[j]'hjT) := List.getElem?_eq_getElem hjT
  generalize (T5[j]'hjT) = t at ht6 hTj
  have HG5 := Lib.hid (hgd5.to hTj)
  have hx5 := H3.out.2.2.2.1.below hb5 hgl
  have hR5 := H3.out.2.2.1.below hb5 hBl
  have n0 := hx5.c0
  have n1 := hx5.c1
  have nf1 := hx5.fr 1
  have s0 := hR5.c0
  have s1 := hR5.c1
  have sf0 := hR5.fr 0
  have sf1 := hR5.fr 1
  have hgl5 := hx5.lt
  have hx6 := hx5.set1 (j : Int)
  have ne6 : b6 ≠ g := fun e => by subst e; exact hx5.not_str ht6
  have ne8 : b6 ≠ B + 1 := fun e => by subst e; exact hR5.not_str ht6
  have ne9 : B + 1 ≠ b6 := fun e => ne8 e.symm
  have ge2 : B ≤ B + 1 := by omega
  have ge3 : B ≤ g := by omega
  have neg : g ≠ B + 1 := by omega
  have neg2 : B + 1 ≠ g := by omega
  have ne7 : g ≠ b6 := fun e => ne6 e.symm
  have ho6 := own_setN (own_below7 H3.out.2.2.2.2 hb5) (q := ⟨g, 1, none⟩) (fun a ha => by have := HA2.out a ha; show a.block ≠ g; omega) (.int .i64 j)
  have hbw6 := ((hB ▸ H3.out.1.trans (hb5.mono H3.out.1.size) : Below B w W5).setCell (p := ⟨g, 1, none⟩) ge3 (.int .i64 j))
  have hR6 := hR5.other (q := ⟨g, 1, none⟩) neg (.int .i64 j)
  have ht7 : (W5.setCell ⟨g, 1, none⟩ (.int .i64 j)).cell? ⟨b6, o6 + j, none⟩ = some (.string t) := (World.cell?_setCell_far W5 ⟨g, 1, none⟩ ⟨b6, o6 + j, none⟩ _ (by exact ne7)).trans ht6
  obtain ⟨W6, hW6⟩ : ∃ W6, W5.setCell ⟨g, 1, none⟩ (.int .i64 j) = W6 := ⟨_, rfl⟩
  rw [hW6] at hx6 ho6 hbw6 ht7 hR6
  have p0 := hx6.c0
  have p1 := hx6.c1
  have r0 := hR6.c0
  have r1 := hR6.c1
  have rf0 := hR6.fr 0
  have rf1 := hR6.fr 1
  have hj0 : (0 : Int) ≤ (j : Int) := by omega
  have hjn : (j : Int) < (ms.length : Int) := by omega
  have ho7 := own_set (own_set ho6 (q := ⟨B + 1, 0, none⟩) hz1 (.slice A2 ms.length c2)) (q := ⟨B + 1, 1, none⟩) hz1 (.int .i64 j)
  have hb7 := (hbw6.setCell (p := ⟨B + 1, 0, none⟩) ge2 (.slice A2 ms.length c2)).setCell (p := ⟨B + 1, 1, none⟩) ge2 (.int .i64 j)
  have HF : Hid (HPost w (.returned (.tuple #[.agg #[.slice A2 ms.length c2, .int .i64 j], .string t, .bool true])) ((W6.setCell ⟨B + 1, 0, none⟩ (.slice A2 ms.length c2)).setCell ⟨B + 1, 1, none⟩ (.int .i64 j)).drew) :=
    Lib.hid ⟨ms, j, t, T5, _, true, rfl, HG5.out, hsm, ⟨A2, c2, rfl, own_leM ho7.drew (by omega)⟩, hB.symm ▸ Below.drew hb7⟩
  clear hb5 hx5 hR5 hx6 hR6 ho6 ho7 hb7 hbw6 hv5 hi5 hr5 hTj s0 s1 sf0 sf1 ht6
  go_wp2_with fail
  go_region_held3 (fun w' => w'.cell? ⟨g, 0, none⟩ = some (.slice A2 ms.length c2) ∧ w'.cell? ⟨g, 1, none⟩ = some (.int .i64 j) ∧ w'.cell? ⟨b6, o6 + j, none⟩ = some (.string t)) (go_keep) (fail)
  go_wp2_with fail
  refine bodyPost_ret (v := .tuple #[.agg #[.slice A2 ms.length c2, .int .i64 j], .string t, .bool true]) ?_ rfl HF.out
  simp [results, Try.results56, go_sem, r0, r1]
end Go.Proofs.Ytlnldnenkajcdaa
