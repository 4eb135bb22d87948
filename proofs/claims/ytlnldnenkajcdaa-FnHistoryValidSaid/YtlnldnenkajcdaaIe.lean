/- What is drawn: a history and its text. -/
import Derived.Test.YtlnldnenkajcdaaIc
import Derived.Test.YtlnldnenkajcdaaId
import Derived.Test.YtlnldnenkajcdaaVx
import Derived.BigRegion
import Derived.Deep.RegionWith
import Derived.Deep.DeepCutAuto
set_option linter.unusedVariables false
set_option linter.unusedSimpArgs false
namespace Go.Proofs.Ytlnldnenkajcdaa
open Go.RowKit
theorem sHO2_any (w : World) : Calls Try.prog 54 #[] w fun e w' => ∃ v, e = .returned v ∧ OwnH [⟨-1, 0, 0, ⟨#[]⟩, 0, 0, ⟨#[]⟩⟩] 0 w v w' ∧ Below w.heap.size w w' := by
  have hown : ((w.alloc (.cells #[.slice (some ⟨w.heap.size + 1, 0, none⟩) 1 1, .int .i64 0] 29)).alloc (.cells #[.int .i64 (-1), .int .i64 0, .int .i64 0, .string ⟨#[]⟩, .int .i64 0, .int .i64 0, .string ⟨#[]⟩] 56)).ownsRow w.heap.size 56 7 (.slice (some ⟨w.heap.size + 1, 0, none⟩) 1 1) 1 (moms [⟨-1, 0, 0, ⟨#[]⟩, 0, 0, ⟨#[]⟩⟩]) := by
    have h := World.ownsRow_lit (base := w.heap.size) (e := 56) (size := 7) (w.alloc (.cells #[.slice (some ⟨w.heap.size + 1, 0, none⟩) 1 1, .int .i64 0] 29)) #[.int .i64 (-1), .int .i64 0, .int .i64 0, .string ⟨#[]⟩, .int .i64 0, .int .i64 0, .string ⟨#[]⟩] 1 (by simp) (by decide) rfl
    have e : (w.alloc (.cells #[.slice (some ⟨w.heap.size + 1, 0, none⟩) 1 1, .int .i64 0] 29)).heap.size = w.heap.size + 1 := by simp
    rw [e] at h
    exact h
  have hb := ((Below.refl w.heap.size w).alloc (Nat.le_refl _) (.cells #[.slice (some ⟨w.heap.size + 1, 0, none⟩) 1 1, .int .i64 0] 29)).alloc (by simp) (.cells #[.int .i64 (-1), .int .i64 0, .int .i64 0, .string ⟨#[]⟩, .int .i64 0, .int .i64 0, .string ⟨#[]⟩] 56)
  go_enter Try.func54, Try.ntmps54
  go_wp2_with fail
  exact bodyPost_ret (v := .agg #[.slice (some ⟨w.heap.size + 1, 0, none⟩) 1 1, .int .i64 0]) (by simp [results, Try.results54, go_sem]) rfl ⟨_, rfl, ⟨_, _, rfl, hown⟩, hb⟩
theorem HBox.beside {R : Nat} {w w' : World} {g : Nat} {T : TypeId} {v : Value} {n : Int} (h : HBox w g T v n) (hb : Beside R w w') (hg : g ≠ R) : HBox w' g T v n := (hb.block g h.lt (by intro e; injection e with e; exact hg e)).trans h
/-- What stands while a history is drawn: the result's box, the history's box, its row, the reader. -/
def HSt (R B hb : Nat) (w : World) (ms : List Mom) (k : Nat) (s : ByteArray) (T : List ByteArray) (A : Option Addr) (c p : Nat) (wr : World) : Prop :=
  (Good ms k s T ∧ Sm ms) ∧ HBox wr B 29 (.slice none 0 0) 0 ∧ HBox wr hb 29 (.slice A ms.length c) k ∧ wr.ownsRow B 56 7 (.slice A ms.length c) ms.length (moms ms) ∧ IsRd wr R p ∧ Beside R w wr ∧ R < B ∧ B < hb ∧ w.heap.size = B
section
variable {R B hb : Nat} {w wr W : World} {ms ms' : List Mom} {k k' : Nat} {s s' : ByteArray} {T T' : List ByteArray} {A A' : Option Addr} {c c' p p' : Nat}
theorem HSt.beside (h : HSt R B hb w ms k s T A c p wr) (hbs : Beside R wr W) (hr : IsRd W R p') : HSt R B hb w ms k s T A c p' W := by
  obtain ⟨h1, h2, h3, h4, h5, h6, h7, h8, h9⟩ := h
  exact ⟨h1, h2.beside hbs (by omega), h3.beside hbs (by omega), own_beside h4 hbs h7, hr, h6.trans hbs, h7, h8, h9⟩
/-- A new history has come in place of the old one. -/
theorem HSt.next (h : HSt R B hb w ms k s T A c p wr) (hg : Good ms' k' s' T') (hs : Sm ms') (ho : W.ownsRow wr.heap.size 56 7 (.slice A' ms'.length c') ms'.length (moms ms')) (hbw : Below wr.heap.size wr W) :
    HSt R B hb w ms' k' s' T' A' c' p ((W.setCell ⟨hb, 0, none⟩ (.slice A' ms'.length c')).setCell ⟨hb, 1, none⟩ (.int .i64 k')) := by
  obtain ⟨h1, h2, h3, h4, h5, h6, h7, h8, h9⟩ := h
  have hl := h3.lt
  have hR := h5.lt
  refine ⟨⟨hg, hs⟩, ?_, ?_, ?_, ?_, ?_, h7, h8, h9⟩
  · exact ((h2.below hbw h2.lt).other (q := ⟨hb, 0, none⟩) (by show hb ≠ B; omega) _).other (q := ⟨hb, 1, none⟩) (by show hb ≠ B; omega) _
  · exact ((h3.below hbw hl).set0 _).set1 _
  · exact own_leM (own_set (own_set ho (q := ⟨hb, 0, none⟩) hl _) (q := ⟨hb, 1, none⟩) hl _) (by omega)
  · exact ((h5.below hbw hR).set (q := ⟨hb, 0, none⟩) (by show R < hb; omega) _).set (q := ⟨hb, 1, none⟩) (by show R < hb; omega) _
  · have hsz := h6.size
    exact ((h6.trans (Beside.of_below hbw)).set (p := ⟨hb, 0, none⟩) (.inr (by show w.heap.size ≤ hb; omega)) _).set (p := ⟨hb, 1, none⟩) (.inr (by show w.heap.size ≤ hb; omega)) _
end
theorem undrewI {R : Nat} {w w' : World} (h : Beside R w.drew w') : Beside R w w' := ⟨h.os, h.tape, h.output, h.size, h.block⟩
/-- A history that is drawn, with its text. -/
def HDrawn (R : Nat) (w : World) (e : Ending) (w' : World) : Prop :=
  ∃ (ms : List Mom) (n : Int) (s : ByteArray) (A : Option Addr) (c : Nat), e = .returned (.tuple #[.agg #[.slice A ms.length c, .int .i64 n], .string s]) ∧ ms.length ≤ c ∧ ms.length ≤ 30 ∧ (∀ m ∈ ms, m.x.size ≤ 2000 ∧ m.y.size ≤ 2000) ∧ s.size ≤ 200 ∧ (-1 ≤ n ∧ n ≤ 30) ∧ Row w' w'.heap.size A (moms ms) ∧ Beside R w w'
/-- What stands behind the odd cases. -/
def HOdd (R B hb : Nat) (w : World) (s : ByteArray) (wr : World) : Prop :=
  ∃ (ms : List Mom) (n : Int) (A : Option Addr) (c : Nat), HBox wr B 29 (.slice none 0 0) 0 ∧ HBox wr hb 29 (.slice A ms.length c) n ∧ ms.length ≤ c ∧ ms.length ≤ 30 ∧ (∀ m ∈ ms, m.x.size ≤ 2000 ∧ m.y.size ≤ 2000) ∧ s.size ≤ 200 ∧ (-1 ≤ n ∧ n ≤ 30) ∧ Row wr wr.heap.size A (moms ms) ∧ (∀ a, A = some a → a.block ≠ B) ∧ Beside R w wr ∧ B < hb ∧ w.heap.size = B
theorem moms_p (ms : List Mom) (j : Nat) (v : Int) (h : j < ms.length) : (moms ms).set (j * 7) (.int .i64 v) = moms (ms.set j ⟨v, ms[j].a, ms[j].b, ms[j].x, ms[j].c, ms[j].d, ms[j].y⟩) := by
  induction ms generalizing j with
  | nil => simp at h
  | cons x ms ih =>
    cases j with
    | zero => simp [moms_cons]
    | succ j =>
      rw [moms_cons, List.set_cons_succ, moms_cons, show (j + 1) * 7 = (j * 7) + 1 + 1 + 1 + 1 + 1 + 1 + 1 by omega]
      simp only [List.set_cons_succ, List.getElem_cons_succ]
      rw [ih j (by simpa using h)]
theorem moms_y (ms : List Mom) (j : Nat) (v : ByteArray) (h : j < ms.length) : (moms ms).set (j * 7 + 6) (.string v) = moms (ms.set j ⟨ms[j].p, ms[j].a, ms[j].b, ms[j].x, ms[j].c, ms[j].d, v⟩) := by
  induction ms generalizing j with
  | nil => simp at h
  | cons x ms ih =>
    cases j with
    | zero => simp [moms_cons]
    | succ j =>
      rw [show (j + 1) * 7 + 6 = (j * 7 + 6) + 1 + 1 + 1 + 1 + 1 + 1 + 1 by omega]
      simp only [moms_cons, List.set_cons_succ, List.getElem_cons_succ]
      rw [ih j (by simpa using h)]
theorem HOdd.text {R B hb : Nat} {w wr : World} {s s' : ByteArray} (h : HOdd R B hb w s wr) (hs : s'.size ≤ 200) : HOdd R B hb w s' wr := by
  obtain ⟨ms, n, A, c, h1, h2, h3, h4, h5, _, h6⟩ := h
  exact ⟨ms, n, A, c, h1, h2, h3, h4, h5, hs, h6⟩
theorem HOdd.alloc {R B hb : Nat} {w wr : World} {s : ByteArray} (h : HOdd R B hb w s wr) (o : Obj) : HOdd R B hb w s (wr.alloc o) := by
  obtain ⟨ms, n, A, c, h1, h2, h3, h4, h5, h6, h7, h8, h9, h10, h11, h12⟩ := h
  exact ⟨ms, n, A, c, h1.alloc _, h2.alloc _, h3, h4, h5, h6, h7, (h8.alloc (Nat.le_refl _) o).more (by simp), h9, h10.alloc o, h11, h12⟩
theorem HSt.small {R B hb k c p : Nat} {w wr : World} {ms : List Mom} {s : ByteArray} {T : List ByteArray} {A : Option Addr} (h : HSt R B hb w ms k s T A c p wr) : ms.length ≤ 30 ∧ 1 ≤ ms.length ∧ k < ms.length ∧ s.size ≤ 120 := by
  obtain ⟨⟨hg, _⟩, _⟩ := h
  obtain ⟨k', e, e2, _⟩ := hg.2.2.2.1
  exact ⟨hg.1.2, hg.1.1, by omega, valid_size hg.2.1⟩
/-- From what stands to what is returned, with other moments in the row. -/
theorem HSt.odd {R B hb k c p : Nat} {w wr W : World} {ms ms' : List Mom} {s : ByteArray} {T : List ByteArray} {A : Option Addr} {n : Int} (h : HSt R B hb w ms k s T A c p wr) (hl : ms'.length = ms.length) (hz : ∀ m ∈ ms', m.x.size ≤ 2000 ∧ m.y.size ≤ 2000) (hn : -1 ≤ n ∧ n ≤ 30)
    (h1 : HBox W B 29 (.slice none 0 0) 0) (h2 : HBox W hb 29 (.slice A ms.length c) n) (h3 : W.ownsRow B 56 7 (.slice A ms.length c) ms.length (moms ms')) (h4 : Beside R w W) : HOdd R B hb w s W := by
  obtain ⟨g1, g2, g3, g4⟩ := h.small
  rw [← hl] at h2 h3 g1
  exact ⟨ms', n, A, c, h1, h2, own_cap h3, g1, hz, by omega, hn, Row.of_own7 h3, own_neT h3 h1 (by decide), h4, h.2.2.2.2.2.2.2.1, h.2.2.2.2.2.2.2.2⟩
theorem HSt.at_ {R B hb k c p : Nat} {w wr : World} {ms : List Mom} {s : ByteArray} {T : List ByteArray} {A : Option Addr} {u : Int} (h : HSt R B hb w ms k s T A c p wr) (hu : -1 ≤ u ∧ u ≤ 30) : HOdd R B hb w s (wr.setCell ⟨hb, 1, none⟩ (.int .i64 u)) := by
  have hB := h.2.2.2.2.2.2.2.1
  have hw := h.2.2.2.2.2.2.2.2
  refine h.odd rfl (fun m hm => by have := h.1.2 m hm; omega) hu (h.2.1.other (q := ⟨hb, 1, none⟩) (by show hb ≠ B; omega) _) (h.2.2.1.set1 u) (own_setN h.2.2.2.1 (q := ⟨hb, 1, none⟩) (own_neT h.2.2.2.1 h.2.2.1 (by decide)) _) (h.2.2.2.2.2.1.set (p := ⟨hb, 1, none⟩) (.inr (by show w.heap.size ≤ hb; omega)) _)
theorem HSt.alloc {R B hb k c p : Nat} {w wr : World} {ms : List Mom} {s : ByteArray} {T : List ByteArray} {A : Option Addr} (h : HSt R B hb w ms k s T A c p wr) (o : Obj) : HSt R B hb w ms k s T A c p (wr.alloc o) :=
  h.beside ((Beside.refl R wr).alloc o) (h.2.2.2.2.1.alloc o)
theorem Row.far {w : World} {B : Nat} {A : Option Addr} {xs : List Value} (h : Row w B A xs) {q : Addr} (hq : ∀ a, A = some a → a.block ≠ q.block) (v : Value) : Row (w.setCell q v) B A xs := by
  intro j u hj
  obtain ⟨b, o, rfl, hb, hc⟩ := h j u hj
  exact ⟨b, o, rfl, hb, (World.cell?_setCell_far w q ⟨b, o + j, none⟩ v (by have := hq _ rfl; exact fun e => this e.symm)).trans hc⟩
theorem tabA (n jn : Nat) (hn : n ≤ 30) (hj : jn < 2) : ∃ u : Int, (-1 ≤ u ∧ u ≤ 30) ∧ (#[Value.int .i64 (-1), .int .i64 n] : Array Value)[jn]? = some (.int .i64 u) := by
  rcases (show jn = 0 ∨ jn = 1 by omega) with rfl | rfl
  · exact ⟨-1, by omega, rfl⟩
  · exact ⟨n, by omega, rfl⟩
theorem HOdd.drewN {R B hb : Nat} {w wr : World} {s : ByteArray} (h : HOdd R B hb w s wr) (m : Nat) : HOdd R B hb w s (wr.drewN m) := by
  obtain ⟨ms, n, A, c, h1, h2, h3, h4, h5, h6, h7, h8, h9, h10, h11, h12⟩ := h
  exact ⟨ms, n, A, c, h1, h2, h3, h4, h5, h6, h7, h8.drewN m, h9, h10.drewN m, h11, h12⟩
theorem HSt.drop {R B hb k c p : Nat} {w wr : World} {ms : List Mom} {s : ByteArray} {T : List ByteArray} {A A' : Option Addr} {c' : Nat} (h : HSt R B hb w ms k s T A c p wr) (hA : Row wr wr.heap.size A' (moms (ms.drop 1))) (hc : ms.length - 1 ≤ c') (hn : ∀ a, A' = some a → a.block ≠ B ∧ a.block ≠ hb) :
    HOdd R B hb w s (wr.setCell ⟨hb, 0, none⟩ (.slice A' (ms.length - 1) c')) := by
  obtain ⟨g1, g2, g3, g4⟩ := h.small
  obtain ⟨⟨hg, hs⟩, h2, h3, h4, h5, h6, h7, h8, h9⟩ := h
  have hl : (ms.drop 1).length = ms.length - 1 := by simp
  refine ⟨ms.drop 1, k, A', c', h2.other (q := ⟨hb, 0, none⟩) (by show hb ≠ B; omega) _, ?_, by rw [hl]; exact hc, by rw [hl]; omega, fun m hm => ?_, by omega, by omega, ?_, fun a ha => (hn a ha).1, h6.set (p := ⟨hb, 0, none⟩) (.inr (by show w.heap.size ≤ hb; omega)) _, h8, h9⟩
  · rw [hl]; exact h3.set0 _
  · have := hs m (List.mem_of_mem_drop hm); omega
  · have := hA.far (q := ⟨hb, 0, none⟩) (fun a ha => (hn a ha).2) (.slice A' (ms.length - 1) c')
    simpa [World.setCell] using this
theorem Sm.wide2 {ms : List Mom} (h : Sm ms) : ∀ m ∈ ms, m.x.size ≤ 2000 ∧ m.y.size ≤ 2000 := fun m hm => by have := h m hm; omega
theorem Sm.put {ms : List Mom} (h : Sm ms) {j : Nat} {m' : Mom} (h1 : m'.x.size ≤ 2000 ∧ m'.y.size ≤ 2000) : ∀ m ∈ ms.set j m', m.x.size ≤ 2000 ∧ m.y.size ≤ 2000 := fun m hm => by
  rcases List.mem_or_eq_of_mem_set hm with hm | hm
  · exact h.wide2 m hm
  · subst hm; exact h1
set_option maxHeartbeats 8000000 in
set_option maxRecDepth 100000 in
theorem history_any (R p : Nat) (w : World) (h : IsRd w R p) (hp : p ≤ 1000) :
    Calls Try.prog 40 #[.pointer (some ⟨R, 0, none⟩), .int .i64 2] w (HDrawn R w) := by
  have hRl := h.lt
  obtain ⟨B, hB⟩ : ∃ B, w.heap.size = B := ⟨_, rfl⟩
  obtain ⟨Y, hY⟩ : ∃ Y, w.alloc (.cells #[.slice none 0 0, .int .i64 0] 29) = Y := ⟨_, rfl⟩
  have hRY : IsRd Y R p := hY ▸ h.alloc _
  have hbY : Beside R w Y := hY ▸ (Beside.refl R w).alloc _
  have hres : HBox Y B 29 (.slice none 0 0) 0 := by rw [← hY, ← hB]; exact HBox.new w _ _ _
  go_enter Try.func40, Try.ntmps40
  go_wp2_with fail
  refine (text0_any R p _ hRY (by omega)).mono ?_
  rintro e W1 ⟨s0, p1, rfl, hv0, hp1, hp2, hR1, hb1⟩
  have hbw1 := hbY.trans hb1
  have hres1 := hres.beside hb1 (by omega)
  clear hb1 hbY hres hRY
  go_wp2_with fail
  refine (sHO2_any _).mono ?_
  rintro e W2 ⟨v, rfl, ⟨A2, c2, rfl, hown2⟩, hb2⟩
  obtain ⟨hb, hhb⟩ : ∃ hb, W2.heap.size = hb := ⟨_, rfl⟩
  obtain ⟨X, hX⟩ : ∃ X, W2.alloc (.cells #[.slice A2 1 c2, .int .i64 0] 29) = X := ⟨_, rfl⟩
  have hst : HSt R B hb w [⟨-1, 0, 0, ⟨#[]⟩, 0, 0, ⟨#[]⟩⟩] 0 s0 [s0] A2 c2 p1 X := by
    have hal : Below W2.heap.size W2 X := hX ▸ (Below.refl _ _).alloc (Nat.le_refl _) _
    have hbB : B < W1.heap.size := hres1.lt
    have hz := hb2.size
    refine ⟨⟨Good.first hv0, fun m hm => by simp at hm; subst hm; exact ⟨Nat.zero_le _, Nat.zero_le _⟩⟩, ?_, ?_, ?_, ?_, ?_, by omega, by omega, hB⟩
    · exact (hres1.below hb2 hbB).below hal (by omega)
    · rw [← hX, ← hhb]; exact HBox.new W2 _ _ _
    · exact own_leM (own_below7 hown2 hal) (by omega)
    · exact (hR1.below hb2 hR1.lt).below hal (by have := hR1.lt; omega)
    · exact (hbw1.trans (Beside.of_below hb2)).trans (Beside.of_below hal)
  have HS := Lib.hid hst
  have hRX := hst.2.2.2.2.1
  have HX := Lib.hid hX
  clear hst hown2 hb2 hbw1 hres1 hR1 h hX
  go_wp2_with fail
  rw [HX.out]
  refine (pick_any R p1 9 _ hRX (by omega) (by omega)).mono ?_
  rintro e W3 ⟨v, hv1, hv2, rfl, hR3, hb3, hs3⟩
  have hvv := hv2 (by omega)
  obtain ⟨n0, rfl⟩ := Int.eq_ofNat_of_zero_le hv1
  have HS3 := Lib.hid (HS.out.beside hb3 hR3)
  clear hb3 hs3 hv2 hv1 hR3 hRX HS HX
  go_wp2_with fail
  go_loopw [6, 8] (fun sv nv wr => ∃ (q : Nat) (ms : List Mom) (k : Nat) (s : ByteArray) (T : List ByteArray) (A : Option Addr) (c p3 : Nat), nv = .int .i64 q ∧ sv = .string s ∧ p3 + 110 * q ≤ p1 + 1000 ∧ HSt R B hb w ms k s T A c p3 wr) (fun _ nv _ => (intOf nv).toNat)
  case atStart => exact ⟨n0, _, 0, s0, _, A2, c2, p1 + 1, rfl, rfl, by omega, HS3.out⟩
  case round =>
    obtain ⟨q, ms, k, s, T, A, c, p3, rfl, rfl, hq, hst⟩ := hrel
    clear HS3
    have HST := Lib.hid hst
    have hRr := hst.2.2.2.2.1
    have hx0 := hst.2.2.1.c0
    have hx1 := hst.2.2.1.c1
    clear hst
    rcases q with _ | q
    · go_wp2_with fail
      refine (odd_any R p3 2 _ hRr (by omega) (by omega) (by omega)).mono ?_
      rintro e W4 ⟨b, p4, rfl, hp3, hp4, hR4, hb4, hs4⟩
      have HS4 := Lib.hid (HST.out.beside hb4 hR4)
      clear hb4 hs4 HST hRr hx0 hx1
      go_upto_if 55 with fail
      go_cut [6] (fun v6 wx => ∃ s' : ByteArray, v6 = .string s' ∧ HOdd R B hb w s' wx)
      case first =>
        cases b
        · have HO : Hid (HOdd R B hb w s W4) := Lib.hid (HS4.out.odd rfl HS4.out.1.2.wide2 (by have := HS4.out.small; omega) HS4.out.2.1 HS4.out.2.2.1 HS4.out.2.2.2.1 HS4.out.2.2.2.2.2.1)
          go_wp2_with fail
          go_meet
          exact ⟨s, rfl, HO.out⟩
        go_wp2_with fail
        refine (pick_any R p4 5 _ hR4 (by omega) (by omega)).mono ?_
        rintro e W5 ⟨v, hv1, hv2, rfl, hR5, hb5, hs5⟩
        have hvv := hv2 (by omega)
        have HS5 := Lib.hid (HS4.out.beside hb5 hR5)
        have HO : Hid (HOdd R B hb w s W5) := Lib.hid (HS5.out.odd rfl HS5.out.1.2.wide2 (by have := HS5.out.small; omega) HS5.out.2.1 HS5.out.2.2.1 HS5.out.2.2.2.1 HS5.out.2.2.2.2.2.1)
        obtain ⟨g30, g1, gk, gs⟩ := HS5.out.small
        have hx0 := HS5.out.2.2.1.c0
        have hx1 := HS5.out.2.2.1.c1
        have hf0 := HS5.out.2.2.1.fr 0
        have hf1 := HS5.out.2.2.1.fr 1
        clear hb5 hs5 hv2 HS4 hR4
        by_cases c0 : v = 0
        · have e0 : (v == 0) = true := by simp [c0]
          clear c0
          have HO2 := Lib.hid (HO.out.text (s' := s ++ (⟨#[9]⟩ : ByteArray)) (by rw [ByteArray.size_append]; show s.size + 1 ≤ 200; omega))
          go_wp2_with fail
          go_meet
          exact ⟨_, rfl, HO2.out⟩
        have e0 : (v == 0) = false := by simp [c0]
        clear c0
        by_cases c1 : v = 1
        · have e1 : (v == 1) = true := by simp [c1]
          clear c1
          have hlt5 := hR5.lt
          go_wp2_with fail
          go_region_with (go_at_call 49
                          refine (pick_any R (p4 + 1) 2 _ ?h1 ?h2 ?h3).mono ?_
                          case h1 => first | exact hR5 | exact hR5.alloc _
                          case h2 => omega
                          case h3 => omega
                          rintro e W6 ⟨j, hj1, hj2, rfl, hR6, hb6, hs6⟩
                          have hjj := hj2 (by omega)
                          obtain ⟨jn, rfl⟩ := Int.eq_ofNat_of_zero_le hj1
                          obtain ⟨u, hu, d1⟩ := tabA ms.length jn g30 (by omega)
                          have hb6 := undrewI hb6
                          have d1' := d1
                          simp only [List.getElem?_toArray] at d1'
                          have d3 : ([Value.int .i64 (-1), .int .i64 ms.length] : List Value)[jn]'(by simp; omega) = .int .i64 u := (List.getElem?_eq_some_iff.1 d1').2
                          first
                            | (have q1 : W6.cell? ⟨W5.heap.size, jn, none⟩ = some (.int .i64 u) := (hb6.one hlt5 jn).trans d1
                               have q3 : W5.heap.size < W6.heap.size := by (try simp at hs6); omega)
                            | skip
                          have hs7 : HSt R B hb w ms k s T A c (p4 + 1 + 1) W6 := by first | exact HS5.out.beside hb6 hR6 | exact (HS5.out.alloc _).beside hb6 hR6
                          have y0 := hs7.2.2.1.c0
                          have y1 := hs7.2.2.1.c1
                          have yf1 := hs7.2.2.1.fr 1
                          have hbl6 := hs7.2.2.1.lt
                          have HS7 := Lib.hid hs7
                          clear hs6 hb6 hs7)
          all_goals
            go_wp2_with fail
            go_meet
            first
              | exact ⟨s, rfl, HS7.out.at_ hu⟩
              | exact ⟨s, rfl, (HS7.out.alloc _).at_ hu⟩
              | exact ⟨s, rfl, (HS7.out.at_ hu).alloc _⟩
              | exact ⟨s, rfl, by rw [d3]; exact (HS7.out.alloc _).at_ hu⟩
              | exact ⟨s, rfl, by rw [d3]; exact (HS7.out.at_ hu).alloc _⟩
        have e1 : (v == 1) = false := by simp [c1]
        clear c1
        obtain ⟨L, hL⟩ : ∃ L, ms.length = L + 1 := ⟨ms.length - 1, by omega⟩
        have hown := HS5.out.2.2.2.1
        obtain ⟨rg, cap, hva, _, hrl⟩ := hown.form (by omega)
        injection hva with hva hvb hvc
        subst hva hvc
        have hLl : L < ms.length := by omega
        have hq6 : (ms.length : Int) - 1 = (L : Int) := by omega
        have hq7 : IntKind.i64.wrap (L : Int) = (L : Int) := IntWalk.i64_in _ (by omega)
        have hL0 : (0 : Int) ≤ (L : Int) := by omega
        have hL1 : (L : Int) < (ms.length : Int) := by omega
        have hBl := HS5.out.2.1.lt
        have hrB : B ≤ rg := ((own_lt hown) _ rfl).1
        have hn1 := own_neT hown HS5.out.2.1 (by decide) _ rfl
        have hn2 := own_neT hown HS5.out.2.2.1 (by decide) _ rfl
        have hmm := own_mom hown hLl
        have hmsz := HS5.out.1.2 _ (List.getElem_mem hLl)
        have HMP := Lib.hid (fun v => moms_p ms L v hLl)
        have HMY := Lib.hid (fun v => moms_y ms L v hLl)
        generalize (ms[L]'hLl) = m at hmm hmsz HMP HMY
        obtain ⟨m0, m1, m2, m3, m4, m5, m6⟩ := hmm
        have HLN := Lib.hid hL
        simp only at hn1 hn2
        clear hL
        by_cases c2 : v = 2
        · have e2 : (v == 2) = true := by simp [c2]
          clear c2
          have z0 := hown.frozenAt (L * 7)
          have hst := (hown.stored (L * 7) (.int .i64 ms.length)).1
          rw [HMP.out] at hst
          have HO2 : Hid (HOdd R B hb w s (W5.setCell ⟨rg, L * 7, none⟩ (.int .i64 ms.length))) := Lib.hid (HS5.out.odd (by simp) (HS5.out.1.2.put ⟨by show m.x.size ≤ 2000; omega, by show m.y.size ≤ 2000; omega⟩) (by omega) (HS5.out.2.1.other (q := ⟨rg, L * 7, none⟩) hn1 _) (HS5.out.2.2.1.other (q := ⟨rg, L * 7, none⟩) hn2 _) hst (HS5.out.2.2.2.2.2.1.set (p := ⟨rg, L * 7, none⟩) (.inr (by show w.heap.size ≤ rg; omega)) _))
          clear hst hown m1 m2 m3 m4 m5 m6
          go_wp2_with fail
          go_meet
          exact ⟨_, rfl, HO2.out⟩
        have e2 : (v == 2) = false := by simp [c2]
        clear c2
        by_cases c3 : v = 3
        · have e3 : (v == 3) = true := by simp [c3]
          clear c3
          have z0 := hown.frozenAt (L * 7 + 6)
          have hst := (hown.stored (L * 7 + 6) (.string (m.y ++ (⟨#[122]⟩ : ByteArray)))).1
          rw [HMY.out] at hst
          have HO2 : Hid (HOdd R B hb w s (W5.setCell ⟨rg, L * 7 + 6, none⟩ (.string (m.y ++ (⟨#[122]⟩ : ByteArray))))) := Lib.hid (HS5.out.odd (by simp) (HS5.out.1.2.put ⟨by show m.x.size ≤ 2000; omega, by show (m.y ++ (⟨#[122]⟩ : ByteArray)).size ≤ 2000; rw [ByteArray.size_append]; show m.y.size + 1 ≤ 2000; omega⟩) (by omega) (HS5.out.2.1.other (q := ⟨rg, L * 7 + 6, none⟩) hn1 _) (HS5.out.2.2.1.other (q := ⟨rg, L * 7 + 6, none⟩) hn2 _) hst (HS5.out.2.2.2.2.2.1.set (p := ⟨rg, L * 7 + 6, none⟩) (.inr (by show w.heap.size ≤ rg; omega)) _))
          clear hst hown m0 m1 m2 m3 m4 m5
          go_wp2_with fail
          go_region
          all_goals
            go_wp2_with fail
            go_meet
            exact ⟨s, rfl, show HOdd R B hb w s ((W5.setCell ⟨rg, L * 7 + 6, none⟩ (.string (m.y ++ (⟨#[122]⟩ : ByteArray)))).drewN 1) from HO2.out.drewN 1⟩
        have e3 : (v == 3) = false := by simp [c3]
        clear c3
        have hrow := Row.of_own7 hown
        have hcap := own_cap hown
        have HR := Lib.hid (And.intro hrow hcap)
        clear hown hrow hcap m0 m1 m2 m3 m4 m5 m6
        go_wp2_with fail
        all_goals
          have hcc := HR.out.2
          first
            | (have e : c = 1 := by assumption
               subst e
               go_meet
               exact ⟨s, rfl, HS5.out.drop (Row.tail1 (by omega)) (by omega) (fun a ha => by injection ha with ha; subst ha; exact ⟨hn1, hn2⟩)⟩)
            | (go_meet
               exact ⟨s, rfl, HS5.out.drop HR.out.1.tail (by omega) (fun a ha => by injection ha with ha; subst ha; exact ⟨hn1, hn2⟩)⟩)
      case rest =>
        obtain ⟨s', rfl, ms', n', A', c', h1, h2, h3, h4, h5, h6, h7, h8, h9, h10, h11, h12⟩ := hcut
        have t0 := h2.c0
        have t1 := h2.c1
        have r0 := h1.c0
        have r1 := h1.c1
        have rf0 := h1.fr 0
        have rf1 := h1.fr 1
        have HF : Hid (HDrawn R w (.returned (.tuple #[.agg #[.slice A' ms'.length c', .int .i64 n'], .string s'])) ((wc.setCell ⟨B, 0, none⟩ (.slice A' ms'.length c')).setCell ⟨B, 1, none⟩ (.int .i64 n'))) :=
          Lib.hid ⟨ms', n', s', A', c', rfl, h3, h4, h5, h6, h7, by
            have := (h8.far (q := ⟨B, 0, none⟩) h9 (.slice A' ms'.length c')).far (q := ⟨B, 1, none⟩) h9 (.int .i64 n')
            simpa [World.setCell] using this, (h10.set (p := ⟨B, 0, none⟩) (.inr (by show w.heap.size ≤ B; omega)) _).set (p := ⟨B, 1, none⟩) (.inr (by show w.heap.size ≤ B; omega)) _⟩
        clear h1 h2 h5 h8 h9 h10
        go_wp2_with fail
        refine bodyPost_ret (v := .tuple #[.agg #[.slice A' ms'.length c', .int .i64 n'], .string s']) ?_ rfl HF.out
        simp [results, Try.results40, go_sem, r0, r1]
    · go_wp2_with fail
      refine (pick_any R p3 5 _ hRr (by omega) (by omega)).mono ?_
      rintro e W4 ⟨v, hv1, hv2, rfl, hR4, hb4, hs4⟩
      have hvv := hv2 (by omega)
      have HS4 := Lib.hid (HST.out.beside hb4 hR4)
      have hx0 := HS4.out.2.2.1.c0
      have hx1 := HS4.out.2.2.1.c1
      have hf0 := HS4.out.2.2.1.fr 0
      have hf1 := HS4.out.2.2.1.fr 1
      clear hb4 hs4 hv2 HST hRr
      by_cases c0 : v = 0
      · have e0 : (v == 0) = true := by simp [c0]
        clear c0
        go_wp2_with fail
        refine (sHB_any A ms.length c k ms s T _ (Row.of_own7 HS4.out.2.2.2.1) rfl HS4.out.1.1 HS4.out.1.2).mono ?_
        rintro e W5 ⟨ms', k', s', T', v', b', rfl, hgd', hsm', ⟨A', c', rfl, hown'⟩, hb5⟩
        have HN := Lib.hid (HS4.out.next hgd' hsm' hown' hb5)
        have hbx5 := HS4.out.2.2.1.below hb5 HS4.out.2.2.1.lt
        have y0 := hbx5.c0
        have y1 := hbx5.c1
        have yf0 := hbx5.fr 0
        have yf1 := hbx5.fr 1
        clear hx0 hx1 hf0 hf1 hown' hb5 hbx5 hgd' hsm'
        go_wp2_with fail
        go_roundw
        case rel => exact ⟨q, ms', k', s', T', A', c', p3 + 1, by go_num, rfl, by omega, HN.out⟩
        case measure => (simp [intOf] <;> omega)
      have e0 : (v == 0) = false := by simp [c0]
      clear c0
      by_cases c1 : v = 1
      · have e1 : (v == 1) = true := by simp [c1]
        clear c1
        have hlen := HS4.out.1.1.1
        go_wp2_with fail
        go_region_with (first
          | (go_at_call 49
             refine (pick_any R (p3 + 1) (ms.length : Int) _ ?h1 ?h2 ?h3).mono ?_
             case h1 => exact hR4
             case h2 => omega
             case h3 => omega
             rintro e W5 ⟨j, hj1, hj2, rfl, hR5, hb5, hs5⟩
             have hjj := hj2 (by omega)
             obtain ⟨jn, rfl⟩ := Int.eq_ofNat_of_zero_le hj1
             have HS5 := Lib.hid (HS4.out.beside (undrewI hb5) hR5)
             have z0 := HS5.out.2.2.1.c0
             have z1 := HS5.out.2.2.1.c1
             clear hb5 hs5 hj2)
          | (go_at_call 56
             refine (sHT_any A ms.length c k jn ms s T _ (Row.of_own7 HS5.out.2.2.2.1) rfl HS5.out.1.1 HS5.out.1.2 (by omega)).mono ?_
             rintro e W6 ⟨ms', k', s', T', v', b', rfl, hgd', hsm', ⟨A', c', rfl, hown'⟩, hb6⟩
             have HN := Lib.hid (HS5.out.next hgd' hsm' hown' hb6)
             have hbx6 := HS5.out.2.2.1.below hb6 HS5.out.2.2.1.lt
             have y0 := hbx6.c0
             have y1 := hbx6.c1
             have yf0 := hbx6.fr 0
             have yf1 := hbx6.fr 1
             clear hown' hb6 hbx6 hgd' hsm'))
        all_goals
          go_wp2_with fail
          go_roundw
          case rel => exact ⟨q, ms', k', s', T', A', c', p3 + 1 + 1, by go_num, rfl, by omega, HN.out⟩
          case measure => (simp [intOf] <;> omega)
      · have e1 : (v == 1) = false := by simp [c1]
        clear c1
        have hs120 := valid_size HS4.out.1.1.2.1
        go_wp2_with fail
        go_region_with (first
          | (go_at_call 31
             refine (change_any R (p3 + 1) s 0 _ ?h1 ?h2 ?h3 ?h4 ?h5).mono ?_
             case h1 => exact hR4
             case h2 => omega
             case h3 => omega
             case h4 => omega
             case h5 => omega
             rintro e W5 ⟨ca, cc, cput, p5, rfl, hput, hp5, hp6, hR5, hb5⟩
             have HS5 := Lib.hid (HS4.out.beside (undrewI hb5) hR5)
             have z0 := HS5.out.2.2.1.c0
             have z1 := HS5.out.2.2.1.c1
             clear hb5)
          | (go_at_call 57
             refine (sHD_any A ms.length c k ms s T ca cc cput _ (Row.of_own7 HS5.out.2.2.2.1) rfl HS5.out.1.1 HS5.out.1.2 hput).mono ?_
             rintro e W6 ⟨ms', k', s', T', v', b', rfl, hgd', hsm', ⟨A', c', rfl, hown'⟩, hb6⟩
             have HN := Lib.hid (HS5.out.next hgd' hsm' hown' hb6)
             have hbx6 := HS5.out.2.2.1.below hb6 HS5.out.2.2.1.lt
             have y0 := hbx6.c0
             have y1 := hbx6.c1
             have yf0 := hbx6.fr 0
             have yf1 := hbx6.fr 1
             clear hown' hb6 hbx6 hgd' hsm'))
        all_goals
          go_wp2_with fail
          go_roundw
          case rel => exact ⟨q, ms', k', s', T', A', c', p5, by go_num, rfl, by omega, HN.out⟩
          case measure => (simp [intOf] <;> omega)
end Go.Proofs.Ytlnldnenkajcdaa
