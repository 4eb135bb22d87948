/- Histories that go back, forth and on, in plain words; the reference's copy of a history. -/
import Derived.Test.YtlnldnenkajcdaaHu
import Derived.Test.YtlnldnenkajcdaaHx
import Derived.Deep.RegionHeld3
set_option linter.unusedVariables false
set_option linter.unusedSimpArgs false
namespace Go.Proofs.Ytlnldnenkajcdaa
open Go.RowKit
/-- All texts of a history are valid. -/
theorem Good.vtext {ms : List Mom} {n : Int} {s : ByteArray} {T : List ByteArray} (h : Good ms n s T) {j : Nat} {t : ByteArray} (ht : T[j]? = some t) : valid t.data.toList = true := by
  have hj : j < ms.length := by rw [← h.2.2.2.2.1]; exact (List.getElem?_eq_some_iff.1 ht).1
  by_cases h0 : j = 0
  · subst h0
    by_cases h1 : 1 < ms.length
    · obtain ⟨q, t', e1, e2, e3, e4, _⟩ := h.2.2.2.2.2 1 ms[1] (by omega) (List.getElem?_eq_getElem h1)
      obtain rfl : q = 0 := by omega
      rw [ht] at e3; injection e3 with e3; subst e3
      obtain ⟨_, _, _, _, _, _, hv, _⟩ := fit_nat e4
      exact hv
    · obtain ⟨k, _, hk, hs⟩ := h.2.2.2.1
      obtain rfl : k = 0 := by omega
      rw [ht] at hs; injection hs with hs
      rw [hs]; exact h.2.1
  · obtain ⟨q, t', _, _, _, e4, e5, _⟩ := h.2.2.2.2.2 j ms[j] (by omega) (List.getElem?_eq_getElem hj)
    rw [ht] at e5; injection e5 with e5
    rw [e5]; exact fit_valid e4
theorem Good.to {ms : List Mom} {n : Int} {s : ByteArray} {T : List ByteArray} (h : Good ms n s T) {j : Nat} {t : ByteArray} (ht : T[j]? = some t) : Good ms j t T :=
  ⟨h.1, h.vtext ht, h.2.2.1, ⟨j, rfl, by rw [← h.2.2.2.2.1]; exact (List.getElem?_eq_some_iff.1 ht).1, ht⟩, h.2.2.2.2.1, h.2.2.2.2.2⟩
theorem Good.goBack {ms : List Mom} {k : Nat} {s : ByteArray} {T : List ByteArray} {m : Mom} (h : Good ms k s T) (hk : 1 ≤ k) (hm : ms[k]? = some m) : fitB s m.y m.c m.d = true ∧ ∃ q : Nat, m.p = q ∧ Good ms q (apX s m.y m.c m.d) T := by
  obtain ⟨j, e1, e2, e3⟩ := h.2.2.2.1
  obtain rfl : k = j := by omega
  obtain ⟨g1, q, g2, _, g4⟩ := h.back hk hm e3
  exact ⟨g1, q, g2, h.to g4⟩
theorem Good.push {ms : List Mom} {k : Nat} {s x : ByteArray} {T : List ByteArray} {a b : Int} (h : Good ms k s T) (hl : ms.length < 30) (hf : fitB s x a b = true) :
    Good (ms ++ [⟨k, a, b, x, a, x.size, s.extract a.toNat (a + b).toNat⟩]) ms.length (apX s x a b) (T ++ [apX s x a b]) := by
  obtain ⟨h1, h2, ⟨m, h3, h3'⟩, ⟨j, e1, e2, e3⟩, h5, h6⟩ := h
  obtain rfl : k = j := by omega
  have hm0 : 0 < ms.length := by omega
  refine ⟨by simp; omega, fit_valid hf, ⟨m, by rw [List.getElem?_append_left hm0]; exact h3, h3'⟩, ⟨ms.length, rfl, by simp, ?_⟩, by simp [h5], fun i m' hi hm' => ?_⟩
  · rw [← h5]; simp
  · rcases Nat.lt_or_ge i ms.length with hil | hil
    · rw [List.getElem?_append_left hil] at hm'
      exact fol_app (h6 i m' hi hm') (by omega)
    · have hil2 : i = ms.length := by
        have := (List.getElem?_eq_some_iff.1 hm').1
        simp at this; omega
      subst hil2
      simp at hm'
      subst hm'
      refine ⟨k, s, rfl, e2, ?_, hf, ?_, rfl, rfl, rfl⟩
      · rw [List.getElem?_append_left (by omega)]; exact e3
      · rw [← h5]; simp
theorem Good.first {s : ByteArray} (hv : valid s.data.toList = true) : Good [⟨-1, 0, 0, ⟨#[]⟩, 0, 0, ⟨#[]⟩⟩] 0 s [s] :=
  ⟨by simp, hv, ⟨_, rfl, rfl, rfl, rfl, rfl, rfl, rfl, rfl⟩, ⟨0, rfl, by simp, rfl⟩, rfl, fun k m hk hm => by
    have := (List.getElem?_eq_some_iff.1 hm).1
    simp at this; omega⟩
theorem own_leM {w : World} {base base' size n : Nat} {e : TypeId} {v : Value} {xs : List Value} (h : w.ownsRow base e size v n xs) (hb : base' ≤ base) : w.ownsRow base' e size v n xs := by
  refine ⟨h.1, ?_⟩
  rcases h.2 with g | ⟨g, cap, cur, h1, h2, h3⟩
  · exact .inl g
  · exact .inr ⟨g, cap, cur, h1, Nat.le_trans hb h2, h3⟩
theorem moms_ones (ms : List Mom) : ∀ u ∈ moms ms, u.oneCell' = true := by
  intro u hu
  obtain ⟨m, _, hm⟩ := List.mem_flatMap.1 hu
  simp [Mom.cells] at hm
  rcases hm with rfl | rfl | rfl | rfl | rfl | rfl | rfl <;> rfl
/-- A history that is new: its row is the call's own. -/
def OwnH (ms : List Mom) (n : Int) (w : World) (v : Value) (w' : World) : Prop :=
  ∃ A c, v = .agg #[.slice A ms.length c, .int .i64 n] ∧ w'.ownsRow w.heap.size 56 7 (.slice A ms.length c) ms.length (moms ms)
def CopyPost (ms : List Mom) (n : Int) (w : World) (e : Ending) (w' : World) : Prop :=
  ∃ v, e = .returned v ∧ OwnH ms n w v w' ∧ Below w.heap.size w w'
set_option maxHeartbeats 4000000 in
set_option maxRecDepth 100000 in
theorem copy_any (A : Option Addr) (n c : Nat) (at_ : Int) (ms : List Mom) (w : World) (h : Row w w.heap.size A (moms ms)) (hl : ms.length = n) (hn : 1 ≤ n ∧ n ≤ 30) :
    Calls Try.prog 64 #[.agg #[.slice A n c, .int .i64 at_]] w (CopyPost ms at_ w) := by
  subst hl
  obtain ⟨i0, hi, hz0, hz1, hz2⟩ := mom_parts
  obtain ⟨b0, o0, rfl, hb0, _⟩ := h.mom (j := 0) (by omega)
  obtain ⟨B, hB⟩ : ∃ B, w.heap.size = B := ⟨_, rfl⟩
  obtain ⟨Y, hY⟩ : ∃ Y, (w.alloc (.cells #[.slice (some ⟨b0, o0, none⟩) ms.length c, .int .i64 at_] 29)).alloc (.cells #[.slice none 0 0, .int .i64 0] 29) = Y := ⟨_, rfl⟩
  have hbY : Below w.heap.size w Y := hY ▸ ((Below.refl w.heap.size w).alloc (Nat.le_refl _) _).alloc (by simp) _
  have hA : HBox Y B 29 (.slice (some ⟨b0, o0, none⟩) ms.length c) at_ := by rw [← hY, ← hB]; exact (HBox.new w _ _ _).alloc _
  have hR : HBox Y (B + 1) 29 (.slice none 0 0) 0 := by
    have h1 := HBox.new (w.alloc (.cells #[.slice (some ⟨b0, o0, none⟩) ms.length c, .int .i64 at_] 29)) 29 (.slice none 0 0) 0
    rw [← hY, ← hB]; simpa using h1
  have hzY : Y.heap.size = B + 2 := by rw [← hY, ← hB]; simp
  have hrow := (h.below hbY).more hbY.size
  have hoA : (Y.alloc (.cells #[] 56)).drew.ownsRow Y.heap.size 56 7 (.slice (some ⟨Y.heap.size, 0, none⟩) 0 0) 0 [] := (World.ownsRow_made Y #[] 0 (Nat.le_refl _) (by decide) rfl).drew
  have hbA : Below Y.heap.size Y (Y.alloc (.cells #[] 56)).drew := Below.drew ((Below.refl Y.heap.size Y).alloc (Nat.le_refl _) _)
  have hnews : ∀ j u, (moms ms)[j]? = some u → (Y.alloc (.cells #[] 56)).drew.cell? ((⟨b0, o0, none⟩ : Addr).add j) = some u := fun j u hj => by
    obtain ⟨b, o, e, hb, hc⟩ := (hrow.below hbA) j u hj
    injection e with e
    injection e with e1 e2
    subst e1 e2
    by_cases hj0 : j = 0
    · subst hj0; simpa [Addr.add] using hc
    · simpa [Addr.add, hj0] using hc
  have a0 := hA.c0
  have a1 := hA.c1
  have hBY : B < Y.heap.size := by omega
  have hB1 : B + 1 < Y.heap.size := by omega
  have HK := Lib.hid (And.intro hbY (And.intro hA hR))
  have HZ := Lib.hid hzY
  clear hzY
  have hYs : Y.heap.size ≤ (Y.alloc (.cells #[] 56)).drew.heap.size := hbA.size
  have HO := Lib.hid (And.intro hoA (And.intro hbA (And.intro hnews hYs)))
  clear hbY hA hR hrow hoA hbA hnews h hYs
  go_enter Try.func64, Try.ntmps64
  go_wp2_with fail
  go_region_held3 (fun w' => w'.cell? ⟨B, 0, none⟩ = some (.slice (some ⟨b0, o0, none⟩) ms.length c) ∧ w'.cell? ⟨B, 1, none⟩ = some (.int .i64 at_)) (go_keep)
    ((refine step_append_at (by rfl) _ _ _ (by rfl) Y.heap.size 56 i0 (.agg #[.int .i64 0, .int .i64 0, .int .i64 0, .string ⟨#[]⟩, .int .i64 0, .int .i64 0, .string ⟨#[]⟩]) 7 72 Try.underlying27 hi hz0 hz1 hz2 rfl (by omega) _ 0 [] (by rfl) HO.out.1 ⟨b0, o0, none⟩ ms.length c (moms ms) (by rfl) (moms_len ms) HO.out.2.2.1 (moms_ones ms) (by unfold maxLen; omega) (by omega) HO.out.2.2.2 ?_; intro A2 cap2 w2 hown2 hg2 hat2; simp only [Nat.zero_add, List.nil_append] at hown2 ⊢; have hb2 : Below Y.heap.size Y w2 := HO.out.2.1.grown hg2 HO.out.2.2.2 (fun q hq => (HO.out.1.lt q hq).1); have k0 := (hb2.cell (p := ⟨B, 0, none⟩) hBY).trans a0; have k1 := (hb2.cell (p := ⟨B, 1, none⟩) hBY).trans a1; have r0 := (HK.out.2.2.below hb2 hB1).c0; have r1 := (HK.out.2.2.below hb2 hB1).c1; have f0 := (HK.out.2.2.below hb2 hB1).fr 0; have f1 := (HK.out.2.2.below hb2 hB1).fr 1; have H2 := Lib.hid (And.intro hown2 hb2); clear hown2 hg2 hat2 hb2))
  all_goals
    have ge1 : B ≤ B + 1 := by omega
    have ho3 := own_set (own_set H2.out.1 (q := ⟨B + 1, 0, none⟩) hB1 (.slice A2 ms.length cap2)) (q := ⟨B + 1, 1, none⟩) hB1 (.int .i64 at_)
    have hb3 := (((hB ▸ HK.out.1 : Below B w Y).trans (H2.out.2.mono (by have := HZ.out; omega))).setCell (p := ⟨B + 1, 0, none⟩) ge1 (.slice A2 ms.length cap2)).setCell (p := ⟨B + 1, 1, none⟩) ge1 (.int .i64 at_)
    have HF : Hid (CopyPost ms at_ w (.returned (.agg #[.slice A2 ms.length cap2, .int .i64 at_])) ((w2.setCell ⟨B + 1, 0, none⟩ (.slice A2 ms.length cap2)).setCell ⟨B + 1, 1, none⟩ (.int .i64 at_))) := Lib.hid ⟨_, rfl, ⟨A2, cap2, rfl, own_leM ho3 (by have := HZ.out; omega)⟩, hB.symm ▸ hb3⟩
    clear ho3 hb3
    go_wp2_with fail
    refine bodyPost_ret (v := .agg #[.slice A2 ms.length cap2, .int .i64 at_]) ?_ rfl HF.out
    simp [results, Try.results64, go_sem, r0, r1]
end Go.Proofs.Ytlnldnenkajcdaa
