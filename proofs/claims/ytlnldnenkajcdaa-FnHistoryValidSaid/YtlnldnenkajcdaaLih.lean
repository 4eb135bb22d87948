/- The law on histories that are valid, walked. -/
import Derived.Test.YtlnldnenkajcdaaIe
import Derived.Test.YtlnldnenkajcdaaAl
set_option linter.unusedVariables false
set_option linter.unusedSimpArgs false
namespace Go.Proofs.Ytlnldnenkajcdaa
open Go.RowKit
theorem Row.far_box {w : World} {B g : Nat} {T : TypeId} {A a : Option Addr} {n c : Nat} {k : Int} {ms : List Mom} (h : Row w B A (moms ms)) (hb : HBox w g T (.slice a n c) k) (i : Nat) (v : Value) : Row (w.setCell ⟨g, i, none⟩ v) B A (moms ms) := by
  by_cases h0 : ms.length = 0
  · have : ms = [] := List.eq_nil_of_length_eq_zero h0
    subst this
    exact Row.empty
  · obtain ⟨b, o, rfl, _, hm⟩ := h.mom (j := 0) (by omega)
    refine h.far (fun a ha => ?_) v
    injection ha with ha
    subst ha
    intro e
    have e' : b = g := e
    subst e'
    exact hb.not_str hm.2.2.2.1
theorem tab_bad (s : ByteArray) : valid (s ++ (⟨#[9]⟩ : ByteArray)).data.toList = false := by
  unfold valid
  rw [ByteArray.data_append, Array.toList_append, allOk_app2]
  have : allOk (⟨#[9]⟩ : ByteArray).data.toList = false := by decide
  rw [this, Bool.and_false, Bool.false_and]
def DHist (w : World) (e : Ending) (w' : World) : Prop :=
  ∃ (ms : List Mom) (n : Int) (s : ByteArray) (A : Option Addr) (c : Nat), e = .returned (.tuple #[.agg #[.slice A ms.length c, .int .i64 n], .string s]) ∧ ms.length ≤ c ∧ ms.length ≤ 30 ∧ (∀ m ∈ ms, m.x.size ≤ 2000 ∧ m.y.size ≤ 2000) ∧ s.size ≤ 200 ∧ (-1 ≤ n ∧ n ≤ 30) ∧ Row w' w'.heap.size A (moms ms) ∧ Below w.heap.size w w'
set_option maxRecDepth 100000 in
theorem dDrawHistoryValid (A : Option Addr) (n c : Nat) (zs : List Int) (w : World) (h : IsBytes w A n c zs) :
    Calls Try.prog 21 #[.slice A n c] w (DHist w) := by
  obtain ⟨B, hB⟩ : ∃ B, w.heap.size = B := ⟨_, rfl⟩
  obtain ⟨Y, hY⟩ : ∃ Y, w.alloc (.cells #[.slice none 0 0, .int .i64 0] 29) = Y := ⟨_, rfl⟩
  have hbY : Below w.heap.size w Y := hY ▸ (Below.refl w.heap.size w).alloc (Nat.le_refl _) _
  have hres : HBox Y B 29 (.slice none 0 0) 0 := by rw [← hY, ← hB]; exact HBox.new w _ _ _
  have hby : IsBytes Y A n c zs := by
    obtain ⟨g1, g2, g3, g4, g5⟩ := h
    exact ⟨g1, g2, g3, g4, (g5.below hbY).more hbY.size⟩
  go_enter Try.func21, Try.ntmps21
  go_wp2_with fail
  refine (open_any A n c zs _ hby).mono ?_
  rintro e W1 ⟨rfl, hR, hb1, hsz⟩
  obtain ⟨R, hRR⟩ : ∃ R, Y.heap.size = R := ⟨_, rfl⟩
  rw [hRR] at hR hb1 hsz ⊢
  have hBR : B < R := by have := hres.lt; omega
  have hres1 := hres.below hb1 hBR
  have hbw1 := hbY.trans (hb1.mono (by omega))
  go_wp2_with fail
  refine (history_any R 0 _ hR (by omega)).mono ?_
  rintro e W2 ⟨ms, k, s, A2, c2, rfl, h1, h2, h3, h4, h5, h6, hb2⟩
  have hres2 := hres1.beside hb2 (by omega)
  have hbw2 := (hB ▸ hbw1.trans (hb2.below (by omega) hbw1.size) : Below B w W2)
  have r0 := hres2.c0
  have r1 := hres2.c1
  have rf0 := hres2.fr 0
  have rf1 := hres2.fr 1
  have HF : Hid (DHist w (.returned (.tuple #[.agg #[.slice A2 ms.length c2, .int .i64 k], .string s])) ((W2.setCell ⟨B, 0, none⟩ (.slice A2 ms.length c2)).setCell ⟨B, 1, none⟩ (.int .i64 k))) :=
    Lib.hid ⟨ms, k, s, A2, c2, rfl, h1, h2, h3, h4, h5, by
      have := (h6.far_box hres2 0 (.slice A2 ms.length c2)).far_box (hres2.set0 (.slice A2 ms.length c2)) 1 (.int .i64 k)
      simpa [World.setCell] using this, hB.symm ▸ (hbw2.setCell (p := ⟨B, 0, none⟩) (Nat.le_refl _) _).setCell (p := ⟨B, 1, none⟩) (Nat.le_refl _) _⟩
  clear h3 h6 hb2 hbw2 hres2 hres1 hbw1 hb1 hR hres hbY hby h
  go_wp2_with fail
  refine bodyPost_ret (v := .tuple #[.agg #[.slice A2 ms.length c2, .int .i64 k], .string s]) ?_ rfl HF.out
  simp [results, Try.results21, go_sem, r0, r1]
set_option maxHeartbeats 4000000 in
set_option maxRecDepth 100000 in
theorem law_FnHistoryValid (A : Option Addr) (n c : Nat) (zs : List Int) (w : World) (h : IsBytes w A n c zs) :
    Calls Try.prog 6 #[.slice A n c] w fun e w' => e = .returned (.bool true) ∧ Below w.heap.size w w' := by
  by_cases hbig : 1048576 < n
  · go_enter Try.func6, Try.ntmps6
    go_wp2
    go_ret
    exact ⟨rfl, Below.refl _ _⟩
  have hbg : decide ((1048576 : Int) < (n : Int)) = false := by simp; omega
  go_enter Try.func6, Try.ntmps6
  go_wp2_with fail
  refine (dDrawHistoryValid A n c zs _ h).mono ?_
  rintro e W1 ⟨ms, k, s, A1, c1, rfl, hcc, h30, hsz, hss, hk, hrow, hb⟩
  clear hbig
  have hs : s.size ≤ maxLen := by unfold maxLen; omega
  have hst : (s ++ (⟨#[9]⟩ : ByteArray)).size ≤ maxLen := by rw [ByteArray.size_append]; unfold maxLen; show s.size + 1 ≤ _; omega
  have hx : ∀ m ∈ ms, m.x.size ≤ 2000000 ∧ m.y.size ≤ 2000000 := fun m hm => by have := hsz m hm; omega
  obtain ⟨g, hg⟩ : ∃ g, W1.heap.size = g := ⟨_, rfl⟩
  obtain ⟨X, hX⟩ : ∃ X, W1.alloc (.cells #[.slice A1 ms.length c1, .int .i64 k] 29) = X := ⟨_, rfl⟩
  have hal : Below W1.heap.size W1 X := hX ▸ (Below.refl _ _).alloc (Nat.le_refl _) _
  have hbX := hb.trans (hal.mono hb.size)
  have hrX := (hrow.below hal).more hal.size
  have hbx : HBox X g 29 (.slice A1 ms.length c1) k := by rw [← hX, ← hg]; exact HBox.new W1 _ _ _
  have x0 := hbx.c0
  have x1 := hbx.c1
  have HX := Lib.hid (And.intro hbX (And.intro hrX hbx))
  have HS := Lib.hid hx
  clear hal hbX hrX hbx hrow hb hsz hx
  go_wp2_with fail
  refine (iHV_any A1 ms.length c1 k ms s _ HX.out.2.1 rfl hcc (by omega) hs HS.out (by omega)).mono ?_
  rintro e W2 ⟨⟨b1, rfl, hi1⟩, hb1⟩
  have hbw2 := HX.out.1.trans (hb1.mono HX.out.1.size)
  have hrw2 := (HX.out.2.1.below hb1).more hb1.size
  have hbx2 := HX.out.2.2.below hb1 HX.out.2.2.lt
  have y0 := hbx2.c0
  have y1 := hbx2.c1
  have H2 := Lib.hid (And.intro hbw2 (And.intro hrw2 hbx2))
  have HI1 := Lib.hid hi1
  clear hb1 hbw2 hrw2 hbx2 hi1 x0 x1
  go_wp2_with fail
  refine (sHV_any A1 ms.length c1 k ms s _ H2.out.2.1 rfl (by omega) hs HS.out (by omega)).mono ?_
  rintro e W3 ⟨⟨b2, rfl, hi2⟩, hb2⟩
  have hbb : b2 = b1 := by
    have h3 := HI1.out
    cases b2 <;> cases b1 <;> simp_all
  subst hbb
  have hne : (b2 != b2) = false := by simp
  have hbw3 := H2.out.1.trans (hb2.mono H2.out.1.size)
  have hrw3 := (H2.out.2.1.below hb2).more hb2.size
  have hbx3 := H2.out.2.2.below hb2 H2.out.2.2.lt
  have z0 := hbx3.c0
  have z1 := hbx3.c1
  obtain ⟨X4, hX4⟩ : ∃ X4, W3.alloc (.cells #[.slice A1 ms.length c1, .int .i64 (-1)] 29) = X4 := ⟨_, rfl⟩
  have hal4 : Below W3.heap.size W3 X4 := hX4 ▸ (Below.refl _ _).alloc (Nat.le_refl _) _
  have hbw4 := hbw3.trans (hal4.mono hbw3.size)
  have hrw4 := (hrw3.below hal4).more hal4.size
  have hbx4 := hbx3.below hal4 hbx3.lt
  obtain ⟨g4, hg4⟩ : ∃ g4, W3.heap.size = g4 := ⟨_, rfl⟩
  have hbd4 : HBox X4 g4 29 (.slice A1 ms.length c1) (-1) := by rw [← hX4, ← hg4]; exact HBox.new W3 _ _ _
  have u0 := hbd4.c0
  have u1 := hbd4.c1
  have v0 := hbx4.c0
  have v1 := hbx4.c1
  have H4 := Lib.hid (And.intro hbw4 (And.intro hrw4 hbx4))
  clear hb2 hbw3 hrw3 hbx3 hi2 y0 y1 H2 hal4 hbw4 hrw4 hbx4 hbd4 HI1
  go_wp2_with fail
  refine (iHV_any A1 ms.length c1 (-1) ms s _ H4.out.2.1 rfl hcc (by omega) hs HS.out (by omega)).mono ?_
  rintro e W5 ⟨⟨b5, rfl, hi5⟩, hb5⟩
  obtain rfl : b5 = false := by
    cases b5
    · rfl
    · exact absurd (hi5.1 rfl) (at_fail (by omega))
  have hbw5 := H4.out.1.trans (hb5.mono H4.out.1.size)
  have hrw5 := (H4.out.2.1.below hb5).more hb5.size
  have hbx5 := H4.out.2.2.below hb5 H4.out.2.2.lt
  have t0 := hbx5.c0
  have t1 := hbx5.c1
  have H5 := Lib.hid (And.intro hbw5 hrw5)
  clear hb5 hbw5 hrw5 hbx5 hi5 u0 u1 v0 v1 H4 z0 z1
  go_wp2_with fail
  refine (iHV_any A1 ms.length c1 k ms _ _ H5.out.2 rfl hcc (by omega) hst HS.out (by omega)).mono ?_
  rintro e W6 ⟨⟨b6, rfl, hi6⟩, hb6⟩
  obtain rfl : b6 = false := by
    cases b6
    · rfl
    · exact absurd (hi6.1 rfl) (valid_fail (tab_bad s))
  have HF := Lib.hid (H5.out.1.trans (hb6.mono H5.out.1.size))
  clear hb6 hi6
  go_wp2_with (go_at_call 18; refine (alive_any _).mono ?_; rintro e w' ⟨rfl, rfl⟩)
  go_ret
  exact ⟨rfl, HF.out⟩
end Go.Proofs.Ytlnldnenkajcdaa
