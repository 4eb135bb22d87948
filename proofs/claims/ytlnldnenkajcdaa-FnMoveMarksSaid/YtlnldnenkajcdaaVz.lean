/- What is drawn for marks that move: a text, marks and a change; the law FnMoveMarks, walked. -/
import Derived.Test.YtlnldnenkajcdaaVx
import Derived.Test.YtlnldnenkajcdaaVy
import Derived.Test.YtlnldnenkajcdaaAl
set_option linter.unusedVariables false
set_option linter.unusedSimpArgs false
namespace Go.Proofs.Ytlnldnenkajcdaa
open Go.RowKit
theorem Row.of_ownM {w : World} {base e n c : Nat} {A : Option Addr} {xs : List Value} (h : w.ownsRow base e 2 (.slice A n c) n xs) : Row w w.heap.size A xs := by
  intro j u hj
  have hl : j < xs.length := (List.getElem?_eq_some_iff.1 hj).1
  have hn : 0 < n := by have := h.1; omega
  obtain ⟨g, cap, hv, _, hlt⟩ := h.form hn
  have hA : A = some ⟨g, 0, none⟩ := by injection hv
  subst hA
  have hc := h.cells (g := g) rfl j u hj
  refine ⟨g, 0, rfl, hlt, ?_⟩
  by_cases h0 : j = 0
  · subst h0; simpa [Addr.add] using hc
  · simpa [Addr.add, h0] using hc
def DMM (w : World) (e : Ending) (w' : World) : Prop :=
  ∃ (s : ByteArray) (A : Option Addr) (c : Nat) (ms : List (Int × Bool)) (a cc : Int) (put : ByteArray), e = .returned (.tuple #[.string s, .slice A ms.length c, .agg #[.int .i64 a, .int .i64 cc, .string put]]) ∧ s.size ≤ 200 ∧ put.size ≤ 1000 ∧ ms.length ≤ 11 ∧ Row w' w'.heap.size A (mks ms) ∧ Below w.heap.size w w'
set_option maxHeartbeats 4000000 in
set_option maxRecDepth 100000 in
theorem dDrawMoveMarks (A : Option Addr) (n c : Nat) (zs : List Int) (w : World) (h : IsBytes w A n c zs) :
    Calls Try.prog 12 #[.slice A n c] w (DMM w) := by
  have hbytes : IsBytes (w.alloc (.cells #[.int .i64 0, .int .i64 0, .string ⟨#[]⟩] 36)) A n c zs := by
    obtain ⟨h1, h2, h3, h4, h5⟩ := h
    exact ⟨h1, h2, h3, h4, (h5.alloc (Nat.le_refl _) _).more (by simp)⟩
  have hX := CBox.new w 0 0 ⟨#[]⟩
  have hb0 := (Below.refl w.heap.size w).alloc (Nat.le_refl _) (.cells #[.int .i64 0, .int .i64 0, .string ⟨#[]⟩] 36)
  have hz0 : (w.alloc (.cells #[.int .i64 0, .int .i64 0, .string ⟨#[]⟩] 36)).heap.size = w.heap.size + 1 := by simp
  obtain ⟨B, hB⟩ : ∃ B, w.heap.size = B := ⟨_, rfl⟩
  obtain ⟨Y, hY⟩ : ∃ Y, w.alloc (.cells #[.int .i64 0, .int .i64 0, .string ⟨#[]⟩] 36) = Y := ⟨_, rfl⟩
  rw [hY] at hbytes hX hb0 hz0
  rw [hB] at hX hb0 hz0
  go_enter Try.func12, Try.ntmps12
  go_wp2_with fail
  refine (open_any A n c zs _ hbytes).mono ?_
  rintro e W1 ⟨rfl, hR, hb, hsz⟩
  rw [hz0] at hR hb hsz ⊢
  have hX1 := hX.below hb (Nat.lt_succ_self B)
  have hbw1 := hb0.trans (hb.mono (Nat.le_succ B))
  have hBne : B ≠ B + 1 := by omega
  clear hb hX hb0 hbytes
  go_wp2_with fail
  refine (marks_any (B + 1) 0 14 _ hR (by omega) (by omega) (by omega)).mono ?_
  rintro e W2 ⟨s, A2, c2, ms, p2, rfl, hs, hl, hp1, hp2, ho2, hR2, hb2⟩
  have hX2 := hX1.beside hb2 hBne
  have hbw2 := hbw1.trans (hb2.below (B := B) (by omega) (by omega))
  have hB2 : B + 1 ≤ W2.heap.size := by have := hb2.size; omega
  have hW1 : B + 1 < W1.heap.size := by omega
  clear hb2 hX1 hbw1 hR
  go_wp2_with fail
  refine (change_any (B + 1) p2 s 12 _ hR2 (by omega) hs (by omega) (by omega)).mono ?_
  rintro e W3 ⟨a, cc, put, p3, rfl, hput, hp3, hp4, hR3, hb3⟩
  have hX3 := hX2.beside hb3 hBne
  have ho3 := own_beside ho2 hb3 hW1
  have hbw3 := hbw2.trans (hb3.below (B := B) (by omega) (by omega))
  have r0 := hX3.c0
  have r1 := hX3.c1
  have r2 := hX3.c2
  have q0 := hX3.fr 0
  have q1 := hX3.fr 1
  have q2 := hX3.fr 2
  have hBl := hX3.lt
  have hb4 : Beside B W3 (((W3.setCell ⟨B, 0, none⟩ (Value.int .i64 a)).setCell ⟨B, 1, none⟩ (Value.int .i64 cc)).setCell ⟨B, 2, none⟩ (Value.string put)) :=
    (((Beside.refl B W3).set (p := ⟨B, 0, none⟩) (.inl rfl) _).set (p := ⟨B, 1, none⟩) (.inl rfl) _).set (p := ⟨B, 2, none⟩) (.inl rfl) _
  have hr4 := Row.of_ownM (own_beside ho3 hb4 (by omega))
  have hb5 : Below w.heap.size w (((W3.setCell ⟨B, 0, none⟩ (Value.int .i64 a)).setCell ⟨B, 1, none⟩ (Value.int .i64 cc)).setCell ⟨B, 2, none⟩ (Value.string put)) := by
    rw [hB]
    exact hbw3.trans (hb4.below (Nat.le_refl B) (by omega))
  have HF := Lib.hid (And.intro hr4 hb5)
  clear hr4 hb5 hb4 ho3 ho2 hX2 hX3 hb3 hbw2 hbw3 hR2 hR3
  go_wp2_with fail
  refine bodyPost_ret (v := .tuple #[.string s, .slice A2 ms.length c2, .agg #[.int .i64 a, .int .i64 cc, .string put]]) ?_ rfl ⟨s, A2, c2, ms, a, cc, put, rfl, hs, hput, hl, HF.out.1, HF.out.2⟩
  simp [results, Try.results12, go_sem, r0, r1, r2, q0, q1, q2, hBl]
end Go.Proofs.Ytlnldnenkajcdaa
