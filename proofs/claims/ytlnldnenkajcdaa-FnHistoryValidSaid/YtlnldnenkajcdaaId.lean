/- What is drawn: a text that is valid. -/
import Derived.Test.YtlnldnenkajcdaaRy
import Derived.Test.YtlnldnenkajcdaaVb
set_option linter.unusedVariables false
set_option linter.unusedSimpArgs false
namespace Go.Proofs.Ytlnldnenkajcdaa
open Go.RowKit
theorem odd0_any (p : Value) (w : World) : Calls Try.prog 51 #[p, .int .i64 0] w fun e w' => e = .returned (.bool false) ∧ w = w' := by
  go_enter Try.func51, Try.ntmps51
  go_wp2
  go_ret
  exact ⟨rfl, rfl⟩
/-- The n texts at block B are short and of bytes that texts may have. -/
def PartsV (w : World) (B n : Nat) : Prop := ∀ v : Nat, v < n → ∃ t : ByteArray, t.size ≤ 8 ∧ allOk t.data.toList = true ∧ w.cell? ⟨B, v, none⟩ = some (.string t)
def goodB : Value → Bool
  | .string t => decide (t.size ≤ 8) && allOk t.data.toList
  | _ => false
theorem PartsV.new (w : World) (cs : Array Value) (T : TypeId) (h : cs.toList.all goodB = true) : PartsV (w.alloc (.cells cs T)) w.heap.size cs.size := by
  intro v hv
  have hm : cs[v] ∈ cs.toList := by simp
  have h1 := List.all_eq_true.1 h _ hm
  have hc : (w.alloc (.cells cs T)).cell? ⟨w.heap.size, v, none⟩ = some cs[v] := by
    rw [cell_of_row _ _ v cs T (0, 0) (heap_alloc_new w _)]
    exact Array.getElem?_eq_getElem hv
  revert h1 hc
  generalize cs[v] = u
  intro h1 hc
  cases u <;> simp [goodB] at h1
  exact ⟨_, h1.1, h1.2, hc⟩
theorem PartsV.beside {w w' : World} {R B n : Nat} (h : PartsV w B n) (hb : Beside R w w') (hB : B < w.heap.size) (hne : B ≠ R) : PartsV w' B n := fun v hv =>
  let ⟨t, h1, h2, h3⟩ := h v hv
  ⟨t, h1, h2, (hb.cell (p := ⟨B, v, none⟩) hB hne).trans h3⟩
/-- A valid text that is drawn. -/
def Text0Post (R p : Nat) (w : World) (e : Ending) (w' : World) : Prop :=
  ∃ (s : ByteArray) (p' : Nat), e = .returned (.string s) ∧ valid s.data.toList = true ∧ p ≤ p' ∧ p' ≤ p + 40 ∧ IsRd w' R p' ∧ Beside R w w'
def Text0Rel (R p B : Nat) (w : World) (sv kv : Value) (wr : World) : Prop :=
  ∃ (s : ByteArray) (k p1 : Nat), sv = .string s ∧ kv = .int .i64 k ∧ k ≤ 23 ∧ s.size + 8 * k ≤ 184 ∧ allOk s.data.toList = true ∧ p ≤ p1 ∧ p1 + k ≤ p + 24 ∧ IsRd wr R p1 ∧ Beside R w wr ∧ PartsV wr B 24 ∧ B < wr.heap.size
theorem allOk_take {l : List UInt8} (h : allOk l = true) {n : Nat} : allOk (l.take n) = true := by
  have := allOk_cut h 0 n
  rwa [List.drop_zero] at this
theorem cut_valid {s : ByteArray} (h : allOk s.data.toList = true) {n : Nat} (hn : n ≤ 120) : valid (s.extract 0 n).data.toList = true := by
  unfold valid
  rw [Lib.extract_data, List.drop_zero, allOk_take h]
  simp
  omega
set_option maxRecDepth 100000 in
theorem text0_any (R p : Nat) (w : World) (h : IsRd w R p) (hp : p ≤ 900000) :
    Calls Try.prog 48 #[.pointer (some ⟨R, 0, none⟩), .int .i64 0] w (Text0Post R p w) := by
  obtain ⟨B, hB⟩ : ∃ B, w.heap.size = B := ⟨_, rfl⟩
  have HB := Lib.hid hB
  clear hB
  go_enter Try.func48, Try.ntmps48
  go_wp2_with fail
  refine (pick_any R p 24 _ (h.alloc _) (by omega) (by omega)).mono ?_
  rintro e W1 ⟨v, hv1, hv2, rfl, hr1, hb1, hs1⟩
  have hP : PartsV W1 w.heap.size 24 := (PartsV.new w _ _ (by first | decide | rfl | kernel_rfl)).beside hb1 (by simp) (by have := h.lt; omega)
  have hb2 : Beside R w W1 := ((Beside.refl R w).alloc _).trans hb1
  have hlt : w.heap.size < W1.heap.size := by rw [hs1]; simp
  have hvv := hv2 (by omega)
  obtain ⟨k0, rfl⟩ := Int.eq_ofNat_of_zero_le hv1
  clear hb1 hs1 hv2 hv1
  rw [HB.out] at hP hlt ⊢
  go_wp2_with fail
  go_loopw [5, 7] (fun sv kv wr => Text0Rel R p B w sv kv wr) (fun _ kv _ => (intOf kv).toNat)
  case atStart => exact ⟨_, k0, p + 1, rfl, rfl, by omega, by show 0 + 8 * k0 ≤ 184; omega, rfl, by omega, by omega, hr1, hb2, hP, hlt⟩
  case round =>
    obtain ⟨s, k, p1, rfl, rfl, hk, hsz, hok, hp1, hp2, hR, hbs, hPr, hBl⟩ := hrel
    have HOK := Lib.hid hok
    clear hr1 hb2 hP hlt hok
    rcases k with _ | q
    · go_wp2_with fail
      all_goals
        refine (odd0_any _ _).mono ?_
        rintro e w' ⟨rfl, rfl⟩
        go_wp2_with fail
        go_ret
        exact ⟨_, p1, rfl, by first | exact cut_valid HOK.out (by omega) | (unfold valid; rw [HOK.out]; simp; omega), by omega, by omega, hR, hbs⟩
    · go_wp2_with fail
      refine (pick_any R p1 24 _ hR (by omega) (by omega)).mono ?_
      rintro e W2 ⟨v, hv1, hv2, rfl, hR2, hb2, hs2⟩
      have hvv := hv2 (by omega)
      obtain ⟨i, rfl⟩ := Int.eq_ofNat_of_zero_le hv1
      obtain ⟨t, ht, htok, hcell⟩ := (hPr.beside hb2 hBl (by have := h.lt; rw [← HB.out]; omega)) i (by omega)
      have hb3 := hbs.trans hb2
      have hP2 := hPr.beside hb2 hBl (by have := h.lt; rw [← HB.out]; omega)
      have hP3 := Lib.hid hP2
      have hB2 : B < W2.heap.size := by omega
      have HT := Lib.hid htok
      clear hP2 hb2 hR hbs hPr hs2 hBl htok
      go_wp2_with fail
      go_roundw
      case rel => exact ⟨_, q, p1 + 1, rfl, rfl, by omega, by simp; omega, by rw [ByteArray.data_append, Array.toList_append, allOk_app2, HOK.out, HT.out]; rfl, by omega, by omega, hR2, hb3, hP3.out, hB2⟩
      case measure => (simp [intOf] <;> omega)
end Go.Proofs.Ytlnldnenkajcdaa
