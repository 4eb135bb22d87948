/- The laws' helpers on moments and histories: sizes and copies. -/
import Derived.Test.YtlnldnenkajcdaaHq
set_option linter.unusedVariables false
set_option linter.unusedSimpArgs false
namespace Go.Proofs.Ytlnldnenkajcdaa
open Go.RowKit
/-- A moment's value. -/
def Mom.v (m : Mom) : Value := .agg #[.int .i64 m.p, .int .i64 m.a, .int .i64 m.b, .string m.x, .int .i64 m.c, .int .i64 m.d, .string m.y]
def Mom.small (m : Mom) (n : Int) : Prop := (m.x.size : Int) ≤ n ∧ (m.y.size : Int) ≤ n
def SzPost (m : Mom) (left : Int) (w : World) (e : Ending) (w' : World) : Prop :=
  ∃ r : Int, e = .returned (.int .i64 r) ∧ (r = -1 ∨ (0 ≤ r ∧ r ≤ left ∧ m.small left)) ∧ Below w.heap.size w w'
set_option maxRecDepth 100000 in
theorem szMoment_any (m : Mom) (left : Int) (w : World) (hx : m.x.size ≤ maxLen) (hy : m.y.size ≤ maxLen) (h0 : 0 ≤ left) (h1 : left ≤ 3000000) :
    Calls Try.prog 41 #[.agg #[.int .i64 m.p, .int .i64 m.a, .int .i64 m.b, .string m.x, .int .i64 m.c, .int .i64 m.d, .string m.y], .int .i64 left] w (SzPost m left w) := by
  obtain ⟨p, a, b, x, c, d, y⟩ := m
  simp only at hx hy ⊢
  have hb := (Below.refl w.heap.size w).alloc (Nat.le_refl _) (.cells #[.int .i64 p, .int .i64 a, .int .i64 b, .string x, .int .i64 c, .int .i64 d, .string y] 77)
  have hbl := heap_alloc_new w (.cells #[.int .i64 p, .int .i64 a, .int .i64 b, .string x, .int .i64 c, .int .i64 d, .string y] 77)
  have HB := Lib.hid (And.intro hb hbl)
  have hz : w.heap.size < (w.alloc (.cells #[.int .i64 p, .int .i64 a, .int .i64 b, .string x, .int .i64 c, .int .i64 d, .string y] 77)).heap.size := by simp
  clear hb hbl
  go_enter Try.func41, Try.ntmps41
  go_wp2_with fail
  refine (szChange_any a b x left _ hx h0 h1).mono ?_
  rintro e W1 ⟨rfl, hb1⟩
  have hb2 := HB.out.1.trans (hb1.mono (by simp))
  by_cases g1 : left - (x.size : Int) < 0
  · rw [if_pos g1]
    go_wp2_with fail
    go_ret
    exact ⟨-1, rfl, .inl rfl, hb2⟩
  · rw [if_neg g1]
    have hblk := (hb1.block w.heap.size hz).trans HB.out.2
    have c4 : W1.cell? ⟨w.heap.size, 4, none⟩ = some (.int .i64 c) := cell_of_row W1 _ 4 _ _ _ hblk
    have c5 : W1.cell? ⟨w.heap.size, 5, none⟩ = some (.int .i64 d) := cell_of_row W1 _ 5 _ _ _ hblk
    have c6 : W1.cell? ⟨w.heap.size, 6, none⟩ = some (.string y) := cell_of_row W1 _ 6 _ _ _ hblk
    obtain ⟨l, hl⟩ : ∃ l, left - (x.size : Int) = l := ⟨_, rfl⟩
    rw [hl] at g1 ⊢
    have g1' : decide (l < 0) = false := decide_eq_false g1
    have HL := Lib.hid hl
    clear hblk hb1 hl
    go_wp2_with fail
    refine (szChange_any c d y l _ hy (by omega) (by have := HL.out; omega)).mono ?_
    rintro e W2 ⟨rfl, hb3⟩
    have hb4 := hb2.trans (hb3.mono hb2.size)
    have HL2 := HL.out
    by_cases g2 : l - (y.size : Int) < 0
    · rw [if_pos g2]
      go_wp2_with fail
      go_ret
      exact ⟨-1, rfl, .inl rfl, hb4⟩
    · rw [if_neg g2]
      obtain ⟨l2, hl2⟩ : ∃ l2, l - (y.size : Int) = l2 := ⟨_, rfl⟩
      rw [hl2] at g2 ⊢
      have g2' : decide (l2 < 0) = false := decide_eq_false g2
      have HL3 := Lib.hid hl2
      have HL4 := Lib.hid HL2
      clear hl2 HL2
      go_wp2_with fail
      go_ret
      have f1 := HL3.out
      have f2 := HL4.out
      exact ⟨l2, rfl, .inr ⟨by omega, by omega, by show (x.size : Int) ≤ left; omega, by show (y.size : Int) ≤ left; omega⟩, hb4⟩
def SzsPost (ms : List Mom) (left : Int) (w : World) (e : Ending) (w' : World) : Prop :=
  ∃ r : Int, e = .returned (.int .i64 r) ∧ (r = -1 ∨ (0 ≤ r ∧ (ms.length : Int) ≤ left ∧ ∀ m ∈ ms, m.small left)) ∧ Below w.heap.size w w'
set_option maxRecDepth 100000 in
theorem szMomentS_any (A : Option Addr) (n c : Nat) (ms : List Mom) (left : Int) (w : World) (h : Row w w.heap.size A (moms ms)) (hl : ms.length = n) (hn : n ≤ maxLen) (hx : ∀ m ∈ ms, m.x.size ≤ maxLen ∧ m.y.size ≤ maxLen) (h0 : 0 ≤ left) (h1 : left ≤ 3000000) :
    Calls Try.prog 22 #[.slice A n c, .int .i64 left] w (SzsPost ms left w) := by
  unfold maxLen at hn
  by_cases g0 : left - (n : Int) < 0
  · go_enter Try.func22, Try.ntmps22
    go_wp2_with fail
    go_ret
    exact ⟨-1, rfl, .inl rfl, Below.refl _ _⟩
  · skip
    have g0' : decide (left - (n : Int) < 0) = false := decide_eq_false g0
    have HL := Lib.hid hl
    have HX := Lib.hid hx
    clear hl hx
    go_enter Try.func22, Try.ntmps22
    go_wp2_with fail
    go_loopw [1, 5] (fun lv iv wr => ∃ (k : Nat) (l : Int), k ≤ n ∧ iv = .int .i64 k ∧ lv = .int .i64 l ∧ 0 ≤ l ∧ l ≤ left - n ∧ Below w.heap.size w wr ∧ ∀ j (hj : j < ms.length), j < k → ms[j].small left) (fun _ iv _ => n - (intOf iv).toNat)
    case atStart => exact ⟨0, left - n, Nat.zero_le _, rfl, rfl, by omega, by omega, Below.refl _ _, fun j _ hj => by omega⟩
    case round =>
      obtain ⟨k, l1, hk, rfl, rfl, hl0, hl1, hb, hall⟩ := hrel
      have HA := Lib.hid hall
      clear hall
      by_cases hkn : k < n
      · have hkl : k < ms.length := by rw [HL.out]; exact hkn
        obtain ⟨b, o, rfl, hbb, hm⟩ := (h.below hb).mom (j := k) hkl
        have hxx := HX.out ms[k] (List.getElem_mem hkl)
        have HA2 := Lib.hid (fun (hs : ms[k].small left) j (hj : j < ms.length) (hjk : j < k + 1) => by
          rcases Nat.lt_or_ge j k with h1 | h1
          · exact HA.out j hj h1
          · have : j = k := by omega
            subst this; exact hs : ms[k].small left → ∀ j (hj : j < ms.length), j < k + 1 → ms[j].small left)
        generalize (ms[k]'hkl) = m at *
        obtain ⟨q0, q1, q2, q3, q4, q5, q6⟩ := hm
        have hk' : (k : Int) < (n : Int) := by omega
        have hk0 : (0 : Int) ≤ (k : Int) := by omega
        have HBB := Lib.hid hb
        clear hb h
        go_wp2_with fail
        refine (szMoment_any m l1 _ hxx.1 hxx.2 hl0 (by omega)).mono ?_
        rintro e W2 ⟨r, rfl, hr, hb2⟩
        have hb3 := HBB.out.trans (hb2.mono HBB.out.size)
        clear q0 q1 q2 q3 q4 q5 q6 hb2
        rcases hr with rfl | ⟨r0, r1, r2⟩
        · go_wp2_with fail
          go_ret
          exact ⟨-1, rfl, .inl rfl, hb3⟩
        · have r0' : decide (r < 0) = false := decide_eq_false (by omega)
          have R2 := Lib.hid r2
          clear r2
          go_wp2_with fail
          go_roundw
          case rel => exact ⟨k + 1, r, by omega, by go_num, rfl, r0, by omega, hb3, HA2.out ⟨by have := R2.out.1; omega, by have := R2.out.2; omega⟩⟩
          case measure => (simp [intOf] <;> omega)
      · obtain rfl : k = n := by omega
        go_wp2_with fail
        go_ret
        refine ⟨l1, rfl, .inr ⟨hl0, by rw [HL.out]; omega, fun m hm => ?_⟩, hb⟩
        obtain ⟨j, hj, rfl⟩ := List.getElem_of_mem hm
        exact HA.out j hj (by have := HL.out; omega)
theorem szHistory_any (A : Option Addr) (n c : Nat) (at_ : Int) (ms : List Mom) (left : Int) (w : World) (h : Row w w.heap.size A (moms ms)) (hl : ms.length = n) (hn : n ≤ maxLen) (hx : ∀ m ∈ ms, m.x.size ≤ maxLen ∧ m.y.size ≤ maxLen) (h0 : 0 ≤ left) (h1 : left ≤ 3000000) :
    Calls Try.prog 7 #[.agg #[.slice A n c, .int .i64 at_], .int .i64 left] w (SzsPost ms left w) := by
  have hb := (Below.refl w.heap.size w).alloc (Nat.le_refl _) (.cells #[.slice A n c, .int .i64 at_] 24)
  have h' := (h.below hb).more hb.size
  have HB := Lib.hid hb
  clear hb
  go_enter Try.func7, Try.ntmps7
  go_wp2_with fail
  refine (szMomentS_any A n c ms left _ h' hl hn hx h0 h1).mono ?_
  rintro e W1 ⟨r, rfl, hr, hb1⟩
  have hb2 := HB.out.trans (hb1.mono HB.out.size)
  rcases hr with rfl | ⟨r0, r1, r2⟩
  · go_wp2_with fail
    go_ret
    exact ⟨-1, rfl, .inl rfl, hb2⟩
  · have r0' : decide (r < 0) = false := decide_eq_false (by omega)
    go_wp2_with fail
    go_ret
    exact ⟨r, rfl, .inr ⟨r0, r1, r2⟩, hb2⟩
end Go.Proofs.Ytlnldnenkajcdaa
