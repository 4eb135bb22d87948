/- The laws' helpers on slices of cursors: szCursorS, toCursor, toCursorS. -/
import Derived.Test.YtmdjmaijennmkaaPc
import Derived.Test.YtmdjmaijennmkaaSs
set_option linter.unusedVariables false
set_option linter.unusedSimpArgs false
namespace Go.Proofs.Ytmdjmaijennmkaa
open Go.RowKit
theorem mk_row2 {P : Program} {t e : TypeId} {i : TypeInfo} {z : Value} (ht : P.underlying t = some (.slice e)) (hi : P.info? e = some i) (hz : i.zero = some z) (hs : i.size = 2) (n : Nat) (hb : i.bytes * n ≤ 281474976710656) (hn : n ≤ 9223372036854775807) (W : World) :
    (Instr.makeSlice t (.int .i64 (n : Int)) (.int .i64 (n : Int))).run P W = .ok (.slice (some ⟨W.heap.size, 0, none⟩) n n) (W.alloc (.cells (madeCells z.cells (n * 2)) e)) := by
  have hb' : (i.bytes : Int) * (n : Int) ≤ 281474976710656 := by
    have h : ((i.bytes * n : Nat) : Int) ≤ 281474976710656 := by omega
    rwa [Int.natCast_mul] at h
  have hr := run_make (P := P) W t e i z ht hi hz .i64 .i64 n n (by omega) (by omega) hb' (by omega)
  simp only [Int.toNat_natCast, hs] at hr
  exact hr
theorem made_pairs : ∀ n, (madeCells #[Value.int .i64 0, .int .i64 0] (n * 2)).toList = pairs (List.replicate n (0, 0)) := by
  intro n
  apply List.ext_getElem?
  intro j
  by_cases hj : j < n * 2
  · have h1 : (madeCells #[Value.int .i64 0, .int .i64 0] (n * 2)).toList[j]? = some (.int .i64 0) := by
      rw [Array.getElem?_toList]
      simp only [madeCells]
      rcases Nat.mod_two_eq_zero_or_one j with hm | hm <;> simp [hj, hm]
    rw [h1]
    have hl : j / 2 < (List.replicate n ((0 : Int), (0 : Int))).length := by simp; omega
    obtain ⟨g1, g2⟩ := pairs_get (List.replicate n ((0 : Int), (0 : Int))) (j / 2) hl
    rcases Nat.mod_two_eq_zero_or_one j with hm | hm
    · rw [show j / 2 * 2 = j by omega] at g1
      rw [g1]; simp
    · rw [show j / 2 * 2 + 1 = j by omega] at g2
      rw [g2]; simp
  · rw [List.getElem?_eq_none (by simp [size_madeCells]; omega), List.getElem?_eq_none (by rw [pairs_len]; simp; omega)]
theorem szCursorS_any (A : Option Addr) (n c : Nat) (left : Int) (w : World) (hn : n ≤ maxLen) (h0 : 0 ≤ left) (h1 : left ≤ 3000000) :
    Calls Try.prog 14 #[.slice A n c, .int .i64 left] w fun e w' => e = .returned (.int .i64 (if left - n < 0 then -1 else left - n)) ∧ w = w' := by
  unfold maxLen at hn
  by_cases hln : left - n < 0
  · rw [if_pos hln]
    go_enter Try.func14, Try.ntmps14
    go_wp2_with fail
    go_ret
    exact ⟨rfl, rfl⟩
  · rw [if_neg hln]
    have hd : decide (left - (n : Int) < 0) = false := by simp; omega
    go_enter Try.func14, Try.ntmps14
    go_wp2_with fail
    go_ret
    exact ⟨rfl, rfl⟩
theorem bts (w : World) (a b : Int) : Below w.heap.size w ((((w.alloc (.cells #[.int .i64 a, .int .i64 b] 55)).alloc (.cells #[.int .i64 a, .int .i64 b] 44)).alloc (.cells #[.int .i64 a, .int .i64 b] 44))) :=
  (((Below.refl w.heap.size w).alloc (Nat.le_refl _) _).alloc (by simp) _).alloc (by simp; omega) _
theorem toCursor_any (a b : Int) (w : World) :
    Calls Try.prog 44 #[.agg #[.int .i64 a, .int .i64 b]] w fun e w' => e = .returned (.agg #[.int .i64 a, .int .i64 b]) ∧ Below w.heap.size w w' := by
  go_enter Try.func44, Try.ntmps44
  go_wp2_with fail
  exact bodyPost_ret (v := .agg #[.int .i64 a, .int .i64 b]) (by simp [results, Try.results44, go_sem]) rfl ⟨rfl, bts w a b⟩
theorem copy_rel2 {n c B g k : Nat} {ps ys : List (Int × Int)} {a b : Int} {w wr : World}
    (hs : ((wr.setCell ⟨g, k * 2, none⟩ (.int .i64 a)).setCell ⟨g, k * 2 + 1, none⟩ (.int .i64 b)).ownsRow B 44 2 (.slice (some ⟨g, 0, none⟩) n c) n (pairs (ys.set k (a, b))))
    (hb : Below B w wr) (hy : ∀ j, j < k → ys[j]? = ps[j]?) (hk : k < n) (hg : B ≤ g) (hyl : ys.length = n) (hp : ps[k]? = some (a, b)) :
    ∃ (k' : Nat) (ys' : List (Int × Int)), k' ≤ n ∧ Value.int .i64 ((k : Int) + 1) = .int .i64 k' ∧
      ((wr.setCell ⟨g, k * 2, none⟩ (.int .i64 a)).setCell ⟨g, k * 2 + 1, none⟩ (.int .i64 b)).ownsRow B 44 2 (.slice (some ⟨g, 0, none⟩) n c) n (pairs ys') ∧ (∀ j, j < k' → ys'[j]? = ps[j]?) ∧
      Below B w ((wr.setCell ⟨g, k * 2, none⟩ (.int .i64 a)).setCell ⟨g, k * 2 + 1, none⟩ (.int .i64 b)) := by
  refine ⟨k + 1, ys.set k (a, b), by omega, by go_num, hs, ?_, (hb.setCell (p := ⟨g, k * 2, none⟩) hg _).setCell (p := ⟨g, k * 2 + 1, none⟩) hg _⟩
  intro j hj
  rcases Nat.lt_or_ge j k with h | h
  · rw [List.getElem?_set_ne (by omega)]; exact hy j h
  · obtain rfl : j = k := by omega
    rw [List.getElem?_set_self (by omega), hp]
theorem toCursorS_any (A : Option Addr) (n c : Nat) (ps : List (Int × Int)) (w : World) (h : Row w w.heap.size A (pairs ps)) (hl : ps.length = n) (hn : n ≤ 3000000) :
    Calls Try.prog 16 #[.slice A n c] w (PairsPost ps w) := by
  obtain ⟨i0, hi, hz0, hz1, hz2⟩ := info_parts infoPair
  have hmk := mk_row2 (P := Try.prog) (z := .agg #[.int .i64 0, .int .i64 0]) Try.underlying25 hi hz0 hz1 n (by rw [hz2]; omega) (by omega)
  obtain ⟨B, hB⟩ : ∃ B, w.heap.size = B := ⟨_, rfl⟩
  have HB := Lib.hid hB
  have hown0 := World.ownsRow_lit (base := w.heap.size) (e := 44) (size := 2) w (madeCells #[Value.int .i64 0, .int .i64 0] (n * 2)) n (Nat.le_refl _) (by unfold maxLen; omega) (by rw [size_madeCells])
  rw [made_pairs] at hown0
  have hb0 := (Below.refl w.heap.size w).alloc (Nat.le_refl _) (.cells (madeCells #[Value.int .i64 0, .int .i64 0] (n * 2)) 44)
  rw [hB] at hown0 hb0 h
  clear hB
  go_enter Try.func16, Try.ntmps16
  go_wp2_with fail
  rw [HB.out]
  generalize w.alloc (.cells (madeCells #[Value.int .i64 0, Value.int .i64 0] (n * 2)) 44) = W1 at hown0 hb0 ⊢
  clear hmk
  have HL := Lib.hid hl
  clear hl
  go_loopw [4] (fun i wr => ∃ (k : Nat) (ys : List (Int × Int)), k ≤ n ∧ i = .int .i64 k ∧ wr.ownsRow B 44 2 (.slice (some ⟨B, 0, none⟩) n n) n (pairs ys) ∧ (∀ j, j < k → ys[j]? = ps[j]?) ∧ Below B w wr) (fun i _ => n - (intOf i).toNat)
  case atStart => exact ⟨0, _, Nat.zero_le _, rfl, hown0, fun j hj => by omega, hb0⟩
  case round =>
    obtain ⟨k, ys, hk, rfl, hown, hys, hb⟩ := hrel
    have hyl : ys.length = n := by have := hown.1; rw [pairs_len] at this; omega
    have HY := Lib.hid hys
    have HYL := Lib.hid hyl
    clear hys hown0 hb0 hyl
    by_cases hkn : k < n
    · have hkl : k < ps.length := by rw [HL.out]; exact hkn
      obtain ⟨b, o, rfl, hbb, hc, hd⟩ := (h.below hb).pair (j := k) hkl
      have hu : ps[k]? = some (ps[k]'hkl) := List.getElem?_eq_getElem hkl
      generalize ps[k]'hkl = x at hc hd hu
      obtain ⟨x1, x2⟩ := x
      simp only at hc hd
      have HU := Lib.hid hu
      have hk' : (k : Int) < (n : Int) := by omega
      have hk0 : (0 : Int) ≤ (k : Int) := by omega
      have HOW := Lib.hid hown
      have HBB := Lib.hid hb
      have hBw : B ≤ wr.heap.size := by rw [← HB.out]; exact hb.size
      clear hu hown hb h
      go_wp2_with fail
      refine (toCursor_any x1 x2 _).mono ?_
      rintro e W2 ⟨rfl, hb2⟩
      have hown := own_below HOW.out hb2
      obtain ⟨g1, g2⟩ := pairs_get ys k (by rw [HYL.out]; exact hkn)
      obtain ⟨y, hcell⟩ : ∃ y, W2.cell? ⟨B, k * 2, none⟩ = some (.int .i64 y) := ⟨_, (hown.cellAt (k * 2) (by omega)).trans g1⟩
      obtain ⟨z, hcell2⟩ : ∃ z, W2.cell? ⟨B, k * 2 + 1, none⟩ = some (.int .i64 z) := ⟨_, (hown.cellAt (k * 2 + 1) (by omega)).trans g2⟩
      have hfz := hown.frozenAt (k * 2)
      have hfz2 := hown.frozenAt (k * 2 + 1)
      have hst := two_stores hown (k := k) (by rw [HYL.out]; exact hkn) x1 x2
      have HC := Lib.hid (copy_rel2 (w := w) hst (HBB.out.trans (hb2.mono hBw)) HY.out hkn (Nat.le_refl _) HYL.out HU.out)
      clear hst hown hb2 g1 g2 hc hd
      go_wp2_with fail
      go_roundw
      case rel => exact HC.out
      case measure => (simp [intOf] <;> omega)
    · obtain rfl : k = n := by omega
      have he : ys = ps := by
        apply List.ext_getElem?
        intro j
        rcases Nat.lt_or_ge j k with hj | hj
        · exact HY.out j hj
        · rw [List.getElem?_eq_none (by rw [HYL.out]; exact hj), List.getElem?_eq_none (by rw [HL.out]; exact hj)]
      subst he
      have HO := Lib.hid hown
      have HBB := Lib.hid hb
      clear hown hb h
      go_wp2_with fail
      go_ret
      have hl := HL.out
      subst hl
      have hB := HB.out
      subst hB
      exact ⟨_, _, rfl, HO.out, HBB.out⟩
end Go.Proofs.Ytmdjmaijennmkaa
