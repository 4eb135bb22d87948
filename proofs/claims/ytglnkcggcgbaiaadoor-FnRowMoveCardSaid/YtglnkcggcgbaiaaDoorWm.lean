/- Each row by itself; RowMove in plain words; its contracts. -/
import Derived.Test.YtglnkcggcgbaiaaDoorWo
set_option linter.unusedVariables false
set_option linter.unusedSimpArgs false
namespace Go.Proofs.YtglnkcggcgbaiaaDoor
open Go.RowKit
theorem chain_pos {s : ByteArray} {W : Nat} : ∀ (xs : List (Int × Int)) (a : Nat), Chain s W a xs → 0 < xs.length → a ≤ s.size ∧ (xs.getD 0 (0, 0)).1 = (a : Int)
  | [], a, _, h => by simp at h
  | (f, t) :: r, a, hc, _ => by
    obtain ⟨b, rfl, rfl, h1, h2, _⟩ := hc
    exact ⟨by omega, rfl⟩
/-- The k-th row of a chain: where it begins and ends, and where the next one begins. -/
theorem chain_at {s : ByteArray} {W : Nat} : ∀ (xs : List (Int × Int)) (a : Nat), Chain s W a xs → ∀ k (h : k < xs.length), ∃ x y : Nat, xs[k] = ((x : Int), (y : Int)) ∧ a ≤ x ∧ x ≤ y ∧ y ≤ s.size ∧ y - x ≤ W ∧ (y < s.size → isNl s y = false → x < y) ∧
      (k + 1 < xs.length → y < s.size ∧ (xs.getD (k + 1) (0, 0)).1 = (((if isNl s y = true then y + 1 else y) : Nat) : Int) ∧ (isNl s y = false → y - x = W ∨ byteI s (y - 1) = 32)) ∧ (k + 1 = xs.length → y = s.size)
  | [], a, _, k, h => by simp at h
  | (f, t) :: r, a, hc, k, h => by
    obtain ⟨b, rfl, rfl, h1, h2, h3, h4⟩ := hc
    cases k with
    | zero =>
      refine ⟨a, b, rfl, Nat.le_refl _, h1, h2, h3, fun g1 g2 => ?_, fun g => ?_, fun g => ?_⟩
      · rcases h4 with ⟨g3, _⟩ | ⟨_, _, g3, _⟩
        · rcases g3 with g3 | g3
          · rw [g2] at g3; cases g3
          · omega
        · exact g3
      · have hr : 0 < r.length := by simpa using g
        rcases h4 with ⟨g3, g4⟩ | ⟨g3, g5, g6, g7, g8⟩
        · obtain ⟨p1, p2⟩ := chain_pos r _ g4 hr
          have hnl : isNl s b = true := by
            rcases g3 with g3 | g3
            · exact g3
            · omega
          refine ⟨by omega, ?_, fun h => by rw [hnl] at h; cases h⟩
          rw [if_pos hnl]
          simpa [List.getD] using p2
        · obtain ⟨p1, p2⟩ := chain_pos r _ g8 hr
          refine ⟨g5, ?_, fun _ => g7⟩
          rw [if_neg (by simp [g3])]
          simpa [List.getD] using p2
      · have hr : r = [] := List.eq_nil_of_length_eq_zero (by simp only [List.length_cons] at g; omega)
        subst hr
        rcases h4 with ⟨g3, g4⟩ | ⟨g3, g5, g6, g7, g8⟩
        · have g4' : b + 1 = s.size + 1 := g4
          omega
        · have g8' : b = s.size + 1 := g8
          omega
    | succ k =>
      have hk : k < r.length := by simpa using h
      have hb : ∃ a', a ≤ a' ∧ Chain s W a' r := by
        rcases h4 with ⟨g3, g4⟩ | ⟨g3, g5, g6, g7, g8⟩
        · exact ⟨b + 1, by omega, g4⟩
        · exact ⟨b, by omega, g8⟩
      obtain ⟨a', ha, hc'⟩ := hb
      obtain ⟨x, y, i1, i2, i3, i4, i5, i6, i7, i8⟩ := chain_at r a' hc' k hk
      refine ⟨x, y, by simpa using i1, by omega, i3, i4, i5, i6, fun g => ?_, fun g => i8 (by simpa using g)⟩
      have := i7 (by simpa using g)
      simpa [List.getD] using this
def rowX (xs : List (Int × Int)) (k : Nat) : Nat := (xs.getD k (0, 0)).1.toNat
def rowY (xs : List (Int × Int)) (k : Nat) : Nat := (xs.getD k (0, 0)).2.toNat
theorem rows_at {s : ByteArray} {n : Nat} (h : wOk s n = true) {k : Nat} (hk : k < (rowsL s n).length) : (rowsL s n)[k] = ((rowX (rowsL s n) k : Int), (rowY (rowsL s n) k : Int)) ∧ rowX (rowsL s n) k ≤ rowY (rowsL s n) k ∧ rowY (rowsL s n) k ≤ s.size ∧ rowY (rowsL s n) k - rowX (rowsL s n) k ≤ n ∧
    (rowY (rowsL s n) k < s.size → isNl s (rowY (rowsL s n) k) = false → rowX (rowsL s n) k < rowY (rowsL s n) k) ∧
    (k + 1 < (rowsL s n).length → rowY (rowsL s n) k < s.size ∧ rowX (rowsL s n) (k + 1) = (if isNl s (rowY (rowsL s n) k) = true then rowY (rowsL s n) k + 1 else rowY (rowsL s n) k) ∧ (isNl s (rowY (rowsL s n) k) = false → rowY (rowsL s n) k - rowX (rowsL s n) k = n ∨ byteI s (rowY (rowsL s n) k - 1) = 32)) ∧
    (k + 1 = (rowsL s n).length → rowY (rowsL s n) k = s.size) := by
  obtain ⟨x, y, i1, i2, i3, i4, i5, i6, i7, i8⟩ := chain_at _ _ (chain_all h) k hk
  have e : (rowsL s n).getD k (0, 0) = ((x : Int), (y : Int)) := by rw [List.getD_eq_getElem?_getD, List.getElem?_eq_getElem hk]; exact i1
  have ex : rowX (rowsL s n) k = x := by unfold rowX; rw [e]; rfl
  have ey : rowY (rowsL s n) k = y := by unfold rowY; rw [e]; rfl
  rw [ex, ey]
  refine ⟨i1, i3, i4, i5, i6, fun g => ?_, i8⟩
  obtain ⟨j1, j2, j3⟩ := i7 g
  refine ⟨j1, ?_, j3⟩
  unfold rowX; rw [j2]; rfl
/-- The last place that a row shows. -/
def lastP (s : ByteArray) (t : Nat) : Nat := if t < s.size ∧ isNl s t = false then t - 1 else t
/-- The row that is gone to. -/
def rmK (s : ByteArray) (W p by_ : Int) : Nat := (max 0 (min (((rowsL s W).length : Int) - 1) (roI s W p + by_))).toNat
def rmI (s : ByteArray) (W p by_ : Int) : Int :=
  if 0 ≤ roI s W p ∧ inI by_ (-120) 120 = true then min (lastP s (rowY (rowsL s W) (rmK s W p by_)) : Int) ((rowX (rowsL s W) (rmK s W p by_) : Int) + p - rowX (rowsL s W) (roI s W p).toNat) else -1
theorem ro_ok {s : ByteArray} {W p : Int} (hp : place s p = true) (hw : wOk s W = true) : ∃ n : Nat, roI s W p = n ∧ n < (rowsL s W).length ∧ rowG (rowsL s W) p n = true ∧ ∀ j, n < j → j < (rowsL s W).length → rowG (rowsL s W) p j = false := by
  have e : roI s W p = topF (rowG (rowsL s W) p) (rowsL s W).length := by unfold roI; rw [if_pos hp]
  obtain ⟨h0, h00⟩ := rows_head hw
  obtain ⟨m, rfl, hm⟩ := place_nat hp
  have hg0 : rowG (rowsL s W) m 0 = true := by rw [rowG_at h0, h00]; simp
  rw [e]
  rcases topF_range (rowG (rowsL s W) m) (rowsL s W).length with h | ⟨k, h1, h2, h3, h4⟩
  · exfalso
    have : ∀ n, 0 < n → topF (rowG (rowsL s W) m) n ≠ -1 := by
      intro n
      induction n with
      | zero => intro h; omega
      | succ n ih =>
        intro _
        cases hf : rowG (rowsL s W) m n
        · rw [topF_miss hf]
          rcases Nat.eq_zero_or_pos n with h5 | h5
          · subst h5; rw [hg0] at hf; cases hf
          · exact ih h5
        · rw [topF_hit hf]; omega
    exact this _ h0 h
  · exact ⟨k, h1, h2, h3, h4⟩
end Go.Proofs.YtglnkcggcgbaiaaDoor
