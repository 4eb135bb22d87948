/- The lines of a text as the library's Split gives them. -/
import Derived.Test.YthcijegcnecnmaaDoorNi
import Derived.Lib.CountLaws
import Derived.Lib.SplitLaws
set_option linter.unusedVariables false
set_option linter.unusedSimpArgs false
namespace Go.Proofs.YthcijegcnecnmaaDoor
open Go.RowKit

theorem ls_next {s : ByteArray} {n : Nat} (h : n + 1 ≤ cntN s s.size) : lsN s (n + 1) = eolN s (lsN s n) + 1 ∧ eolN s (lsN s n) < s.size := by
  obtain ⟨h1, h2, h3⟩ := ls_ok (show n ≤ cntN s s.size by omega)
  obtain ⟨e1, e2, e3, e4⟩ := eol_spec s h1
  have hc := cnt_eol h1
  rw [h2] at hc
  have hlt : eolN s (lsN s n) < s.size := by
    rcases e4 with g | g
    · rw [g] at hc; omega
    · exact nl_lt g
  have hnl : isNl s (eolN s (lsN s n)) = true := by
    rcases e4 with g | g
    · omega
    · exact g
  refine ⟨ls_uniq (by omega) ?_ fun j hj => ?_, hlt⟩
  · rw [cnt_s, hc, hnl]; rfl
  · have := cnt_mono s (show j ≤ eolN s (lsN s n) by omega); omega
theorem eol_last {s : ByteArray} : eolN s (lsN s (cntN s s.size)) = s.size := by
  obtain ⟨h1, h2, h3⟩ := ls_ok (Nat.le_refl (cntN s s.size))
  obtain ⟨e1, e2, e3, e4⟩ := eol_spec s h1
  rcases e4 with g | g
  · exact g
  · have hc := cnt_eol h1
    have := cnt_mono s (show eolN s (lsN s (cntN s s.size)) + 1 ≤ s.size from nl_lt g)
    rw [cnt_s, g, hc, h2] at this
    simp at this
    omega
theorem ls_zero (s : ByteArray) : lsN s 0 = 0 := ls_uniq (Nat.zero_le _) rfl fun j hj => by omega
/-- Line n's text. -/
def lineS (s : ByteArray) (n : Nat) : ByteArray := s.extract (lsN s n) (eolN s (lsN s n))
def linesF (s : ByteArray) : Nat → Nat → List ByteArray
  | 0, n => [lineS s n]
  | k + 1, n => lineS s n :: linesF s k (n + 1)
theorem linesF_len (s : ByteArray) : ∀ k n, (linesF s k n).length = k + 1
  | 0, _ => rfl
  | k + 1, n => by simp [linesF, linesF_len s k (n + 1)]
theorem linesF_get (s : ByteArray) : ∀ k n j, j ≤ k → (linesF s k n)[j]? = some (lineS s (n + j))
  | 0, n, j, h => by obtain rfl : j = 0 := by omega
                     rfl
  | k + 1, n, 0, _ => rfl
  | k + 1, n, j + 1, h => by
    simp only [linesF, List.getElem?_cons_succ]
    rw [linesF_get s k (n + 1) j (by omega), show n + 1 + j = n + (j + 1) by omega]
/-- The lines of a text. -/
def linesL (s : ByteArray) : List ByteArray := linesF s (cntN s s.size) 0
theorem linesL_len (s : ByteArray) : (linesL s).length = cntN s s.size + 1 := linesF_len _ _ _
theorem linesL_get (s : ByteArray) {n : Nat} (h : n ≤ cntN s s.size) : (linesL s)[n]? = some (lineS s n) := by
  unfold linesL; rw [linesF_get s _ _ n h, Nat.zero_add]
theorem lineS_size {s : ByteArray} {n : Nat} (h : n ≤ cntN s s.size) : (lineS s n).size = eolN s (lsN s n) - lsN s n := by
  obtain ⟨h1, _, _⟩ := ls_ok h
  have := (eol_spec s h1).2.1
  unfold lineS
  rw [ByteArray.size_extract]
  omega
theorem ba_eq {x y : ByteArray} (h : x.data.toList = y.data.toList) : x = y := by
  obtain ⟨⟨a⟩⟩ := x
  obtain ⟨⟨b⟩⟩ := y
  simp at h
  subst h; rfl
theorem nl_index {s : ByteArray} {k : Nat} : Lib.indexB (s.extract k s.size) ⟨#[10]⟩ = ixNl s k := Lib.one _ ⟨#[10]⟩ rfl
theorem split_lines (s : ByteArray) : ∀ k n, n + k = cntN s s.size → Lib.countB (s.extract (lsN s n) s.size) ⟨#[10]⟩ = k ∧ Lib.splitB ⟨#[10]⟩ 0 k (s.extract (lsN s n) s.size) = linesF s k n
  | 0, n, h => by
    obtain rfl : n = cntN s s.size := by omega
    obtain ⟨h1, _, _⟩ := ls_ok (Nat.le_refl (cntN s s.size))
    have he := eol_last (s := s)
    refine ⟨?_, ?_⟩
    · rcases ix_eol h1 with ⟨g, _⟩ | ⟨_, _, g⟩
      · exact Lib.countB_miss _ _ (by rw [nl_index]; exact g)
      · omega
    · rw [Lib.splitB_zero]
      unfold linesF lineS
      rw [he]
  | k + 1, n, h => by
    obtain ⟨h1, _, _⟩ := ls_ok (show n ≤ cntN s s.size by omega)
    obtain ⟨hn, hlt⟩ := ls_next (s := s) (n := n) (by omega)
    obtain ⟨i1, i2⟩ := split_lines s k (n + 1) (by omega)
    have hge := (eol_spec s h1).1
    have hix : Lib.indexB (s.extract (lsN s n) s.size) ⟨#[10]⟩ = ((eolN s (lsN s n) - lsN s n : Nat) : Int) := by
      rcases ix_eol h1 with ⟨_, g⟩ | ⟨g, _, _⟩
      · omega
      · rw [nl_index]; exact g
    have hrest : (s.extract (lsN s n) s.size).extract (eolN s (lsN s n) - lsN s n + (ByteArray.mk #[10]).size) (s.extract (lsN s n) s.size).size = s.extract (lsN s (n + 1)) s.size := by
      apply ba_eq
      rw [Lib.extract_to_end, Lib.extract_to_end, Lib.extract_to_end, List.drop_drop, hn]
      congr 1
      show lsN s n + (eolN s (lsN s n) - lsN s n + 1) = _
      omega
    refine ⟨?_, ?_⟩
    · rw [Lib.countB_hit _ _ _ (by decide) hix, hrest, i1]; omega
    · rw [Lib.splitB_hit _ _ _ _ _ hix, hrest, i2]
      show _ :: _ = lineS s n :: linesF s k (n + 1)
      congr 1
      apply ba_eq
      unfold lineS
      rw [Lib.extract_data, Lib.extract_to_end, Lib.extract_data]
      simp
theorem split_all (s : ByteArray) : Lib.countB s ⟨#[10]⟩ = cntN s s.size ∧ Lib.splitB ⟨#[10]⟩ 0 (Lib.countB s ⟨#[10]⟩) s = linesL s := by
  have h := split_lines s (cntN s s.size) 0 (by omega)
  rw [ls_zero] at h
  have e : s.extract 0 s.size = s := ba_eq (by rw [Lib.extract_to_end]; rfl)
  rw [e] at h
  refine ⟨h.1, ?_⟩
  rw [h.1]
  exact h.2
end Go.Proofs.YthcijegcnecnmaaDoor
