/- The program's contracts on lines: starts, isLine, LineStart, LineEnd, LineOf, ColumnOf, PlaceAt. -/
import Derived.Test.YtglnkcggcgbaiaaDoorNl
import Derived.Test.YtglnkcggcgbaiaaDoorIs
import Derived.Lib.IndexLaws
set_option linter.unusedVariables false
set_option linter.unusedSimpArgs false
namespace Go.Proofs.YtglnkcggcgbaiaaDoor
open Go.RowKit

theorem take_cnt (s : ByteArray) {n : Nat} (hn : n ≤ s.size) : nls (s.extract 0 n).data.toList = cntN s n := by
  rw [Lib.extract_data]
  simp only [List.drop_zero, Nat.sub_zero]
  exact nls_cnt s n hn
theorem iLO_any (s : ByteArray) (p : Int) (w : World) (hs : s.size ≤ maxLen) :
    Calls Tryd.prog 35 #[.string s, .int .i64 p] w fun e w' => e = .returned (.int .i64 (loI s p)) ∧ w = w' := by
  have hs' := hs
  unfold maxLen at hs'
  cases hp : place s p
  · have HE : Hid (loI s p = -1) := Lib.hid (by unfold loI; rw [if_neg (by simp [hp])])
    go_enter Tryd.func35, Tryd.ntmps35
    go_wp2_with fail
    refine (iPl_any _ _ _ hs).mono ?_
    rintro e w' ⟨rfl, rfl⟩
    go_wp2_with fail
    go_ret
    exact ⟨ret_int HE.out.symm, rfl⟩
  · obtain ⟨n, rfl, hn⟩ := place_nat hp
    have HE : Hid (loI s n = cntN s n) := Lib.hid (by unfold loI; rw [if_pos hp]; rfl)
    have HT := Lib.hid (nls_cnt s n hn)
    go_enter Tryd.func35, Tryd.ntmps35
    go_wp2_with fail
    refine (iPl_any _ _ _ hs).mono ?_
    rintro e w' ⟨rfl, rfl⟩
    go_wp2_with fail
    refine (count_nl _ _).mono ?_
    rintro e w' ⟨rfl, rfl⟩
    go_wp2_with fail
    go_ret
    exact ⟨ret_int (by rw [HE.out, HT.out]), rfl⟩
theorem starts_row {s : ByteArray} {w : World} {B : Nat} {A : Option Addr} (h : Row w B A (ints (startsL s s.size))) {n : Nat} (hn : n ≤ cntN s s.size) :
    ∃ b o, A = some ⟨b, o, none⟩ ∧ b < B ∧ w.cell? ⟨b, o + n, none⟩ = some (.int .i64 (lsN s n)) := by
  have hl : n < (startsL s s.size).length := by rw [startsL_len]; omega
  obtain ⟨b, o, h1, h2, h3⟩ := h.ints_at hl
  have hg := startsL_get s s.size (Nat.le_refl _) n hn
  rw [List.getElem?_eq_getElem hl] at hg
  injection hg with hg
  rw [hg] at h3
  exact ⟨b, o, h1, h2, h3⟩
def ixNl (s : ByteArray) (k : Nat) : Int := Lib.indexByte (s.extract k s.size).data.toList (10 : Int).toNat.toUInt8
theorem piece_get (s : ByteArray) (k j : Nat) : ((s.extract k s.size).data.toList)[j]? = if h : k + j < s.size then some (s[k + j]'h) else none := by
  rw [Lib.extract_data, List.take_of_length_le (by simp), List.getElem?_drop]
  split
  · rename_i h
    rw [List.getElem?_eq_getElem (by simpa using h), Array.getElem_toList]
    rfl
  · rename_i h
    exact List.getElem?_eq_none (by simpa using h)
theorem ix_eol {s : ByteArray} {k : Nat} (hk : k ≤ s.size) : (ixNl s k = -1 ∧ eolN s k = s.size) ∨ (ixNl s k = ((eolN s k - k : Nat) : Int) ∧ k ≤ eolN s k ∧ eolN s k < s.size) := by
  have hge := Lib.indexByte_ge (s.extract k s.size).data.toList (10 : Int).toNat.toUInt8
  have h10 : (10 : Int).toNat.toUInt8 = 10 := by decide
  by_cases h : ixNl s k = -1
  · left
    refine ⟨h, eol_uniq hk hk (Nat.le_refl _) (fun j h1 h2 => ?_) (.inl rfl)⟩
    have := Lib.indexByte_none h (j - k)
    rw [piece_get, dif_pos (show k + (j - k) < s.size by omega), h10] at this
    cases hn : isNl s j
    · rfl
    · rw [nl_or h2, decide_eq_true_eq] at hn
      exfalso; apply this
      simp only [show k + (j - k) = j by omega, hn]
  · right
    obtain ⟨o, ho⟩ := Int.eq_ofNat_of_zero_le (show 0 ≤ ixNl s k by unfold ixNl at h ⊢; omega)
    obtain ⟨h1, h2⟩ := Lib.indexByte_some ho
    rw [piece_get, h10] at h1
    split at h1
    · rename_i hlt
      have hn : isNl s (k + o) = true := by rw [nl_or hlt, decide_eq_true_eq]; simpa using h1
      have he : eolN s k = k + o := eol_uniq hk (by omega) (by omega) (fun j h3 h4 => by
        have := h2 (j - k) (by omega)
        rw [piece_get, dif_pos (show k + (j - k) < s.size by omega), h10] at this
        cases hn : isNl s j
        · rfl
        · rw [nl_or (by omega), decide_eq_true_eq] at hn
          exfalso; apply this
          simp only [show k + (j - k) = j by omega, hn]) (.inr hn)
      rw [he, ho]
      exact ⟨by omega, by omega, hlt⟩
    · cases h1
end Go.Proofs.YtglnkcggcgbaiaaDoor
