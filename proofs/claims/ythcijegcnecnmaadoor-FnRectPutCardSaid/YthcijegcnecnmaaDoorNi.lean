/- The program's contracts on lines: starts, isLine, LineStart, LineEnd, LineOf, ColumnOf, PlaceAt. -/
import Derived.Test.YthcijegcnecnmaaDoorNl
import Derived.Test.YthcijegcnecnmaaDoorIs
import Derived.Lib.IndexLaws
set_option linter.unusedVariables false
set_option linter.unusedSimpArgs false
namespace Go.Proofs.YthcijegcnecnmaaDoor
open Go.RowKit

theorem take_cnt (s : ByteArray) {n : Nat} (hn : n ≤ s.size) : nls (s.extract 0 n).data.toList = cntN s n := by
  rw [Lib.extract_data]
  simp only [List.drop_zero, Nat.sub_zero]
  exact nls_cnt s n hn
theorem iLO_any (s : ByteArray) (p : Int) (w : World) (hs : s.size ≤ maxLen) :
    Calls Tryd.prog 22 #[.string s, .int .i64 p] w fun e w' => e = .returned (.int .i64 (loI s p)) ∧ w = w' := by
  have hs' := hs
  unfold maxLen at hs'
  cases hp : place s p
  · have HE : Hid (loI s p = -1) := Lib.hid (by unfold loI; rw [if_neg (by simp [hp])])
    go_enter Tryd.func22, Tryd.ntmps22
    go_wp2_with fail
    refine (iPl_any _ _ _ hs).mono ?_
    rintro e w' ⟨rfl, rfl⟩
    go_wp2_with fail
    go_ret
    exact ⟨ret_int HE.out.symm, rfl⟩
  · obtain ⟨n, rfl, hn⟩ := place_nat hp
    have HE : Hid (loI s n = cntN s n) := Lib.hid (by unfold loI; rw [if_pos hp]; rfl)
    have HT := Lib.hid (nls_cnt s n hn)
    go_enter Tryd.func22, Tryd.ntmps22
    go_wp2_with fail
    refine (iPl_any _ _ _ hs).mono ?_
    rintro e w' ⟨rfl, rfl⟩
    go_wp2_with fail
    refine (count_nl _ _).mono ?_
    rintro e w' ⟨rfl, rfl⟩
    go_wp2_with fail
    go_ret
    exact ⟨ret_int (by rw [HE.out, HT.out]), rfl⟩
theorem iIL_any (s : ByteArray) (l : Int) (w : World) (hs : s.size ≤ maxLen) :
    Calls Tryd.prog 54 #[.string s, .int .i64 l] w fun e w' => e = .returned (.bool (lineOk s l)) ∧ w = w' := by
  have hs' := hs
  unfold maxLen at hs'
  cases hv : valid s.data.toList
  · have HE : Hid (lineOk s l = false) := Lib.hid (by unfold lineOk; rw [hv]; rfl)
    go_enter Tryd.func54, Tryd.ntmps54
    go_wp2_with fail
    refine (iTV_any _ _ hs).mono ?_
    rintro e w' ⟨rfl, rfl⟩
    go_wp2_with fail
    go_ret
    exact ⟨ret_bool HE.out.symm, rfl⟩
  · have HE : Hid (lineOk s l = inI l 0 (cntN s s.size)) := Lib.hid (by unfold lineOk; rw [hv]; rfl)
    have hc := iLM_any s w hs
    rw [lm_cnt hv] at hc
    have hk := cnt_le s s.size
    have h1 : (0 : Int) ≤ (cntN s s.size : Int) := by omega
    generalize cntN s s.size = k at *
    have HC := Lib.hid hc
    clear hc
    go_enter Tryd.func54, Tryd.ntmps54
    go_wp2_with fail
    refine (iTV_any _ _ hs).mono ?_
    rintro e w' ⟨rfl, rfl⟩
    go_wp2_with fail
    refine (HC.out).mono ?_
    rintro e w' ⟨rfl, rfl⟩
    go_wp2_with fail
    refine (in_any _ _ _ _).mono ?_
    rintro e w' ⟨rfl, rfl⟩
    go_wp2_with fail
    go_ret
    exact ⟨ret_bool (by rw [HE.out]; congr 1; omega), rfl⟩
set_option maxRecDepth 100000 in
theorem iSt_any (s : ByteArray) (w : World) (hs : s.size ≤ 200) :
    Calls Tryd.prog 76 #[.string s] w (IntsPost (startsL s s.size) w) := by
  obtain ⟨i0, hi, hz0, hz1, hz2⟩ := info_parts infoInt
  obtain ⟨B, hB⟩ : ∃ B, w.heap.size = B := ⟨_, rfl⟩
  have HB := Lib.hid hB
  have hst : (w.alloc (.cells #[.int .i64 0] 3)).ownsRow B 3 1 (.slice (some ⟨w.heap.size, 0, none⟩) 1 1) 1 (ints [0]) := World.ownsRow_lit w #[.int .i64 0] 1 (by omega) (by decide) rfl
  have hbs : Below B w (w.alloc (.cells #[.int .i64 0] 3)) := (Below.refl _ _).alloc (by omega) _
  have HS := Lib.hid (And.intro hst hbs)
  clear hB hst hbs
  go_enter Tryd.func76, Tryd.ntmps76
  go_wp2_with fail
  go_loopw [3, 8] (fun v i wr => ∃ k : Nat, k ≤ s.size ∧ i = .int .i64 k ∧ wr.ownsRow B 3 1 v (startsL s k).length (ints (startsL s k)) ∧ Below B w wr) (fun _ i _ => s.size - (intOf i).toNat)
  case atStart => exact ⟨0, Nat.zero_le _, rfl, by rw [← HB.out] at HS ⊢; exact HS.out.1, HS.out.2⟩
  case round =>
    obtain ⟨k, hk, rfl, hown, hb⟩ := hrel
    have hBs : B ≤ wr.heap.size := by rw [← HB.out]; exact hb.size
    have hlen : (startsL s k).length ≤ 201 := by rw [startsL_len]; have := cnt_le s k; omega
    by_cases hks : k < s.size
    · have hks' : (k : Int) < (s.size : Int) := by omega
      have hk0 : (0 : Int) ≤ (k : Int) := by omega
      have hnl := nl_at hks
      cases hx : isNl s k
      · have HL : Hid (startsL s (k + 1) = startsL s k) := Lib.hid (by simp [startsL, hx])
        rw [hx] at hnl
        have e0 := hnl.symm
        have HO := Lib.hid hown
        clear hnl hx hlen hown
        go_wp2_with fail
        go_roundw
        case rel => exact ⟨k + 1, by omega, by go_num, by rw [HL.out]; exact HO.out, hb⟩
        case measure => (simp [intOf] <;> omega)
      · have HL : Hid (startsL s (k + 1) = startsL s k ++ [(k : Int) + 1]) := Lib.hid (by simp [startsL, hx])
        rw [hx] at hnl
        have e0 := hnl.symm
        clear hnl hx
        generalize startsL s k = xs at *
        go_wp2_with (first | (at_builtin; refine wpList_append_own _ rfl _ _ 83 rfl B 3 i0 (.int .i64 0) 1 8 Tryd.underlying83 hi hz0 hz1 hz2 rfl (by decide) _ _ _ rfl (hown.alloc _) ⟨wr.heap.size, 0, none⟩ 1 1 [.int .i64 ((k : Int) + 1)] rfl rfl ?c1 ?c2 ?c3 ?c4 ?c5 ?_))
        case c1 =>
          intro j u hj
          match j, hj with
          | 0, hj => simp at hj; subst hj; simp [Addr.add]
        case c2 => intro u hu; simp at hu; subst hu; rfl
        case c3 => unfold maxLen; omega
        case c4 => omega
        case c5 => simp; omega
        intro v' w1 hown' hgrow _
        have hb1 : Below B w w1 := (hb.alloc hBs _).grown hgrow (by simp; omega) (fun j hj => (hown.alloc (.cells #[.int .i64 ((k : Int) + 1)] 3)).lt j hj |>.1)
        rw [← ints_snoc, ← show (xs ++ [(k : Int) + 1]).length = xs.length + 1 by simp] at hown'
        clear hown hgrow hb hlen
        go_wp2_with fail
        go_roundw
        case rel => exact ⟨k + 1, by omega, by go_num, by rw [HL.out]; exact hown', hb1⟩
        case measure => (simp [intOf] <;> omega)
    · obtain rfl : k = s.size := by omega
      obtain ⟨A, c, rfl⟩ := own_form hown
      clear hlen
      go_wp2_with fail
      go_ret
      have HBo := HB.out
      refine ⟨A, c, rfl, ?_, ?_⟩
      · rw [HBo]; exact hown
      · rw [HBo]; exact hb
theorem starts_row {s : ByteArray} {w : World} {B : Nat} {A : Option Addr} (h : Row w B A (ints (startsL s s.size))) {n : Nat} (hn : n ≤ cntN s s.size) :
    ∃ b o, A = some ⟨b, o, none⟩ ∧ b < B ∧ w.cell? ⟨b, o + n, none⟩ = some (.int .i64 (lsN s n)) := by
  have hl : n < (startsL s s.size).length := by rw [startsL_len]; omega
  obtain ⟨b, o, h1, h2, h3⟩ := h.ints_at hl
  have hg := startsL_get s s.size (Nat.le_refl _) n hn
  rw [List.getElem?_eq_getElem hl] at hg
  injection hg with hg
  rw [hg] at h3
  exact ⟨b, o, h1, h2, h3⟩
def ixNl (s : ByteArray) (k : Nat) : Int := Lib.indexByte (s.extract k s.size).data.toList (10 : Int).toNat.toUInt8
theorem piece_get (s : ByteArray) (k j : Nat) : ((s.extract k s.size).data.toList)[j]? = if h : k + j < s.size then some (s[k + j]'h) else none := by
  rw [Lib.extract_data, List.take_of_length_le (by simp), List.getElem?_drop]
  split
  · rename_i h
    rw [List.getElem?_eq_getElem (by simpa using h), Array.getElem_toList]
    rfl
  · rename_i h
    exact List.getElem?_eq_none (by simpa using h)
theorem ix_eol {s : ByteArray} {k : Nat} (hk : k ≤ s.size) : (ixNl s k = -1 ∧ eolN s k = s.size) ∨ (ixNl s k = ((eolN s k - k : Nat) : Int) ∧ k ≤ eolN s k ∧ eolN s k < s.size) := by
  have hge := Lib.indexByte_ge (s.extract k s.size).data.toList (10 : Int).toNat.toUInt8
  have h10 : (10 : Int).toNat.toUInt8 = 10 := by decide
  by_cases h : ixNl s k = -1
  · left
    refine ⟨h, eol_uniq hk hk (Nat.le_refl _) (fun j h1 h2 => ?_) (.inl rfl)⟩
    have := Lib.indexByte_none h (j - k)
    rw [piece_get, dif_pos (show k + (j - k) < s.size by omega), h10] at this
    cases hn : isNl s j
    · rfl
    · rw [nl_or h2, decide_eq_true_eq] at hn
      exfalso; apply this
      simp only [show k + (j - k) = j by omega, hn]
  · right
    obtain ⟨o, ho⟩ := Int.eq_ofNat_of_zero_le (show 0 ≤ ixNl s k by unfold ixNl at h ⊢; omega)
    obtain ⟨h1, h2⟩ := Lib.indexByte_some ho
    rw [piece_get, h10] at h1
    split at h1
    · rename_i hlt
      have hn : isNl s (k + o) = true := by rw [nl_or hlt, decide_eq_true_eq]; simpa using h1
      have he : eolN s k = k + o := eol_uniq hk (by omega) (by omega) (fun j h3 h4 => by
        have := h2 (j - k) (by omega)
        rw [piece_get, dif_pos (show k + (j - k) < s.size by omega), h10] at this
        cases hn : isNl s j
        · rfl
        · rw [nl_or (by omega), decide_eq_true_eq] at hn
          exfalso; apply this
          simp only [show k + (j - k) = j by omega, hn]) (.inr hn)
      rw [he, ho]
      exact ⟨by omega, by omega, hlt⟩
    · cases h1
theorem iLS_any (s : ByteArray) (l : Int) (w : World) (hs : s.size ≤ maxLen) :
    Calls Tryd.prog 55 #[.string s, .int .i64 l] w fun e w' => e = .returned (.int .i64 (lsI s l)) ∧ Below w.heap.size w w' := by
  have hs' := hs
  unfold maxLen at hs'
  cases hl : lineOk s l
  · have HE : Hid (lsI s l = -1) := Lib.hid (by unfold lsI; rw [if_neg (by simp [hl])])
    go_enter Tryd.func55, Tryd.ntmps55
    go_wp2_with fail
    refine (iIL_any _ _ _ hs).mono ?_
    rintro e w' ⟨rfl, rfl⟩
    go_wp2_with fail
    go_ret
    exact ⟨ret_int HE.out.symm, Below.refl _ _⟩
  · obtain ⟨n, rfl, hn, hv⟩ := lineOk_nat hl
    have HE : Hid (lsI s n = lsN s n) := Lib.hid (by unfold lsI; rw [if_pos hl]; rfl)
    have h120 := valid_size hv
    have hln := startsL_len s s.size
    have hn' : (n : Int) < ((startsL s s.size).length : Int) := by omega
    have hn0 : (0 : Int) ≤ (n : Int) := by omega
    have hst := iSt_any s w (by omega)
    have HST := Lib.hid hst
    have hsr := fun w B A h => starts_row (s := s) (w := w) (B := B) (A := A) h hn
    have HSR := Lib.hid hsr
    clear hln hst hsr
    generalize startsL s s.size = xs at *
    generalize lsN s n = y at *
    go_enter Tryd.func55, Tryd.ntmps55
    go_wp2_with fail
    refine (iIL_any _ _ _ hs).mono ?_
    rintro e w' ⟨rfl, rfl⟩
    go_wp2_with fail
    refine (HST.out).mono ?_
    rintro e W1 ⟨A, c, rfl, ho, hb⟩
    obtain ⟨b, o, rfl, hbl, hc⟩ := HSR.out _ _ _ (Row.of_own ho)
    clear ho
    go_wp2_with fail
    go_ret
    exact ⟨ret_int HE.out.symm, hb⟩
theorem iLE_any (s : ByteArray) (l : Int) (w : World) (hs : s.size ≤ maxLen) :
    Calls Tryd.prog 56 #[.string s, .int .i64 l] w fun e w' => e = .returned (.int .i64 (leI s l)) ∧ Below w.heap.size w w' := by
  have hs' := hs
  unfold maxLen at hs'
  cases hl : lineOk s l
  · have HE : Hid (leI s l = -1) := Lib.hid (by unfold leI; rw [if_neg (by simp [hl])])
    go_enter Tryd.func56, Tryd.ntmps56
    go_wp2_with fail
    refine (iIL_any _ _ _ hs).mono ?_
    rintro e w' ⟨rfl, rfl⟩
    go_wp2_with fail
    go_ret
    exact ⟨ret_int HE.out.symm, Below.refl _ _⟩
  · obtain ⟨n, rfl, hn, hv⟩ := lineOk_nat hl
    have HE : Hid (leI s n = eolN s (lsN s n)) := Lib.hid (by unfold leI; rw [if_pos hl]; rfl)
    have h120 := valid_size hv
    have hln := startsL_len s s.size
    have hn' : (n : Int) < ((startsL s s.size).length : Int) := by omega
    have hn0 : (0 : Int) ≤ (n : Int) := by omega
    have hst := iSt_any s w (by omega)
    have HST := Lib.hid hst
    have hsr := fun w B A h => starts_row (s := s) (w := w) (B := B) (A := A) h hn
    have HSR := Lib.hid hsr
    obtain ⟨hls, _, _⟩ := ls_ok hn
    have hix := ix_eol hls
    clear hln hst hsr
    generalize startsL s s.size = xs at *
    generalize lsN s n = y at *
    generalize eolN s y = z at *
    have hy0 : (0 : Int) ≤ (y : Int) := by omega
    have hy1 : (y : Int) ≤ (s.size : Int) := by omega
    have hib := fun w => Tryd.strings_IndexByte (s.extract y s.size) 10 w
    change ∀ w, Calls Tryd.prog 77 #[.string (s.extract y s.size), .int .u8 10] w fun e w' => e = .returned (.int .i64 (ixNl s y)) ∧ w' = w at hib
    generalize ixNl s y = r at *
    have HIB := Lib.hid hib
    clear hib
    rcases hix with ⟨rfl, hz⟩ | ⟨hr, hz1, hz2⟩
    · have HZ := Lib.hid hz
      clear hz
      go_enter Tryd.func56, Tryd.ntmps56
      go_wp2_with fail
      refine (iIL_any _ _ _ hs).mono ?_
      rintro e w' ⟨rfl, rfl⟩
      go_wp2_with fail
      refine (HST.out).mono ?_
      rintro e W1 ⟨A, c, rfl, ho, hb⟩
      obtain ⟨b, o, rfl, hbl, hc⟩ := HSR.out _ _ _ (Row.of_own ho)
      clear ho
      go_wp2_with fail
      refine (HIB.out _).mono ?_
      rintro e w' ⟨rfl, rfl⟩
      go_wp2_with fail
      go_ret
      exact ⟨ret_int (by rw [HE.out, HZ.out]), hb⟩
    · have h0 : (0 : Int) ≤ r := by omega
      have h1 : r ≤ (s.size : Int) := by omega
      have HR : Hid ((y : Int) + r = z) := Lib.hid (by omega)
      clear hr
      go_enter Tryd.func56, Tryd.ntmps56
      go_wp2_with fail
      refine (iIL_any _ _ _ hs).mono ?_
      rintro e w' ⟨rfl, rfl⟩
      go_wp2_with fail
      refine (HST.out).mono ?_
      rintro e W1 ⟨A, c, rfl, ho, hb⟩
      obtain ⟨b, o, rfl, hbl, hc⟩ := HSR.out _ _ _ (Row.of_own ho)
      clear ho
      go_wp2_with fail
      refine (HIB.out _).mono ?_
      rintro e w' ⟨rfl, rfl⟩
      go_wp2_with fail
      go_ret
      exact ⟨ret_int (by rw [HE.out, HR.out]), hb⟩
end Go.Proofs.YthcijegcnecnmaaDoor
