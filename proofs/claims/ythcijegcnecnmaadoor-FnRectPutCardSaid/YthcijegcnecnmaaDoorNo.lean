/- The program's contracts on columns: ColumnOf, PlaceAt. -/
import Derived.Test.YthcijegcnecnmaaDoorNi
import Derived.Test.YthcijegcnecnmaaDoorNs
import Derived.Lib.LastIndexByte
set_option linter.unusedVariables false
set_option linter.unusedSimpArgs false
namespace Go.Proofs.YthcijegcnecnmaaDoor
open Go.RowKit

theorem bol_uniq {s : ByteArray} {n b : Nat} (h1 : b ≤ n) (h2 : b = 0 ∨ isNl s (b - 1) = true) (h3 : ∀ j, b ≤ j → j < n → isNl s j = false) : bolN s n = b := by
  obtain ⟨g1, g2, g3, g4, g5⟩ := bol_spec s n
  rcases Nat.lt_trichotomy (bolN s n) b with h | h | h
  · rcases h2 with h4 | h4
    · omega
    · rw [g5 (b - 1) (by omega) (by omega)] at h4; cases h4
  · exact h
  · rcases g4 with h4 | h4
    · omega
    · rw [h3 (bolN s n - 1) (by omega) (by omega)] at h4; cases h4
theorem last_nl {s : ByteArray} {n : Nat} (hn : n ≤ s.size) : Lib.lastIndexByte (s.extract 0 n) 10 = (bolN s n : Int) - 1 := by
  have hz : (s.extract 0 n).size = n := by rw [ByteArray.size_extract]; omega
  have hb : ∀ j, j < n → (((s.extract 0 n).data[j]!).toNat : Int) = byteI s j := fun j hj => by
    have h1 : j < (s.extract 0 n).size := by omega
    rw [byteI_at (show j < s.size by omega)]
    have h2 : (s.extract 0 n).data[j]! = (s.extract 0 n)[j] := by
      rw [getElem!_pos (s.extract 0 n).data j h1]; rfl
    rw [h2, ByteArray.getElem_extract]
    simp
  have hnl : ∀ j, isNl s j = true ↔ byteI s j = 10 := fun j => by unfold isNl; simp
  rcases Lib.lastIndexByte_spec (s.extract 0 n) 10 with ⟨h1, h2⟩ | ⟨i, h1, h2, h3, h4⟩
  · rw [hz] at h2
    rw [h1, bol_uniq (Nat.zero_le _) (.inl rfl) fun j _ hj => by
      cases hx : isNl s j
      · rfl
      · exact absurd ((hb j hj).trans ((hnl j).1 hx)) (h2 j hj)]
    rfl
  · rw [hz] at h1 h4
    rw [hb i h1] at h3
    rw [h2, bol_uniq (show i + 1 ≤ n by omega) (.inr (by rw [Nat.add_sub_cancel]; exact (hnl i).2 h3)) fun j h5 h6 => by
      cases hx : isNl s j
      · rfl
      · exact absurd ((hb j h6).trans ((hnl j).1 hx)) (h4 j (by omega) h6)]
    omega
theorem li0_any (s : ByteArray) (c : Int) (hs : s.size < 4611686018427387904) (w : World) : Calls Tryd.prog 50 #[.string s, .int .u8 c] w fun e w' => e = .returned (.int .i64 (Lib.lastIndexByte s c)) ∧ w = w' :=
  (Tryd.strings_LastIndexByte s c hs w).mono fun _ _ h => ⟨h.1, h.2.symm⟩
theorem iCO_any (s : ByteArray) (p : Int) (w : World) (hs : s.size ≤ maxLen) :
    Calls Tryd.prog 20 #[.string s, .int .i64 p] w fun e w' => e = .returned (.int .i64 (coI s p)) ∧ w = w' := by
  have hs' := hs
  unfold maxLen at hs'
  cases hp : place s p
  · have HE : Hid (coI s p = -1) := Lib.hid (by unfold coI; rw [if_neg (by simp [hp])])
    go_enter Tryd.func20, Tryd.ntmps20
    go_wp2_with fail
    refine (iPl_any _ _ _ hs).mono ?_
    rintro e w' ⟨rfl, rfl⟩
    go_wp2_with fail
    go_ret
    exact ⟨ret_int HE.out.symm, rfl⟩
  · obtain ⟨n, rfl, hn⟩ := place_nat hp
    have HE : Hid (coI s n = (n : Int) - bolN s n) := Lib.hid (by unfold coI; rw [if_pos hp]; rfl)
    have h120 := valid_size (placeS hp).1
    have hbl := (bol_spec s n).1
    have hc := fun w => li0_any (s.extract 0 n) 10 (by rw [ByteArray.size_extract]; omega) w
    rw [last_nl hn] at hc
    generalize bolN s n = b at *
    have HC := Lib.hid hc
    clear hc
    go_enter Tryd.func20, Tryd.ntmps20
    go_wp2_with fail
    refine (iPl_any _ _ _ hs).mono ?_
    rintro e w' ⟨rfl, rfl⟩
    go_wp2_with fail
    refine (HC.out _).mono ?_
    rintro e w' ⟨rfl, rfl⟩
    go_wp2_with fail
    go_ret
    exact ⟨ret_int (by rw [HE.out]; omega), rfl⟩
theorem iPA_any (s : ByteArray) (l c : Int) (w : World) (hs : s.size ≤ maxLen) :
    Calls Tryd.prog 26 #[.string s, .int .i64 l, .int .i64 c] w fun e w' => e = .returned (.int .i64 (paI s l c)) ∧ Below w.heap.size w w' := by
  have hs' := hs
  unfold maxLen at hs'
  have hc1 := fun W => iLS_any s l W hs
  have hc2 := fun W => iLE_any s l W hs
  cases hl : lineOk s l
  · have HE : Hid (paI s l c = -1) := Lib.hid (by unfold paI; rw [if_neg (by simp [hl])])
    clear hc1 hc2
    go_enter Tryd.func26, Tryd.ntmps26
    go_wp2_with fail
    refine (iIL_any _ _ _ hs).mono ?_
    rintro e w' ⟨rfl, rfl⟩
    go_wp2_with fail
    go_ret
    exact ⟨ret_int HE.out.symm, Below.refl _ _⟩
  · obtain ⟨n, rfl, hn, hv⟩ := lineOk_nat hl
    have hx : lsI s n = lsN s n := by unfold lsI; rw [if_pos hl]; rfl
    have hy : leI s n = eolN s (lsN s n) := by unfold leI; rw [if_pos hl]; rfl
    rw [hx] at hc1
    rw [hy] at hc2
    obtain ⟨g1, _, _⟩ := ls_ok hn
    obtain ⟨e1, e2, _, _⟩ := eol_spec s g1
    have h120 := valid_size hv
    have HP1 : Hid (0 ≤ c → paI s n c = lsN s n + min c ((eolN s (lsN s n) : Int) - lsN s n)) := Lib.hid (fun h => by unfold paI; rw [if_pos ⟨hl, h⟩]; rfl)
    have HP2 : Hid (c < 0 → paI s n c = -1) := Lib.hid (fun h => by unfold paI; rw [if_neg (by omega)])
    generalize lsN s n = a at *
    generalize eolN s a = z at *
    have H1 := Lib.hid hc1
    have H2 := Lib.hid hc2
    clear hc1 hc2 hx hy
    by_cases hc : c < 0
    · have e0 : decide (c < 0) = true := by simp; omega
      go_enter Tryd.func26, Tryd.ntmps26
      go_wp2_with fail
      refine (iIL_any _ _ _ hs).mono ?_
      rintro e w' ⟨rfl, rfl⟩
      go_wp2_with fail
      go_ret
      exact ⟨ret_int (HP2.out hc).symm, Below.refl _ _⟩
    · have e0 : decide (c < 0) = false := by simp; omega
      by_cases hcz : (z : Int) - a < c
      · go_enter Tryd.func26, Tryd.ntmps26
        go_wp2_with fail
        refine (iIL_any _ _ _ hs).mono ?_
        rintro e w' ⟨rfl, rfl⟩
        go_wp2_with fail
        refine (H1.out _).mono ?_
        rintro e W1 ⟨rfl, hb1⟩
        go_wp2_with fail
        refine (H2.out _).mono ?_
        rintro e W2 ⟨rfl, hb2⟩
        have hb := hb1.trans (hb2.mono hb1.size)
        go_wp2_with fail
        go_ret
        exact ⟨ret_int (by rw [HP1.out (by omega)] <;> omega), hb⟩
      · go_enter Tryd.func26, Tryd.ntmps26
        go_wp2_with fail
        refine (iIL_any _ _ _ hs).mono ?_
        rintro e w' ⟨rfl, rfl⟩
        go_wp2_with fail
        refine (H1.out _).mono ?_
        rintro e W1 ⟨rfl, hb1⟩
        go_wp2_with fail
        refine (H2.out _).mono ?_
        rintro e W2 ⟨rfl, hb2⟩
        have hb := hb1.trans (hb2.mono hb1.size)
        go_wp2_with fail
        go_ret
        exact ⟨ret_int (by rw [HP1.out (by omega)] <;> omega), hb⟩
end Go.Proofs.YthcijegcnecnmaaDoor
