/- The contracts of FindNext and FindLast, of the program and of the reference. -/
import Derived.Test.YtpnbfhnljjcciaaWa
import Derived.Test.YtpnbfhnljjcciaaSh
import Derived.Lib.Index
import Derived.Lib.IndexBytes
import Derived.Lib.Strings
set_option linter.unusedVariables false
set_option linter.unusedSimpArgs false
namespace Go.Proofs.Ytpnbfhnljjcciaa
open Go.RowKit

/-- The library's variable MaxLen holds some number. -/
def ML (w : World) : Prop := ∃ m, w.cell? ⟨0, 0, none⟩ = some (.int .i64 m)
theorem ml_of {w : World} (h : w.ShapedOpen Try.prog) : ML w := Try.laysM143.s1_3 w h
theorem ML.below {B : Nat} {w w' : World} (h : ML w) (hb : Below B w w') (hB : 0 < B) : ML w' := by
  obtain ⟨m, hm⟩ := h
  exact ⟨m, (hb.cell (p := ⟨0, 0, none⟩) hB).trans hm⟩
theorem ML.lt {w : World} (h : ML w) : 0 < w.heap.size := by
  obtain ⟨m, hm⟩ := h
  exact World.block_lt_of_cell? w _ hm
theorem ML.drewN {w : World} (h : ML w) (n : Nat) : ML (w.drewN n) := h

/-- Does 'what' stand at place k of s? -/
def occ (s what : ByteArray) (k : Nat) : Bool := Lib.occAt s.data.toList what.data.toList k
def fitsAt (s what : ByteArray) (k : Nat) : Bool := decide (k + what.size ≤ s.size) && occ s what k
/-- FindNext for a place that exists and a text that is not empty. -/
def fnN (s what : ByteArray) (p : Nat) : Int :=
  let i := Lib.index (s.data.toList.drop p) what.data.toList
  if i < 0 then -1 else p + i
def fnOk (s what : ByteArray) (p : Int) : Bool := place s p && !what.toList.isEmpty
def fnI (s what : ByteArray) (p : Int) : Int := if fnOk s what p = true then fnN s what p.toNat else -1

theorem occAt_drop (s sub : List UInt8) (p i : Nat) : Lib.occAt (s.drop p) sub i = Lib.occAt s sub (p + i) := by
  simp [Lib.occAt, List.drop_drop, Nat.add_comm]
theorem fnN_hit {s what : ByteArray} {p k : Nat} (hpk : p ≤ k) (hk : k ≤ s.size) (h : occ s what k = true) (hn : ∀ j, p ≤ j → j < k → occ s what j = false) : fnN s what p = k := by
  have hi : Lib.index (s.data.toList.drop p) what.data.toList = ((k - p : Nat) : Int) := by
    refine Lib.index_first (by simp; omega) ?_ ?_
    · rw [occAt_drop, show p + (k - p) = k by omega]; exact h
    · intro j hj; rw [occAt_drop]; exact hn _ (by omega) (by omega)
  unfold fnN; rw [hi]; simp only []; rw [if_neg (by omega)]; omega
theorem fnN_none {s what : ByteArray} {p : Nat} (hn : ∀ j, p ≤ j → j ≤ s.size → occ s what j = false) (hp : p ≤ s.size) : fnN s what p = -1 := by
  have hi : Lib.index (s.data.toList.drop p) what.data.toList = -1 := by
    refine Lib.index_none ?_
    intro j hj; rw [occAt_drop]; simp at hj; exact hn _ (by omega) (by omega)
  unfold fnN; rw [hi]; rfl
theorem occ_room {s what : ByteArray} {k : Nat} (h : what.data.toList ≠ []) (hk : s.size < k + what.size) : occ s what k = false := by
  cases ho : occ s what k
  · rfl
  · rcases Lib.occAt_room ho with h1 | h1
    · simp at h1; omega
    · exact absurd h1 h
theorem index_le : ∀ (s sub : List UInt8), Lib.index s sub ≤ s.length
  | [], sub => by unfold Lib.index; split <;> decide
  | b :: l, sub => by
    have := index_le l sub
    unfold Lib.index
    split
    · simp; omega
    · split
      · simp; omega
      · simp; omega
theorem what_ne {what : ByteArray} (h : what.toList.isEmpty = false) : what.data.toList ≠ [] ∧ ¬ what.toList = [] ∧ 0 < what.size := by
  have h1 : ¬ what.toList = [] := by intro e; rw [e] at h; cases h
  have h2 : what.data.toList ≠ [] := by rw [← Lib.toList_data]; exact h1
  refine ⟨h2, h1, ?_⟩
  rcases Nat.eq_zero_or_pos what.size with h | h
  · exfalso; apply h2; apply List.eq_nil_of_length_eq_zero; simpa using h
  · exact h
theorem what_eq {what : ByteArray} (h : what.toList.isEmpty = true) : what.toList = [] := by simpa using h
theorem fnOkS {s what : ByteArray} {p : Int} (h : fnOk s what p = true) : place s p = true ∧ what.toList.isEmpty = false := by
  simpa [fnOk] using h
theorem fnOkF {s what : ByteArray} {p : Int} (h : ¬ fnOk s what p = true) : place s p = false ∨ (place s p = true ∧ what.toList.isEmpty = true) := by
  unfold fnOk at h
  cases hp : place s p
  · exact .inl rfl
  · rw [hp] at h; exact .inr ⟨rfl, by simpa using h⟩
theorem extract_eq (s what : ByteArray) (k : Nat) (h : k + what.size ≤ s.size) : ((s.extract k (k + what.size)).toList == what.toList) = occ s what k := by
  unfold occ
  rw [Lib.occAt_iff_take _ _ _ (by simpa using h), Lib.toList_data, Lib.toList_data, Lib.extract_data, Nat.add_sub_cancel_left]
  simp

theorem iFN_any (s what : ByteArray) (p : Int) (w : World) (hs : s.size ≤ maxLen) (hw : what.size ≤ maxLen) (hM : ML w) :
    Calls Try.prog 14 #[.string s, .string what, .int .i64 p] w fun e w' => e = .returned (.int .i64 (fnI s what p)) ∧ w = w' := by
  have hs' := hs
  unfold maxLen at hs'
  by_cases hok : fnOk s what p = true
  · obtain ⟨hp, hne⟩ := fnOkS hok
    obtain ⟨n, rfl, hn⟩ := place_nat hp
    have hsz := valid_size (placeS hp).1
    have HE : Hid (fnI s what n = fnN s what n) := Lib.hid (by unfold fnI; rw [if_pos hok]; rfl)
    obtain ⟨_, hne2, hne3⟩ := what_ne hne
    obtain ⟨m, hm⟩ := hM
    have HI : Hid (Lib.index (s.extract n s.size).data.toList what.data.toList = Lib.index (s.data.toList.drop n) what.data.toList) := Lib.hid (by rw [Lib.extract_to_end])
    have hI := Try.strings_Index (s.extract n s.size) what m w (by simp [ByteArray.size_extract]; omega) hm
    rw [HI.out] at hI
    have hge := Lib.index_ge (s.data.toList.drop n) what.data.toList
    have hle := index_le (s.data.toList.drop n) what.data.toList
    rw [List.length_drop, Array.length_toList] at hle
    have hle' : Lib.index (s.data.toList.drop n) what.data.toList ≤ s.size := by have : (s.data.size - n : Nat) ≤ s.size := Nat.sub_le _ _; omega
    have HF : Hid (fnN s what n = if Lib.index (s.data.toList.drop n) what.data.toList < 0 then -1 else n + Lib.index (s.data.toList.drop n) what.data.toList) := Lib.hid rfl
    generalize Lib.index (s.data.toList.drop n) what.data.toList = i at *
    have H1 := Lib.hid hI
    clear hI hok hle HI
    by_cases hi : i < 0
    · have HG : Hid (fnN s what n = -1) := Lib.hid (by rw [HF.out, if_pos hi])
      go_enter Try.func14, Try.ntmps14
      go_wp2_with fail
      refine (iPl_any _ _ _ hs).mono ?_
      rintro e w' ⟨rfl, rfl⟩
      go_wp2_with fail
      refine (H1.out).mono ?_
      rintro e w' ⟨rfl, hw'⟩
      rw [hw']
      clear hw'
      go_wp2_with fail
      go_ret
      exact ⟨ret_int (by rw [HE.out, HG.out]), rfl⟩
    · have HG : Hid (fnN s what n = n + i) := Lib.hid (by rw [HF.out, if_neg hi])
      go_enter Try.func14, Try.ntmps14
      go_wp2_with fail
      refine (iPl_any _ _ _ hs).mono ?_
      rintro e w' ⟨rfl, rfl⟩
      go_wp2_with fail
      refine (H1.out).mono ?_
      rintro e w' ⟨rfl, hw'⟩
      rw [hw']
      clear hw'
      go_wp2_with fail
      go_ret
      exact ⟨ret_int (by rw [HE.out, HG.out]), rfl⟩
  · have HE : Hid (fnI s what p = -1) := Lib.hid (by unfold fnI; rw [if_neg hok])
    rcases fnOkF hok with hp | ⟨hp, hne⟩
    rotate_left
    have hne2 := what_eq hne
    rotate_left
    all_goals
      clear hok
      go_enter Try.func14, Try.ntmps14
      go_wp2_with (go_at_call 55; refine (iPl_any _ _ _ hs).mono ?_; rintro e w' ⟨rfl, rfl⟩)
      go_ret
      exact ⟨ret_int HE.out.symm, rfl⟩
theorem sFN_any (s what : ByteArray) (p : Int) (w : World) (hs : s.size ≤ maxLen) (hw : what.size ≤ 2097152) :
    Calls Try.prog 15 #[.string s, .string what, .int .i64 p] w fun e w' => e = .returned (.int .i64 (fnI s what p)) ∧ w = w' := by
  have hs' := hs
  unfold maxLen at hs'
  by_cases hok : fnOk s what p = true
  · obtain ⟨hp, hne⟩ := fnOkS hok
    obtain ⟨n, rfl, hn⟩ := place_nat hp
    obtain ⟨hv, hin⟩ := placeS hp
    have hsz := valid_size hv
    have HE : Hid (fnI s what n = fnN s what n) := Lib.hid (by unfold fnI; rw [if_pos hok]; rfl)
    obtain ⟨hne1, hne2, hne3⟩ := what_ne hne
    have HN := Lib.hid hne1
    have hne4 : (!what.toList.isEmpty) = true := by rw [hne]; rfl
    clear hok hp hne1
    go_enter Try.func15, Try.ntmps15
    go_wp2_with fail
    go_loop [7] (fun i => ∃ k : Nat, n ≤ k ∧ k ≤ s.size + 1 ∧ i = .int .i64 k ∧ ∀ j, n ≤ j → j < k → occ s what j = false) (fun i => s.size + 1 - (intOf i).toNat)
    case atStart => exact ⟨n, Nat.le_refl _, by omega, rfl, fun j h1 h2 => by omega⟩
    case round =>
      obtain ⟨k, hk1, hk2, rfl, hno⟩ := hrel
      have HO := Lib.hid hno
      clear hno
      by_cases hkm : k + what.size ≤ s.size
      · have HX := Lib.hid (extract_eq s what k hkm)
        have hkm' : (k : Int) + (what.size : Int) ≤ (s.size : Int) := by omega
        go_wp2_with (first
          | (go_at_call 57; refine (sTV_any _ _ hs).mono ?_; rintro e w' ⟨rfl, rfl⟩)
          | (go_at_call 58; refine (l1In_any _ _ _ _).mono ?_; rintro e w' ⟨rfl, rfl⟩))
        · go_ret
          have hx : ((s.extract k (k + what.size)).toList == what.toList) = true := by assumption
          exact ⟨ret_int (by rw [HE.out, fnN_hit hk1 (by omega) (by rw [← HX.out]; exact hx) HO.out]), rfl⟩
        · have hx : ((s.extract k (k + what.size)).toList == what.toList) = false := by assumption
          go_round
          case rel => exact ⟨k + 1, by omega, by omega, by go_num, fun j h1 h2 => by
            rcases Nat.lt_or_ge j k with h3 | h3
            · exact HO.out j h1 h3
            · obtain rfl : j = k := by omega
              rw [← HX.out]; exact hx⟩
          case measure => (simp [intOf] <;> omega)
      · have hkm' : (s.size : Int) < (k : Int) + (what.size : Int) := by omega
        go_wp2_with (first
          | (go_at_call 57; refine (sTV_any _ _ hs).mono ?_; rintro e w' ⟨rfl, rfl⟩)
          | (go_at_call 58; refine (l1In_any _ _ _ _).mono ?_; rintro e w' ⟨rfl, rfl⟩))
        go_ret
        exact ⟨ret_int (by rw [HE.out, fnN_none (fun j h1 h2 => by
            rcases Nat.lt_or_ge j k with h3 | h3
            · exact HO.out j h1 h3
            · exact occ_room HN.out (by omega)) hn]), rfl⟩
  · have HE : Hid (fnI s what p = -1) := Lib.hid (by unfold fnI; rw [if_neg hok])
    have hcs : valid s.data.toList = false ∨ (valid s.data.toList = true ∧ inI p 0 s.size = false) ∨ (valid s.data.toList = true ∧ inI p 0 s.size = true ∧ what.toList.isEmpty = true ∧ what.toList = []) := by
      rcases fnOkF hok with hp | ⟨hp, hne⟩
      · rcases placeF (s := s) (p := p) (by simp [hp]) with h | h
        · exact .inl h
        · exact .inr (.inl h)
      · exact .inr (.inr ⟨(placeS hp).1, (placeS hp).2, hne, what_eq hne⟩)
    clear hok
    rcases hcs with h1 | ⟨h1, h2⟩ | ⟨h1, h2, h3, h4⟩
    all_goals
      go_enter Try.func15, Try.ntmps15
      go_wp2_with fail
      go_loop [7] (fun i => i = .int .i64 p) (fun _ => 0)
      case atStart => rfl
      case round =>
        obtain rfl := hrel
        go_wp2_with (first
          | (go_at_call 57; refine (sTV_any _ _ hs).mono ?_; rintro e w' ⟨rfl, rfl⟩)
          | (go_at_call 58; refine (l1In_any _ _ _ _).mono ?_; rintro e w' ⟨rfl, rfl⟩))
        all_goals (go_ret; exact ⟨ret_int HE.out.symm, rfl⟩)
end Go.Proofs.Ytpnbfhnljjcciaa
