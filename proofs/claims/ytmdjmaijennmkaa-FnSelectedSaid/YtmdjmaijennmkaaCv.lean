/- The contract of the program's CursorsValid. -/
import Derived.Test.YtmdjmaijennmkaaCe
set_option linter.unusedVariables false
set_option linter.unusedSimpArgs false
namespace Go.Proofs.Ytmdjmaijennmkaa
open Go.RowKit Go.Sort
theorem allIn_drop (n : Nat) {l : List (Int × Int)} {k : Nat} (h : k < l.length) : allIn n (l.drop k) = (inC n l[k] && allIn n (l.drop (k + 1))) := by
  rw [List.drop_eq_getElem_cons h]; rfl
theorem allIn_end (n : Nat) {l : List (Int × Int)} {k : Nat} (h : l.length ≤ k) : allIn n (l.drop k) = true := by
  rw [List.drop_of_length_le h]; rfl
theorem apC_drop {l : List (Int × Int)} {k : Nat} (h : k + 1 < l.length) : apC (l.drop k) = (decide (hiC l[k] < loC l[k + 1]) && apC (l.drop (k + 1))) := by
  rw [List.drop_eq_getElem_cons (show k < l.length by omega), List.drop_eq_getElem_cons h]; rfl
theorem apC_short {l : List (Int × Int)} {k : Nat} (h : l.length ≤ k + 1) : apC (l.drop k) = true := by
  rcases Nat.lt_or_ge k l.length with h1 | h1
  · rw [List.drop_eq_getElem_cons h1, List.drop_of_length_le (by omega)]; rfl
  · rw [List.drop_of_length_le h1]; rfl
theorem place_in (s : ByteArray) (c : Int × Int) : (place s c.1 && place s c.2) = (valid s.data.toList && inC s.size c) := by
  unfold place inC
  cases valid s.data.toList
  · simp
  · rw [Bool.eq_iff_iff]
    simp only [inI, Bool.true_and, Bool.and_eq_true, decide_eq_true_eq]
    have h1 : loC c ≤ c.1 ∧ loC c ≤ c.2 ∧ (loC c = c.1 ∨ loC c = c.2) ∧ c.1 ≤ hiC c ∧ c.2 ≤ hiC c ∧ (hiC c = c.1 ∨ hiC c = c.2) := by unfold loC hiC; omega
    constructor <;> omega
theorem pl_stop {v i a b r p q x z : Bool} (h1 : (v && b) = (v && a)) (h2 : b = (i && r)) (h3 : (p && q) = (v && i)) (h4 : (p && q) = false) (hz : z = (v && a && x)) : z = false := by
  subst h2
  cases v <;> cases i <;> simp_all
theorem pl_go {v i a b r p q : Bool} (h1 : (v && b) = (v && a)) (h2 : b = (i && r)) (h3 : (p && q) = (v && i)) (h4 : p = true) (h5 : q = true) : (v && r) = (v && a) := by
  subst h2
  cases v <;> cases i <;> simp_all
theorem pl_end {v a b x z : Bool} (h1 : (v && b) = (v && a)) (h2 : b = true) (hz : z = (v && a && x)) : z = (v && x) := by
  subst h2
  cases v <;> simp_all
theorem placed_any (s : ByteArray) (A : Option Addr) (n c : Nat) (ps : List (Int × Int)) (w : World) (hs : s.size ≤ maxLen) (h : Row w w.heap.size A (pairs ps)) (hn : ps.length = n) (hmax : n ≤ 3000000) :
    Calls Try.prog 46 #[.string s, .slice A n c] w fun e w' => e = .returned (.bool (plV s ps)) ∧ Below w.heap.size w w' := by
  have hpl : plV s ps = (valid s.data.toList && allIn s.size ps && decide (n ≤ 8)) := by rw [← hn]; rfl
  have HP := Lib.hid hpl
  have HN := Lib.hid hn
  clear hpl hn
  go_enter Try.func46, Try.ntmps46
  go_wp2_with fail
  go_loopw [9] (fun i wr => ∃ k : Nat, k ≤ n ∧ i = .int .i64 k ∧ Below w.heap.size w wr ∧ Hid ((valid s.data.toList && allIn s.size (ps.drop k)) = (valid s.data.toList && allIn s.size ps))) (fun i _ => n - (intOf i).toNat)
  case atStart => exact ⟨0, Nat.zero_le _, rfl, Below.refl _ _, Lib.hid rfl⟩
  case round =>
    obtain ⟨k, hk, rfl, hbw, HA⟩ := hrel
    by_cases hkn : k < n
    · have hkl : k < ps.length := by rw [HN.out]; exact hkn
      obtain ⟨b, o, rfl, hb, hc1, hd1⟩ := (h.below hbw).pair (j := k) hkl
      have HD := Lib.hid (allIn_drop s.size hkl)
      have HI := Lib.hid (place_in s (ps[k]'hkl))
      generalize (ps[k]'hkl) = y at hc1 hd1 HD HI
      obtain ⟨y1, y2⟩ := y
      simp only at hc1 hd1
      have hk' : (k : Int) < (n : Int) := by omega
      have hk0 : (0 : Int) ≤ (k : Int) := by omega
      have HBW := Lib.hid (hbw.alloc hbw.size (.cells #[.int .i64 y1, .int .i64 y2] 44))
      have hbz : b < wr.heap.size := by have := hbw.size; omega
      clear hbw h hb
      cases h1 : place s y1
      · go_wp2_with fail
        refine (iPl_any s y1 _ hs).mono ?_
        rintro e w' ⟨rfl, rfl⟩
        go_wp2_with fail
        go_ret
        exact ⟨ret_bool (pl_stop HA.out HD.out HI.out (by simp [h1]) HP.out).symm, HBW.out⟩
      cases h2 : place s y2
      · go_wp2_with fail
        refine (iPl_any s y1 _ hs).mono ?_
        rintro e w' ⟨rfl, rfl⟩
        go_wp2_with fail
        refine (iPl_any s y2 _ hs).mono ?_
        rintro e w' ⟨rfl, rfl⟩
        go_wp2_with fail
        go_ret
        exact ⟨ret_bool (pl_stop HA.out HD.out HI.out (by simp [h2]) HP.out).symm, HBW.out⟩
      go_wp2_with fail
      refine (iPl_any s y1 _ hs).mono ?_
      rintro e w' ⟨rfl, rfl⟩
      go_wp2_with fail
      refine (iPl_any s y2 _ hs).mono ?_
      rintro e w' ⟨rfl, rfl⟩
      go_wp2_with fail
      go_roundw
      case rel => exact ⟨k + 1, by omega, by go_num, HBW.out, Lib.hid (pl_go HA.out HD.out HI.out h1 h2)⟩
      case measure => (simp [intOf] <;> omega)
    · obtain rfl : k = n := by omega
      have HE := Lib.hid (pl_end HA.out (allIn_end s.size (Nat.le_of_eq HN.out)) HP.out)
      cases hv : valid s.data.toList
      · go_wp2_with fail
        refine (iTV_any _ _ hs).mono ?_
        rintro e w' ⟨rfl, rfl⟩
        go_wp2_with fail
        go_ret
        exact ⟨ret_bool (by rw [HE.out, hv]; rfl), hbw⟩
      · go_wp2_with fail
        refine (iTV_any _ _ hs).mono ?_
        rintro e w' ⟨rfl, rfl⟩
        go_wp2_with fail
        go_ret
        exact ⟨ret_bool (by rw [HE.out, hv]; simp; omega), hbw⟩
theorem iCV_any (s : ByteArray) (A : Option Addr) (n c : Nat) (ps : List (Int × Int)) (w : World) (hs : s.size ≤ maxLen) (h : Row w w.heap.size A (pairs ps)) (hn : ps.length = n) (hmax : n ≤ 3000000) :
    Calls Try.prog 17 #[.string s, .slice A n c] w fun e w' => e = .returned (.bool (cuV s ps)) ∧ Below w.heap.size w w' := by
  have hcv : cuV s ps = (apC ps && plV s ps) := rfl
  have HC := Lib.hid hcv
  have HN := Lib.hid hn
  have HROW := Lib.hid h
  clear hcv hn
  go_enter Try.func17, Try.ntmps17
  go_wp2_with fail
  go_loopw [13] (fun i wr => ∃ k : Nat, k ≤ n ∧ i = .int .i64 k ∧ Below w.heap.size w wr ∧ Hid (apC (ps.drop (k - 1)) = apC ps)) (fun i _ => n - (intOf i).toNat)
  case atStart => exact ⟨0, Nat.zero_le _, rfl, Below.refl _ _, Lib.hid rfl⟩
  case round =>
    obtain ⟨k, hk, rfl, hbw, HA⟩ := hrel
    by_cases hkn : k < n
    · have hkl : k < ps.length := by rw [HN.out]; exact hkn
      obtain ⟨b, o, rfl, hb, hc1, hd1⟩ := (h.below hbw).pair (j := k) hkl
      have hk' : (k : Int) < (n : Int) := by omega
      have hk0 : (0 : Int) ≤ (k : Int) := by omega
      have hbz : b < wr.heap.size := by have := hbw.size; omega
      rcases Nat.eq_zero_or_pos k with rfl | hkp
      · generalize (ps[0]'hkl) = y at hc1 hd1
        obtain ⟨y1, y2⟩ := y
        simp only [Nat.zero_mul, Nat.add_zero] at hc1 hd1
        have HBW := Lib.hid (hbw.alloc hbw.size (.cells #[.int .i64 y1, .int .i64 y2] 44))
        clear hbw h hb
        go_wp2_with fail
        go_roundw
        case rel => exact ⟨1, by omega, by go_num, HBW.out, HA⟩
        case measure => (simp [intOf] <;> omega)
      · obtain ⟨j, rfl⟩ : ∃ j, k = j + 1 := ⟨k - 1, by omega⟩
        obtain ⟨b', o', hA, _, hc2, hd2⟩ := (h.below hbw).pair (j := j) (by omega)
        injection hA with hA
        injection hA with hA1 hA2
        subst hA1 hA2
        have HD := Lib.hid (apC_drop hkl)
        generalize (ps[j + 1]'hkl) = y at hc1 hd1 HD
        generalize (ps[j]'(by omega)) = x at hc2 hd2 HD
        obtain ⟨y1, y2⟩ := y
        obtain ⟨x1, x2⟩ := x
        simp only at hc1 hd1 hc2 hd2
        have hbe : (((j + 1 : Nat) : Int) == 0) = false := by simp; omega
        have HBW := Lib.hid hbw
        clear hbw h hb
        rw [Nat.add_sub_cancel] at HA
        have hj0 : (0 : Int) ≤ (j : Int) := by omega
        have hjn : (j : Int) < (n : Int) := by omega
        generalize ex : hiC (x1, x2) = hx at HD
        generalize ey : loC (y1, y2) = ly at HD
        go_wp2_with fail
        refine (ends_below y1 y2 _).mono ?_
        rintro e W2 ⟨rfl, hb2⟩
        rw [ey]
        have hb3 : Below wr.heap.size wr W2 := ((Below.refl wr.heap.size wr).alloc (Nat.le_refl _) _).trans (hb2.mono (by simp))
        have hc3 := (hb3.cell (p := ⟨b, o + j * 2, none⟩) hbz).trans hc2
        have hd3 := (hb3.cell (p := ⟨b, o + j * 2 + 1, none⟩) hbz).trans hd2
        have HB3 := Lib.hid hb3
        clear hb2 hb3 hc1 hd1 hc2 hd2
        go_wp2_with fail
        refine (ends_below x1 x2 _).mono ?_
        rintro e W3 ⟨rfl, hb4⟩
        rw [ex]
        have HB4 := Lib.hid (HBW.out.trans ((HB3.out.trans (hb4.mono HB3.out.size)).mono HBW.out.size))
        clear hb4 HB3
        by_cases hlt : hx < ly
        · have hle : ¬ ly ≤ hx := by omega
          go_wp2_with fail
          go_roundw
          case rel => exact ⟨j + 1 + 1, by omega, by go_num, HB4.out, by rw [Nat.add_sub_cancel]; exact Lib.hid (by rw [← HA.out, HD.out, decide_eq_true hlt]; rfl)⟩
          case measure => (simp [intOf] <;> omega)
        · have hle : ly ≤ hx := by omega
          go_wp2_with fail
          go_ret
          exact ⟨ret_bool (by rw [HC.out, ← HA.out, HD.out, decide_eq_false (show ¬ hx < ly by omega)]; rfl), HB4.out⟩
    · obtain rfl : k = n := by omega
      have hap : cuV s ps = plV s ps := by rw [HC.out, ← HA.out, apC_short (by rw [HN.out]; omega)]; rfl
      have HE := Lib.hid hap
      have hr := (HROW.out.below hbw).more hbw.size
      clear hap
      go_wp2_with fail
      refine (placed_any s A _ c ps _ hs hr HN.out hmax).mono ?_
      rintro e W2 ⟨rfl, hb2⟩
      go_wp2_with fail
      go_ret
      exact ⟨ret_bool HE.out.symm, hbw.trans (hb2.mono hbw.size)⟩
end Go.Proofs.Ytmdjmaijennmkaa
