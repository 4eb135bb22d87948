/- The contract of the program's HistoryValid. -/
import Derived.Test.YtlnldnenkajcdaaHu
import Derived.Test.YtlnldnenkajcdaaVv
import Derived.Test.YtlnldnenkajcdaaSs
import Derived.Deep.DeepCutAuto
set_option linter.unusedVariables false
set_option linter.unusedSimpArgs false
namespace Go.Proofs.Ytlnldnenkajcdaa
open Go.RowKit
def TxPost (ms : List Mom) (n : Int) (s : ByteArray) (w : World) (e : Ending) (w' : World) : Prop :=
  ∃ (v : Value) (b : Bool), e = .returned (.tuple #[v, .bool b]) ∧ (b = true ↔ HvP ms n s) ∧ Below w.heap.size w w'
theorem not_iff {P : Prop} (h : ¬ P) : (false = true ↔ P) := ⟨fun e => absurd e (by decide), fun e => absurd e h⟩
theorem moms_tail (ms : List Mom) : moms (ms.drop 1) = (moms ms).drop 7 := by
  cases ms with
  | nil => rfl
  | cons m ms => rw [moms_cons]; rfl
theorem Row.tail {w : World} {B b o : Nat} {ms : List Mom} (h : Row w B (some ⟨b, o, none⟩) (moms ms)) : Row w B (some ⟨b, o + 7, none⟩) (moms (ms.drop 1)) := by
  intro j u hj
  rw [moms_tail, List.getElem?_drop] at hj
  obtain ⟨b', o', e, hb, hc⟩ := h _ u hj
  injection e with e
  injection e with e1 e2
  subst e1 e2
  exact ⟨b, o + 7, rfl, hb, by rw [Nat.add_assoc]; exact hc⟩
theorem Row.tail1 {w : World} {B : Nat} {A : Option Addr} {ms : List Mom} (h : ms.length ≤ 1) : Row w B A (moms (ms.drop 1)) := by
  rw [List.drop_of_length_le h]; exact Row.empty
theorem drop_get {ms : List Mom} {k : Nat} (h : k < (ms.drop 1).length) : ms[k + 1]? = some (ms.drop 1)[k] := by
  rw [← List.getElem?_eq_getElem h, List.getElem?_drop, Nat.add_comm]
theorem own_formS {w : World} {base e size n : Nat} {v : Value} {xs : List Value} (h : w.ownsRow base e size v n xs) : ∃ A c, v = .slice A n c := by
  rcases h.2 with ⟨h1, h2⟩ | ⟨g, cap, cur, h1, _⟩
  · exact ⟨none, 0, by rw [h1, h2]⟩
  · exact ⟨_, cap, h1⟩
theorem newsS (W : World) (T : TypeId) (a : Value) : ∀ (j : Nat) (u : Value), [a][j]? = some u → (W.alloc (.cells #[a] T)).cell? ((⟨W.heap.size, 0, none⟩ : Addr).add j) = some u := by
  intro j u hj
  match j, hj with
  | 0, hj => simp at hj; subst hj; simp [Addr.add]
theorem onesS (x : ByteArray) : ∀ u ∈ [Value.string x], u.oneCell' = true := by
  intro u hu; simp at hu; subst hu; rfl
theorem nil_text {x : ByteArray} (h : x.toList = []) : x = ⟨#[]⟩ := by
  have h1 : x.data.toList = [] := by rw [← ByteArray.toList_eq]; exact h
  cases x with
  | mk d => congr 1; simpa using h1
set_option maxHeartbeats 8000000 in
set_option maxRecDepth 100000 in
theorem iTx_any (A : Option Addr) (n c : Nat) (at_ : Int) (ms : List Mom) (s : ByteArray) (w : World) (h : Row w w.heap.size A (moms ms)) (hl : ms.length = n) (hnc : n ≤ c) (hn : n ≤ 3000000) (hs : s.size ≤ maxLen) (hx : ∀ m ∈ ms, m.x.size ≤ 2000000 ∧ m.y.size ≤ 2000000) (hat : -9223372036854775808 ≤ at_ ∧ at_ ≤ 9223372036854775807) :
    Calls Try.prog 27 #[.agg #[.slice A n c, .int .i64 at_], .string s] w (TxPost ms at_ s w) := by
  subst hl
  obtain ⟨i0, hi, hz0, hz1, hz2⟩ := info_parts2 infoStr
  have hTV := fun W => iTV_any s W hs
  cases hv : valid s.data.toList
  · rw [hv] at hTV
    have HTV := Lib.hid hTV
    have HB := Lib.hid ((Below.refl w.heap.size w).alloc (Nat.le_refl _) (.cells #[.slice A ms.length c, .int .i64 at_] 29))
    have hno := not_iff (valid_fail (ms := ms) (n := at_) hv)
    clear hTV hv
    go_enter Try.func27, Try.ntmps27
    go_wp2_with fail
    refine (HTV.out _).mono ?_
    rintro e w' ⟨rfl, rfl⟩
    go_wp2_with fail
    go_ret2
    exact ⟨_, _, rfl, hno, HB.out⟩
  rw [hv] at hTV
  have HTV := Lib.hid hTV
  have HV := Lib.hid hv
  clear hTV hv
  have hin1 := fun W => in_any (ms.length : Int) 1 30 W
  by_cases h30 : 1 ≤ ms.length ∧ ms.length ≤ 30
  rotate_left
  · have e1 : inI (ms.length : Int) 1 30 = false := by unfold inI; exact decide_eq_false (by omega)
    rw [e1] at hin1
    have HIN := Lib.hid hin1
    have HB := Lib.hid ((Below.refl w.heap.size w).alloc (Nat.le_refl _) (.cells #[.slice A ms.length c, .int .i64 at_] 29))
    have hno := not_iff (len_fail (n := at_) (s := s) h30)
    clear hin1 e1 h30
    go_enter Try.func27, Try.ntmps27
    go_wp2_with fail
    refine (HTV.out _).mono ?_
    rintro e w' ⟨rfl, rfl⟩
    go_wp2_with fail
    refine (HIN.out _).mono ?_
    rintro e w' ⟨rfl, rfl⟩
    go_wp2_with fail
    go_ret2
    exact ⟨_, _, rfl, hno, HB.out⟩
  have e1 : inI (ms.length : Int) 1 30 = true := by unfold inI; exact decide_eq_true (by omega)
  rw [e1] at hin1
  have HIN1 := Lib.hid hin1
  clear hin1 e1
  have hin2 := fun W => in_any at_ 0 ((ms.length : Int) - 1) W
  by_cases hat2 : 0 ≤ at_ ∧ at_ < ms.length
  rotate_left
  · have e1 : inI at_ 0 ((ms.length : Int) - 1) = false := by unfold inI; exact decide_eq_false (by omega)
    rw [e1] at hin2
    have HIN := Lib.hid hin2
    have HB := Lib.hid ((Below.refl w.heap.size w).alloc (Nat.le_refl _) (.cells #[.slice A ms.length c, .int .i64 at_] 29))
    have hno := not_iff (at_fail (s := s) hat2)
    clear hin2 e1 hat2
    go_enter Try.func27, Try.ntmps27
    go_wp2_with fail
    refine (HTV.out _).mono ?_
    rintro e w' ⟨rfl, rfl⟩
    go_wp2_with fail
    refine (HIN1.out _).mono ?_
    rintro e w' ⟨rfl, rfl⟩
    go_wp2_with fail
    refine (HIN.out _).mono ?_
    rintro e w' ⟨rfl, rfl⟩
    go_wp2_with fail
    go_ret2
    exact ⟨_, _, rfl, hno, HB.out⟩
  have e1 : inI at_ 0 ((ms.length : Int) - 1) = true := by unfold inI; exact decide_eq_true (by omega)
  rw [e1] at hin2
  have HIN2 := Lib.hid hin2
  clear hin2 e1
  obtain ⟨k0, rfl⟩ := Int.eq_ofNat_of_zero_le hat2.1
  have hY1 := (Below.refl w.heap.size w).alloc (Nat.le_refl _) (.cells #[.slice A ms.length c, .int .i64 k0] 29)
  have hrow := (h.below hY1).more hY1.size
  have hbox := HBox.new w 29 (.slice A ms.length c) k0
  obtain ⟨b0, o0, rfl, hb0, hm0⟩ := hrow.mom (j := 0) (by omega)
  have hms0 : ms[0]? = some (ms[0]'(by omega)) := List.getElem?_eq_getElem _
  obtain ⟨B, hB⟩ : ∃ B, w.heap.size = B := ⟨_, rfl⟩
  obtain ⟨Y, hY⟩ : ∃ Y, w.alloc (.cells #[.slice (some ⟨b0, o0, none⟩) ms.length c, .int .i64 k0] 29) = Y := ⟨_, rfl⟩
  rw [hY] at hrow hbox hY1 hm0 hb0
  rw [hB] at hbox
  generalize (ms[0]'(by omega)) = m at hm0 hms0
  have HY := Lib.hid (And.intro hY1 (And.intro hrow hbox))
  have hlen1 : (1 : Int) ≤ (ms.length : Int) := by omega
  obtain ⟨q0, q1, q2, q3, q4, q5, q6⟩ := hm0
  simp only [Nat.zero_mul, Nat.add_zero] at q0 q1 q2 q3 q4 q5 q6
  by_cases hz : Zer m
  rotate_left
  · have HNO := Lib.hid (not_iff (zer_fail (n := (k0 : Int)) (s := s) hms0 hz))
    have hbx0 := hbox.c0
    have hbx1 := hbox.c1
    clear hY1 hrow hbox
    go_enter Try.func27, Try.ntmps27
    go_wp2_with fail
    refine (HTV.out _).mono ?_
    rintro e w' ⟨rfl, rfl⟩
    go_wp2_with fail
    refine (HIN1.out _).mono ?_
    rintro e w' ⟨rfl, rfl⟩
    go_wp2_with fail
    refine (HIN2.out _).mono ?_
    rintro e w' ⟨rfl, rfl⟩
    go_wp2_with fail
    all_goals first
      | exact absurd (show Zer m from ⟨by assumption, by assumption, by assumption, nil_text (by assumption), by assumption, by assumption, nil_text (by assumption)⟩) hz
      | (go_ret2
         exact ⟨_, _, rfl, HNO.out, HY.out.1⟩)
  have HZ := Lib.hid (And.intro hms0 hz)
  obtain ⟨z0, z1, z2, z3, z4, z5, z6⟩ := hz
  rw [z0] at q0
  rw [z1] at q1
  rw [z2] at q2
  rw [z3] at q3
  rw [z4] at q4
  rw [z5] at q5
  rw [z6] at q6
  have hbx0 := hbox.c0
  have hbx1 := hbox.c1
  clear hY1 hrow hbox z0 z1 z2 z3 z4 z5 z6 hms0
  go_enter Try.func27, Try.ntmps27
  go_wp2_with fail
  refine (HTV.out _).mono ?_
  rintro e w' ⟨rfl, rfl⟩
  go_wp2_with fail
  refine (HIN1.out _).mono ?_
  rintro e w' ⟨rfl, rfl⟩
  go_wp2_with fail
  refine (HIN2.out _).mono ?_
  rintro e w' ⟨rfl, rfl⟩
  go_upto_region 4 with fail
  go_cut [50, 51, 52] (fun v50 v51 v52 wx => ∃ (A' : Option Addr) (c' : Nat), v50 = .slice A' (ms.length - 1) c' ∧ v51 = .int .i64 ((ms.length - 1 : Nat) : Int) ∧ v52 = .int .i64 0 ∧ Row Y Y.heap.size A' (moms (ms.drop 1)) ∧ Y = wx)
  case first =>
    go_wp2_with fail
    all_goals first
      | (have e : c = 1 := by assumption
         subst e
         go_meet
         exact ⟨_, _, rfl, rfl, rfl, Row.tail1 (by omega), rfl⟩)
      | (go_meet
         exact ⟨_, _, rfl, rfl, rfl, HY.out.2.1.tail, rfl⟩)
  case rest =>
  obtain ⟨A', c', rfl, rfl, rfl, htl, rfl⟩ := hcut
  clear q0 q1 q2 q3 q4 q5 q6 hbx0 hbx1
  have hdl : (ms.drop 1).length = ms.length - 1 := by simp
  have HD := Lib.hid (And.intro htl hdl)
  clear htl hdl
  go_wp2_with fail
  go_loopw [52] (fun i wr => ∃ k : Nat, k ≤ ms.length - 1 ∧ i = .int .i64 k ∧ Below Y.heap.size Y wr ∧ ∀ j (m : Mom), 1 ≤ j → j ≤ k → ms[j]? = some m → 0 ≤ m.p ∧ m.p < j) (fun i _ => ms.length - (intOf i).toNat)
  case atStart => exact ⟨0, Nat.zero_le _, rfl, Below.refl _ _, fun j m h1 h2 => by omega⟩
  case round =>
    obtain ⟨k, hk, rfl, hb1, hpar⟩ := hrel
    have HP := Lib.hid hpar
    have HB1 := Lib.hid hb1
    clear hpar
    by_cases hkn : k < ms.length - 1
    · obtain ⟨hrt, hdl⟩ := HD.out
      have hkl : k < (ms.drop 1).length := by omega
      obtain ⟨b, o, rfl, hbb, hm⟩ := ((hrt.below hb1).more hb1.size).mom (j := k) hkl
      have HG := Lib.hid (drop_get hkl)
      generalize ((ms.drop 1)[k]'hkl) = m at hm HG
      obtain ⟨m0, m1, m2, m3, m4, m5, m6⟩ := hm
      have hk' : (k : Int) < ((ms.length - 1 : Nat) : Int) := by omega
      have hk0 : (0 : Int) ≤ (k : Int) := by omega
      have HBn := Lib.hid (hb1.alloc hb1.size (.cells #[.int .i64 m.p, .int .i64 m.a, .int .i64 m.b, .string m.x, .int .i64 m.c, .int .i64 m.d, .string m.y] 56))
      have hin := fun W => in_any m.p 0 (k : Int) W
      clear hb1 hrt hdl
      cases hi : inI m.p 0 (k : Int)
      · rw [hi] at hin
        have HI := Lib.hid hin
        have hi3 : ¬ (0 ≤ m.p ∧ m.p ≤ (k : Int)) := by simpa [inI] using hi
        have HNO := Lib.hid (not_iff (par_fail (n := (k0 : Int)) (s := s) (k := k + 1) (by omega) HG.out (by omega)))
        clear hi3
        clear hin hi
        go_wp2_with fail
        refine (HI.out _).mono ?_
        rintro e w' ⟨rfl, rfl⟩
        go_wp2_with fail
        go_ret2
        exact ⟨_, _, rfl, HNO.out, HY.out.1.trans (HBn.out.mono HY.out.1.size)⟩
      · rw [hi] at hin
        have HI := Lib.hid hin
        have hi2 : 0 ≤ m.p ∧ m.p ≤ (k : Int) := by simpa [inI] using hi
        have HI2 := Lib.hid hi2
        clear hin hi hi2
        go_wp2_with fail
        refine (HI.out _).mono ?_
        rintro e w' ⟨rfl, rfl⟩
        go_wp2_with fail
        go_roundw
        case rel =>
          refine ⟨k + 1, by omega, by go_num, HBn.out, fun j m' h1 h2 hj => ?_⟩
          rcases Nat.lt_or_ge k j with h3 | h3
          · obtain rfl : j = k + 1 := by omega
            rw [HG.out] at hj
            injection hj with hj
            subst hj
            have := HI2.out
            omega
          · exact HP.out j m' h1 h3 hj
        case measure => (simp [intOf] <;> omega)
    · obtain rfl : k = ms.length - 1 := by omega
      have hbx := HY.out.2.2.below hb1 (by have := HY.out.2.2.lt; omega)
      have hbx0 := hbx.c0
      have hbx1 := hbx.c1
      have hal : ∀ (j : Nat) (m : Mom), 1 ≤ j → ms[j]? = some m → 0 ≤ m.p ∧ m.p < j := fun j m h1 hj => HP.out j m h1 (by have := (List.getElem?_eq_some_iff.1 hj).1; omega) hj
      have HAL := Lib.hid hal
      have hk0z : (k0 : Int) < (ms.length : Int) := by omega
      obtain ⟨Wa, hWa⟩ : ∃ Wa, wr = Wa := ⟨_, rfl⟩
      rw [hWa] at hbx0 hbx1 HB1 ⊢
      have HWS := Lib.hid (WayB.start (ms := ms) (k := k0) (s := s) (by omega) HV.out)
      clear HP hal hb1 hbx hWa
      go_wp2_with fail
      go_loopw [9, 10] (fun xv av wr2 => ∃ (k : Nat) (x : ByteArray), xv = .string x ∧ av = .int .i64 k ∧ WayB ms k0 s k x ∧ Below Y.heap.size Y wr2) (fun _ av _ => (intOf av).toNat)
      case atStart => exact ⟨k0, s, rfl, rfl, HWS.out, HB1.out⟩
      case round =>
        obtain ⟨k, x, rfl, rfl, hway, hb2⟩ := hrel
        have hbx := HY.out.2.2.below hb2 (by have := HY.out.2.2.lt; omega)
        have hby0 := hbx.c0
        have hby1 := hbx.c1
        have HB2 := Lib.hid hb2
        clear hbx0 hbx1 HB1 HWS
        by_cases hk0 : k = 0
        · subst hk0
          have e00 : ((0 : Nat) : Int) = 0 := rfl
          rw [e00]
          have HWF := Lib.hid (WayF.start hway)
          obtain ⟨Wb, hWb⟩ : ∃ Wb, wr = Wb := ⟨_, rfl⟩
          rw [hWb] at hb2 hbx HB2 hby0 hby1 ⊢
          obtain ⟨Wc, hWc⟩ : ∃ Wc, Wb.alloc (.cells #[.string x] 9) = Wc := ⟨_, rfl⟩
          have hbc0 : Below Wb.heap.size Wb Wc := hWc ▸ (Below.refl Wb.heap.size Wb).alloc (Nat.le_refl _) _
          have hown0 : Wc.ownsRow Wb.heap.size 9 1 (.slice (some ⟨Wb.heap.size, 0, none⟩) 1 1) 1 (strVals [x]) := by
            have h9 := World.ownsRow_lit (base := Wb.heap.size) (e := 9) (size := 1) Wb #[.string x] 1 (Nat.le_refl _) (by decide) rfl
            rw [hWc] at h9
            exact h9
          have hbc := hb2.trans (hbc0.mono hb2.size)
          have hbxc := HY.out.2.2.below hbc (by have := HY.out.2.2.lt; omega)
          have hbxc0 := hbxc.c0
          have hrc := ((HY.out.2.1.below hbc).more hbc.size)
          have HC := Lib.hid (And.intro hbc (And.intro hrc (And.intro hown0 hbc0)))
          clear hb2 hbx hway hown0 hbc hbxc hrc hbc0 hWb
          go_upto_region 19 with fail
          go_cut [92, 93, 94] (fun v50 v51 v52 wx => ∃ (A' : Option Addr) (c' : Nat), v50 = .slice A' (ms.length - 1) c' ∧ v51 = .int .i64 ((ms.length - 1 : Nat) : Int) ∧ v52 = .int .i64 0 ∧ Row Y Y.heap.size A' (moms (ms.drop 1)) ∧ Wc = wx)
          case first =>
            go_wp2_with fail
            all_goals first
              | (have e : c = 1 := by assumption
                 subst e
                 go_meet
                 exact ⟨_, _, rfl, rfl, rfl, Row.tail1 (by omega), rfl⟩)
              | (go_meet
                 exact ⟨_, _, rfl, rfl, rfl, HY.out.2.1.tail, rfl⟩)
          case rest =>
          obtain ⟨A2, c2, rfl, rfl, rfl, htl2, rfl⟩ := hcut
          clear hbxc0 hby0 hby1
          have HD2 := Lib.hid htl2
          clear htl2
          obtain ⟨Bz, hBz⟩ : ∃ Bz, Wb.heap.size = Bz := ⟨_, rfl⟩
          rw [hBz] at HC ⊢
          go_wp2_with fail
          go_loopw [13, 94] (fun ov iv wr3 => ∃ (k : Nat) (os : List ByteArray), iv = .int .i64 k ∧ os.length = k + 1 ∧ k ≤ ms.length - 1 ∧ WayF ms k0 s os ∧ wr3.ownsRow Bz 9 1 ov (k + 1) (strVals os) ∧ Below Bz Wb wr3) (fun _ iv _ => ms.length - (intOf iv).toNat)
          case atStart => exact ⟨0, [x], rfl, rfl, Nat.zero_le _, HWF.out, HC.out.2.2.1, HC.out.2.2.2⟩
          case round =>
            obtain ⟨k, os, rfl, hol, hk, hway, hown, hb4⟩ := hrel
            have HB4 := Lib.hid hb4
            have hYw : Y.heap.size ≤ Wb.heap.size := HB2.out.size
            have hYB : Y.heap.size ≤ Bz := by omega
            have HBY := Lib.hid (HB2.out.trans (hb4.mono hYB))
            have hBs : Bz ≤ wr.heap.size := by have := hb4.size; omega
            obtain ⟨Ao, co, rfl⟩ := own_formS hown
            have HOL := Lib.hid hol
            have hk30 : k + 1 ≤ 30 := by omega
            clear hb4 HWF hol
            by_cases hkn : k < ms.length - 1
            · have hdl := HD.out.2
              have hkl : k < (ms.drop 1).length := by omega
              obtain ⟨b, o, rfl, hbb, hm⟩ := ((HD2.out.below HBY.out).more HBY.out.size).mom (j := k) hkl
              have hg := drop_get hkl
              generalize ((ms.drop 1)[k]'hkl) = m at hm hg
              have hxx := (hx _ (List.mem_of_getElem? hg)).1
              have hp := HAL.out (k + 1) m (by omega) hg
              obtain ⟨q, hq⟩ := Int.eq_ofNat_of_zero_le hp.1
              have hqk : q < os.length := by have := HOL.out; omega
              obtain ⟨b', o', rfl, hb', hcq⟩ := (Row.of_own hown).str (j := q) hqk
              have htq : os[q]? = some (os[q]'hqk) := List.getElem?_eq_getElem hqk
              have hvt := hway.2.2.1 _ (List.getElem_mem hqk)
              generalize (os[q]'hqk) = t at hcq htq hvt
              have ht120 := valid_size hvt
              obtain ⟨m0, m1, m2, m3, m4, m5, m6⟩ := hm
              rw [hq] at m0
              have hk' : (k : Int) < ((ms.length - 1 : Nat) : Int) := by omega
              have hk0 : (0 : Int) ≤ (k : Int) := by omega
              have hq0 : (0 : Int) ≤ (q : Int) := by omega
              have hq1 : (q : Int) < ((k + 1 : Nat) : Int) := by have := HOL.out; omega
              rw [← HOL.out] at hg
              have hrv := fun W => iRV_any t m.x m.a m.b W (by omega) hxx
              have hap := fun W => apply2_any t m.x m.a m.b W (by omega) hxx
              have hbx := (MBox.new wr 56 q m.a m.b m.x m.c m.d m.y)
              obtain ⟨X, hX⟩ : ∃ X, wr.alloc (.cells #[.int .i64 q, .int .i64 m.a, .int .i64 m.b, .string m.x, .int .i64 m.c, .int .i64 m.d, .string m.y] 56) = X := ⟨_, rfl⟩
              have hXb : Below Bz Wb X := hX ▸ HB4.out.alloc hBs _
              have hownX := hown.alloc (.cells #[.int .i64 q, .int .i64 m.a, .int .i64 m.b, .string m.x, .int .i64 m.c, .int .i64 m.d, .string m.y] 56)
              rw [hX] at hbx hownX
              obtain ⟨g, hgg⟩ : ∃ g, wr.heap.size = g := ⟨_, rfl⟩
              rw [hgg] at hbx
              have hBX : Bz ≤ X.heap.size := by have := hbx.lt; omega
              have HX := Lib.hid (And.intro hXb (And.intro hbx hownX))
              have hXW : Below wr.heap.size wr X := hX ▸ (Below.refl _ _).alloc (Nat.le_refl _) _
              have x0 : X.cell? ⟨g, 0, none⟩ = some (.int .i64 q) := hbx.cell 0
              have x1 : X.cell? ⟨g, 1, none⟩ = some (.int .i64 m.a) := hbx.cell 1
              have x2 : X.cell? ⟨g, 2, none⟩ = some (.int .i64 m.b) := hbx.cell 2
              have x3 : X.cell? ⟨g, 3, none⟩ = some (.string m.x) := hbx.cell 3
              have hcX := (hXW.cell (p := ⟨b', o' + q, none⟩) hb').trans hcq
              have hgl := hbx.lt
              have hYX : Below Y.heap.size Y X := hX ▸ HBY.out.alloc HBY.out.size _
              have HYX := Lib.hid hYX
              clear hXb hbx hownX hown hdl hp hXW hYX
              cases hf : fitB t m.x m.a m.b
              · rw [hf, if_neg (by simp)] at hrv
                have HNO := Lib.hid (not_iff (hway.fail hg hq htq (by rw [hf]; exact fun e => absurd e.1 (by decide))))
                have HRV := Lib.hid hrv
                clear hrv hap hf hway hg htq hvt
                go_wp2_with fail
                refine (HRV.out _).mono ?_
                rintro e W5 ⟨rfl, hb5⟩
                have hfin := (HYX.out.trans (hb5.mono HYX.out.size)).alloc (Nat.le_trans HYX.out.size hb5.size) (.cells #[.int .i64 0, .int .i64 0, .string ⟨#[]⟩] 36)
                have HF := Lib.hid hfin
                clear hb5 hfin x0 x1 x2 x3
                go_wp2_with fail
                go_ret2
                exact ⟨_, _, rfl, HNO.out, HY.out.1.trans (HF.out.mono HY.out.1.size)⟩
              · rw [hf, if_pos rfl] at hrv
                have hib : inB t m.a m.b = true := by unfold fitB at hf; rw [Bool.and_eq_true] at hf; exact hf.1
                rw [hf, if_pos hib] at hap
                by_cases hbk : Bk t m
                · have HST := Lib.hid (hway.step hg hq htq hf hbk)
                  have HRV := Lib.hid hrv
                  have HAP := Lib.hid hap
                  have HBK := Lib.hid hbk
                  clear hrv hap hf hway hg htq hvt hib hbk
                  go_wp2_with fail
                  refine (HRV.out _).mono ?_
                  rintro e W5 ⟨rfl, hb5⟩
                  have hbx5 := HX.out.2.1.below hb5 hgl
                  have y1 : W5.cell? ⟨g, 1, none⟩ = some (.int .i64 m.a) := hbx5.cell 1
                  have y2 : W5.cell? ⟨g, 2, none⟩ = some (.int .i64 m.b) := hbx5.cell 2
                  have y3 : W5.cell? ⟨g, 3, none⟩ = some (.string m.x) := hbx5.cell 3
                  have y4 : W5.cell? ⟨g, 4, none⟩ = some (.int .i64 m.a) := HBK.out.1 ▸ hbx5.cell 4
                  have y5 : W5.cell? ⟨g, 5, none⟩ = some (.int .i64 m.x.size) := HBK.out.2.1 ▸ hbx5.cell 5
                  have y6 : W5.cell? ⟨g, 6, none⟩ = some (.string (t.extract m.a.toNat (m.a + m.b).toNat)) := HBK.out.2.2 ▸ hbx5.cell 6
                  have hown5 := own_below7 HX.out.2.2 hb5
                  have hbw5 := HX.out.1.trans (hb5.mono hBX)
                  have hg5 : g < W5.heap.size := hbx5.lt
                  generalize t.extract m.a.toNat (m.a + m.b).toNat = E at *
                  have hownE := hown5.alloc (.cells #[.int .i64 m.a, .int .i64 m.x.size, .string E] 36)
                  have hbwE := hbw5.alloc (Nat.le_trans hBX hb5.size) (.cells #[.int .i64 m.a, .int .i64 m.x.size, .string E] 36)
                  have hZ : Bz ≤ (W5.alloc (.cells #[.int .i64 m.a, .int .i64 m.x.size, .string E] 36)).heap.size := by have := hb5.size; simp; omega
                  have H5 := Lib.hid (And.intro hownE (And.intro hbwE hZ))
                  clear hb5 hbx5 hown5 hbw5 hownE hbwE hZ x0 x1 x2 x3
                  go_wp2_with fail
                  refine (HAP.out _).mono ?_
                  rintro e W6 ⟨rfl, hb6⟩
                  generalize apX t m.x m.a m.b = z at *
                  have hown6 := own_below7 H5.out.1 hb6
                  have hbw6 := H5.out.2.1.trans (hb6.mono H5.out.2.2)
                  have hB6 : Bz ≤ W6.heap.size := Nat.le_trans H5.out.2.2 hb6.size
                  clear hb6 H5 y1 y2 y3 y4 y5 y6 hcX
                  go_wp2_with (first | (at_builtin; refine wpList_append_own _ rfl _ _ 57 rfl Bz 9 i0 (.string .empty) 1 16 Try.underlying57 hi hz0 hz1 hz2 rfl (by decide) _ _ _ rfl (hown6.alloc _) ⟨W6.heap.size, 0, none⟩ 1 1 [.string z] rfl rfl (newsS _ _ _) (onesS _) (by unfold maxLen; omega) (by omega) (by simp; omega) ?_))
                  intro v' w1 hown' hgrow _
                  have hbn := (hbw6.alloc hB6 _).grown hgrow (by simp; omega) (fun j hj => ((hown6.alloc (.cells #[.string z] 9)).lt j hj).1)
                  have hown7 : w1.ownsRow Bz 9 1 v' (k + 1 + 1) (strVals (os ++ [z])) := by
                    have e : strVals (os ++ [z]) = strVals os ++ [.string z] := by simp [strVals]
                    rw [e]; exact hown'
                  clear hown' hgrow hown6 hbw6
                  go_wp2_with fail
                  go_roundw
                  case rel => exact ⟨k + 1, os ++ [z], by go_num, by rw [List.length_append, HOL.out]; rfl, by omega, HST.out, hown7, hbn⟩
                  case measure => (simp [intOf] <;> omega)
                · have HNO := Lib.hid (not_iff (hway.fail hg hq htq (fun e => hbk e.2)))
                  have HRV := Lib.hid hrv
                  clear hrv hap hf hway hg htq hvt hib
                  have hbk2 : ¬ (m.a = m.c ∧ (m.x.size : Int) = m.d ∧ t.extract m.a.toNat (m.a + m.b).toNat = m.y) := hbk
                  have HBK := Lib.hid hbk2
                  clear hbk hbk2
                  go_wp2_with fail
                  refine (HRV.out _).mono ?_
                  rintro e W5 ⟨rfl, hb5⟩
                  have hbx5 := HX.out.2.1.below hb5 hgl
                  have y4 : W5.cell? ⟨g, 4, none⟩ = some (.int .i64 m.c) := hbx5.cell 4
                  have y5 : W5.cell? ⟨g, 5, none⟩ = some (.int .i64 m.d) := hbx5.cell 5
                  have y6 : W5.cell? ⟨g, 6, none⟩ = some (.string m.y) := hbx5.cell 6
                  have hg5 : g < W5.heap.size := hbx5.lt
                  generalize t.extract m.a.toNat (m.a + m.b).toNat = E at *
                  have hfin := (HYX.out.trans (hb5.mono HYX.out.size)).alloc (Nat.le_trans HYX.out.size hb5.size) (.cells #[.int .i64 m.a, .int .i64 m.x.size, .string E] 36)
                  have HF := Lib.hid hfin
                  clear hb5 hbx5 hfin x0 x1 x2 x3
                  by_cases h1 : m.a = m.c
                  · rw [← h1] at y4
                    by_cases h2 : (m.x.size : Int) = m.d
                    · rw [← h2] at y5
                      have h3 : ¬ E = m.y := fun e => HBK.out ⟨h1, h2, e⟩
                      have h4 : ¬ E.toList = m.y.toList := fun e => h3 (ba_ext2 (by rw [← ByteArray.toList_eq, ← ByteArray.toList_eq]; exact e))
                      clear h1 h2 HBK
                      go_wp2_with fail
                      go_ret2
                      exact ⟨_, _, rfl, HNO.out, HY.out.1.trans (HF.out.mono HY.out.1.size)⟩
                    · clear h1 HBK
                      go_wp2_with fail
                      go_ret2
                      exact ⟨_, _, rfl, HNO.out, HY.out.1.trans (HF.out.mono HY.out.1.size)⟩
                  · clear HBK
                    go_wp2_with fail
                    go_ret2
                    exact ⟨_, _, rfl, HNO.out, HY.out.1.trans (HF.out.mono HY.out.1.size)⟩
            · obtain rfl : k = ms.length - 1 := by omega
              have hosn : os.length = ms.length := by have := HOL.out; omega
              have hko : k0 < os.length := by omega
              obtain ⟨b', o', rfl, hb', hcq⟩ := (Row.of_own hown).str (j := k0) hko
              have htq : os[k0]? = some (os[k0]'hko) := List.getElem?_eq_getElem hko
              generalize (os[k0]'hko) = t at hcq htq
              have hiff := hway.done hosn h30 HV.out HZ.out.1 HZ.out.2 htq
              have hbx := HY.out.2.2.below HBY.out (by have := HY.out.2.2.lt; omega)
              have hbw0 := hbx.c0
              have hbw1 := hbx.c1
              have hkk0 : (0 : Int) ≤ (k0 : Int) := by omega
              have hkk1 : (k0 : Int) < ((ms.length - 1 + 1 : Nat) : Int) := by omega
              have HI := Lib.hid hiff
              clear hway hown hbx htq hiff hosn hko
              by_cases ht : t = s
              · subst ht
                go_wp2_with fail
                go_quiet (fail)
                go_wp2_with fail
                go_ret2
                exact ⟨_, _, rfl, ⟨fun _ => by first | exact HI.out.1 trivial | exact HI.out.1 rfl, fun _ => rfl⟩, HY.out.1.trans ((below_drewN HBY.out nq).mono HY.out.1.size)⟩
              · go_wp2_with fail
                go_quiet (fail)
                go_wp2_with fail
                go_ret2
                refine ⟨_, _, rfl, ⟨fun e => absurd (ba_ext2 (by rw [← ByteArray.toList_eq, ← ByteArray.toList_eq]; simpa using e)) ht, fun e => absurd (HI.out.2 e) ht⟩, HY.out.1.trans ((below_drewN HBY.out nq).mono HY.out.1.size)⟩
        · have hkl := hway.1
          obtain ⟨b2, o2, e2, hbb2, hm⟩ := ((HY.out.2.1.below hb2).more hb2.size).mom (j := k) hkl
          injection e2 with e2
          injection e2 with e2 e3
          subst e2 e3
          have hms : ms[k]? = some (ms[k]'hkl) := List.getElem?_eq_getElem hkl
          have hyy := (hx _ (List.getElem_mem hkl)).2
          generalize (ms[k]'hkl) = m at hm hms hyy
          obtain ⟨m0, m1, m2, m3, m4, m5, m6⟩ := hm
          have hp := HAL.out k m (by omega) hms
          obtain ⟨q, hq⟩ := Int.eq_ofNat_of_zero_le hp.1
          rw [hq] at m0 hp
          have hx120 := valid_size hway.2.1
          have hk' : (k : Int) < (ms.length : Int) := by omega
          have hk1 : (0 : Int) ≤ (k : Int) := by omega
          have hk2 : (0 : Int) < (k : Int) := by omega
          have hap := fun W => apply2_any x m.y m.c m.d W (by omega) hyy
          clear hb2 hbx m1 m2 m3
          cases hf : fitB x m.y m.c m.d
          · rw [hf] at hap
            have HNO := Lib.hid (not_iff (hway.fail (by omega) hms hf))
            generalize (if inB x m.c m.d = true then apX x m.y m.c m.d else (⟨#[]⟩ : ByteArray)) = z at hap
            have HA := Lib.hid hap
            clear hap hf hway hms
            go_wp2_with fail
            refine (HA.out _).mono ?_
            rintro e W3 ⟨rfl, hb3⟩
            have HB3 := Lib.hid (HB2.out.trans (hb3.mono HB2.out.size))
            clear hb3
            go_wp2_with fail
            go_ret2
            exact ⟨_, _, rfl, HNO.out, HY.out.1.trans (HB3.out.mono HY.out.1.size)⟩
          · have hib : inB x m.c m.d = true := by unfold fitB at hf; rw [Bool.and_eq_true] at hf; exact hf.1
            have HST := Lib.hid (hway.step (by omega) hms hq (by omega) hf)
            rw [hf, if_pos hib] at hap
            generalize apX x m.y m.c m.d = z at hap HST
            have HA := Lib.hid hap
            clear hap hf hway hms hib
            go_wp2_with fail
            refine (HA.out _).mono ?_
            rintro e W3 ⟨rfl, hb3⟩
            have hbw := HB2.out.trans (hb3.mono HB2.out.size)
            have hbx := HY.out.2.2.below hbw (by have := HY.out.2.2.lt; omega)
            have hbz0 := hbx.c0
            have n0 := (hb3.cell (p := ⟨b0, o0 + k * 7, none⟩) hbb2).trans m0
            have HB3 := Lib.hid hbw
            clear hb3 hbw hbx m0 m4 m5 m6
            go_wp2_with fail
            go_roundw
            case rel => exact ⟨q, z, rfl, rfl, HST.out, HB3.out⟩
            case measure => (simp [intOf] <;> omega)
theorem iHV_any (A : Option Addr) (n c : Nat) (at_ : Int) (ms : List Mom) (s : ByteArray) (w : World) (h : Row w w.heap.size A (moms ms)) (hl : ms.length = n) (hnc : n ≤ c) (hn : n ≤ 3000000) (hs : s.size ≤ maxLen) (hx : ∀ m ∈ ms, m.x.size ≤ 2000000 ∧ m.y.size ≤ 2000000) (hat : -9223372036854775808 ≤ at_ ∧ at_ ≤ 9223372036854775807) :
    Calls Try.prog 10 #[.agg #[.slice A n c, .int .i64 at_], .string s] w fun e w' => (∃ b : Bool, e = .returned (.bool b) ∧ (b = true ↔ HvP ms at_ s)) ∧ Below w.heap.size w w' := by
  have hb0 := (Below.refl w.heap.size w).alloc (Nat.le_refl _) (.cells #[.slice A n c, .int .i64 at_] 29)
  have h' := (h.below hb0).more hb0.size
  have HB := Lib.hid hb0
  clear hb0
  go_enter Try.func10, Try.ntmps10
  go_wp2_with fail
  refine (iTx_any A n c at_ ms s _ h' hl hnc hn hs hx hat).mono ?_
  rintro e W1 ⟨v, b, rfl, hb, hb1⟩
  have hb2 := HB.out.trans (hb1.mono HB.out.size)
  have HBB := Lib.hid hb
  clear hb
  go_wp2_with fail
  go_ret
  exact ⟨⟨b, rfl, HBB.out⟩, hb2⟩
end Go.Proofs.Ytlnldnenkajcdaa
