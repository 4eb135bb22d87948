/- The contracts of RectCut, of the program and of the reference. -/
import Derived.Test.YthcijegcnecnmaaDoorQc
import Derived.Test.YthcijegcnecnmaaDoorQl
set_option linter.unusedVariables false
set_option linter.unusedSimpArgs false
namespace Go.Proofs.YthcijegcnecnmaaDoor
open Go.RowKit
theorem str_add2 {B k : Nat} {w wr w1 : World} {v v' : Value} {xs ys : List Value} {o : Obj} (hb : Below B w wr) (hB : B ≤ wr.heap.size) (hown : wr.ownsRow B 9 1 v k xs) (hown' : w1.ownsRow B 9 1 v' (k + 1) ys) (hgrow : (wr.alloc o).grownBy w1 v.ownBlock) : w1.ownsRow B 9 1 v' (k + 1) ys ∧ Below B w w1 :=
  ⟨hown', (hb.alloc hB o).grown hgrow (by simp; omega) (fun j hj => ((hown.alloc o).lt j hj).1)⟩
set_option maxRecDepth 100000 in
theorem sLns_any (s : ByteArray) (w : World) (hs : s.size ≤ maxLen) (hv : valid s.data.toList = true) : Calls Tryd.prog 39 #[.string s] w (StrsPost (linesL s) w) := by
  obtain ⟨i0, hi, hz0, hz1, hz2⟩ := info_parts infoStr
  obtain ⟨B, hB⟩ : ∃ B, w.heap.size = B := ⟨_, rfl⟩
  have hmade : (w.alloc (.cells #[] 9)).ownsRow B 9 1 (.slice (some ⟨w.heap.size, 0, none⟩) 0 0) 0 [] := World.ownsRow_made w #[] 0 (by omega) (by decide) rfl
  have hbm : Below B w (w.alloc (.cells #[] 9)) := (Below.refl _ _).alloc (by omega) _
  have HM := Lib.hid (And.intro hmade hbm)
  have HB := Lib.hid hB
  clear hmade hbm hB
  have h1 := fun w => sLM_any s w hs
  have h120 := valid_size hv
  have hcl := cnt_le s s.size
  rw [lm_cnt hv] at h1
  have hlo : ∀ k : Nat, k ≤ cntN s s.size → lineOk s k = true := fun k hk => by unfold lineOk inI; rw [hv]; simp; omega
  have hc1 := fun (k : Nat) (hk : k ≤ cntN s s.size) W => (show lsI s k = lsN s k by unfold lsI; rw [if_pos (hlo k hk)]; rfl) ▸ sLS_any s k W hs
  have hc2 := fun (k : Nat) (hk : k ≤ cntN s s.size) W => (show leI s k = eolN s (lsN s k) by unfold leI; rw [if_pos (hlo k hk)]; rfl) ▸ sLE_any s k W hs
  have hle := fun (k : Nat) (hk : k ≤ cntN s s.size) => (show lsN s k ≤ eolN s (lsN s k) ∧ eolN s (lsN s k) ≤ s.size from ⟨(eol_spec s (ls_ok hk).1).1, (eol_spec s (ls_ok hk).1).2.1⟩)
  have hat := fun (k : Nat) (hk : k ≤ cntN s s.size) => (show (linesL s)[k]? = some (s.extract (lsN s k) (eolN s (lsN s k))) from linesL_get s hk)
  have hll := linesL_len s
  generalize linesL s = ls at *
  have HC1 := Lib.hid hc1
  have HC2 := Lib.hid hc2
  have HLE := Lib.hid hle
  have H1 := Lib.hid h1
  have HAT := Lib.hid hat
  have HLL := Lib.hid hll
  clear hc1 hc2 hle h1 hlo hv hat hll
  generalize hcc : cntN s s.size = cc at *
  clear hcc
  have hs' := hs
  unfold maxLen at hs'
  go_enter Tryd.func39, Tryd.ntmps39
  go_wp2_with fail
  go_loopw [3, 4] (fun ov kv wr => ∃ k : Nat, kv = .int .i64 k ∧ k ≤ cc + 1 ∧ wr.ownsRow B 9 1 ov k (strVals (ls.take k)) ∧ Below B w wr) (fun _ kv _ => cc + 1 - (intOf kv).toNat)
  case atStart => exact ⟨0, rfl, Nat.zero_le _, HM.out.1, HM.out.2⟩
  case round =>
    obtain ⟨k, rfl, hk, hown, hbw⟩ := hrel
    have hBz : B ≤ wr.heap.size := by have := hbw.size; have := HB.out; omega
    by_cases hkc : k ≤ cc
    · have hk0 : (0 : Int) ≤ (k : Int) := by omega
      have hk1 : (k : Int) < 1 + (cc : Int) := by omega
      have hs1 := HC1.out k hkc
      have hs2' := HC2.out k hkc
      obtain ⟨l1, l2⟩ := HLE.out k hkc
      have HT := Lib.hid (take_str (HAT.out k hkc))
      generalize lsN s k = a at *
      generalize eolN s a = z at *
      have HS1 := Lib.hid hs1
      have HS2 := Lib.hid hs2'
      have ha0 : (0 : Int) ≤ (a : Int) := by omega
      have haz : (a : Int) ≤ (z : Int) := by omega
      have hzs : (z : Int) ≤ (s.size : Int) := by omega
      clear hs1 hs2'
      go_wp2_with fail
      refine (H1.out _).mono ?_
      rintro e w' ⟨rfl, rfl⟩
      go_wp2_with fail
      refine (HS1.out _).mono ?_
      rintro e w' ⟨rfl, rfl⟩
      go_wp2_with fail
      refine (HS2.out _).mono ?_
      rintro e w' ⟨rfl, rfl⟩
      go_wp2_with (first | (at_builtin; refine wpList_append_own _ rfl _ _ 22 rfl B 9 i0 (.string .empty) 1 16 Tryd.underlying22 hi hz0 hz1 hz2 rfl (by decide) _ _ _ rfl (hown.alloc _) ⟨wr.heap.size, 0, none⟩ 1 1 [.string (s.extract a z)] rfl rfl (news1 _ _ _) (ones1 _) (by unfold maxLen; omega) (by omega) (by simp; omega) ?_))
      intro v' w1 hown' hgrow _
      obtain ⟨hown3, hbw3⟩ := str_add2 hbw hBz hown hown' hgrow
      rw [HT.out] at hown3
      clear hown' hgrow hown hbw
      go_wp2_with fail
      go_roundw
      case rel => exact ⟨k + 1, by go_num, by omega, hown3, hbw3⟩
      case measure => (simp [intOf] <;> omega)
    · have hk1 : 1 + (cc : Int) ≤ (k : Int) := by omega
      obtain rfl : k = cc + 1 := by omega
      have HE : Hid (∀ v, v = _ → StrsPost ls w (.returned v) wr) := Lib.hid (strs_end0 hown HLL.out.symm HB.out hbw)
      clear hown hbw
      go_wp2_with fail
      refine (H1.out _).mono ?_
      rintro e w' ⟨rfl, rfl⟩
      go_wp2_with fail
      go_ret
      exact HE.out _ rfl
theorem nil_app (z : ByteArray) : (⟨#[]⟩ : ByteArray) ++ z = z := ba_eq (by simp)
set_option maxHeartbeats 4000000 in
set_option maxRecDepth 100000 in
/-- The reference's LinesText of lines that make a text. -/
theorem sLT_any (A : Option Addr) (n c : Nat) (ls : List ByteArray) (w : World) (h : Row w w.heap.size A (strVals ls)) (hl : ls.length = n) (h0 : 0 < n) (hok : ∀ z ∈ ls, okLn z.data.toList) (hsz : (joinN ls).size ≤ 120) :
    Calls Tryd.prog 40 #[.slice A n c] w fun e w' => e = .returned (.string (joinN ls)) ∧ w = w' := by
  have hlen : n ≤ 121 := by
    have := joinN_size (l := ls) (by intro e; rw [e] at hl; simp at hl; omega)
    omega
  have hpre : ∀ k, 0 < k → k ≤ n → (joinN (ls.take k)).size ≤ 120 := fun k hk hkn => by
    have h1 := joinN_size (l := ls) (by intro e; rw [e] at hl; simp at hl; omega)
    have h2 := joinN_size (l := ls.take k) (by intro e; have := congrArg List.length e; rw [List.length_take, List.length_nil] at this; omega)
    have h3 : lens ls = lens (ls.take k) + lens (ls.drop k) := by rw [← lens_app, List.take_append_drop]
    rw [List.length_take] at h2
    omega
  have hsmall : ∀ k (hk : k < ls.length), ls[k].size ≤ 120 := fun k hk => by
    have h1 := joinN_size (l := ls) (by intro e; rw [e] at hl; simp at hl; omega)
    have h3 : lens ls = lens (ls.take k) + lens (ls.drop k) := by rw [← lens_app, List.take_append_drop]
    rw [List.drop_eq_getElem_cons hk] at h3
    simp only [lens, List.map_cons, List.sum_cons] at h3 h1
    omega
  have hlm : ∀ k (hk : k < ls.length), lmI ls[k] = 1 := fun k hk => ln_many (hok _ (List.getElem_mem hk)) (hsmall k hk)
  have hnx : ∀ k (hk : k < ls.length), joinN (ls.take (k + 1)) = if k = 0 then ls[k] else joinN (ls.take k) ++ ⟨#[10]⟩ ++ ls[k] := fun k hk => by
    rw [List.take_succ_eq_append_getElem hk]
    split
    · rename_i h; subst h; rw [List.take_zero, List.nil_append, joinN_one]
    · rename_i h
      rw [joinN_snoc _ (by intro e; have := congrArg List.length e; rw [List.length_take, List.length_nil] at this; omega)]
  have HPRE := Lib.hid hpre
  have HSM := Lib.hid hsmall
  have HLM := Lib.hid hlm
  have HNX := Lib.hid hnx
  have HEND : Hid (joinN (ls.take n) = joinN ls) := Lib.hid (by rw [List.take_of_length_le (by omega)])
  clear hpre hsmall hlm hnx hok hsz
  go_enter Tryd.func40, Tryd.ntmps40
  go_wp2_with fail
  go_loopw [3, 4] (fun ov kv wr => ∃ k : Nat, k ≤ n ∧ kv = .int .i64 k ∧ ov = .string (joinN (ls.take k)) ∧ wr = w) (fun _ kv _ => n - (intOf kv).toNat)
  case atStart => exact ⟨0, Nat.zero_le _, rfl, rfl, rfl⟩
  case round =>
    obtain ⟨k, hk, rfl, rfl, rfl⟩ := hrel
    by_cases hkn : k < n
    · have hkl : k < ls.length := by omega
      obtain ⟨g, o, rfl, hgb, c0⟩ := h.str hkl
      have hz := HSM.out k hkl
      have hm := HLM.out k hkl
      have hx := HNX.out k hkl
      have hp1 := HPRE.out (k + 1) (by omega) (by omega)
      have hp0 : 0 < k → (joinN (ls.take k)).size ≤ 120 := fun h => HPRE.out k h (by omega)
      have hk' : (k : Int) < (n : Int) := by omega
      have hk0 : (0 : Int) ≤ (k : Int) := by omega
      generalize (ls[k]'hkl) = z at *
      have hzm : z.size ≤ maxLen := by unfold maxLen; omega
      have hlmc := fun W => sLM_any z W hzm
      rw [hm] at hlmc
      have HLMC := Lib.hid hlmc
      clear hlmc hm
      rcases Nat.eq_zero_or_pos k with rfl | hkp
      · rw [if_pos rfl] at hx
        have HX := Lib.hid hx
        have hj0 : joinN (ls.take 0) = ⟨#[]⟩ := rfl
        rw [hj0]
        clear hx hp1 hp0 hj0
        simp only [Nat.add_zero] at c0
        rcases Nat.eq_zero_or_pos z.size with h9 | h9
        · go_wp2_with fail
          go_roundw
          case rel => exact ⟨1, by omega, by go_num, by rw [HX.out, nil_app], by first | rfl | trivial⟩
          case measure => (simp [intOf] <;> omega)
        · go_wp2_with fail
          refine (HLMC.out _).mono ?_
          rintro e w' ⟨rfl, rfl⟩
          go_wp2_with fail
          go_roundw
          case rel => exact ⟨1, by omega, by go_num, by rw [HX.out, nil_app], by first | rfl | trivial⟩
          case measure => (simp [intOf] <;> omega)
      · rw [if_neg (by omega)] at hx
        have hp0' := hp0 hkp
        have HX := Lib.hid hx
        rw [hx] at hp1
        generalize joinN (ls.take k) = oo at *
        have hsz : oo.size + 1 + z.size ≤ 120 := by rw [ByteArray.size_append, ByteArray.size_append] at hp1; exact hp1
        have hkp' : (0 : Int) < (k : Int) := by omega
        clear hx hp1 hp0
        rcases Nat.eq_zero_or_pos z.size with h9 | h9
        · go_wp2_with fail
          go_roundw
          case rel => exact ⟨k + 1, by omega, by go_num, by rw [HX.out], by first | rfl | trivial⟩
          case measure => (simp [intOf] <;> omega)
        · go_wp2_with fail
          refine (HLMC.out _).mono ?_
          rintro e w' ⟨rfl, rfl⟩
          go_wp2_with fail
          go_roundw
          case rel => exact ⟨k + 1, by omega, by go_num, by rw [HX.out], by first | rfl | trivial⟩
          case measure => (simp [intOf] <;> omega)
    · obtain rfl : k = n := by omega
      rw [HEND.out]
      go_wp2_with fail
      go_ret
      exact ⟨rfl, rfl⟩
theorem join_own {W : World} {B n c g : Nat} {xs : List ByteArray} (h : W.ownsRow B 9 1 (.slice (some ⟨g, 0, none⟩) n c) n (strVals xs)) (hl : xs.length = n) (hc : n ≤ c) (hs : (joinN xs).size ≤ 120) :
    Calls Tryd.prog 41 #[.slice (some ⟨g, 0, none⟩) n c, .string ⟨#[10]⟩] W fun e w' => e = .returned (.string (joinN xs)) ∧ Below W.heap.size W w' := by
  subst hl
  have hsz : (Lib.join (xs.map (·.data.toList)) [10]).length = (joinN xs).size := by rw [← joinN_list]; exact Array.length_toList ..
  have hlen : xs.length ≤ 121 := by
    rcases Nat.eq_zero_or_pos xs.length with h0 | h0
    · omega
    · have := joinN_size (l := xs) (by intro e; rw [e] at h0; simp at h0)
      omega
  refine Tryd.strings_Join g 0 c xs ⟨#[10]⟩ W (fun j x hj => ?_) (h.lt g rfl).2 (by omega) hc ?_
  · have hjl : j < xs.length := (List.getElem?_eq_some_iff.1 hj).1
    rw [Nat.zero_add, h.cellAt j (by omega), strVals, List.getElem?_map, hj]; rfl
  · show (Lib.join (xs.map (·.data.toList)) [10]).length ≤ _
    omega
set_option maxHeartbeats 4000000 in
set_option maxRecDepth 100000 in
theorem iRC_any (s : ByteArray) (a b : Int) (w : World) (hs : s.size ≤ maxLen) (hM : ML w) :
    Calls Tryd.prog 15 #[.string s, .int .i64 a, .int .i64 b] w fun e w' => e = .returned (.string (rtC s a b)) ∧ Below w.heap.size w w' := by
  have hs' := hs
  unfold maxLen at hs'
  have mixed : Tryd.prog.follows .mixedOrders = true := by kernel_rfl
  cases hv : valid s.data.toList
  · have hr : rtC s a b = ⟨#[]⟩ := by unfold rtC; rw [if_neg (by simp [hv])]
    rw [hr]
    go_enter Tryd.func15, Tryd.ntmps15
    go_wp2_with fail
    refine (iTV_any _ _ hs).mono ?_
    rintro e w' ⟨rfl, rfl⟩
    go_wp2_with fail
    go_ret
    exact ⟨rfl, Below.refl _ _⟩
  cases hok : rcOk s a b
  · have hr : rtC s a b = s := by unfold rtC; rw [if_pos hv, if_neg (by simp [hok])]
    rw [hr]
    unfold rcOk at hok
    cases hp : place s a
    · go_enter Tryd.func15, Tryd.ntmps15
      go_wp2_with fail
      refine (iTV_any _ _ hs).mono ?_
      rintro e w' ⟨rfl, rfl⟩
      go_wp2_with fail
      refine (iPl_any _ _ _ hs).mono ?_
      rintro e w' ⟨rfl, rfl⟩
      go_wp2_with fail
      go_ret
      exact ⟨rfl, Below.refl _ _⟩
    · have hq : place s b = false := by rw [hp] at hok; simpa using hok
      go_enter Tryd.func15, Tryd.ntmps15
      go_wp2_with fail
      refine (iTV_any _ _ hs).mono ?_
      rintro e w' ⟨rfl, rfl⟩
      go_wp2_with fail
      refine (iPl_any _ _ _ hs).mono ?_
      rintro e w' ⟨rfl, rfl⟩
      go_wp2_with fail
      refine (iPl_any _ _ _ hs).mono ?_
      rintro e w' ⟨rfl, rfl⟩
      go_wp2_with fail
      go_ret
      exact ⟨rfl, Below.refl _ _⟩
  · obtain ⟨f, t, x, y, h1, h2, h3, h4, hft, htc, hxy, hy, h120, _, hpa, hpb, hL⟩ := rc_nat hok
    have hr : rtC s a b = joinN (rcU s x y f (t + 1)) := by
      unfold rtC
      rw [if_pos hv, if_pos hok, h1, h2, h3, h4]; rfl
    rw [hr]
    have hcor := fun W => corners_any s a b W hs
    rw [h1, h2, h3, h4] at hcor
    have hlns := fun W h => iLs_any s W (by omega) h
    rw [← rcU_start s x y f] at hlns
    have hul := fun i => rcU_len s x y f i
    have hat : ∀ i, f ≤ i → i ≤ t → (rcU s x y f i)[i]? = some (lineS s i) ∧ (lineS s i).size ≤ 120 ∧ (rcU s x y f i).set i (cutLn (lineS s i) x y) = rcU s x y f (i + 1) := fun i hi1 hi2 => by
      refine ⟨by rw [rcU_at s x y f i (show i ≤ cntN s s.size by omega), if_neg (by omega)], ?_, rcU_step s x y f i hi1 (by omega)⟩
      rw [lineS_size (show i ≤ cntN s s.size by omega)]
      have := (eol_spec s (ls_ok (show i ≤ cntN s s.size by omega)).1).2.1
      omega
    have hjs : (joinN (rcU s x y f (t + 1))).size ≤ 120 := by
      have := rcU_size (s := s) hxy (show f ≤ t + 1 by omega) (show t + 1 ≤ cntN s s.size + 1 by omega)
      omega
    have hP1 := fun W => iPl_any s a W hs
    have hP2 := fun W => iPl_any s b W hs
    rw [hpa] at hP1
    rw [hpb] at hP2
    have hTV := fun W => iTV_any s W hs
    rw [hv] at hTV
    have hcb := cnt_le s s.size
    have hnb : cntN s s.size + 1 ≤ 121 := by omega
    have htn : t + 1 ≤ cntN s s.size + 1 := by omega
    generalize cntN s s.size + 1 = n at *
    have HU := Lib.hid hul
    have HJ := Lib.hid hjs
    have H1 := Lib.hid hcor
    have H2 := Lib.hid hlns
    have HP1 := Lib.hid hP1
    have HP2 := Lib.hid hP2
    have HTV := Lib.hid hTV
    have HAT := Lib.hid hat
    clear hcor hlns hP1 hP2 hTV hat hL h1 h2 h3 h4 hpa hpb hv hok hr hul hjs hcb htc
    go_enter Tryd.func15, Tryd.ntmps15
    go_wp2_with fail
    refine (HTV.out _).mono ?_
    rintro e w' ⟨rfl, rfl⟩
    go_wp2_with fail
    refine (HP1.out _).mono ?_
    rintro e w' ⟨rfl, rfl⟩
    go_wp2_with fail
    refine (HP2.out _).mono ?_
    rintro e w' ⟨rfl, rfl⟩
    go_wp2_with fail
    refine (H1.out _).mono ?_
    rintro e W1 ⟨rfl, q1, rfl⟩
    go_wp2_with fail
    refine (H2.out _ (hM.drewN _)).mono ?_
    rintro e W2 ⟨A, c, rfl, ho, hb⟩
    rw [HU.out f] at ho ⊢
    obtain ⟨g, rfl, hcap⟩ : ∃ g, A = some ⟨g, 0, none⟩ ∧ n ≤ c := by
      rcases ho.2 with ⟨e, h1⟩ | ⟨g', c', cur, e, _, _, h4, _⟩
      · omega
      · injection e with e1 _ e3
        exact ⟨g', e1, by omega⟩
    have hbx : Below w.heap.size w W2 := (below_drewN (Below.refl w.heap.size w) q1).trans (hb.mono (Nat.le_refl _))
    have hgB := (ho.lt g rfl).1
    have HO := Lib.hid ho
    have HBX := Lib.hid hbx
    clear ho hb hbx
    go_wp2_with fail
    go_loopw [12, 13] (fun iv lv wr => ∃ i : Nat, f ≤ i ∧ i ≤ t + 1 ∧ iv = .int .i64 i ∧ wr.ownsRow w.heap.size 9 1 (.slice (some ⟨g, 0, none⟩) n c) n (strVals (rcU s x y f i)) ∧ Below w.heap.size w wr) (fun iv _ _ => t + 1 - (intOf iv).toNat)
    case atStart => exact ⟨f, Nat.le_refl _, by omega, rfl, own_le HO.out (Nat.le_refl _), HBX.out⟩
    case round =>
      obtain ⟨i, hi1, hi2, rfl, hown, hbw⟩ := hrel
      have hi0 : (0 : Int) ≤ (i : Int) := by omega
      by_cases hit : i ≤ t
      · obtain ⟨g1, g2, g3⟩ := HAT.out i hi1 hit
        have hin : (i : Int) < (n : Int) := by omega
        have hit' : (i : Int) ≤ (t : Int) := by omega
        have hcell : wr.cell? ⟨g, i, none⟩ = some (.string (lineS s i)) := (hown.cellAt i (by omega)).trans (by rw [strVals, List.getElem?_map, g1]; rfl)
        have hfz := hown.frozenAt i
        have hst := (hown.stored i (.string (cutLn (lineS s i) x y))).1
        have e1 : (strVals (rcU s x y f i)).set i (.string (cutLn (lineS s i) x y)) = strVals (rcU s x y f (i + 1)) := by rw [← g3]; simp [strVals, List.map_set]
        rw [e1] at hst
        have hbf := hbw.setCell (p := ⟨g, i, none⟩) hgB (.string (cutLn (lineS s i) x y))
        unfold cutLn at hst hbf
        generalize lineS s i = z at *
        obtain ⟨p, hp⟩ : ∃ p, p = min x z.size := ⟨_, rfl⟩
        obtain ⟨q, hq⟩ : ∃ q, q = min y z.size := ⟨_, rfl⟩
        rw [← hp, ← hq] at hst hbf
        have hp' : min (x : Int) (z.size : Int) = (p : Int) := by omega
        have hq' : min (y : Int) (z.size : Int) = (q : Int) := by omega
        have hp0 : (0 : Int) ≤ (p : Int) := by omega
        have hpz : (p : Int) ≤ (z.size : Int) := by omega
        have hq0 : (0 : Int) ≤ (q : Int) := by omega
        have hqz : (q : Int) ≤ (z.size : Int) := by omega
        have HT := Lib.hid (And.intro hst hbf)
        clear hst hbf g1 g3 e1 hown hp hq hbw
        go_wp2_with fail
        refine wp_region_last (C := fun w' => ∃ m, w' = wr.drewN m) (l := [_, _, _, _, _, _, _, _, _, _, _, _, _, _, _, _]) (s := _) rfl mixed (by kernel_rfl) ⟨1, rfl⟩ ?_
        repeat (go_big_quiet_step (fail))
        refine wpQuiet_nil ?_
        rintro _ ⟨m, rfl⟩
        go_simp
        go_wp2_with fail
        go_roundw
        case rel => exact ⟨i + 1, by omega, by omega, by go_num, HT.out.1, below_drewN HT.out.2 m⟩
        case measure => (simp [intOf] <;> omega)
      · obtain rfl : i = t + 1 := by omega
        have hit' : decide (((t + 1 : Nat) : Int) ≤ (t : Int)) = false := by simp; omega
        have hj := join_own hown (HU.out _) hcap HJ.out
        have HJN := Lib.hid hj
        have HB2 := Lib.hid hbw
        clear hj hown hbw
        go_wp2_with fail
        refine HJN.out.mono ?_
        rintro e W3 ⟨rfl, hb3⟩
        go_wp2_with fail
        go_ret
        exact ⟨rfl, HB2.out.trans (hb3.mono HB2.out.size)⟩
set_option maxHeartbeats 4000000 in
set_option maxRecDepth 100000 in
theorem sRC_any (s : ByteArray) (a b : Int) (w : World) (hs : s.size ≤ maxLen) :
    Calls Tryd.prog 14 #[.string s, .int .i64 a, .int .i64 b] w fun e w' => e = .returned (.string (rtC s a b)) ∧ Below w.heap.size w w' := by
  have hs' := hs
  unfold maxLen at hs'
  have mixed : Tryd.prog.follows .mixedOrders = true := by kernel_rfl
  cases hv : valid s.data.toList
  · have hr : rtC s a b = ⟨#[]⟩ := by unfold rtC; rw [if_neg (by simp [hv])]
    rw [hr]
    go_enter Tryd.func14, Tryd.ntmps14
    go_wp2_with fail
    refine (sTV_any _ _ hs).mono ?_
    rintro e w' ⟨rfl, rfl⟩
    go_wp2_with fail
    go_ret
    exact ⟨rfl, Below.refl _ _⟩
  cases hok : rcOk s a b
  · have hr : rtC s a b = s := by unfold rtC; rw [if_pos hv, if_neg (by simp [hok])]
    rw [hr]
    have hx := (rc_no hok).2
    have hc1 := fun W => sCO_any s a W hs
    have hc2 := fun W => sCO_any s b W hs
    generalize coI s a = ca at *
    generalize coI s b = cb at *
    have H1 := Lib.hid hc1
    have H2 := Lib.hid hc2
    clear hc1 hc2 hok hr
    go_enter Tryd.func14, Tryd.ntmps14
    go_wp2_with fail
    refine (sTV_any _ _ hs).mono ?_
    rintro e w' ⟨rfl, rfl⟩
    go_wp2_with fail
    refine (H1.out _).mono ?_
    rintro e w' ⟨rfl, rfl⟩
    go_wp2_with fail
    refine (H2.out _).mono ?_
    rintro e w' ⟨rfl, rfl⟩
    go_wp2_with fail
    refine (H1.out _).mono ?_
    rintro e w' ⟨rfl, rfl⟩
    go_wp2_with fail
    refine (H2.out _).mono ?_
    rintro e w' ⟨rfl, rfl⟩
    go_wp2_with fail
    go_ret
    exact ⟨rfl, Below.refl _ _⟩
  · obtain ⟨f, t, x, y, h1, h2, h3, h4, hft, htc, hxy, hy, h120, _, hpa, hpb, hL⟩ := rc_nat hok
    have hr : rtC s a b = joinN (rcU s x y f (t + 1)) := by
      unfold rtC
      rw [if_pos hv, if_pos hok, h1, h2, h3, h4]; rfl
    rw [hr]
    have hc1 := fun W => sCO_any s a W hs
    have hc2 := fun W => sCO_any s b W hs
    have hc3 := fun W => sLO_any s a W hs
    have hc4 := fun W => sLO_any s b W hs
    have hlns := fun W => sLns_any s W hs hv
    have hulo := fun i => rcU_ok (s := s) hv x y f i
    rw [← rcU_start s x y f] at hlns
    have hul := fun i => rcU_len s x y f i
    have hat : ∀ i, f ≤ i → i ≤ t → (rcU s x y f i)[i]? = some (lineS s i) ∧ (lineS s i).size ≤ 120 ∧ (rcU s x y f i).set i (cutLn (lineS s i) x y) = rcU s x y f (i + 1) := fun i hi1 hi2 => by
      refine ⟨by rw [rcU_at s x y f i (show i ≤ cntN s s.size by omega), if_neg (by omega)], ?_, rcU_step s x y f i hi1 (by omega)⟩
      rw [lineS_size (show i ≤ cntN s s.size by omega)]
      have := (eol_spec s (ls_ok (show i ≤ cntN s s.size by omega)).1).2.1
      omega
    have hjs : (joinN (rcU s x y f (t + 1))).size ≤ 120 := by
      have := rcU_size (s := s) hxy (show f ≤ t + 1 by omega) (show t + 1 ≤ cntN s s.size + 1 by omega)
      omega
    have hTV := fun W => sTV_any s W hs
    rw [hv] at hTV
    have hcb := cnt_le s s.size
    have hnb : cntN s s.size + 1 ≤ 121 := by omega
    have htn : t + 1 ≤ cntN s s.size + 1 := by omega
    generalize cntN s s.size + 1 = n at *
    generalize coI s a = ca at *
    generalize coI s b = cb at *
    generalize loI s a = la at *
    generalize loI s b = lb at *
    have HU := Lib.hid hul
    have HJ := Lib.hid hjs
    have H1 := Lib.hid hc1
    have H2 := Lib.hid hc2
    have H3 := Lib.hid hc3
    have H4 := Lib.hid hc4
    have HLN := Lib.hid hlns
    have HUO := Lib.hid hulo
    have HTV := Lib.hid hTV
    have HAT := Lib.hid hat
    clear hc1 hc2 hc3 hc4 hlns hulo hTV hat hL hpa hpb hv hok hr hul hjs hcb htc
    go_enter Tryd.func14, Tryd.ntmps14
    go_wp2_with fail
    refine (HTV.out _).mono ?_
    rintro e w' ⟨rfl, rfl⟩
    go_wp2_with fail
    refine (H1.out _).mono ?_
    rintro e w' ⟨rfl, rfl⟩
    go_wp2_with fail
    refine (H2.out _).mono ?_
    rintro e w' ⟨rfl, rfl⟩
    go_wp2_with fail
    refine (H1.out _).mono ?_
    rintro e w' ⟨rfl, rfl⟩
    go_wp2_with fail
    refine (H2.out _).mono ?_
    rintro e w' ⟨rfl, rfl⟩
    go_wp2_with fail
    refine (HLN.out _).mono ?_
    rintro e W2 ⟨A, c, rfl, ho, hb⟩
    rw [HU.out f] at ho ⊢
    obtain ⟨g, rfl, hcap⟩ : ∃ g, A = some ⟨g, 0, none⟩ ∧ n ≤ c := by
      rcases ho.2 with ⟨e, h1⟩ | ⟨g', c', cur, e, _, _, h4, _⟩
      · omega
      · injection e with e1 _ e3
        exact ⟨g', e1, by omega⟩
    have hbx : Below w.heap.size w W2 := hb
    have hgB := (ho.lt g rfl).1
    have HO := Lib.hid ho
    have HBX := Lib.hid hbx
    clear ho hb hbx
    go_wp2_with fail
    refine (H3.out _).mono ?_
    rintro e w' ⟨rfl, rfl⟩
    go_wp2_with fail
    refine (H4.out _).mono ?_
    rintro e w' ⟨rfl, rfl⟩
    go_wp2_with fail
    go_loopw [10, 11] (fun iv lv wr => ∃ i : Nat, f ≤ i ∧ i ≤ t + 1 ∧ iv = .int .i64 i ∧ wr.ownsRow w.heap.size 9 1 (.slice (some ⟨g, 0, none⟩) n c) n (strVals (rcU s x y f i)) ∧ Below w.heap.size w wr) (fun iv _ _ => t + 1 - (intOf iv).toNat)
    case atStart => exact ⟨f, Nat.le_refl _, by omega, rfl, own_le HO.out (Nat.le_refl _), HBX.out⟩
    case round =>
      obtain ⟨i, hi1, hi2, rfl, hown, hbw⟩ := hrel
      have hi0 : (0 : Int) ≤ (i : Int) := by omega
      by_cases hit : i ≤ t
      · obtain ⟨g1, g2, g3⟩ := HAT.out i hi1 hit
        have hin : (i : Int) < (n : Int) := by omega
        have hit' : (i : Int) ≤ (t : Int) := by omega
        have hcell : wr.cell? ⟨g, i, none⟩ = some (.string (lineS s i)) := (hown.cellAt i (by omega)).trans (by rw [strVals, List.getElem?_map, g1]; rfl)
        have hfz := hown.frozenAt i
        have hst := (hown.stored i (.string (cutLn (lineS s i) x y))).1
        have e1 : (strVals (rcU s x y f i)).set i (.string (cutLn (lineS s i) x y)) = strVals (rcU s x y f (i + 1)) := by rw [← g3]; simp [strVals, List.map_set]
        rw [e1] at hst
        have hbf := hbw.setCell (p := ⟨g, i, none⟩) hgB (.string (cutLn (lineS s i) x y))
        unfold cutLn at hst hbf
        generalize lineS s i = z at *
        obtain ⟨p, hp⟩ : ∃ p, p = min x z.size := ⟨_, rfl⟩
        obtain ⟨q, hq⟩ : ∃ q, q = min y z.size := ⟨_, rfl⟩
        rw [← hp, ← hq] at hst hbf
        have hp' : min (z.size : Int) (x : Int) = (p : Int) := by omega
        have hq' : min (z.size : Int) (y : Int) = (q : Int) := by omega
        have hp0 : (0 : Int) ≤ (p : Int) := by omega
        have hpz : (p : Int) ≤ (z.size : Int) := by omega
        have hq0 : (0 : Int) ≤ (q : Int) := by omega
        have hqz : (q : Int) ≤ (z.size : Int) := by omega
        have HT := Lib.hid (And.intro hst hbf)
        clear hst hbf g1 g3 e1 hown hp hq hbw
        go_wp2_with fail
        refine (H3.out _).mono ?_
        rintro e w' ⟨rfl, rfl⟩
        go_wp2_with fail
        refine (H4.out _).mono ?_
        rintro e w' ⟨rfl, rfl⟩
        go_wp2_with fail
        refine wp_region_last (C := fun w' => ∃ m, w' = wr.drewN m) (l := [_, _, _, _, _, _, _, _, _, _, _, _, _, _, _, _, _, _, _, _]) (s := _) rfl mixed (by kernel_rfl) ⟨1, rfl⟩ ?_
        repeat (go_big_quiet_step (fail))
        refine wpQuiet_nil ?_
        rintro _ ⟨m, rfl⟩
        go_simp
        go_wp2_with fail
        go_roundw
        case rel => exact ⟨i + 1, by omega, by omega, by go_num, HT.out.1, below_drewN HT.out.2 m⟩
        case measure => (simp [intOf] <;> omega)
      · obtain rfl : i = t + 1 := by omega
        have hit' : decide (((t + 1 : Nat) : Int) ≤ (t : Int)) = false := by simp; omega
        have hrw := Row.of_own hown
        have HB2 := Lib.hid hbw
        have hlt := sLT_any (some ⟨g, 0, none⟩) n c (rcU s x y f (t + 1)) wr hrw (HU.out _) (by omega) (HUO.out _) HJ.out
        have HLT := Lib.hid hlt
        clear hlt hown hbw hrw
        go_wp2_with fail
        refine (H3.out _).mono ?_
        rintro e w' ⟨rfl, rfl⟩
        go_wp2_with fail
        refine (H4.out _).mono ?_
        rintro e w' ⟨rfl, rfl⟩
        go_wp2_with fail
        refine HLT.out.mono ?_
        rintro e w' ⟨rfl, rfl⟩
        go_wp2_with fail
        go_ret
        exact ⟨rfl, HB2.out⟩
end Go.Proofs.YthcijegcnecnmaaDoor
