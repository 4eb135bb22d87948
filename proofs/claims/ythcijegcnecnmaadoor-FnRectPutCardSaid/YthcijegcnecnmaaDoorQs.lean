/- The contract of the reference's RectPut (printed by gen_qs.py). -/
import Derived.Test.YthcijegcnecnmaaDoorQr
set_option linter.unusedVariables false
set_option linter.unusedSimpArgs false
namespace Go.Proofs.YthcijegcnecnmaaDoor
open Go.RowKit
def cellLen (w : World) (a : Addr) : Nat := match w.cell? a with | some (.string z) => z.size | _ => 0
theorem endL_mem : ∀ {l : List ByteArray} {z : ByteArray}, z ∈ l → allOk (endL l) = true → allOk z.data.toList = true
  | x :: l, z, hz, h => by
    rw [endL_cons, allOk_app, allOk_app, Bool.and_eq_true, Bool.and_eq_true] at h
    rcases List.mem_cons.1 hz with rfl | hz
    · exact h.1.1
    · exact endL_mem hz h.2
theorem lens_mem : ∀ {l : List ByteArray} {z : ByteArray}, z ∈ l → z.size ≤ lens l
  | x :: l, z, hz => by
    have e : lens (x :: l) = x.size + lens l := by simp [lens]
    rcases List.mem_cons.1 hz with rfl | hz
    · omega
    · have := lens_mem hz; omega
theorem rp_valid {s : ByteArray} {p : Int} {ps : List ByteArray} (hp : place s p = true) (h : valid (rpO s p ps).data.toList = true) : ∀ y ∈ ps, valid y.data.toList = true := by
  intro y hy
  obtain ⟨k, hk, rfl⟩ := List.getElem_of_mem hy
  obtain ⟨pn, _, hn, hlo, hco, hcn⟩ := pl_nat hp
  unfold rpO at h
  rw [hlo, hco, Int.toNat_natCast, Int.toNat_natCast] at h
  have hfl : cntN s pn ≤ (linesL s).length := by rw [linesL_len]; omega
  have hat := putG_at (c := pn - bolN s pn) ps (cntN s pn) (linesL s) hfl k hk
  have hm := List.mem_of_getElem? hat
  have hne : putG (pn - bolN s pn) (cntN s pn) (linesL s) ps ≠ [] := List.ne_nil_of_mem hm
  have hz := joinN_size hne
  have hs := valid_size h
  have hl := lens_mem hm
  have ha : allOk (joinN (putG (pn - bolN s pn) (cntN s pn) (linesL s) ps)).data.toList = true := by unfold valid at h; rw [Bool.and_eq_true] at h; exact h.1
  have he : allOk (endL (putG (pn - bolN s pn) (cntN s pn) (linesL s) ps)) = true := by rw [endL_join hne, allOk_app, ha]; decide
  have ho := endL_mem hm he
  have hlen : 0 < (putG (pn - bolN s pn) (cntN s pn) (linesL s) ps).length := List.length_pos_of_mem hm
  rw [putLn_size] at hl
  unfold putLn at ho
  rw [ByteArray.data_append, Array.toList_append, ByteArray.data_append, Array.toList_append, allOk_app, allOk_app, Bool.and_eq_true, Bool.and_eq_true] at ho
  unfold valid
  rw [ho.1.2, Bool.true_and]
  simp
  omega
theorem rp_bad {s : ByteArray} {p : Int} {ps : List ByteArray} (hv : valid s.data.toList = true) {y : ByteArray} (hy : y ∈ ps) (h : valid y.data.toList = false ∨ nls y.data.toList ≠ 0) : rpB s p ps = false ∧ rpS s p ps = s := by
  have hb : rpB s p ps = false := by
    cases hh : rpB s p ps
    · rfl
    · exfalso
      unfold rpB at hh
      rw [Bool.and_eq_true, Bool.and_eq_true] at hh
      rcases h with h | h
      · rw [rp_valid hh.1.1 hh.2 y hy] at h; cases h
      · exact h (noNl_iff.1 hh.1.2 y hy)
  exact ⟨hb, by unfold rpS; rw [if_pos hv, hb]; rfl⟩
set_option maxHeartbeats 4000000 in
set_option maxRecDepth 100000 in
theorem sL10_any (A : Option Addr) (n c : Nat) (ls : List ByteArray) (w : World) (h : Row w w.heap.size A (strVals ls)) (hl : ls.length = n) (hn : n ≤ 1000) (hsz : (joinN ls).size ≤ 1000000) :
    Calls Tryd.prog 49 #[.slice A n c] w fun e w' => e = .returned (.string (joinN ls)) ∧ w = w' := by
  have hpre : ∀ k, 0 < k → k ≤ n → (joinN (ls.take k)).size ≤ 1000000 := fun k hk hkn => by
    have h1 := joinN_size (l := ls) (by intro e; rw [e] at hl; simp at hl; omega)
    have h2 := joinN_size (l := ls.take k) (by intro e; have := congrArg List.length e; rw [List.length_take, List.length_nil] at this; omega)
    have h3 : lens ls = lens (ls.take k) + lens (ls.drop k) := by rw [← lens_app, List.take_append_drop]
    rw [List.length_take] at h2
    omega
  have hnx : ∀ k (hk : k < ls.length), joinN (ls.take (k + 1)) = if k = 0 then ls[k] else joinN (ls.take k) ++ ⟨#[10]⟩ ++ ls[k] := fun k hk => by
    rw [List.take_succ_eq_append_getElem hk]
    split
    · rename_i h; subst h; rw [List.take_zero, List.nil_append, joinN_one]
    · rename_i h
      rw [joinN_snoc _ (by intro e; have := congrArg List.length e; rw [List.length_take, List.length_nil] at this; omega)]
  have HPRE := Lib.hid hpre
  have HNX := Lib.hid hnx
  have HEND : Hid (joinN (ls.take n) = joinN ls) := Lib.hid (by rw [List.take_of_length_le (by omega)])
  clear hpre hnx hsz
  go_enter Tryd.func49, Tryd.ntmps49
  go_wp2_with fail
  go_loopw [3, 4] (fun ov kv wr => ∃ k : Nat, k ≤ n ∧ kv = .int .i64 k ∧ ov = .string (joinN (ls.take k)) ∧ wr = w) (fun _ kv _ => n - (intOf kv).toNat)
  case atStart => exact ⟨0, Nat.zero_le _, rfl, rfl, rfl⟩
  case round =>
    obtain ⟨k, hk, rfl, rfl, rfl⟩ := hrel
    by_cases hkn : k < n
    · have hkl : k < ls.length := by omega
      obtain ⟨g, o, rfl, hgb, c0⟩ := h.str hkl
      have hx := HNX.out k hkl
      have hp1 := HPRE.out (k + 1) (by omega) (by omega)
      have hk' : (k : Int) < (n : Int) := by omega
      have hk0 : (0 : Int) ≤ (k : Int) := by omega
      generalize (ls[k]'hkl) = z at *
      rcases Nat.eq_zero_or_pos k with rfl | hkp
      · rw [if_pos rfl] at hx
        have HX := Lib.hid hx
        have hj0 : joinN (ls.take 0) = ⟨#[]⟩ := rfl
        have hzs : z.size ≤ 1000000 := by rw [← hx]; exact hp1
        rw [hj0]
        clear hx hp1 hj0
        simp only [Nat.add_zero] at c0
        go_wp2_with fail
        go_roundw
        case rel => exact ⟨1, by omega, by go_num, by rw [HX.out, nil_app], by first | rfl | trivial⟩
        case measure => (simp [intOf] <;> omega)
      · rw [if_neg (by omega)] at hx
        have HX := Lib.hid hx
        rw [hx] at hp1
        generalize joinN (ls.take k) = oo at *
        have hsz : oo.size + 1 + z.size ≤ 1000000 := by rw [ByteArray.size_append, ByteArray.size_append] at hp1; exact hp1
        have hkp' : (0 : Int) < (k : Int) := by omega
        clear hx hp1
        go_wp2_with fail
        go_roundw
        case rel => exact ⟨k + 1, by omega, by go_num, by rw [HX.out], by first | rfl | trivial⟩
        case measure => (simp [intOf] <;> omega)
    · obtain rfl : k = n := by omega
      rw [HEND.out]
      go_wp2_with fail
      go_ret
      exact ⟨rfl, rfl⟩
set_option maxHeartbeats 16000000 in
set_option maxRecDepth 100000 in
theorem sRP_any (s : ByteArray) (p : Int) (Ar : Option Addr) (n c0 : Nat) (ps : List ByteArray) (w : World) (hs : s.size ≤ maxLen) (h : Row w w.heap.size Ar (strVals ps)) (hpn : ps.length = n) (hn : n ≤ 120) (hz : ∀ x ∈ ps, x.size ≤ 200) :
    Calls Tryd.prog 18 #[.string s, .int .i64 p, .slice Ar n c0] w fun e w' => e = .returned (.tuple #[.string (rpS s p ps), .bool (rpB s p ps)]) ∧ Below w.heap.size w w' := by
  have hs' := hs
  unfold maxLen at hs'
  have mixed : Tryd.prog.follows .mixedOrders = true := by kernel_rfl
  have hTV := fun W => sTV_any s W hs
  have hCO := fun W => sCO_any s p W hs
  cases hv : valid s.data.toList
  · have hpf : place s p = false := by unfold place; rw [hv]; rfl
    have r1 : rpS s p ps = ⟨#[]⟩ := by unfold rpS; rw [if_neg (by simp [hv])]
    have r2 : rpB s p ps = false := by unfold rpB; rw [hpf]; rfl
    rw [r1, r2]
    rw [hv] at hTV
    have HTV := Lib.hid hTV
    clear hTV hCO
    go_enter Tryd.func18, Tryd.ntmps18
    go_wp2_with fail
    refine (HTV.out _).mono ?_
    rintro e w' ⟨rfl, rfl⟩
    go_wp2_with fail
    go_ret2
    exact ⟨rfl, Below.refl _ _⟩
  cases hpp : place s p
  · have r2 : rpB s p ps = false := by unfold rpB; rw [hpp]; rfl
    have r1 : rpS s p ps = s := by unfold rpS; rw [if_pos hv, r2]; rfl
    have hc1 : coI s p = -1 := by unfold coI; rw [if_neg (by simp [hpp])]
    rw [r1, r2]
    rw [hv] at hTV
    rw [hc1] at hCO
    have HTV := Lib.hid hTV
    have HCO := Lib.hid hCO
    clear hTV hCO
    go_enter Tryd.func18, Tryd.ntmps18
    go_wp2_with fail
    refine (HTV.out _).mono ?_
    rintro e w' ⟨rfl, rfl⟩
    go_wp2_with fail
    refine (HCO.out _).mono ?_
    rintro e w' ⟨rfl, rfl⟩
    go_wp2_with fail
    go_ret2
    exact ⟨rfl, Below.refl _ _⟩
  obtain ⟨pn, hpe, hpsz, hlo, hco, hcn⟩ := pl_nat hpp
  have h120 := valid_size hv
  have hLO := fun W => sLO_any s p W hs
  rw [hlo] at hLO
  rw [hco] at hCO
  have hlns := fun W => sLns_any s W hs hv
  obtain ⟨G, hG0, hGn, hGl, hGj, hGs⟩ := put_steps (s := s) (f := cntN s pn) (col := pn - bolN s pn) (ps := ps) hv hcn (by omega) (by omega) hz
  have hR : rpO s p ps = joinN (G ps.length) := by
    unfold rpO
    rw [hlo, hco, Int.toNat_natCast, Int.toNat_natCast, hGn]
  have hbad : ∀ k (hk : k < ps.length), (valid (ps[k]).data.toList = false ∨ nls (ps[k]).data.toList ≠ 0) → rpB s p ps = false ∧ rpS s p ps = s := fun k hk h => rp_bad hv (List.getElem_mem hk) h
  have hgood : noNl ps = true → rpB s p ps = valid (joinN (G ps.length)).data.toList ∧ rpS s p ps = if valid (joinN (G ps.length)).data.toList = true then joinN (G ps.length) else s := fun h => by
    have r2 : rpB s p ps = valid (joinN (G ps.length)).data.toList := by unfold rpB; rw [hpp, h, hR]; rfl
    exact ⟨r2, by unfold rpS; rw [if_pos hv, r2, hR]⟩
  have hJV := fun W => sTV_any (joinN (G ps.length)) W (by unfold maxLen; omega)
  have hpt := fun k (hk : k < ps.length) W => sTV_any (ps[k]) W (by have := hz _ (List.getElem_mem hk); unfold maxLen; omega)
  have hpm := fun k (hk : k < ps.length) W => sLM_any (ps[k]) W (by have := hz _ (List.getElem_mem hk); unfold maxLen; omega)
  rw [← hG0] at hlns
  rw [hv] at hTV
  have hfb : cntN s pn ≤ 121 := by have := cnt_le s pn; omega
  have hcb : pn - bolN s pn ≤ 120 := by omega
  generalize cntN s pn = f at *
  generalize pn - bolN s pn = col at *
  clear hpe hpsz hlo hco hcn hR hGn hG0 hv hpp
  subst hpn
  have HTV := Lib.hid hTV
  have HLO := Lib.hid hLO
  have HCOL := Lib.hid hCO
  have HLN := Lib.hid hlns
  have HBAD := Lib.hid hbad
  have HGOOD := Lib.hid hgood
  have HJV := Lib.hid hJV
  have HGL := Lib.hid hGl
  have HGJ := Lib.hid hGj
  have HGS := Lib.hid hGs
  have HPT := Lib.hid hpt
  have HPM := Lib.hid hpm
  have HPS := Lib.hid (fun k (hk : k < ps.length) => hz _ (List.getElem_mem hk))
  clear hTV hLO hCO hlns hbad hgood hJV hGl hGj hGs hz hpt hpm
  obtain ⟨i0, hi, hz0, hz1, hz2⟩ := info_parts infoStr
  have hn120 : ¬ (120 : Int) < (ps.length : Int) := by omega
  go_enter Tryd.func18, Tryd.ntmps18
  go_wp2_with fail
  refine (HTV.out _).mono ?_
  rintro e w' ⟨rfl, rfl⟩
  go_wp2_with fail
  refine (HCOL.out _).mono ?_
  rintro e w' ⟨rfl, rfl⟩
  go_wp2_with fail
  refine (HLN.out _).mono ?_
  rintro e W1 ⟨A1, c1, rfl, ho1, hb1⟩
  have HO1 := Lib.hid ho1
  have HB1 := Lib.hid hb1
  clear ho1 hb1
  go_wp2_with fail
  go_loopw [9, 10] (fun ov iv wr => ∃ k : Nat, k ≤ ps.length ∧ iv = .int .i64 k ∧ Hid (noNl (ps.take k) = true) ∧ wr.ownsRow w.heap.size 9 1 ov (G k).length (strVals (G k)) ∧ Below w.heap.size w wr) (fun _ iv _ => ps.length - (intOf iv).toNat)
  case atStart => exact ⟨0, Nat.zero_le _, rfl, Lib.hid rfl, HO1.out, HB1.out⟩
  case round =>
    obtain ⟨k, hk, rfl, HNO0, hown, hbw⟩ := hrel
    have hBz : w.heap.size ≤ wr.heap.size := hbw.size
    obtain ⟨hl1, hl2⟩ := HGL.out k hk
    obtain ⟨A, c, rfl⟩ := own_form2 hown
    obtain ⟨g0, rfl, hcap⟩ : ∃ g, A = some ⟨g, 0, none⟩ ∧ (G k).length ≤ c := by
      rcases hown.2 with ⟨e, h1⟩ | ⟨g', c', cur, e, _, _, h4, _⟩
      · omega
      · injection e with e1 _ e3
        exact ⟨g', e1, by omega⟩
    by_cases hkn : k < ps.length
    · obtain ⟨gp, op, rfl, hgp, cp⟩ := (h.below hbw).str hkn
      obtain ⟨gq, oq, hgq, _, cp0⟩ := h.str hkn
      injection hgq with hgq
      injection hgq with hgq1 hgq2
      subst hgq1 hgq2
      have hpz := HPS.out k hkn
      obtain ⟨st1, st2⟩ := HGS.out k hkn
      have hpt := HPT.out k hkn
      have hpm := HPM.out k hkn
      have hbd := HBAD.out k hkn
      have hnn : nls (ps[k]'hkn).data.toList = 0 → noNl (ps.take (k + 1)) = true := fun h0 => by
        rw [List.take_succ_eq_append_getElem hkn]
        refine noNl_iff.2 fun y hy => ?_
        rcases List.mem_append.1 hy with hy | hy
        · exact noNl_iff.1 HNO0.out y hy
        · have e : y = ps[k]'hkn := by simpa using hy
          rw [e]; exact h0
      generalize (ps[k]'hkn) = part at *
      have hk' : (k : Int) < (ps.length : Int) := by omega
      have hk0 : (0 : Int) ≤ (k : Int) := by omega
      cases hvp : valid part.data.toList
      · rw [hvp] at hpt
        have HPTK := Lib.hid hpt
        have HR := Lib.hid (hbd (.inl hvp))
        clear hpt hpm hbd hnn st1 st2
        go_wp2_with fail
        refine (HPTK.out _).mono ?_
        rintro e w' ⟨rfl, rfl⟩
        go_wp2_with fail
        go_ret2
        exact ⟨by rw [HR.out.1, HR.out.2]; rfl, hbw⟩
      rw [hvp] at hpt
      have hlm : lmI part = 1 + (nls part.data.toList : Int) := by unfold lmI; rw [if_pos hvp]
      rw [hlm] at hpm
      have HPTK := Lib.hid hpt
      by_cases h0 : nls part.data.toList = 0
      · rw [h0] at hpm
        have HPMK := Lib.hid hpm
        have HNO := Lib.hid (hnn h0)
        obtain ⟨q, hq⟩ : ∃ q, f + k = q := ⟨_, rfl⟩
        rw [hq] at st1 st2
        have hfk : (f : Int) + (k : Int) = (q : Int) := by omega
        have hqb : q ≤ 300 := by omega
        have ST1 := Lib.hid st1
        have ST2 := Lib.hid st2
        clear hpt hpm hbd hnn h0 hvp hlm st1 st2 hq HNO0
        by_cases hlt : q < (G k).length
        · obtain ⟨z, hzM, hzs, hset⟩ := ST1.out hlt
          have hne : ((q : Int) == ((G k).length : Int)) = false := beq_eq_false_iff_ne.mpr (by omega)
          obtain ⟨ml, hml⟩ : ∃ m, (G k).length = m := ⟨_, rfl⟩
          obtain ⟨g, hg0⟩ : ∃ g, g = g0 := ⟨g0, rfl⟩
          subst hg0
          obtain ⟨wq, hwq⟩ : ∃ W, W = wr := ⟨wr, rfl⟩
          subst hwq
          have hMl := hml
          rw [hml] at hown hlt hne hl2 hcap ⊢
          obtain ⟨M, hMe⟩ : ∃ M, M = G k := ⟨_, rfl⟩
          rw [← hMe] at hown hzM hset hMl
          have hbq := hbw
          clear ST1 ST2 hml hMe hbw hl1
          go_wp2_with fail
          refine (HPTK.out _).mono ?_
          rintro e w' ⟨rfl, rfl⟩
          go_wp2_with fail
          refine (HPMK.out _).mono ?_
          rintro e w' ⟨rfl, rfl⟩
          go_wp2_with fail
          refine (HLO.out _).mono ?_
          rintro e w' ⟨rfl, rfl⟩
          have hgB := (hown.lt g rfl).1
          have hq0 : (0 : Int) ≤ (q : Int) := by omega
          have hqm : (q : Int) < (ml : Int) := by omega
          have hcc0 : (0 : Int) ≤ (col : Int) := by omega
          have HSET := Lib.hid hset
          have hMq : q < M.length := by omega
          have hzM2 : M.set q (z ++ spaces 0) = M := by
            have e : z ++ spaces 0 = z := ba_eq (by simp [spaces])
            rw [e]
            apply List.ext_getElem?
            intro j
            by_cases hj : q = j
            · subst hj; rw [List.getElem?_set_self (by omega), hzM]
            · rw [List.getElem?_set_ne hj]
          have hsetl : ∀ y, (M.set q y).length = ml := fun y => by rw [List.length_set]; exact hMl
          have hsetc : ∀ y, (strVals (M.set q y))[q]? = some (.string y) := fun y => by rw [strVals, List.getElem?_map, List.getElem?_set_self hMq]; rfl
          have hsets : ∀ y y', (strVals (M.set q y)).set q (.string y') = strVals (M.set q y') := fun y y' => by simp [strVals, List.map_set, List.set_set]
          rw [← hzM2] at hown
          have HOW := Lib.hid hown
          have HBQ := Lib.hid hbq
          have HSL := Lib.hid hsetl
          have HSC := Lib.hid hsetc
          have HSS := Lib.hid hsets
          clear hset hMl hzM hzM2 hown hbq hsetl hsetc hsets hMq
          go_wp2_with fail
          go_loopw [65] (fun _ wx => ∃ j : Nat, (j = 0 ∨ z.size + j ≤ col) ∧ wx.ownsRow w.heap.size 9 1 (.slice (some ⟨g, 0, none⟩) ml c) ml (strVals (M.set q (z ++ spaces j))) ∧ Below w.heap.size w wx) (fun _ wx => col - cellLen wx ⟨g, q, none⟩)
          case atStart => exact ⟨0, .inl rfl, HOW.out, HBQ.out⟩
          case round =>
            obtain ⟨j, hj, hownJ, hbJ⟩ := hrel
            obtain ⟨wt, hwt⟩ : ∃ W, W = wr := ⟨wr, rfl⟩
            subst hwt
            have hcell : wt.cell? ⟨g, q, none⟩ = some (.string (z ++ spaces j)) := (hownJ.cellAt q (by omega)).trans (HSC.out _)
            have hfz := hownJ.frozenAt q
            have hzl : (z ++ spaces j).size = z.size + j := by rw [ByteArray.size_append, spaces_size]
            have hcl : cellLen wt ⟨g, q, none⟩ = z.size + j := by unfold cellLen; rw [hcell]; exact hzl
            have hcp2 : wt.cell? ⟨gp, op + k, none⟩ = some (.string part) := (hbJ.cell (p := ⟨gp, op + k, none⟩) hgp).trans cp0
            by_cases hltj : z.size + j < col
            · have hsp : z ++ spaces j ++ ⟨#[32]⟩ = z ++ spaces (j + 1) := by
                apply ba_eq
                rw [ByteArray.data_append, Array.toList_append, ByteArray.data_append, Array.toList_append, ByteArray.data_append, Array.toList_append, spaces_list, spaces_list, List.append_assoc]
                congr 1
                exact (List.replicate_succ' (n := j) (a := (32 : UInt8))).symm
              have hst := (hownJ.stored q (.string (z ++ spaces (j + 1)))).1
              rw [HSS.out] at hst
              have hbt := hbJ.setCell (p := ⟨g, q, none⟩) hgB (.string (z ++ spaces (j + 1)))
              have hcl2 : cellLen (wt.setCell ⟨g, q, none⟩ (.string (z ++ spaces (j + 1)))) ⟨g, q, none⟩ = z.size + j + 1 := by
                unfold cellLen
                rw [(hst.cellAt q (by omega)).trans (HSC.out _)]
                show (z ++ spaces (j + 1)).size = _
                rw [ByteArray.size_append, spaces_size]; omega
              have HZ := Lib.hid (And.intro hst (And.intro hbt (And.intro hcl hcl2)))
              have hlti : ((z.size + j : Nat) : Int) < (col : Int) := by omega
              clear hst hbt hcl hcl2 hownJ hbJ
              have hzlb : (z ++ spaces j).size ≤ 400 := by omega
              generalize z ++ spaces j = y1 at *
              obtain ⟨y2, hy2⟩ : ∃ y, y = z ++ spaces (j + 1) := ⟨_, rfl⟩
              rw [← hy2] at hsp HZ
              have HY2 := Lib.hid hy2
              clear hy2
              have hlt2 : (y1.size : Int) < (col : Int) := by omega
              clear hzl
              go_wp2_with fail
              try rw [hsp]
              go_roundw
              case rel => exact ⟨j + 1, .inr (by omega), by rw [← HY2.out]; exact HZ.out.1, HZ.out.2.1⟩
              case measure => (first | (rw [HZ.out.2.2.1, HZ.out.2.2.2]; omega) | (simp only []; rw [HZ.out.2.2.1, HZ.out.2.2.2]; omega))
            · have hzz : z ++ spaces j = padS z col := by
                unfold padS
                rcases hj with rfl | hj
                · rw [show col - z.size = 0 by omega]
                · rw [show j = col - z.size by omega]
              have hcol : (z ++ spaces j).extract 0 col ++ part ++ (z ++ spaces j).extract col (z ++ spaces j).size = putLn z part col := by rw [hzz]; rfl
              have hst := (hownJ.stored q (.string (putLn z part col))).1
              rw [HSS.out, HSET.out] at hst
              have hlenG : (G (k + 1)).length = ml := by rw [← HSET.out]; exact HSL.out _
              have hbt := hbJ.setCell (p := ⟨g, q, none⟩) hgB (.string (putLn z part col))
              have HO := Lib.hid (And.intro hst hbt)
              have HCO := Lib.hid hcol
              have HLG := Lib.hid hlenG
              have hzlb : (z ++ spaces j).size ≤ 400 := by omega
              generalize z ++ spaces j = zz at *
              have hcl3 : (col : Int) ≤ (zz.size : Int) := by omega
              have hcl4 : ¬ (zz.size : Int) < (col : Int) := by omega
              clear hcol hzz hst hlenG hbt hownJ hbJ hcl hzl hj hltj HOW HBQ
              go_wp2_with fail
              refine wp_region_last (C := fun w' => ∃ m, w' = wt.drewN m) (l := [_, _, _, _, _, _, _, _, _, _, _, _, _, _, _, _, _, _, _, _, _]) (s := _) rfl mixed (by kernel_rfl) ⟨1, rfl⟩ ?_
              repeat (go_big_quiet_step (fail))
              refine wpQuiet_nil ?_
              rintro _ ⟨m, rfl⟩
              go_simp
              rw [HCO.out]
              go_wp2_with fail
              go_roundw
              case rel => exact ⟨k + 1, by omega, by go_num, HNO.out, by rw [HLG.out]; exact HO.out.1, below_drewN HO.out.2 m⟩
              case measure => (simp [intOf] <;> omega)
        · obtain ⟨hlq, hset⟩ := ST2.out hlt
          rw [hlq] at hown hl2 hcap ⊢
          have HB2 := Lib.hid hbw
          obtain ⟨L', hL'⟩ : ∃ M, M = G k := ⟨_, rfl⟩
          rw [← hL'] at hown hset hlq
          clear ST1 ST2 hbw hlt hl1 hL'
          go_wp2_with fail
          refine (HPTK.out _).mono ?_
          rintro e w' ⟨rfl, rfl⟩
          go_wp2_with fail
          refine (HPMK.out _).mono ?_
          rintro e w' ⟨rfl, rfl⟩
          go_wp2_with fail
          refine (HLO.out _).mono ?_
          rintro e w' ⟨rfl, rfl⟩
          go_wp2_with (first | (at_builtin; refine wpList_append_own _ rfl _ _ 22 rfl w.heap.size 9 i0 (.string .empty) 1 16 Tryd.underlying22 hi hz0 hz1 hz2 rfl (by decide) _ _ _ rfl (hown.alloc _) ⟨wr.heap.size, 0, none⟩ 1 1 [.string ⟨#[]⟩] rfl rfl (news1 _ _ _) (ones1 _) (by unfold maxLen; omega) (by omega) (by simp; omega) ?_))
          intro v' w1 hown' hgrow _
          have hbq := (HB2.out.alloc hBz (.cells #[.string ⟨#[]⟩] 9)).grown hgrow (by simp; omega) (fun j hj => ((hown.alloc (.cells #[.string ⟨#[]⟩] 9)).lt j hj).1)
          obtain ⟨A2, c2, rfl⟩ := own_form2 hown'
          obtain ⟨g, rfl, hcap2⟩ : ∃ g, A2 = some ⟨g, 0, none⟩ ∧ q + 1 ≤ c2 := by
            rcases hown'.2 with ⟨e, h1⟩ | ⟨g', c', cur, e, _, _, h4, _⟩
            · omega
            · injection e with e1 _ e3
              exact ⟨g', e1, by omega⟩
          have hzM : (L' ++ [(⟨#[]⟩ : ByteArray)])[q]? = some ⟨#[]⟩ := by rw [← hlq, List.getElem?_concat_length]
          have hMl : (L' ++ [(⟨#[]⟩ : ByteArray)]).length = q + 1 := by rw [List.length_append, hlq]; rfl
          have hapv : strVals L' ++ [.string ⟨#[]⟩] = strVals (L' ++ [(⟨#[]⟩ : ByteArray)]) := by simp [strVals]
          rw [hapv] at hown'
          have hzs : (⟨#[]⟩ : ByteArray).size ≤ 120 := Nat.zero_le _
          generalize L' ++ [(⟨#[]⟩ : ByteArray)] = M at *
          obtain ⟨wq, hwq⟩ : ∃ W, W = w1 := ⟨w1, rfl⟩
          subst hwq
          obtain ⟨ml, hml⟩ : ∃ m, q + 1 = m := ⟨_, rfl⟩
          have hlt : q < ml := by omega
          have hl3 : ml ≤ 400 := by omega
          rw [hml] at hown' hMl hcap2 ⊢
          obtain ⟨z, hz9⟩ : ∃ z : ByteArray, z = ⟨#[]⟩ := ⟨_, rfl⟩
          rw [← hz9] at hzM hzs hset
          clear hown hgrow HB2 hapv hz9 hml hlq hcap hl2
          have hown := hown'
          clear hown'
          have hgB := (hown.lt g rfl).1
          have hq0 : (0 : Int) ≤ (q : Int) := by omega
          have hqm : (q : Int) < (ml : Int) := by omega
          have hcc0 : (0 : Int) ≤ (col : Int) := by omega
          have HSET := Lib.hid hset
          have hMq : q < M.length := by omega
          have hzM2 : M.set q (z ++ spaces 0) = M := by
            have e : z ++ spaces 0 = z := ba_eq (by simp [spaces])
            rw [e]
            apply List.ext_getElem?
            intro j
            by_cases hj : q = j
            · subst hj; rw [List.getElem?_set_self (by omega), hzM]
            · rw [List.getElem?_set_ne hj]
          have hsetl : ∀ y, (M.set q y).length = ml := fun y => by rw [List.length_set]; exact hMl
          have hsetc : ∀ y, (strVals (M.set q y))[q]? = some (.string y) := fun y => by rw [strVals, List.getElem?_map, List.getElem?_set_self hMq]; rfl
          have hsets : ∀ y y', (strVals (M.set q y)).set q (.string y') = strVals (M.set q y') := fun y y' => by simp [strVals, List.map_set, List.set_set]
          rw [← hzM2] at hown
          have HOW := Lib.hid hown
          have HBQ := Lib.hid hbq
          have HSL := Lib.hid hsetl
          have HSC := Lib.hid hsetc
          have HSS := Lib.hid hsets
          clear hset hMl hzM hzM2 hown hbq hsetl hsetc hsets hMq
          go_wp2_with fail
          go_loopw [65] (fun _ wx => ∃ j : Nat, (j = 0 ∨ z.size + j ≤ col) ∧ wx.ownsRow w.heap.size 9 1 (.slice (some ⟨g, 0, none⟩) ml c2) ml (strVals (M.set q (z ++ spaces j))) ∧ Below w.heap.size w wx) (fun _ wx => col - cellLen wx ⟨g, q, none⟩)
          case atStart => exact ⟨0, .inl rfl, HOW.out, HBQ.out⟩
          case round =>
            obtain ⟨j, hj, hownJ, hbJ⟩ := hrel
            obtain ⟨wt, hwt⟩ : ∃ W, W = wr := ⟨wr, rfl⟩
            subst hwt
            have hcell : wt.cell? ⟨g, q, none⟩ = some (.string (z ++ spaces j)) := (hownJ.cellAt q (by omega)).trans (HSC.out _)
            have hfz := hownJ.frozenAt q
            have hzl : (z ++ spaces j).size = z.size + j := by rw [ByteArray.size_append, spaces_size]
            have hcl : cellLen wt ⟨g, q, none⟩ = z.size + j := by unfold cellLen; rw [hcell]; exact hzl
            have hcp2 : wt.cell? ⟨gp, op + k, none⟩ = some (.string part) := (hbJ.cell (p := ⟨gp, op + k, none⟩) hgp).trans cp0
            by_cases hltj : z.size + j < col
            · have hsp : z ++ spaces j ++ ⟨#[32]⟩ = z ++ spaces (j + 1) := by
                apply ba_eq
                rw [ByteArray.data_append, Array.toList_append, ByteArray.data_append, Array.toList_append, ByteArray.data_append, Array.toList_append, spaces_list, spaces_list, List.append_assoc]
                congr 1
                exact (List.replicate_succ' (n := j) (a := (32 : UInt8))).symm
              have hst := (hownJ.stored q (.string (z ++ spaces (j + 1)))).1
              rw [HSS.out] at hst
              have hbt := hbJ.setCell (p := ⟨g, q, none⟩) hgB (.string (z ++ spaces (j + 1)))
              have hcl2 : cellLen (wt.setCell ⟨g, q, none⟩ (.string (z ++ spaces (j + 1)))) ⟨g, q, none⟩ = z.size + j + 1 := by
                unfold cellLen
                rw [(hst.cellAt q (by omega)).trans (HSC.out _)]
                show (z ++ spaces (j + 1)).size = _
                rw [ByteArray.size_append, spaces_size]; omega
              have HZ := Lib.hid (And.intro hst (And.intro hbt (And.intro hcl hcl2)))
              have hlti : ((z.size + j : Nat) : Int) < (col : Int) := by omega
              clear hst hbt hcl hcl2 hownJ hbJ
              have hzlb : (z ++ spaces j).size ≤ 400 := by omega
              generalize z ++ spaces j = y1 at *
              obtain ⟨y2, hy2⟩ : ∃ y, y = z ++ spaces (j + 1) := ⟨_, rfl⟩
              rw [← hy2] at hsp HZ
              have HY2 := Lib.hid hy2
              clear hy2
              have hlt2 : (y1.size : Int) < (col : Int) := by omega
              clear hzl
              go_wp2_with fail
              try rw [hsp]
              go_roundw
              case rel => exact ⟨j + 1, .inr (by omega), by rw [← HY2.out]; exact HZ.out.1, HZ.out.2.1⟩
              case measure => (first | (rw [HZ.out.2.2.1, HZ.out.2.2.2]; omega) | (simp only []; rw [HZ.out.2.2.1, HZ.out.2.2.2]; omega))
            · have hzz : z ++ spaces j = padS z col := by
                unfold padS
                rcases hj with rfl | hj
                · rw [show col - z.size = 0 by omega]
                · rw [show j = col - z.size by omega]
              have hcol : (z ++ spaces j).extract 0 col ++ part ++ (z ++ spaces j).extract col (z ++ spaces j).size = putLn z part col := by rw [hzz]; rfl
              have hst := (hownJ.stored q (.string (putLn z part col))).1
              rw [HSS.out, HSET.out] at hst
              have hlenG : (G (k + 1)).length = ml := by rw [← HSET.out]; exact HSL.out _
              have hbt := hbJ.setCell (p := ⟨g, q, none⟩) hgB (.string (putLn z part col))
              have HO := Lib.hid (And.intro hst hbt)
              have HCO := Lib.hid hcol
              have HLG := Lib.hid hlenG
              have hzlb : (z ++ spaces j).size ≤ 400 := by omega
              generalize z ++ spaces j = zz at *
              have hcl3 : (col : Int) ≤ (zz.size : Int) := by omega
              have hcl4 : ¬ (zz.size : Int) < (col : Int) := by omega
              clear hcol hzz hst hlenG hbt hownJ hbJ hcl hzl hj hltj HOW HBQ
              go_wp2_with fail
              refine wp_region_last (C := fun w' => ∃ m, w' = wt.drewN m) (l := [_, _, _, _, _, _, _, _, _, _, _, _, _, _, _, _, _, _, _, _, _]) (s := _) rfl mixed (by kernel_rfl) ⟨1, rfl⟩ ?_
              repeat (go_big_quiet_step (fail))
              refine wpQuiet_nil ?_
              rintro _ ⟨m, rfl⟩
              go_simp
              rw [HCO.out]
              go_wp2_with fail
              go_roundw
              case rel => exact ⟨k + 1, by omega, by go_num, HNO.out, by rw [HLG.out]; exact HO.out.1, below_drewN HO.out.2 m⟩
              case measure => (simp [intOf] <;> omega)
      · have HPMK := Lib.hid hpm
        have HR := Lib.hid (hbd (.inr h0))
        have hx1 : ((1 : Int) + (nls part.data.toList : Int) == 1) = false := beq_eq_false_iff_ne.mpr (by omega)
        have hx2 : nls part.data.toList ≤ 200 := Nat.le_trans (nls_le _) (by rw [Array.length_toList]; exact hpz)
        clear hpt hpm hbd hnn st1 st2 hlm
        go_wp2_with fail
        refine (HPTK.out _).mono ?_
        rintro e w' ⟨rfl, rfl⟩
        go_wp2_with fail
        refine (HPMK.out _).mono ?_
        rintro e w' ⟨rfl, rfl⟩
        go_wp2_with fail
        all_goals (go_ret2; exact ⟨by rw [HR.out.1, HR.out.2]; rfl, hbw⟩)
    · obtain rfl : k = ps.length := by omega
      have hno := HNO0.out
      rw [List.take_length] at hno
      have HR := Lib.hid (HGOOD.out hno)
      have hrw := Row.of_own hown
      have hj := sL10_any (some ⟨g0, 0, none⟩) _ c (G ps.length) wr hrw rfl (by omega) HGJ.out
      have HJN := Lib.hid hj
      generalize joinN (G ps.length) = out at *
      clear hj hown hno hrw
      cases hvo : valid out.data.toList
      · rw [hvo] at HJV
        go_wp2_with fail
        refine HJN.out.mono ?_
        rintro e w' ⟨rfl, rfl⟩
        go_wp2_with fail
        refine (HJV.out _).mono ?_
        rintro e w' ⟨rfl, rfl⟩
        go_wp2_with fail
        go_ret2
        exact ⟨by rw [HR.out.1, HR.out.2, hvo]; rfl, hbw⟩
      · rw [hvo] at HJV
        go_wp2_with fail
        refine HJN.out.mono ?_
        rintro e w' ⟨rfl, rfl⟩
        go_wp2_with fail
        refine (HJV.out _).mono ?_
        rintro e w' ⟨rfl, rfl⟩
        go_wp2_with fail
        go_ret2
        exact ⟨by rw [HR.out.1, HR.out.2, hvo]; rfl, hbw⟩
end Go.Proofs.YthcijegcnecnmaaDoor
