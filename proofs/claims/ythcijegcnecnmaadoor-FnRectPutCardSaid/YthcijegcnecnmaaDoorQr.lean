/- The contract of the program's RectPut: its walk (printed by gen_qr.py). -/
import Derived.Test.YthcijegcnecnmaaDoorQq
set_option linter.unusedVariables false
set_option linter.unusedSimpArgs false
namespace Go.Proofs.YthcijegcnecnmaaDoor
open Go.RowKit
theorem contains_nl (s : ByteArray) (w : World) : Calls Tryd.prog 46 #[.string s, .string ⟨#[10]⟩] w fun e w' => e = .returned (.bool (decide (nls s.data.toList ≠ 0))) ∧ w = w' :=
  (Tryd.strings_Contains_one s 10 w).mono fun _ _ h => ⟨by rw [h.1, idx_nl], h.2.symm⟩
set_option maxHeartbeats 16000000 in
set_option maxRecDepth 100000 in
theorem iRP_any (s : ByteArray) (p : Int) (Ar : Option Addr) (n c0 : Nat) (ps : List ByteArray) (w : World) (hs : s.size ≤ maxLen) (hM : ML w) (h : Row w w.heap.size Ar (strVals ps)) (hpn : ps.length = n) (hn : n ≤ 121) (hz : ∀ x ∈ ps, x.size ≤ 200) :
    Calls Tryd.prog 17 #[.string s, .int .i64 p, .slice Ar n c0] w fun e w' => e = .returned (.tuple #[.string (rpS s p ps), .bool (rpB s p ps)]) ∧ Below w.heap.size w w' := by
  have hs' := hs
  unfold maxLen at hs'
  have mixed : Tryd.prog.follows .mixedOrders = true := by kernel_rfl
  have hTV := fun W => iTV_any s W hs
  have hPL := fun W => iPl_any s p W hs
  cases hv : valid s.data.toList
  · have hpf : place s p = false := by unfold place; rw [hv]; rfl
    have r1 : rpS s p ps = ⟨#[]⟩ := by unfold rpS; rw [if_neg (by simp [hv])]
    have r2 : rpB s p ps = false := by unfold rpB; rw [hpf]; rfl
    rw [r1, r2]
    rw [hv] at hTV
    have HTV := Lib.hid hTV
    clear hTV hPL
    go_enter Tryd.func17, Tryd.ntmps17
    go_wp2_with fail
    refine (HTV.out _).mono ?_
    rintro e w' ⟨rfl, rfl⟩
    go_wp2_with fail
    go_ret2
    exact ⟨rfl, Below.refl _ _⟩
  cases hpp : place s p
  · have r2 : rpB s p ps = false := by unfold rpB; rw [hpp]; rfl
    have r1 : rpS s p ps = s := by unfold rpS; rw [if_pos hv, r2]; rfl
    rw [r1, r2]
    rw [hv] at hTV
    rw [hpp] at hPL
    have HTV := Lib.hid hTV
    have HPL := Lib.hid hPL
    clear hTV hPL
    go_enter Tryd.func17, Tryd.ntmps17
    go_wp2_with fail
    refine (HTV.out _).mono ?_
    rintro e w' ⟨rfl, rfl⟩
    go_wp2_with fail
    refine (HPL.out _).mono ?_
    rintro e w' ⟨rfl, rfl⟩
    go_wp2_with fail
    go_ret2
    exact ⟨rfl, Below.refl _ _⟩
  obtain ⟨pn, hpe, hpsz, hlo, hco, hcn⟩ := pl_nat hpp
  have h120 := valid_size hv
  have hLO := fun W => iLO_any s p W hs
  have hCO := fun W => iCO_any s p W hs
  rw [hlo] at hLO
  rw [hco] at hCO
  have hlns := fun W h => iLs_any s W (by omega) h
  obtain ⟨G, hG0, hGn, hGl, hGj, hGs⟩ := put_steps (s := s) (f := cntN s pn) (col := pn - bolN s pn) (ps := ps) hv hcn (by omega) (by omega) hz
  have hR : rpO s p ps = joinN (G ps.length) := by
    unfold rpO
    rw [hlo, hco, Int.toNat_natCast, Int.toNat_natCast, hGn]
  have hsb := rpB s p ps
  have hbad : noNl ps = false → rpS s p ps = s ∧ rpB s p ps = false := fun h => by
    have r2 : rpB s p ps = false := by unfold rpB; rw [hpp, h]; rfl
    exact ⟨by unfold rpS; rw [if_pos hv, r2]; rfl, r2⟩
  have hgood : noNl ps = true → rpB s p ps = valid (joinN (G ps.length)).data.toList ∧ rpS s p ps = if valid (joinN (G ps.length)).data.toList = true then joinN (G ps.length) else s := fun h => by
    have r2 : rpB s p ps = valid (joinN (G ps.length)).data.toList := by unfold rpB; rw [hpp, h, hR]; rfl
    exact ⟨r2, by unfold rpS; rw [if_pos hv, r2, hR]⟩
  have hJV := fun W => iTV_any (joinN (G ps.length)) W (by unfold maxLen; omega)
  rw [← hG0] at hlns
  rw [hv] at hTV
  rw [hpp] at hPL
  have hfb : cntN s pn ≤ 121 := by have := cnt_le s pn; omega
  have hcb : pn - bolN s pn ≤ 120 := by omega
  generalize cntN s pn = f at *
  generalize pn - bolN s pn = col at *
  clear hsb hpe hpsz hlo hco hcn hR hGn hG0 hv hpp
  subst hpn
  have HTV := Lib.hid hTV
  have HPL := Lib.hid hPL
  have HLO := Lib.hid hLO
  have HCOL := Lib.hid hCO
  have HLN := Lib.hid hlns
  have HBAD := Lib.hid hbad
  have HGOOD := Lib.hid hgood
  have HJV := Lib.hid hJV
  have HGL := Lib.hid hGl
  have HGJ := Lib.hid hGj
  have HGS := Lib.hid hGs
  have HPS := Lib.hid (fun k (hk : k < ps.length) => hz _ (List.getElem_mem hk))
  clear hTV hPL hLO hCO hlns hbad hgood hJV hGl hGj hGs hz
  obtain ⟨i0, hi, hz0, hz1, hz2⟩ := info_parts infoStr
  go_enter Tryd.func17, Tryd.ntmps17
  go_wp2_with fail
  refine (HTV.out _).mono ?_
  rintro e w' ⟨rfl, rfl⟩
  go_wp2_with fail
  refine (HPL.out _).mono ?_
  rintro e w' ⟨rfl, rfl⟩
  go_wp2_with fail
  refine (HLO.out _).mono ?_
  rintro e w' ⟨rfl, rfl⟩
  go_wp2_with fail
  refine (HCOL.out _).mono ?_
  rintro e w' ⟨rfl, rfl⟩
  go_wp2_with fail
  refine (HLN.out _ hM).mono ?_
  rintro e W1 ⟨A1, c1, rfl, ho1, hb1⟩
  have HO1 := Lib.hid ho1
  have HB1 := Lib.hid hb1
  clear ho1 hb1
  go_wp2_with fail
  go_loopw [10, 34] (fun ov iv wr => ∃ k : Nat, k ≤ ps.length ∧ iv = .int .i64 k ∧ Hid (noNl (ps.take k) = true) ∧ wr.ownsRow w.heap.size 9 1 ov (G k).length (strVals (G k)) ∧ Below w.heap.size w wr) (fun _ iv _ => ps.length - (intOf iv).toNat)
  case atStart => exact ⟨0, Nat.zero_le _, rfl, Lib.hid rfl, HO1.out, HB1.out⟩
  case round =>
    obtain ⟨k, hk, rfl, HNO0, hown, hbw⟩ := hrel
    have hBz : w.heap.size ≤ wr.heap.size := hbw.size
    obtain ⟨hl1, hl2⟩ := HGL.out k hk
    obtain ⟨A, c, rfl⟩ := own_form2 hown
    obtain ⟨g0, rfl, hcap⟩ : ∃ g, A = some ⟨g, 0, none⟩ ∧ (G k).length ≤ c := by
      rcases hown.2 with ⟨e, h1⟩ | ⟨g', c', cur, e, _, _, h4, _⟩
      · omega
      · injection e with e1 _ e3
        exact ⟨g', e1, by omega⟩
    by_cases hkn : k < ps.length
    · obtain ⟨gp, op, rfl, hgp, cp⟩ := (h.below hbw).str hkn
      have hpz := HPS.out k hkn
      obtain ⟨st1, st2⟩ := HGS.out k hkn
      have hnn : noNl (ps.take (k + 1)) = true ∨ (noNl ps = false ∧ nls (ps[k]'hkn).data.toList ≠ 0) := by
        by_cases h0 : nls (ps[k]'hkn).data.toList = 0
        · left
          rw [List.take_succ_eq_append_getElem hkn]
          refine noNl_iff.2 fun y hy => ?_
          rcases List.mem_append.1 hy with hy | hy
          · exact noNl_iff.1 HNO0.out y hy
          · have e : y = ps[k]'hkn := by simpa using hy
            rw [e]; exact h0
        · right
          refine ⟨?_, h0⟩
          cases hx : noNl ps
          · rfl
          · exact absurd (noNl_iff.1 hx _ (List.getElem_mem hkn)) h0
      have hnz : noNl (ps.take (k + 1)) = true → nls (ps[k]'hkn).data.toList = 0 := fun h => noNl_iff.1 h (ps[k]'hkn) (by rw [List.take_succ_eq_append_getElem hkn]; exact List.mem_append_right _ List.mem_cons_self)
      have hct := fun W => contains_nl (ps[k]'hkn) W
      generalize (ps[k]'hkn) = part at *
      have hk' : (k : Int) < (ps.length : Int) := by omega
      have hk0 : (0 : Int) ≤ (k : Int) := by omega
      have hk120 : (k : Int) ≤ 120 := by omega
      rcases hnn with hnn | ⟨hnn, h0⟩
      · have h0 := hnz hnn
        have hde : decide (nls part.data.toList ≠ 0) = false := by simp [h0]
        rw [hde] at hct
        have HCT := Lib.hid hct
        have HNO := Lib.hid hnn
        obtain ⟨q, hq⟩ : ∃ q, f + k = q := ⟨_, rfl⟩
        rw [hq] at st1 st2
        have hfk : (f : Int) + (k : Int) = (q : Int) := by omega
        have hqb : q ≤ 300 := by omega
        have ST1 := Lib.hid st1
        have ST2 := Lib.hid st2
        clear hct hnn h0 hde hnz st1 st2 hq HNO0
        by_cases hlt : q < (G k).length
        · obtain ⟨z, hzM, hzs, hset⟩ := ST1.out hlt
          have hne : ((q : Int) == ((G k).length : Int)) = false := beq_eq_false_iff_ne.mpr (by omega)
          obtain ⟨ml, hml⟩ : ∃ m, (G k).length = m := ⟨_, rfl⟩
          obtain ⟨g, hg0⟩ : ∃ g, g = g0 := ⟨g0, rfl⟩
          subst hg0
          obtain ⟨wq, hwq⟩ : ∃ W, W = wr := ⟨wr, rfl⟩
          subst hwq
          have hMl := hml
          rw [hml] at hown hlt hne hl2 hcap ⊢
          obtain ⟨M, hMe⟩ : ∃ M, M = G k := ⟨_, rfl⟩
          rw [← hMe] at hown hzM hset hMl
          have hbq := hbw
          clear ST1 ST2 hml hMe hbw hl1
          go_wp2_with fail
          refine (HCT.out _).mono ?_
          rintro e w' ⟨rfl, rfl⟩
          go_upto_region 15 with fail
          have hgB := (hown.lt g rfl).1
          have hgq := (hown.lt g rfl).2
          have hcell : wq.cell? ⟨g, q, none⟩ = some (.string z) := (hown.cellAt q (by omega)).trans (by rw [strVals, List.getElem?_map, hzM]; rfl)
          have hfz := hown.frozenAt q
          have hq0 : (0 : Int) ≤ (q : Int) := by omega
          have hqm : (q : Int) < (ml : Int) := by omega
          have hcc0 : (0 : Int) ≤ (col : Int) := by omega
          have HSET := Lib.hid hset
          have HML := Lib.hid hMl
          clear hset hMl hzM
          by_cases hsh : z.size < col
          · obtain ⟨d, hd⟩ : ∃ d : Nat, col = z.size + d := ⟨col - z.size, by omega⟩
            have hd1 : (col : Int) - (z.size : Int) = (d : Int) := by omega
            have x5 : IntKind.i64.wrap (d : Int) = (d : Int) := IntWalk.i64_in _ (by omega)
            have hd0 : (0 : Int) < (d : Int) := by omega
            have hrp := fun W => Tryd.strings_Repeat ⟨#[32]⟩ d W (by omega) (by show 1 * d ≤ _; omega)
            rw [rep_spaces] at hrp
            have HRP := Lib.hid hrp
            have hsd := spaces_size d
            have hdb : d ≤ 120 := by omega
            have hpad : z ++ spaces d = padS z col := by unfold padS; rw [show col - z.size = d by omega]
            have HPAD := Lib.hid hpad
            have HOW := Lib.hid hown
            have HBQ := Lib.hid hbq
            clear hrp hpad hown hbq hd
            go_wp2_with fail
            go_region_with ((go_at_call 47; refine (HRP.out _).mono ?_; rintro e w2 ⟨rfl, hb2⟩; have hb2 : Below wq.heap.size wq w2 := (drewN_on wq 1).trans (show Below (wq.drewN 1).heap.size (wq.drewN 1) w2 from hb2); have k1 := (hb2.cell (p := ⟨g, q, none⟩) hgq).trans hcell; have k2 := (hb2.frozen (p := ⟨g, q, none⟩) hgq).trans hfz))
            all_goals
              have hown2 := own_below HOW.out hb2
              have hst2 := (hown2.stored q (.string (z ++ spaces d))).1
              have e2 : (strVals M).set q (.string (z ++ spaces d)) = strVals (M.set q (z ++ spaces d)) := by simp [strVals, List.map_set]
              rw [e2] at hst2
              have hbT2 := (HBQ.out.trans (hb2.mono HBQ.out.size)).setCell (p := ⟨g, q, none⟩) hgB (.string (z ++ spaces d))
              have hMl2 : (M.set q (z ++ spaces d)).length = ml := by rw [List.length_set]; exact HML.out
              have hcellT2 := (hst2.cellAt q (by omega)).trans (show (strVals (M.set q (z ++ spaces d)))[q]? = some (.string (z ++ spaces d)) by rw [strVals, List.getElem?_map, List.getElem?_set_self (by have := HML.out; omega)]; rfl)
              have hMT : ∀ y, (M.set q (z ++ spaces d)).set q y = M.set q y := fun y => List.set_set ..
              generalize M.set q (z ++ spaces d) = MT at *
              have hMT := hMT (putLn z part col)
              have hzz := HPAD.out
              clear hown2 e2 hb2 k1 k2 hcell hfz HOW HBQ HRP HPAD hMl2
              clear hsd
              generalize z ++ spaces d = zz at *
              generalize w2.setCell ⟨g, q, none⟩ (.string zz) = wt at *
              have hzzs : zz.size ≤ 240 := by rw [hzz, padS_size]; omega
              have hownT := hst2
              have hbT := hbT2
              have hcellT := hcellT2
              clear hst2 hbT2 hcellT2
              have hcol : zz.extract 0 col ++ part ++ zz.extract col zz.size = putLn z part col := by rw [hzz]; rfl
              have hcl : (col : Int) ≤ (zz.size : Int) := by have := padS_size z col; rw [← hzz] at this; omega
              have hst := (hownT.stored q (.string (putLn z part col))).1
              have hset2 : (strVals MT).set q (.string (putLn z part col)) = strVals (G (k + 1)) := by
                rw [← HSET.out, ← hMT]; simp [strVals, List.map_set]
              rw [hset2] at hst
              have hlenG : (G (k + 1)).length = ml := by rw [← HSET.out, List.length_set]; exact HML.out
              have hbt := hbT.setCell (p := ⟨g, q, none⟩) hgB (.string (putLn z part col))
              have HO := Lib.hid (And.intro hst hbt)
              have HCO := Lib.hid hcol
              have HLG := Lib.hid hlenG
              have hcellT' := hcellT
              have hfzT := hownT.frozenAt q
              clear hcol hzz hst hset2 hlenG hbt hownT hbT hMT hcellT
              go_wp2_with fail
              refine wp_region_last (C := fun w' => ∃ m, w' = wt.drewN m) (l := [_, _, _, _, _, _, _, _, _, _, _, _, _, _, _, _, _, _]) (s := _) rfl mixed (by kernel_rfl) ⟨1, rfl⟩ ?_
              repeat (go_big_quiet_step (fail))
              refine wpQuiet_nil ?_
              rintro _ ⟨m, rfl⟩
              go_simp
              rw [HCO.out]
              go_wp2_with fail
              go_roundw
              case rel => exact ⟨k + 1, by omega, by go_num, HNO.out, by rw [HLG.out]; exact HO.out.1, below_drewN HO.out.2 m⟩
              case measure => (simp [intOf] <;> omega)
          · have hd1 : ¬ (0 : Int) < (col : Int) - (z.size : Int) := by omega
            have x5 : IntKind.i64.wrap ((col : Int) - (z.size : Int)) = (col : Int) - (z.size : Int) := IntWalk.i64_in _ (by omega)
            have hownT := hown
            have hbT := hbq
            have hcellT := hcell
            obtain ⟨wt, hwt⟩ : ∃ W, W = wq := ⟨wq, rfl⟩
            subst hwt
            obtain ⟨MT, hM0⟩ : ∃ M', M' = M := ⟨M, rfl⟩
            have hMT : MT.set q (putLn z part col) = M.set q (putLn z part col) := by rw [hM0]
            rw [← hM0] at hownT
            clear hown hbq hcell hfz hM0
            go_wp2_with fail
            have hcol : z.extract 0 col ++ part ++ z.extract col z.size = putLn z part col := by unfold putLn; rw [pad_self (by omega)]
            have hcl : (col : Int) ≤ (z.size : Int) := by omega
            have hst := (hownT.stored q (.string (putLn z part col))).1
            have hset2 : (strVals MT).set q (.string (putLn z part col)) = strVals (G (k + 1)) := by
              rw [← HSET.out, ← hMT]; simp [strVals, List.map_set]
            rw [hset2] at hst
            have hlenG : (G (k + 1)).length = ml := by rw [← HSET.out, List.length_set]; exact HML.out
            have hbt := hbT.setCell (p := ⟨g, q, none⟩) hgB (.string (putLn z part col))
            have HO := Lib.hid (And.intro hst hbt)
            have HCO := Lib.hid hcol
            have HLG := Lib.hid hlenG
            have hcellT' := hcellT
            have hfzT := hownT.frozenAt q
            clear hcol hst hset2 hlenG hbt hownT hbT hMT hcellT
            refine wp_region_last (C := fun w' => ∃ m, w' = wt.drewN m) (l := [_, _, _, _, _, _, _, _, _, _, _, _, _, _, _, _, _, _]) (s := _) rfl mixed (by kernel_rfl) ⟨1, rfl⟩ ?_
            repeat (go_big_quiet_step (fail))
            refine wpQuiet_nil ?_
            rintro _ ⟨m, rfl⟩
            go_simp
            rw [HCO.out]
            go_wp2_with fail
            go_roundw
            case rel => exact ⟨k + 1, by omega, by go_num, HNO.out, by rw [HLG.out]; exact HO.out.1, below_drewN HO.out.2 m⟩
            case measure => (simp [intOf] <;> omega)
        · obtain ⟨hlq, hset⟩ := ST2.out hlt
          rw [hlq] at hown hl2 hcap ⊢
          have HB2 := Lib.hid hbw
          obtain ⟨L', hL'⟩ : ∃ M, M = G k := ⟨_, rfl⟩
          rw [← hL'] at hown hset hlq
          clear ST1 ST2 hbw hlt hl1 hL'
          go_wp2_with fail
          refine (HCT.out _).mono ?_
          rintro e w' ⟨rfl, rfl⟩
          go_wp2_with (first | (at_builtin; refine wpList_append_own _ rfl _ _ 22 rfl w.heap.size 9 i0 (.string .empty) 1 16 Tryd.underlying22 hi hz0 hz1 hz2 rfl (by decide) _ _ _ rfl (hown.alloc _) ⟨wr.heap.size, 0, none⟩ 1 1 [.string ⟨#[]⟩] rfl rfl (news1 _ _ _) (ones1 _) (by unfold maxLen; omega) (by omega) (by simp; omega) ?_))
          intro v' w1 hown' hgrow _
          have hbq := (HB2.out.alloc hBz (.cells #[.string ⟨#[]⟩] 9)).grown hgrow (by simp; omega) (fun j hj => ((hown.alloc (.cells #[.string ⟨#[]⟩] 9)).lt j hj).1)
          obtain ⟨A2, c2, rfl⟩ := own_form2 hown'
          obtain ⟨g, rfl, hcap2⟩ : ∃ g, A2 = some ⟨g, 0, none⟩ ∧ q + 1 ≤ c2 := by
            rcases hown'.2 with ⟨e, h1⟩ | ⟨g', c', cur, e, _, _, h4, _⟩
            · omega
            · injection e with e1 _ e3
              exact ⟨g', e1, by omega⟩
          have hzM : (L' ++ [(⟨#[]⟩ : ByteArray)])[q]? = some ⟨#[]⟩ := by rw [← hlq, List.getElem?_concat_length]
          have hMl : (L' ++ [(⟨#[]⟩ : ByteArray)]).length = q + 1 := by rw [List.length_append, hlq]; rfl
          have hapv : strVals L' ++ [.string ⟨#[]⟩] = strVals (L' ++ [(⟨#[]⟩ : ByteArray)]) := by simp [strVals]
          rw [hapv] at hown'
          have hzs : (⟨#[]⟩ : ByteArray).size ≤ 120 := Nat.zero_le _
          generalize L' ++ [(⟨#[]⟩ : ByteArray)] = M at *
          obtain ⟨wq, hwq⟩ : ∃ W, W = w1 := ⟨w1, rfl⟩
          subst hwq
          obtain ⟨ml, hml⟩ : ∃ m, q + 1 = m := ⟨_, rfl⟩
          have hlt : q < ml := by omega
          have hl3 : ml ≤ 400 := by omega
          rw [hml] at hown' hMl hcap2 ⊢
          obtain ⟨z, hz9⟩ : ∃ z : ByteArray, z = ⟨#[]⟩ := ⟨_, rfl⟩
          rw [← hz9] at hzM hzs hset
          clear hown hgrow HB2 hapv hz9 hml hlq hcap hl2
          have hown := hown'
          clear hown'
          go_upto_region 15 with fail
          have hgB := (hown.lt g rfl).1
          have hgq := (hown.lt g rfl).2
          have hcell : wq.cell? ⟨g, q, none⟩ = some (.string z) := (hown.cellAt q (by omega)).trans (by rw [strVals, List.getElem?_map, hzM]; rfl)
          have hfz := hown.frozenAt q
          have hq0 : (0 : Int) ≤ (q : Int) := by omega
          have hqm : (q : Int) < (ml : Int) := by omega
          have hcc0 : (0 : Int) ≤ (col : Int) := by omega
          have HSET := Lib.hid hset
          have HML := Lib.hid hMl
          clear hset hMl hzM
          by_cases hsh : z.size < col
          · obtain ⟨d, hd⟩ : ∃ d : Nat, col = z.size + d := ⟨col - z.size, by omega⟩
            have hd1 : (col : Int) - (z.size : Int) = (d : Int) := by omega
            have x5 : IntKind.i64.wrap (d : Int) = (d : Int) := IntWalk.i64_in _ (by omega)
            have hd0 : (0 : Int) < (d : Int) := by omega
            have hrp := fun W => Tryd.strings_Repeat ⟨#[32]⟩ d W (by omega) (by show 1 * d ≤ _; omega)
            rw [rep_spaces] at hrp
            have HRP := Lib.hid hrp
            have hsd := spaces_size d
            have hdb : d ≤ 120 := by omega
            have hpad : z ++ spaces d = padS z col := by unfold padS; rw [show col - z.size = d by omega]
            have HPAD := Lib.hid hpad
            have HOW := Lib.hid hown
            have HBQ := Lib.hid hbq
            clear hrp hpad hown hbq hd
            go_wp2_with fail
            go_region_with ((go_at_call 47; refine (HRP.out _).mono ?_; rintro e w2 ⟨rfl, hb2⟩; have hb2 : Below wq.heap.size wq w2 := (drewN_on wq 1).trans (show Below (wq.drewN 1).heap.size (wq.drewN 1) w2 from hb2); have k1 := (hb2.cell (p := ⟨g, q, none⟩) hgq).trans hcell; have k2 := (hb2.frozen (p := ⟨g, q, none⟩) hgq).trans hfz))
            all_goals
              have hown2 := own_below HOW.out hb2
              have hst2 := (hown2.stored q (.string (z ++ spaces d))).1
              have e2 : (strVals M).set q (.string (z ++ spaces d)) = strVals (M.set q (z ++ spaces d)) := by simp [strVals, List.map_set]
              rw [e2] at hst2
              have hbT2 := (HBQ.out.trans (hb2.mono HBQ.out.size)).setCell (p := ⟨g, q, none⟩) hgB (.string (z ++ spaces d))
              have hMl2 : (M.set q (z ++ spaces d)).length = ml := by rw [List.length_set]; exact HML.out
              have hcellT2 := (hst2.cellAt q (by omega)).trans (show (strVals (M.set q (z ++ spaces d)))[q]? = some (.string (z ++ spaces d)) by rw [strVals, List.getElem?_map, List.getElem?_set_self (by have := HML.out; omega)]; rfl)
              have hMT : ∀ y, (M.set q (z ++ spaces d)).set q y = M.set q y := fun y => List.set_set ..
              generalize M.set q (z ++ spaces d) = MT at *
              have hMT := hMT (putLn z part col)
              have hzz := HPAD.out
              clear hown2 e2 hb2 k1 k2 hcell hfz HOW HBQ HRP HPAD hMl2
              clear hsd
              generalize z ++ spaces d = zz at *
              generalize w2.setCell ⟨g, q, none⟩ (.string zz) = wt at *
              have hzzs : zz.size ≤ 240 := by rw [hzz, padS_size]; omega
              have hownT := hst2
              have hbT := hbT2
              have hcellT := hcellT2
              clear hst2 hbT2 hcellT2
              have hcol : zz.extract 0 col ++ part ++ zz.extract col zz.size = putLn z part col := by rw [hzz]; rfl
              have hcl : (col : Int) ≤ (zz.size : Int) := by have := padS_size z col; rw [← hzz] at this; omega
              have hst := (hownT.stored q (.string (putLn z part col))).1
              have hset2 : (strVals MT).set q (.string (putLn z part col)) = strVals (G (k + 1)) := by
                rw [← HSET.out, ← hMT]; simp [strVals, List.map_set]
              rw [hset2] at hst
              have hlenG : (G (k + 1)).length = ml := by rw [← HSET.out, List.length_set]; exact HML.out
              have hbt := hbT.setCell (p := ⟨g, q, none⟩) hgB (.string (putLn z part col))
              have HO := Lib.hid (And.intro hst hbt)
              have HCO := Lib.hid hcol
              have HLG := Lib.hid hlenG
              have hcellT' := hcellT
              have hfzT := hownT.frozenAt q
              clear hcol hzz hst hset2 hlenG hbt hownT hbT hMT hcellT
              go_wp2_with fail
              refine wp_region_last (C := fun w' => ∃ m, w' = wt.drewN m) (l := [_, _, _, _, _, _, _, _, _, _, _, _, _, _, _, _, _, _]) (s := _) rfl mixed (by kernel_rfl) ⟨1, rfl⟩ ?_
              repeat (go_big_quiet_step (fail))
              refine wpQuiet_nil ?_
              rintro _ ⟨m, rfl⟩
              go_simp
              rw [HCO.out]
              go_wp2_with fail
              go_roundw
              case rel => exact ⟨k + 1, by omega, by go_num, HNO.out, by rw [HLG.out]; exact HO.out.1, below_drewN HO.out.2 m⟩
              case measure => (simp [intOf] <;> omega)
          · have hd1 : ¬ (0 : Int) < (col : Int) - (z.size : Int) := by omega
            have x5 : IntKind.i64.wrap ((col : Int) - (z.size : Int)) = (col : Int) - (z.size : Int) := IntWalk.i64_in _ (by omega)
            have hownT := hown
            have hbT := hbq
            have hcellT := hcell
            obtain ⟨wt, hwt⟩ : ∃ W, W = wq := ⟨wq, rfl⟩
            subst hwt
            obtain ⟨MT, hM0⟩ : ∃ M', M' = M := ⟨M, rfl⟩
            have hMT : MT.set q (putLn z part col) = M.set q (putLn z part col) := by rw [hM0]
            rw [← hM0] at hownT
            clear hown hbq hcell hfz hM0
            go_wp2_with fail
            have hcol : z.extract 0 col ++ part ++ z.extract col z.size = putLn z part col := by unfold putLn; rw [pad_self (by omega)]
            have hcl : (col : Int) ≤ (z.size : Int) := by omega
            have hst := (hownT.stored q (.string (putLn z part col))).1
            have hset2 : (strVals MT).set q (.string (putLn z part col)) = strVals (G (k + 1)) := by
              rw [← HSET.out, ← hMT]; simp [strVals, List.map_set]
            rw [hset2] at hst
            have hlenG : (G (k + 1)).length = ml := by rw [← HSET.out, List.length_set]; exact HML.out
            have hbt := hbT.setCell (p := ⟨g, q, none⟩) hgB (.string (putLn z part col))
            have HO := Lib.hid (And.intro hst hbt)
            have HCO := Lib.hid hcol
            have HLG := Lib.hid hlenG
            have hcellT' := hcellT
            have hfzT := hownT.frozenAt q
            clear hcol hst hset2 hlenG hbt hownT hbT hMT hcellT
            refine wp_region_last (C := fun w' => ∃ m, w' = wt.drewN m) (l := [_, _, _, _, _, _, _, _, _, _, _, _, _, _, _, _, _, _]) (s := _) rfl mixed (by kernel_rfl) ⟨1, rfl⟩ ?_
            repeat (go_big_quiet_step (fail))
            refine wpQuiet_nil ?_
            rintro _ ⟨m, rfl⟩
            go_simp
            rw [HCO.out]
            go_wp2_with fail
            go_roundw
            case rel => exact ⟨k + 1, by omega, by go_num, HNO.out, by rw [HLG.out]; exact HO.out.1, below_drewN HO.out.2 m⟩
            case measure => (simp [intOf] <;> omega)
      · have hde : decide (nls part.data.toList ≠ 0) = true := by simp [h0]
        rw [hde] at hct
        have HCT := Lib.hid hct
        have HR := Lib.hid (HBAD.out hnn)
        clear hct hde
        go_wp2_with fail
        refine (HCT.out _).mono ?_
        rintro e w' ⟨rfl, rfl⟩
        go_wp2_with fail
        go_ret2
        exact ⟨by rw [HR.out.1, HR.out.2]; rfl, hbw⟩
    · obtain rfl : k = ps.length := by omega
      have hno := HNO0.out
      rw [List.take_length] at hno
      have HR := Lib.hid (HGOOD.out hno)
      have hj := join_own2 hown rfl hcap (by omega) HGJ.out
      have HJN := Lib.hid hj
      have HB2 := Lib.hid hbw
      generalize joinN (G ps.length) = out at *
      clear hj hown hbw hno
      cases hvo : valid out.data.toList
      · rw [hvo] at HJV
        go_wp2_with fail
        refine HJN.out.mono ?_
        rintro e W3 ⟨rfl, hb3⟩
        have hfin := HB2.out.trans (hb3.mono HB2.out.size)
        go_wp2_with fail
        refine (HJV.out _).mono ?_
        rintro e w' ⟨rfl, rfl⟩
        go_wp2_with fail
        go_ret2
        exact ⟨by rw [HR.out.1, HR.out.2, hvo]; rfl, hfin⟩
      · rw [hvo] at HJV
        go_wp2_with fail
        refine HJN.out.mono ?_
        rintro e W3 ⟨rfl, hb3⟩
        have hfin := HB2.out.trans (hb3.mono HB2.out.size)
        go_wp2_with fail
        refine (HJV.out _).mono ?_
        rintro e w' ⟨rfl, rfl⟩
        go_wp2_with fail
        go_ret2
        exact ⟨by rw [HR.out.1, HR.out.2, hvo]; rfl, hfin⟩
end Go.Proofs.YthcijegcnecnmaaDoor
