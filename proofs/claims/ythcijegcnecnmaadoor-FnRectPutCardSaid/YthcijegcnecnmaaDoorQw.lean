/- The law on RectPut over drawn inputs, walked. -/
import Derived.Test.YthcijegcnecnmaaDoorQs
import Derived.Test.YthcijegcnecnmaaDoorQv
import Derived.Test.YthcijegcnecnmaaDoorAl
set_option linter.unusedVariables false
set_option linter.unusedSimpArgs false
namespace Go.Proofs.YthcijegcnecnmaaDoor
open Go.RowKit
theorem rp_no {s : ByteArray} {p : Int} {ps : List ByteArray} (h : rpB s p ps = false) : rpS s p ps = ⟨#[]⟩ ∨ rpS s p ps = s := by
  unfold rpS
  split
  · rw [if_neg (by simp [h])]; exact .inr rfl
  · exact .inl rfl
/-- What is said of a text with a rectangle put. -/
theorem put_all {s : ByteArray} {p : Int} {ps : List ByteArray} (hb : rpB s p ps = true) : ∃ f col : Nat, loI s p = (f : Int) ∧ coI s p = (col : Int) ∧ f ≤ 120 ∧ col ≤ 120 ∧ valid (rpS s p ps).data.toList = true ∧ (rpS s p ps).size ≤ 120 ∧
    (∀ k (hk : k < ps.length), ∃ z, (linesL (rpS s p ps))[f + k]? = some z ∧ col + ps[k].size ≤ z.size ∧ z.size ≤ 120 ∧ z.extract col (col + ps[k].size) = ps[k]) ∧ ((linesL (rpS s p ps)).length : Int) = max (lmI s) ((f : Int) + (ps.length : Int)) ∧ (ps.length = 0 → rpS s p ps = s) ∧ (linesL (rpS s p ps)).length ≤ 121 := by
  have hb0 := hb
  unfold rpB at hb
  rw [Bool.and_eq_true, Bool.and_eq_true] at hb
  obtain ⟨⟨hp, hnn⟩, hvo⟩ := hb
  have hv := (placeS hp).1
  have h120 := valid_size hv
  have hx : rpS s p ps = rpO s p ps := by unfold rpS; rw [if_pos hv, if_pos hb0]
  have hval := rp_valid hp hvo
  have hxs := valid_size hvo
  obtain ⟨pn, _, hn, hlo, hco, hcn⟩ := pl_nat hp
  have hcb := cnt_le s pn
  rw [hx]
  have hO : rpO s p ps = joinN (putG (pn - bolN s pn) (cntN s pn) (linesL s) ps) := by unfold rpO; rw [hlo, hco, Int.toNat_natCast, Int.toNat_natCast]
  have hfl : cntN s pn ≤ (linesL s).length := by rw [linesL_len]; omega
  have hok : ∀ z ∈ putG (pn - bolN s pn) (cntN s pn) (linesL s) ps, okLn z.data.toList := putG_ok ps _ _ (lines_ok hv) fun y hy => ⟨by have := hval y hy; unfold valid at this; rw [Bool.and_eq_true] at this; exact this.1, noNl_iff.1 hnn y hy⟩
  have hlen := putG_len (c := pn - bolN s pn) ps (cntN s pn) (linesL s) hfl
  have hne : putG (pn - bolN s pn) (cntN s pn) (linesL s) ps ≠ [] := by
    intro e
    rw [e, linesL_len] at hlen
    simp at hlen
    omega
  have hlines : linesL (rpO s p ps) = putG (pn - bolN s pn) (cntN s pn) (linesL s) ps := by
    rw [hO] at hxs ⊢
    exact lines_join hne hok hxs
  have hll := linesL_len (rpO s p ps)
  have hcx := cnt_le (rpO s p ps) (rpO s p ps).size
  refine ⟨cntN s pn, pn - bolN s pn, hlo, hco, by omega, by omega, hvo, hxs, fun k hk => ?_, ?_, fun h0 => ?_, by omega⟩
  · refine ⟨putLn ((linesL s).getD (cntN s pn + k) ⟨#[]⟩) ps[k] (pn - bolN s pn), by rw [hlines, putG_at ps _ _ hfl k hk], (putLn_has _ _ _).2, ?_, (putLn_has _ _ _).1⟩
    have hm := List.mem_of_getElem? (putG_at (c := pn - bolN s pn) ps (cntN s pn) (linesL s) hfl k hk)
    have h1 := lens_mem hm
    have h2 := joinN_size hne
    rw [hO] at hxs
    have h3 : 0 < (putG (pn - bolN s pn) (cntN s pn) (linesL s) ps).length := List.length_pos_of_mem hm
    omega
  · rw [hlines, hlen, linesL_len, lm_cnt hv]; omega
  · have : ps = [] := List.eq_nil_of_length_eq_zero h0
    rw [hO, this]
    exact join_lines s
theorem iLns2_any (s : ByteArray) (w : World) (hs : s.size ≤ 200) (hv : valid s.data.toList = true) (hM : ML w) : Calls Tryd.prog 21 #[.string s] w (StrsPost (linesL s) w) := by
  have HC := Lib.hid (iLs_any s w hs hM)
  have hs' : s.size ≤ maxLen := by unfold maxLen; omega
  have ht := fun w => iTV_any s w hs'
  rw [hv] at ht
  have HT := Lib.hid ht
  clear ht hv
  generalize linesL s = ls at *
  go_enter Tryd.func21, Tryd.ntmps21
  go_wp2_with fail
  refine (HT.out _).mono ?_
  rintro e w' ⟨rfl, rfl⟩
  go_wp2_with fail
  refine HC.out.mono ?_
  rintro e w' ⟨A, c, rfl, ho, hb⟩
  have HO := Lib.hid (And.intro ho hb)
  clear ho hb
  go_wp2_with fail
  go_ret
  exact ⟨A, c, rfl, HO.out.1, HO.out.2⟩
set_option maxHeartbeats 16000000 in
set_option maxRecDepth 100000 in
theorem law_FnRectPut (A : Option Addr) (n c : Nat) (zs : List Int) (w : World) (h : IsBytes w A n c zs) (hM : ML w) :
    Calls Tryd.prog 5 #[.slice A n c] w fun e w' => e = .returned (.bool true) ∧ Below w.heap.size w w' := by
  by_cases hbig : 1048576 < n
  · go_enter Tryd.func5, Tryd.ntmps5
    go_wp2
    go_ret
    exact ⟨rfl, Below.refl _ _⟩
  have hML := hM.lt
  have HD := Lib.hid (dDrawRectPut A n c zs _ h)
  clear h
  go_enter Tryd.func5, Tryd.ntmps5
  go_wp2_with fail
  refine HD.out.mono ?_
  rintro e W1 ⟨s, u, A1, c1, ps, rfl, hs0, hu1, hu2, hpl, hpz, hr1, hb1⟩
  have hs : s.size ≤ maxLen := by unfold maxLen; omega
  clear hbig
  have hc1 := fun Ar c0 W hM h => iRP_any s u Ar _ c0 ps W hs hM h rfl (by omega) (fun x hx => by have := hpz x hx; omega)
  have hc2 := fun Ar c0 W h => sRP_any s u Ar _ c0 ps W hs h rfl (by omega) (fun x hx => by have := hpz x hx; omega)
  have hno := rp_no (s := s) (p := u) (ps := ps)
  have hall := put_all (s := s) (p := u) (ps := ps)
  have hCO := fun W => iCO_any s u W hs
  have hLO := fun W => iLO_any s u W hs
  have hLM := fun W => iLM_any s W hs
  have hlmb : lmI s ≤ 202 ∧ -1 ≤ lmI s := by
    unfold lmI
    have := nls_le s.data.toList
    have : s.data.toList.length = s.size := Array.length_toList ..
    split <;> omega
  have hxv := fun (h : valid (rpS s u ps).data.toList = true) (h2 : (rpS s u ps).size ≤ 120) W hM => iLns2_any (rpS s u ps) W (by omega) h hM
  have hxt := fun (h2 : (rpS s u ps).size ≤ 120) W => iTV_any (rpS s u ps) W (by unfold maxLen; omega)
  generalize rpB s u ps = rb at *
  generalize rpS s u ps = x at *
  generalize loI s u = lo at *
  generalize coI s u = co at *
  generalize lmI s = lm at *
  have hps := fun k (hk : k < ps.length) => hpz _ (List.getElem_mem hk)
  have H1 := Lib.hid hc1
  have H2 := Lib.hid hc2
  have HNO := Lib.hid hno
  have HALL := Lib.hid hall
  have HCO := Lib.hid hCO
  have HLO := Lib.hid hLO
  have HLM := Lib.hid hLM
  have HXV := Lib.hid hxv
  have HXT := Lib.hid hxt
  have HPS := Lib.hid hps
  clear hc1 hc2 hno hall hCO hLO hLM hxv hxt hps hpz
  go_wp2_with fail
  refine (H1.out _ _ _ (hM.below hb1 hML) hr1).mono ?_
  rintro e W2 ⟨rfl, hb2⟩
  have hr12 := row_on hr1 hb2
  have hbw2 := below_on hb1 hb2
  clear hr1 hb1 hb2
  go_wp2_with fail
  refine (H2.out _ _ _ hr12).mono ?_
  rintro e W3 ⟨rfl, hb3⟩
  have hr13 := row_on hr12 hb3
  have hbw3 := below_on hbw2 hb3
  clear hr12 hbw2 hb3 H1 H2
  cases rb
  · have hx := HNO.out rfl
    clear HNO HALL HXV HXT
    rcases hx with rfl | rfl
    all_goals
      go_wp2_with (go_at_call 19; refine (alive_any _).mono ?_; rintro e w' ⟨rfl, rfl⟩)
      all_goals (go_ret; exact ⟨by first | rfl | simp, hbw3⟩)
  · obtain ⟨f, col, e1, e2, hf, hcol, hvx, hxs, hat, hlen, hnil, hl121⟩ := HALL.out rfl
    subst e1 e2
    have hxv := HXV.out hvx hxs
    have hxt := HXT.out hxs
    rw [hvx] at hxt
    generalize linesL x = ls at *
    have HX1 := Lib.hid hxv
    have HX2 := Lib.hid hxt
    have HAT := Lib.hid hat
    have HLEN := Lib.hid hlen
    have HNIL := Lib.hid hnil
    clear hxv hxt hat hlen hnil HXV HXT HALL HNO hvx
    go_wp2_with fail
    refine (HCO.out _).mono ?_
    rintro e w' ⟨rfl, rfl⟩
    go_wp2_with fail
    refine (HX1.out _ (hM.below hbw3 hML)).mono ?_
    rintro e W4 ⟨A4, c4, rfl, ho4, hb4⟩
    have hr4 := Row.of_own ho4
    have hr14 := row_on hr13 hb4
    have hbw4 := below_on hbw3 hb4
    clear ho4 hb4 hbw3 hr13
    have HR4 := Lib.hid hr4
    have HR1 := Lib.hid hr14
    clear hr4 hr14
    go_wp2_with fail
    go_loopw [12] (fun kv wr => ∃ k : Nat, k ≤ ps.length ∧ kv = .int .i64 k ∧ ∃ q, wr = W4.drewN q) (fun kv _ => ps.length - (intOf kv).toNat)
    case atStart => exact ⟨0, Nat.zero_le _, rfl, 0, rfl⟩
    case round =>
      obtain ⟨k, hk, rfl, q0, rfl⟩ := hrel
      by_cases hkx : k < ps.length
      · obtain ⟨g, o, rfl, hgb, c0⟩ := HR1.out.str hkx
        obtain ⟨z, hz1, hz2, hz3, hz4⟩ := HAT.out k hkx
        have hpsz := HPS.out k hkx
        generalize (ps[k]'hkx) = part at *
        have hqlt : f + k < ls.length := (List.getElem?_eq_some_iff.1 hz1).1
        obtain ⟨g', o', rfl, hgb', d0⟩ := HR4.out (f + k) (.string z) (by rw [strVals, List.getElem?_map, hz1]; rfl)
        obtain ⟨q, hq⟩ : ∃ q, f + k = q := ⟨_, rfl⟩
        rw [hq] at hqlt d0
        have hfk : (f : Int) + (k : Int) = (q : Int) := by omega
        obtain ⟨en, hen⟩ : ∃ en, col + part.size = en := ⟨_, rfl⟩
        rw [hen] at hz2 hz4
        have hce : (col : Int) + (part.size : Int) = (en : Int) := by omega
        have hk' : (k : Int) < (ps.length : Int) := by omega
        have hk0 : (0 : Int) ≤ (k : Int) := by omega
        have hq0 : (0 : Int) ≤ (q : Int) := by omega
        have hql : (q : Int) < (ls.length : Int) := by omega
        have hcl0 : (0 : Int) ≤ (col : Int) := by omega
        have hcen : (col : Int) ≤ (en : Int) := by omega
        have hez : (en : Int) ≤ (z.size : Int) := by omega
        have x5 : IntKind.i64.wrap (en : Int) = (en : Int) := IntWalk.i64_in _ (by omega)
        have x6 : IntKind.i64.wrap (q : Int) = (q : Int) := IntWalk.i64_in _ (by omega)
        clear hz1 hq hen
        go_wp2_with fail
        refine (HLO.out _).mono ?_
        rintro e w' ⟨rfl, rfl⟩
        go_wp2_with fail
        go_quiet (fail)
        go_wp2_with fail
        go_roundw
        case rel => exact ⟨k + 1, by omega, by go_num, _, rfl⟩
        case measure => (simp [intOf] <;> omega)
      · obtain rfl : k = ps.length := by omega
        have hfin := below_drewN hbw4 q0
        have hlen := HLEN.out
        by_cases h0 : ps.length = 0
        · have hx := HNIL.out h0
          subst hx
          clear HNIL HAT HLEN
          go_wp2_with fail
          refine (HX2.out _).mono ?_
          rintro e w' ⟨rfl, rfl⟩
          go_wp2_with fail
          refine (HLM.out _).mono ?_
          rintro e w' ⟨rfl, rfl⟩
          go_wp2_with fail
          refine (HLO.out _).mono ?_
          rintro e w' ⟨rfl, rfl⟩
          go_wp2_with fail
          all_goals (go_ret; exact ⟨by first | rfl | simp, hfin⟩)
        · have h0' : (0 : Int) < (ps.length : Int) := by omega
          clear HNIL HAT HLEN
          go_wp2_with fail
          refine (HX2.out _).mono ?_
          rintro e w' ⟨rfl, rfl⟩
          go_wp2_with fail
          refine (HLM.out _).mono ?_
          rintro e w' ⟨rfl, rfl⟩
          go_wp2_with fail
          refine (HLO.out _).mono ?_
          rintro e w' ⟨rfl, rfl⟩
          go_wp2_with fail
          all_goals (go_ret; exact ⟨by first | rfl | simp, hfin⟩)
end Go.Proofs.YthcijegcnecnmaaDoor
