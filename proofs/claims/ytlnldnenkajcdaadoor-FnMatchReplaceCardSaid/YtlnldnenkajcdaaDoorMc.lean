/- The contract of the program's MatchEnd. -/
import Derived.Test.YtlnldnenkajcdaaDoorMg
import Derived.Deep.DeepCutAuto
set_option linter.unusedVariables false
set_option linter.unusedSimpArgs false
namespace Go.Proofs.YtlnldnenkajcdaaDoor
open Go.RowKit
set_option maxRecDepth 100000 in
set_option maxHeartbeats 4000000 in
theorem iME_any (p s : ByteArray) (n : Int) (w : World) (hp : p.size ≤ maxLen) (hs : s.size ≤ maxLen) :
    Calls Tryd.prog 50 #[.string p, .string s, .int .i64 n] w fun e w' => e = .returned (.int .i64 (meI p s n)) ∧ Below w.heap.size w w' := by
  have hs' := hs
  unfold maxLen at hs'
  by_cases hok : meOk p s n = true
  · obtain ⟨hpv, hpl⟩ : patV p = true ∧ place s n = true := by simpa [meOk] using hok
    obtain ⟨m, rfl, hm⟩ := place_nat hpl
    have hres : meI p s m = topF (endsF p s m p.size 0 (startF m)) (s.size + 1) := by unfold meI; rw [if_pos hok]; rfl
    have HRES := Lib.hid hres
    have hpb := fun i (hi : i < p.size) => pat_byte hpv hi
    have HPB := Lib.hid hpb
    clear hres hpb
    have hsz := valid_size (placeS hpl).1
    obtain ⟨i0, hi, hz0, hz1, hz2⟩ := info_parts infoBool
    have hmk : ∀ W : World, (Instr.makeSlice 84 (.int .i64 ((s.size : Int) + 1)) (.int .i64 ((s.size : Int) + 1))).run Tryd.prog W = .ok (.slice (some ⟨W.heap.size, 0, none⟩) (s.size + 1) (s.size + 1)) (W.alloc (.cells (madeCells #[.bool false] (s.size + 1)) 4)) := fun W => mk_row (P := Tryd.prog) (z := .bool false) Tryd.underlying84 hi hz0 hz1 (s.size + 1) (by rw [hz2]; omega) (by omega) W
    have HMK := Lib.hid hmk
    clear hmk hi hz0 hz1 hz2
    go_enter Tryd.func50, Tryd.ntmps50
    go_wp2_with fail
    refine (iPV_any _ _ hp).mono ?_
    rintro e w' ⟨rfl, rfl⟩
    go_wp2_with fail
    refine (iPl_any _ _ _ hs).mono ?_
    rintro e w' ⟨rfl, rfl⟩
    have hmk := HMK.out w
    have hB0 := BR.new w (s.size + 1)
    have hc0 := hB0.cell (j := m) (by omega)
    have hf0 := hB0.frozen m
    have hb1 : Below w.heap.size w (w.alloc (.cells ((madeCells #[.bool false] (s.size + 1)).setIfInBounds m (.bool true)) 4)) := (Below.refl w.heap.size w).alloc (Nat.le_refl _) _
    have HB1 := Lib.hid (And.intro (BR.new1 w (s.size + 1) (m := m) (by omega)) hb1)
    clear hB0 hb1
    have hp20 : p.size ≤ 20 := by have : p.size ≤ 20 ∧ allGood p p.size = true := by simpa [patV] using hpv
                                  exact this.1
    have hm0 : (0 : Int) ≤ (m : Int) := by omega
    have hm1 : (m : Int) < (s.size : Int) + 1 := by omega
    go_wp2_with fail
    go_loopw [7, 8] (fun av iv wr => MRel p s m w av iv wr) (fun _ iv _ => p.size - (intOf iv).toNat)
    case atStart => exact ⟨0, w.heap.size, startF m, rfl, rfl, HB1.out.1, Nat.le_refl _, HB1.out.2, EInv.start p s m⟩
    case round =>
      obtain ⟨i, g, f, rfl, rfl, hrow, hg, hbw, hinv⟩ := hrel
      clear hmk hc0 hf0
      have hip : i ≤ p.size := hinv.1
      by_cases hi : i < p.size
      · have hi' : (i : Int) < (p.size : Int) := by omega
        have hmk := HMK.out wr
        have hlow := hinv.2.1
        obtain ⟨gn, hgn⟩ : ∃ gn, wr.heap.size = gn := ⟨_, rfl⟩
        have hgl : g < gn := by rw [← hgn]; exact hrow.lt
        have hgw : w.heap.size ≤ gn := by omega
        have hB2 := BR.new wr (s.size + 1)
        have hB3 := hrow.alloc (.cells (madeCells #[.bool false] (s.size + 1)) 4)
        have hb3 := hbw.alloc (by rw [hgn]; exact hgw) (.cells (madeCells #[.bool false] (s.size + 1)) 4)
        rw [hgn] at hB2 hmk
        have HGN := Lib.hid hgn
        have HB2 := Lib.hid (And.intro hB2 (And.intro hB3 hb3))
        have HLOW := Lib.hid hlow
        have hp10 : byteI p i ≠ 10 := by have := (HPB.out i hi).1; omega
        clear hB2 hB3 hb3 hgn hrow hbw hlow
        by_cases hst : starAt p i = true
        · as_aux_lemma =>
            have hst2 : i + 1 < p.size ∧ byteI p (i + 1) = 42 := by simpa [starAt] using hst
            obtain ⟨h1, h2⟩ := hst2
            rw [byteI_at h1] at h2
            have h1' : (i : Int) + 1 < (p.size : Int) := by omega
            have h2' : ((p[i + 1].toNat : Int) == 42) = true := by simp [h2]
            have HNX := Lib.hid (hinv.star hi hst)
            clear hinv hst
            go_wp2_with fail
            go_loopw [11] (fun qv wr' => ∃ q : Nat, qv = .int .i64 q ∧ m ≤ q ∧ q ≤ s.size + 1 ∧ BR wr' gn (s.size + 1) (cut (starF s m (byteI p i) f) q) ∧ BR wr' g (s.size + 1) f ∧ Below w.heap.size w wr') (fun qv _ => s.size + 1 - (intOf qv).toNat)
            case atStart => exact ⟨m, rfl, Nat.le_refl _, by omega, HB2.out.1.congr (fun j _ => cut_none (starF_low HLOW.out) j), HB2.out.2.1, HB2.out.2.2⟩
            case round =>
              obtain ⟨q, rfl, hmq, hq, hn, ha, hb⟩ := hrel
              by_cases hqs : q ≤ s.size
              · have hq1 : (q : Int) ≤ (s.size : Int) := by omega
                have hgne : gn ≠ g := by omega
                have hgne' : g ≠ gn := by omega
                have hq0 : (0 : Int) ≤ (q : Int) := by omega
                have hq2 : (q : Int) < (s.size : Int) + 1 := by omega
                have hcn := hn.cell (j := q) (by omega)
                have hfn := hn.frozen q
                have hca := ha.cell (j := q) (by omega)
                have hw := fun nq => And.intro (hn.drewN nq) (And.intro (ha.drewN nq) (below_drewN hb nq))
                have hws := fun nq => stores_rel (hw nq).1 (hw nq).2.1 (hw nq).2.2 (q := q) (by omega) hgne hgw
                have hca1 := ((ha.other (p := ⟨gn, q, none⟩) hgne (.bool true))).cell (j := q) (by omega)
                have hfn1 := (hn.set (j := q) (by omega) true).frozen q
                have HW0 := Lib.hid hw
                have HW := Lib.hid hws
                clear hw hws
                rcases Nat.eq_or_lt_of_le hmq with rfl | hmq'
                · have hG : Hid (starF s m (byteI p i) f m = f m) := Lib.hid (starF_m s m _ f)
                  have hmm : decide ((m : Int) < (m : Int)) = false := by simp
                  clear hn ha hb
                  cases hfq : f m
                  · have HF := Lib.hid hfq
                    rw [hfq] at hca hca1
                    clear hfq hca1 hfn1
                    go_wp2_with fail
                    go_quiet (fail)
                    go_wp2_with fail
                    go_roundw
                    case rel => exact ⟨m + 1, by go_num, by omega, by omega, (HW0.out _).1.congr (fun j _ => cut_same (hG.out.trans HF.out) j), (HW0.out _).2⟩
                    case measure => (simp [intOf] <;> omega)
                  · have HF := Lib.hid hfq
                    rw [hfq] at hca hca1
                    clear hfq hca1 hfn1
                    go_wp2_with fail
                    go_quiet (fail)
                    go_wp2_with fail
                    go_roundw
                    case rel => exact ⟨m + 1, by go_num, by omega, by omega, ((HW.out _).1 (hG.out.trans HF.out)).1, ((HW.out _).1 (hG.out.trans HF.out)).2⟩
                    case measure => (simp [intOf] <;> omega)
                · obtain ⟨r, rfl⟩ : ∃ r, q = r + 1 := ⟨q - 1, by omega⟩
                  have hrs : r < s.size := by omega
                  have hcr := hn.cell (j := r) (by omega)
                  have hcut : cut (starF s m (byteI p i) f) (r + 1) r = starF s m (byteI p i) f r := cut_full (Nat.le_refl _) r (by omega)
                  rw [hcut] at hcr
                  have hfit := fun W => iFits_any (byteI p i) (byteI s r) W (byteI_range p i).1 (byteI_range p i).2 (byteI_range s r).1 (byteI_range s r).2 hp10
                  have hG0 := starF_s (s := s) (c := byteI p i) HLOW.out r
                  generalize hbb1 : starF s m (byteI p i) f r = b1 at *
                  generalize fitB (byteI p i) (byteI s r) = b2 at hfit hG0
                  rw [byteI_at hi, byteI_at hrs] at hfit
                  generalize hbb3 : f (r + 1) = b3 at *
                  have HG := Lib.hid hG0
                  have HFI := Lib.hid hfit
                  have hmm : decide ((m : Int) < (r : Int) + 1) = true := by simp; omega
                  have hr0 : (0 : Int) ≤ (r : Int) := by omega
                  have hr1 : (r : Int) < (s.size : Int) := by omega
                  clear hn ha hb hcut hG0 hfit hbb1 hbb3
                  cases b1
                  · cases b3
                    · clear hca1 hfn1
                      go_wp2_with fail
                      go_quiet (fail)
                      go_wp2_with fail
                      go_roundw
                      case rel => exact ⟨r + 1 + 1, by go_num, by omega, by omega, (HW0.out _).1.congr (fun j _ => cut_same HG.out j), (HW0.out _).2⟩
                      case measure => (simp [intOf] <;> omega)
                    · clear hca1 hfn1
                      go_wp2_with fail
                      go_quiet (fail)
                      go_wp2_with fail
                      go_roundw
                      case rel => exact ⟨r + 1 + 1, by go_num, by omega, by omega, ((HW.out _).1 HG.out).1, ((HW.out _).1 HG.out).2⟩
                      case measure => (simp [intOf] <;> omega)
                  · cases b2
                    · cases b3
                      · clear hca1 hfn1
                        go_wp2_with fail
                        go_quiet ((go_at_call 59; (first | exact q_left (HFI.out _) | exact q_add_left (HFI.out _))))
                        go_wp2_with fail
                        go_roundw
                        case rel => exact ⟨r + 1 + 1, by go_num, by omega, by omega, (HW0.out _).1.congr (fun j _ => cut_same HG.out j), (HW0.out _).2⟩
                        case measure => (simp [intOf] <;> omega)
                      · clear hca1 hfn1
                        go_wp2_with fail
                        go_quiet ((go_at_call 59; (first | exact q_left (HFI.out _) | exact q_add_left (HFI.out _))))
                        go_wp2_with fail
                        go_roundw
                        case rel => exact ⟨r + 1 + 1, by go_num, by omega, by omega, ((HW.out _).1 HG.out).1, ((HW.out _).1 HG.out).2⟩
                        case measure => (simp [intOf] <;> omega)
                    · cases b3
                      · go_wp2_with fail
                        go_quiet ((go_at_call 59; (first | exact q_left (HFI.out _) | exact q_add_left (HFI.out _))))
                        go_wp2_with fail
                        go_roundw
                        case rel => exact ⟨r + 1 + 1, by go_num, by omega, by omega, ((HW.out _).1 HG.out).1, ((HW.out _).1 HG.out).2⟩
                        case measure => (simp [intOf] <;> omega)
                      · go_wp2_with fail
                        go_quiet ((go_at_call 59; (first | exact q_left (HFI.out _) | exact q_add_left (HFI.out _))))
                        go_wp2_with fail
                        go_roundw
                        case rel => exact ⟨r + 1 + 1, by go_num, by omega, by omega, ((HW.out _).2 HG.out).1, ((HW.out _).2 HG.out).2⟩
                        case measure => (simp [intOf] <;> omega)
              · obtain rfl : q = s.size + 1 := by omega
                go_wp2_with fail
                go_roundw
                case rel => exact ⟨i + 2, gn, starF s m (byteI p i) f, rfl, by go_num, hn.congr (cut_full (Nat.le_refl _)), hgw, hb, HNX.out⟩
                case measure => (simp [intOf] <;> omega)
        · have hstf : starAt p i = false := by simpa using hst
          have HNX0 := hinv.plain hi hstf
          have HNL := nx_low (s := s) (m := m) (c := byteI p i) (b := false) (f := f) HLOW.out
          by_cases c94 : byteI p i = 94
          · as_aux_lemma =>
              have hGV : nxF s m (byteI p i) false f = fun j => f j && decide (j = 0 ∨ byteI s (j - 1) = 10) := by rw [c94, nx_bol]
              have e94 : ((p[i].toNat : Int) == 94) = true := by rw [← byteI_at hi]; simp [c94]
              generalize nxF s m (byteI p i) false f = G at *
              have HGV := Lib.hid hGV
              have HNX := Lib.hid HNX0
              have HGL := Lib.hid HNL
              clear hGV HNX0 HNL hinv c94
              have hns := star_no hstf
              clear hst hstf
              go_upto_region 9 with fail
              go_cut [10] (fun s10 wx => s10 = .bool false ∧ wx = wr.alloc (.cells (madeCells #[.bool false] (s.size + 1)) 4))
              case first =>
                rcases hns with ⟨h1', h2'⟩ | h1'
                all_goals
                  go_wp2_with fail
                  go_meet
                  exact ⟨rfl, rfl⟩
              case rest =>
                obtain ⟨rfl, rfl⟩ := hcut
                clear hns
                go_wp2_with fail
                go_loopw [11] (fun qv wr' => ∃ q : Nat, qv = .int .i64 q ∧ m ≤ q ∧ q ≤ s.size + 1 ∧ BR wr' gn (s.size + 1) (cut G q) ∧ BR wr' g (s.size + 1) f ∧ Below w.heap.size w wr') (fun qv _ => s.size + 1 - (intOf qv).toNat)
                case atStart => exact ⟨m, rfl, Nat.le_refl _, by omega, HB2.out.1.congr (fun j _ => cut_none HGL.out j), HB2.out.2.1, HB2.out.2.2⟩
                case round =>
                  obtain ⟨q, rfl, hmq, hq, hn, ha, hb⟩ := hrel
                  by_cases hqs : q ≤ s.size
                  · have hq1 : (q : Int) ≤ (s.size : Int) := by omega
                    have hgne : gn ≠ g := by omega
                    have hgne' : g ≠ gn := by omega
                    have hq0 : (0 : Int) ≤ (q : Int) := by omega
                    have hq2 : (q : Int) < (s.size : Int) + 1 := by omega
                    have hcn := hn.cell (j := q) (by omega)
                    rw [cut_self] at hcn
                    have hfn := hn.frozen q
                    have hca := ha.cell (j := q) (by omega)
                    have hw := fun nq => And.intro (hn.drewN nq) (And.intro (ha.drewN nq) (below_drewN hb nq))
                    have hws := fun nq => store_any (hw nq).1 (hw nq).2.1 (hw nq).2.2 (q := q) (by omega) hgne hgw
                    have HW0 := Lib.hid hw
                    have HW := Lib.hid hws
                    have hGq : G q = (f q && decide (q = 0 ∨ byteI s (q - 1) = 10)) := by rw [HGV.out]
                    clear hw hws hn ha hb
                    cases hfq : f q
                    · have HF : Hid (G q = false) := Lib.hid (by rw [hGq, hfq]; rfl)
                      rw [hfq] at hca
                      clear hfq hGq hfn hcn
                      go_wp2_with fail
                      go_quiet (fail)
                      go_wp2_with fail
                      go_roundw
                      case rel => exact ⟨q + 1, by go_num, by omega, by omega, (HW0.out _).1.congr (fun j _ => cut_same HF.out j), (HW0.out _).2⟩
                      case measure => (simp [intOf] <;> omega)
                    · rw [hfq] at hca
                      rw [hfq, Bool.true_and] at hGq
                      clear hfq
                      rcases q with _ | r
                      · have HF : Hid (G 0 = true) := Lib.hid (by rw [hGq]; simp)
                        clear hGq
                        go_wp2_with fail
                        go_quiet (fail)
                        go_wp2_with fail
                        go_roundw
                        case rel => exact ⟨1, by go_num, by omega, by omega, (HW.out _ _ HF.out).1, (HW.out _ _ HF.out).2⟩
                        case measure => (simp [intOf] <;> omega)
                      · have hrs : r < s.size := by omega
                        have e0 : (((r : Int) + 1) == 0) = false := by simp; omega
                        have hr0 : (0 : Int) ≤ (r : Int) := by omega
                        have hr1 : (r : Int) < (s.size : Int) := by omega
                        obtain ⟨b, hb1⟩ : ∃ b, ((s[r].toNat : Int) == 10) = b := ⟨_, rfl⟩
                        have HF : Hid (G (r + 1) = b) := Lib.hid (by rw [hGq, ← hb1, show r + 1 - 1 = r from rfl, byteI_at hrs, Bool.eq_iff_iff]; simp)
                        clear hGq
                        cases b
                        all_goals
                          go_wp2_with fail
                          go_quiet (fail)
                          go_wp2_with fail
                          go_roundw
                          case rel => exact ⟨r + 1 + 1, by go_num, by omega, by omega, (HW.out _ _ HF.out).1, (HW.out _ _ HF.out).2⟩
                          case measure => (simp [intOf] <;> omega)
                  · obtain rfl : q = s.size + 1 := by omega
                    go_wp2_with fail
                    go_roundw
                    case rel => exact ⟨i + 1, gn, G, rfl, by go_num, hn.congr (cut_full (Nat.le_refl _)), hgw, hb, HNX.out⟩
                    case measure => (simp [intOf] <;> omega)
          · have e94 : ((p[i].toNat : Int) == 94) = false := by rw [← byteI_at hi]; simp [c94]
            by_cases c36 : byteI p i = 36
            · as_aux_lemma =>
                have hGV : nxF s m (byteI p i) false f = fun j => f j && decide (j = s.size ∨ byteI s j = 10) := by rw [c36, nx_eol]
                have e36 : ((p[i].toNat : Int) == 36) = true := by rw [← byteI_at hi]; simp [c36]
                generalize nxF s m (byteI p i) false f = G at *
                have HGV := Lib.hid hGV
                have HNX := Lib.hid HNX0
                have HGL := Lib.hid HNL
                clear hGV HNX0 HNL hinv c94 c36
                have hns := star_no hstf
                clear hst hstf
                go_upto_region 9 with fail
                go_cut [10] (fun s10 wx => s10 = .bool false ∧ wx = wr.alloc (.cells (madeCells #[.bool false] (s.size + 1)) 4))
                case first =>
                  rcases hns with ⟨h1', h2'⟩ | h1'
                  all_goals
                    go_wp2_with fail
                    go_meet
                    exact ⟨rfl, rfl⟩
                case rest =>
                  obtain ⟨rfl, rfl⟩ := hcut
                  clear hns
                  go_wp2_with fail
                  go_loopw [11] (fun qv wr' => ∃ q : Nat, qv = .int .i64 q ∧ m ≤ q ∧ q ≤ s.size + 1 ∧ BR wr' gn (s.size + 1) (cut G q) ∧ BR wr' g (s.size + 1) f ∧ Below w.heap.size w wr') (fun qv _ => s.size + 1 - (intOf qv).toNat)
                  case atStart => exact ⟨m, rfl, Nat.le_refl _, by omega, HB2.out.1.congr (fun j _ => cut_none HGL.out j), HB2.out.2.1, HB2.out.2.2⟩
                  case round =>
                    obtain ⟨q, rfl, hmq, hq, hn, ha, hb⟩ := hrel
                    by_cases hqs : q ≤ s.size
                    · have hq1 : (q : Int) ≤ (s.size : Int) := by omega
                      have hgne : gn ≠ g := by omega
                      have hgne' : g ≠ gn := by omega
                      have hq0 : (0 : Int) ≤ (q : Int) := by omega
                      have hq2 : (q : Int) < (s.size : Int) + 1 := by omega
                      have hcn := hn.cell (j := q) (by omega)
                      rw [cut_self] at hcn
                      have hfn := hn.frozen q
                      have hca := ha.cell (j := q) (by omega)
                      have hw := fun nq => And.intro (hn.drewN nq) (And.intro (ha.drewN nq) (below_drewN hb nq))
                      have hws := fun nq => store_any (hw nq).1 (hw nq).2.1 (hw nq).2.2 (q := q) (by omega) hgne hgw
                      have HW0 := Lib.hid hw
                      have HW := Lib.hid hws
                      have hGq : G q = (f q && decide (q = s.size ∨ byteI s q = 10)) := by rw [HGV.out]
                      clear hw hws hn ha hb
                      cases hfq : f q
                      · have HF : Hid (G q = false) := Lib.hid (by rw [hGq, hfq]; rfl)
                        rw [hfq] at hca
                        clear hfq hGq hfn hcn
                        go_wp2_with fail
                        go_quiet (fail)
                        go_wp2_with fail
                        go_roundw
                        case rel => exact ⟨q + 1, by go_num, by omega, by omega, (HW0.out _).1.congr (fun j _ => cut_same HF.out j), (HW0.out _).2⟩
                        case measure => (simp [intOf] <;> omega)
                      · rw [hfq] at hca
                        rw [hfq, Bool.true_and] at hGq
                        clear hfq
                        by_cases hrs : q < s.size
                        · have e0 : ((q : Int) == (s.size : Int)) = false := by simp; omega
                          have hr1 : (q : Int) < (s.size : Int) := by omega
                          obtain ⟨b, hb1⟩ : ∃ b, ((s[q].toNat : Int) == 10) = b := ⟨_, rfl⟩
                          have HF : Hid (G q = b) := Lib.hid (by rw [hGq, ← hb1, byteI_at hrs, Bool.eq_iff_iff]; simp; omega)
                          clear hGq
                          cases b
                          all_goals
                            go_wp2_with fail
                            go_quiet (fail)
                            go_wp2_with fail
                            go_roundw
                            case rel => exact ⟨q + 1, by go_num, by omega, by omega, (HW.out _ _ HF.out).1, (HW.out _ _ HF.out).2⟩
                            case measure => (simp [intOf] <;> omega)
                        · have e0 : ((q : Int) == (s.size : Int)) = true := by simp; omega
                          have HF : Hid (G q = true) := Lib.hid (by rw [hGq]; simp; omega)
                          clear hGq
                          go_wp2_with fail
                          go_quiet (fail)
                          go_wp2_with fail
                          go_roundw
                          case rel => exact ⟨q + 1, by go_num, by omega, by omega, (HW.out _ _ HF.out).1, (HW.out _ _ HF.out).2⟩
                          case measure => (simp [intOf] <;> omega)
                    · obtain rfl : q = s.size + 1 := by omega
                      go_wp2_with fail
                      go_roundw
                      case rel => exact ⟨i + 1, gn, G, rfl, by go_num, hn.congr (cut_full (Nat.le_refl _)), hgw, hb, HNX.out⟩
                      case measure => (simp [intOf] <;> omega)
            · as_aux_lemma =>
                have e36 : ((p[i].toNat : Int) == 36) = false := by rw [← byteI_at hi]; simp [c36]
                have hGV : ∀ j, nxF s m (byteI p i) false f (j + 1) = (f j && fitB (byteI p i) (byteI s j)) := fun j => by rw [nx_byte c94 c36]; exact byte_s HLOW.out j
                have hGm : ∀ j, j < m + 1 → nxF s m (byteI p i) false f j = false := fun j hj => by
                  rw [nx_byte c94 c36]; show (decide (m < j) && _ && _) = false; rw [decide_eq_false (by omega)]; rfl
                generalize nxF s m (byteI p i) false f = G at *
                have HGV := Lib.hid hGV
                have HNX := Lib.hid HNX0
                have HGL := Lib.hid hGm
                clear hGV HNX0 HNL hinv c94 c36 hGm
                have hns := star_no hstf
                clear hst hstf
                go_upto_region 9 with fail
                go_cut [10] (fun s10 wx => s10 = .bool false ∧ wx = wr.alloc (.cells (madeCells #[.bool false] (s.size + 1)) 4))
                case first =>
                  rcases hns with ⟨h1', h2'⟩ | h1'
                  all_goals
                    go_wp2_with fail
                    go_meet
                    exact ⟨rfl, rfl⟩
                case rest =>
                  obtain ⟨rfl, rfl⟩ := hcut
                  clear hns
                  go_wp2_with fail
                  go_loopw [11] (fun qv wr' => ∃ q : Nat, qv = .int .i64 q ∧ m ≤ q ∧ q ≤ s.size + 1 ∧ BR wr' gn (s.size + 1) (cut G (q + 1)) ∧ BR wr' g (s.size + 1) f ∧ Below w.heap.size w wr') (fun qv _ => s.size + 1 - (intOf qv).toNat)
                  case atStart => exact ⟨m, rfl, Nat.le_refl _, by omega, HB2.out.1.congr (fun j _ => cut_none HGL.out j), HB2.out.2.1, HB2.out.2.2⟩
                  case round =>
                    obtain ⟨q, rfl, hmq, hq, hn, ha, hb⟩ := hrel
                    by_cases hqs : q ≤ s.size
                    · have hq1 : (q : Int) ≤ (s.size : Int) := by omega
                      have hgne : gn ≠ g := by omega
                      have hgne' : g ≠ gn := by omega
                      have hq0 : (0 : Int) ≤ (q : Int) := by omega
                      have hq2 : (q : Int) < (s.size : Int) + 1 := by omega
                      have hca := ha.cell (j := q) (by omega)
                      have hw := fun nq => And.intro (hn.drewN nq) (And.intro (ha.drewN nq) (below_drewN hb nq))
                      have HW0 := Lib.hid hw
                      have hGq := HGV.out q
                      clear hw hb
                      cases hfq : f q
                      · have HF : Hid (G (q + 1) = false) := Lib.hid (by rw [hGq, hfq]; rfl)
                        rw [hfq] at hca
                        clear hfq hGq hn ha
                        go_wp2_with fail
                        go_quiet (fail)
                        go_wp2_with fail
                        go_roundw
                        case rel => exact ⟨q + 1, by go_num, by omega, by omega, (HW0.out _).1.congr (fun j _ => cut_same HF.out j), (HW0.out _).2⟩
                        case measure => (simp [intOf] <;> omega)
                      · rw [hfq] at hca
                        rw [hfq, Bool.true_and] at hGq
                        clear hfq ha
                        by_cases hrs : q < s.size
                        · have hr1 : (q : Int) < (s.size : Int) := by omega
                          have hq3 : (q : Int) + 1 < (s.size : Int) + 1 := by omega
                          have hcn := hn.cell (j := q + 1) (by omega)
                          have hfn := hn.frozen (q + 1)
                          have hws := fun nq => store_any (HW0.out nq).1 (HW0.out nq).2.1 (HW0.out nq).2.2 (q := q + 1) (by omega) hgne hgw
                          have HW := Lib.hid hws
                          have hfit := fun W => iFits_any (byteI p i) (byteI s q) W (byteI_range p i).1 (byteI_range p i).2 (byteI_range s q).1 (byteI_range s q).2 hp10
                          generalize fitB (byteI p i) (byteI s q) = b2 at hfit hGq
                          rw [byteI_at hi, byteI_at hrs] at hfit
                          have HFI := Lib.hid hfit
                          have HF := Lib.hid hGq
                          clear hGq hws hfit hn
                          cases b2
                          · clear hcn hfn
                            go_wp2_with fail
                            go_quiet (fail)
                            go_wp2_with fail
                            go_quiet ((go_at_call 59; (first | exact q_left (HFI.out _) | exact q_add_left (HFI.out _))))
                            go_wp2_with fail
                            go_roundw
                            case rel => exact ⟨q + 1, by go_num, by omega, by omega, (HW0.out _).1.congr (fun j _ => cut_same HF.out j), (HW0.out _).2⟩
                            case measure => (simp [intOf] <;> omega)
                          · go_wp2_with fail
                            go_quiet (fail)
                            go_wp2_with fail
                            go_quiet ((go_at_call 59; (first | exact q_left (HFI.out _) | exact q_add_left (HFI.out _))))
                            go_wp2_with fail
                            go_roundw
                            case rel => exact ⟨q + 1, by go_num, by omega, by omega, (HW.out _ _ HF.out).1, (HW.out _ _ HF.out).2⟩
                            case measure => (simp [intOf] <;> omega)
                        · have e0 : decide ((q : Int) < (s.size : Int)) = false := by simp; omega
                          clear hGq hn
                          go_wp2_with fail
                          go_quiet (fail)
                          go_wp2_with fail
                          go_quiet (fail)
                          go_wp2_with fail
                          go_roundw
                          case rel => exact ⟨q + 1, by go_num, by omega, by omega, (HW0.out _).1.congr (fun j hj => (cut_full (by omega) j hj).trans (cut_full (by omega) j hj).symm), (HW0.out _).2⟩
                          case measure => (simp [intOf] <;> omega)
                    · obtain rfl : q = s.size + 1 := by omega
                      go_wp2_with fail
                      go_roundw
                      case rel => exact ⟨i + 1, gn, G, rfl, by go_num, hn.congr (cut_full (by omega)), hgw, hb, HNX.out⟩
                      case measure => (simp [intOf] <;> omega)
      · as_aux_lemma =>
          obtain rfl : i = p.size := by omega
          have hfe := hinv.done
          have HRES2 : Hid (meI p s m = topF f (s.size + 1)) := Lib.hid (by rw [HRES.out, ← hfe])
          have HLW := Lib.hid hinv.2.1
          clear hinv hfe
          go_wp2_with fail
          go_loop [12] (fun qv => ∃ q : Nat, qv = .int .i64 ((q : Int) - 1) ∧ m ≤ q ∧ q ≤ s.size + 1 ∧ topF f (s.size + 1) = topF f q) (fun qv => (intOf qv + 1).toNat)
          case atStart => exact ⟨s.size + 1, by congr 1; omega, by omega, Nat.le_refl _, rfl⟩
          case round =>
            obtain ⟨q, rfl, hmq, hq, htop⟩ := hrel
            have HT := Lib.hid htop
            clear htop
            rcases Nat.eq_or_lt_of_le hmq with rfl | hmq'
            · go_wp2_with fail
              go_ret
              exact ⟨ret_int (by rw [HRES2.out, HT.out, topF_none m HLW.out]), hbw⟩
            · obtain ⟨r, rfl⟩ : ∃ r, q = r + 1 := ⟨q - 1, by omega⟩
              have e1 : ((r + 1 : Nat) : Int) - 1 = (r : Int) := by omega
              rw [e1]
              have hcr := hrow.cell (j := r) (by omega)
              have hr0 : (0 : Int) ≤ (r : Int) := by omega
              have hr1 : (r : Int) < (s.size : Int) + 1 := by omega
              have hr2 : (m : Int) ≤ (r : Int) := by omega
              clear e1
              cases hfr : f r
              · have HF := Lib.hid hfr
                rw [hfr] at hcr
                clear hfr
                go_wp2_with fail
                go_round
                case rel => exact ⟨r, rfl, by omega, by omega, by rw [HT.out, topF_miss HF.out]⟩
                case measure => (simp [intOf] <;> omega)
              · have HF := Lib.hid hfr
                rw [hfr] at hcr
                clear hfr
                go_wp2_with fail
                go_ret
                exact ⟨ret_int (by rw [HRES2.out, HT.out, topF_hit HF.out]), hbw⟩
  · have hres : meI p s n = -1 := by unfold meI; rw [if_neg hok]
    rw [hres]
    have hcs : patV p = false ∨ (patV p = true ∧ place s n = false) := by
      cases h1 : patV p
      · exact .inl rfl
      · refine .inr ⟨rfl, ?_⟩
        simpa [meOk, h1] using hok
    clear hok hres
    rcases hcs with h1 | ⟨h1, h2⟩
    · go_enter Tryd.func50, Tryd.ntmps50
      go_wp2_with fail
      refine (iPV_any _ _ hp).mono ?_
      rintro e w' ⟨rfl, rfl⟩
      go_wp2_with fail
      go_ret
      exact ⟨rfl, Below.refl _ _⟩
    · go_enter Tryd.func50, Tryd.ntmps50
      go_wp2_with fail
      refine (iPV_any _ _ hp).mono ?_
      rintro e w' ⟨rfl, rfl⟩
      go_wp2_with fail
      refine (iPl_any _ _ _ hs).mono ?_
      rintro e w' ⟨rfl, rfl⟩
      go_wp2_with fail
      go_ret
      exact ⟨rfl, Below.refl _ _⟩
end Go.Proofs.YtlnldnenkajcdaaDoor
