/- The contract of the reference's MatchEnd. -/
import Derived.Test.YtlnldnenkajcdaaDoorMg
import Derived.Deep.DeepCutAuto
set_option linter.unusedVariables false
set_option linter.unusedSimpArgs false
namespace Go.Proofs.YtlnldnenkajcdaaDoor
open Go.RowKit
def EndsPost (p s : ByteArray) (m : Nat) (w : World) (e : Ending) (w' : World) : Prop :=
  ∃ g, e = .returned (.slice (some ⟨g, 0, none⟩) (s.size + 1) (s.size + 1)) ∧ BR w' g (s.size + 1) (endsF p s m p.size 0 (startF m)) ∧ Below w.heap.size w w'
/-- The reference's three tests on a byte of the text. -/
theorem fit_cases {c b : Int} : (((b != 10) = false) ∧ fitB c b = false) ∨ ((b != 10) = true ∧ (c == 46) = true ∧ fitB c b = true) ∨ ((b != 10) = true ∧ (c == 46) = false ∧ ∃ x, (c == b) = x ∧ fitB c b = x) := by
  by_cases h1 : b = 10
  · left; refine ⟨by simp [h1], by unfold fitB; simp [h1]⟩
  · right
    by_cases h2 : c = 46
    · left; exact ⟨by simp [h1], by simp [h2], by unfold fitB; simp [h1, h2]⟩
    · right
      refine ⟨by simp [h1], by simp [h2], (c == b), rfl, ?_⟩
      unfold fitB
      rw [Bool.eq_iff_iff]
      simp [h1, h2]
theorem bol_new {s : ByteArray} {m : Nat} {b : Bool} {w : World} {gn n : Nat} (h : BR w gn n (fun _ => false)) (hm : m < n) (hb : decide (m = 0 ∨ byteI s (m - 1) = 10) = b) :
    BR (w.setCell ⟨gn, m, none⟩ (.bool b)) gn n (fun j => startF m j && decide (j = 0 ∨ byteI s (j - 1) = 10)) := by
  refine (h.set hm b).congr fun j hj => ?_
  unfold upd startF
  by_cases h1 : j = m
  · subst h1; rw [if_pos rfl, ← hb]; simp
  · rw [if_neg h1, decide_eq_false h1]; rfl

set_option maxRecDepth 100000 in
set_option maxHeartbeats 4000000 in
theorem l12Ends_any (p s : ByteArray) (m : Nat) (w : World) (hp : p.size ≤ maxLen) (hs : s.size ≤ maxLen) (hpv : patV p = true) (hm : m ≤ s.size) (hsz : s.size ≤ 120) :
    Calls Tryd.prog 62 #[.string p, .string s, .int .i64 m] w (EndsPost p s m w) := by
  have hs' := hs
  unfold maxLen at hs'
  have hpb := fun i (hi : i < p.size) => pat_byte hpv hi
  have HPB := Lib.hid hpb
  clear hpb
  obtain ⟨i0, hi, hz0, hz1, hz2⟩ := info_parts infoBool
  have hmk : ∀ W : World, (Instr.makeSlice 84 (.int .i64 ((s.size : Int) + 1)) (.int .i64 ((s.size : Int) + 1))).run Tryd.prog W = .ok (.slice (some ⟨W.heap.size, 0, none⟩) (s.size + 1) (s.size + 1)) (W.alloc (.cells (madeCells #[.bool false] (s.size + 1)) 4)) := fun W => mk_row (P := Tryd.prog) (z := .bool false) Tryd.underlying84 hi hz0 hz1 (s.size + 1) (by rw [hz2]; omega) (by omega) W
  have HMK := Lib.hid hmk
  clear hmk hi hz0 hz1 hz2
  have hmk := HMK.out w
  have hB0 := BR.new w (s.size + 1)
  have hc0 := hB0.cell (j := m) (by omega)
  have hf0 := hB0.frozen m
  have hb1 : Below w.heap.size w (w.alloc (.cells ((madeCells #[.bool false] (s.size + 1)).setIfInBounds m (.bool true)) 4)) := (Below.refl w.heap.size w).alloc (Nat.le_refl _) _
  have HB1 := Lib.hid (And.intro (BR.new1 w (s.size + 1) (m := m) (by omega)) hb1)
  clear hB0 hb1
  have hp20 : p.size ≤ 20 := by have : p.size ≤ 20 ∧ allGood p p.size = true := by simpa [patV] using hpv
                                exact this.1
  have hm0 : (0 : Int) ≤ (m : Int) := by omega
  have hm1 : (m : Int) < (s.size : Int) + 1 := by omega
  have HPV := Lib.hid hpv
  clear hpv
  go_enter Tryd.func62, Tryd.ntmps62
  go_wp2_with fail
  go_loopw [7, 8] (fun av iv wr => MRel p s m w av iv wr) (fun _ iv _ => p.size - (intOf iv).toNat)
  case atStart => exact ⟨0, w.heap.size, startF m, rfl, rfl, HB1.out.1, Nat.le_refl _, HB1.out.2, EInv.start p s m⟩
  case round =>
    obtain ⟨i, g, f, rfl, rfl, hrow, hg, hbw, hinv⟩ := hrel
    clear hmk hc0 hf0
    have hip : i ≤ p.size := hinv.1
    by_cases hi : i < p.size
    · have hi' : (i : Int) < (p.size : Int) := by omega
      have hmk := HMK.out wr
      have hlow := hinv.2.1
      obtain ⟨gn, hgn⟩ : ∃ gn, wr.heap.size = gn := ⟨_, rfl⟩
      have hgl : g < gn := by rw [← hgn]; exact hrow.lt
      have hgw : w.heap.size ≤ gn := by omega
      have hB2 := BR.new wr (s.size + 1)
      have hB3 := hrow.alloc (.cells (madeCells #[.bool false] (s.size + 1)) 4)
      have hb3 := hbw.alloc (by rw [hgn]; exact hgw) (.cells (madeCells #[.bool false] (s.size + 1)) 4)
      rw [hgn] at hB2 hmk
      have HGN := Lib.hid hgn
      have HB2 := Lib.hid (And.intro hB2 (And.intro hB3 hb3))
      have HLOW := Lib.hid hlow
      have hp10 : byteI p i ≠ 10 := by have := (HPB.out i hi).1; omega
      clear hB3 hb3 hgn hrow hbw hlow
      by_cases hst : starAt p i = true
      · as_aux_lemma =>
          have hst2 : i + 1 < p.size ∧ byteI p (i + 1) = 42 := by simpa [starAt] using hst
          obtain ⟨h1, h2⟩ := hst2
          rw [byteI_at h1] at h2
          have h1' : (i : Int) + 1 < (p.size : Int) := by omega
          have h2' : ((p[i + 1].toNat : Int) == 42) = true := by simp [h2]
          obtain ⟨c94, c36⟩ := (HPB.out i hi).2.2.2 hst
          have e94 : ((p[i].toNat : Int) == 94) = false := by rw [← byteI_at hi]; simp [c94]
          have e36 : ((p[i].toNat : Int) == 36) = false := by rw [← byteI_at hi]; simp [c36]
          have HNX := Lib.hid (hinv.star hi hst)
          clear hinv hst c94 c36 hB2
          go_wp2_with fail
          go_loopw [12] (fun qv wr' => ∃ q : Nat, qv = .int .i64 q ∧ q ≤ s.size + 1 ∧ BR wr' gn (s.size + 1) (cut (starF s m (byteI p i) f) q) ∧ BR wr' g (s.size + 1) f ∧ Below w.heap.size w wr') (fun qv _ => s.size + 1 - (intOf qv).toNat)
          case atStart => exact ⟨0, rfl, by omega, HB2.out.1.congr (fun j _ => cut_none (fun j h => by omega) j), HB2.out.2.1, HB2.out.2.2⟩
          case round =>
            obtain ⟨q, rfl, hq, hn, ha, hb⟩ := hrel
            by_cases hqs : q ≤ s.size
            · have hq1 : (q : Int) ≤ (s.size : Int) := by omega
              have hgne : gn ≠ g := by omega
              have hq0 : (0 : Int) ≤ (q : Int) := by omega
              have hq2 : (q : Int) < (s.size : Int) + 1 := by omega
              have hcn := hn.cell (j := q) (by omega)
              rw [cut_self] at hcn
              have hfn := hn.frozen q
              have hca := ha.cell (j := q) (by omega)
              have hw := fun nq => And.intro (hn.drewN nq) (And.intro (ha.drewN nq) (below_drewN hb nq))
              have hws := fun nq => store_any (hw nq).1 (hw nq).2.1 (hw nq).2.2 (q := q) (by omega) hgne hgw
              have HW := Lib.hid hws
              clear hw hws
              rcases q with _ | r
              · have HF : Hid (starF s m (byteI p i) f 0 = f 0) := Lib.hid rfl
                clear hn ha hb
                generalize f 0 = b3 at *
                cases b3
                all_goals
                  go_wp2_with fail
                  go_quiet (fail)
                  go_wp2_with fail
                  go_roundw
                  case rel => exact ⟨1, by go_num, by omega, (HW.out _ _ HF.out).1, (HW.out _ _ HF.out).2⟩
                  case measure => (simp [intOf] <;> omega)
              · have hrs : r < s.size := by omega
                have hcr := hn.cell (j := r) (by omega)
                have hcut : cut (starF s m (byteI p i) f) (r + 1) r = starF s m (byteI p i) f r := cut_full (Nat.le_refl _) r (by omega)
                rw [hcut] at hcr
                have hG0 := starF_s (s := s) (c := byteI p i) HLOW.out r
                have hfc := fit_cases (c := byteI p i) (b := byteI s r)
                generalize hbb1 : starF s m (byteI p i) f r = b1 at *
                generalize fitB (byteI p i) (byteI s r) = b2 at hfc hG0
                rw [byteI_at hi, byteI_at hrs] at hfc
                generalize f (r + 1) = b3 at *
                have HF := Lib.hid hG0
                have hr0 : (0 : Int) ≤ (r : Int) := by omega
                have hr1 : (r : Int) < (s.size : Int) := by omega
                clear hn ha hb hcut hG0 hbb1
                rcases hfc with ⟨x1, rfl⟩ | ⟨x1, x2, rfl⟩ | ⟨x1, x2, x, x3, rfl⟩
                all_goals (try cases b2)
                all_goals
                  cases b3
                  all_goals
                    cases b1
                    all_goals
                      go_wp2_with fail
                      go_quiet (fail)
                      go_wp2_with fail
                      go_roundw
                      case rel => exact ⟨r + 1 + 1, by go_num, by omega, (HW.out _ _ HF.out).1, (HW.out _ _ HF.out).2⟩
                      case measure => (simp [intOf] <;> omega)
            · obtain rfl : q = s.size + 1 := by omega
              go_wp2_with fail
              go_roundw
              case rel => exact ⟨i + 2, gn, starF s m (byteI p i) f, rfl, by go_num, hn.congr (cut_full (Nat.le_refl _)), hgw, hb, HNX.out⟩
              case measure => (simp [intOf] <;> omega)
      · have hstf : starAt p i = false := by simpa using hst
        have HNX0 := hinv.plain hi hstf
        by_cases c94 : byteI p i = 94
        · as_aux_lemma =>
            have hi0 := (HPB.out i hi).2.2.1 c94
            have hfs := hinv.2.2.1 hi0
            subst hfs
            clear hi0
            have hGV : nxF s m (byteI p i) false (startF m) = fun j => startF m j && decide (j = 0 ∨ byteI s (j - 1) = 10) := by rw [c94, nx_bol]
            rw [hGV] at HNX0
            have e94 : ((p[i].toNat : Int) == 94) = true := by rw [← byteI_at hi]; simp [c94]
            have hcn := hB2.cell (j := m) (by omega)
            have hfn := hB2.frozen m
            have hws := fun b (hb : decide (m = 0 ∨ byteI s (m - 1) = 10) = b) => And.intro (bol_new (s := s) hB2 (by omega) hb) (HB2.out.2.2.setCell (p := ⟨gn, m, none⟩) hgw (.bool b))
            have HW := Lib.hid hws
            have HNX := Lib.hid HNX0
            clear hinv HNX0 hGV hst hstf hws c94
            rcases m with _ | r
            · have HF : Hid (decide ((0 : Nat) = 0 ∨ byteI s (0 - 1) = 10) = true) := Lib.hid (by simp)
              clear hB2
              go_wp2_with fail
              go_roundw
              case rel => exact ⟨i + 1, gn, _, rfl, by go_num, (HW.out _ HF.out).1, hgw, (HW.out _ HF.out).2, HNX.out⟩
              case measure => (simp [intOf] <;> omega)
            · have hrs : r < s.size := by omega
              have e0 : (((r : Int) + 1) == 0) = false := by simp; omega
              have e01 : (((r + 1 : Nat) : Int) == 0) = false := by simp; omega
              have hr0 : (0 : Int) ≤ (r : Int) := by omega
              have hr1 : (r : Int) < (s.size : Int) := by omega
              obtain ⟨b, hb1⟩ : ∃ b, ((s[r].toNat : Int) == 10) = b := ⟨_, rfl⟩
              have HF : Hid (decide (r + 1 = 0 ∨ byteI s (r + 1 - 1) = 10) = b) := Lib.hid (by rw [← hb1, show r + 1 - 1 = r from rfl, byteI_at hrs, Bool.eq_iff_iff]; simp)
              clear hB2
              cases b
              all_goals
                go_wp2_with fail
                go_roundw
                case rel => exact ⟨i + 1, gn, _, rfl, by go_num, (HW.out _ HF.out).1, hgw, (HW.out _ HF.out).2, HNX.out⟩
                case measure => (simp [intOf] <;> omega)
        · have e94 : ((p[i].toNat : Int) == 94) = false := by rw [← byteI_at hi]; simp [c94]
          clear hB2
          by_cases c36 : byteI p i = 36
          · as_aux_lemma =>
              have hGV : nxF s m (byteI p i) false f = fun j => f j && decide (j = s.size ∨ byteI s j = 10) := by rw [c36, nx_eol]
              have e36 : ((p[i].toNat : Int) == 36) = true := by rw [← byteI_at hi]; simp [c36]
              generalize nxF s m (byteI p i) false f = G at *
              have HGV := Lib.hid hGV
              have HNX := Lib.hid HNX0
              clear hGV HNX0 hinv c94 c36 hst hstf
              go_wp2_with fail
              go_loopw [10] (fun qv wr' => ∃ q : Nat, qv = .int .i64 q ∧ q ≤ s.size + 1 ∧ BR wr' gn (s.size + 1) (cut G q) ∧ BR wr' g (s.size + 1) f ∧ Below w.heap.size w wr') (fun qv _ => s.size + 1 - (intOf qv).toNat)
              case atStart => exact ⟨0, rfl, by omega, HB2.out.1.congr (fun j _ => cut_none (fun j h => by omega) j), HB2.out.2.1, HB2.out.2.2⟩
              case round =>
                obtain ⟨q, rfl, hq, hn, ha, hb⟩ := hrel
                by_cases hqs : q ≤ s.size
                · have hq1 : (q : Int) ≤ (s.size : Int) := by omega
                  have hgne : gn ≠ g := by omega
                  have hq0 : (0 : Int) ≤ (q : Int) := by omega
                  have hq2 : (q : Int) < (s.size : Int) + 1 := by omega
                  have hcn := hn.cell (j := q) (by omega)
                  rw [cut_self] at hcn
                  have hfn := hn.frozen q
                  have hca := ha.cell (j := q) (by omega)
                  have hws := fun b => store_any hn ha hb (q := q) (by omega) hgne hgw b
                  have HW := Lib.hid hws
                  have hGq : G q = (f q && decide (q = s.size ∨ byteI s q = 10)) := by rw [HGV.out]
                  clear hws hn ha hb
                  cases hfq : f q
                  · have HF : Hid (G q = false) := Lib.hid (by rw [hGq, hfq]; rfl)
                    rw [hfq] at hca
                    clear hfq hGq
                    go_wp2_with fail
                    go_roundw
                    case rel => exact ⟨q + 1, by go_num, by omega, (HW.out _ HF.out).1, (HW.out _ HF.out).2⟩
                    case measure => (simp [intOf] <;> omega)
                  · rw [hfq] at hca
                    rw [hfq, Bool.true_and] at hGq
                    clear hfq
                    by_cases hrs : q < s.size
                    · have e0 : ((q : Int) == (s.size : Int)) = false := by simp; omega
                      have hr1 : (q : Int) < (s.size : Int) := by omega
                      obtain ⟨b, hb1⟩ : ∃ b, ((s[q].toNat : Int) == 10) = b := ⟨_, rfl⟩
                      have HF : Hid (G q = b) := Lib.hid (by rw [hGq, ← hb1, byteI_at hrs, Bool.eq_iff_iff]; simp; omega)
                      clear hGq
                      cases b
                      all_goals
                        go_wp2_with fail
                        go_roundw
                        case rel => exact ⟨q + 1, by go_num, by omega, (HW.out _ HF.out).1, (HW.out _ HF.out).2⟩
                        case measure => (simp [intOf] <;> omega)
                    · have e0 : ((q : Int) == (s.size : Int)) = true := by simp; omega
                      have HF : Hid (G q = true) := Lib.hid (by rw [hGq]; simp; omega)
                      clear hGq
                      go_wp2_with fail
                      go_roundw
                      case rel => exact ⟨q + 1, by go_num, by omega, (HW.out _ HF.out).1, (HW.out _ HF.out).2⟩
                      case measure => (simp [intOf] <;> omega)
                · obtain rfl : q = s.size + 1 := by omega
                  go_wp2_with fail
                  go_roundw
                  case rel => exact ⟨i + 1, gn, G, rfl, by go_num, hn.congr (cut_full (Nat.le_refl _)), hgw, hb, HNX.out⟩
                  case measure => (simp [intOf] <;> omega)
          · as_aux_lemma =>
              have e36 : ((p[i].toNat : Int) == 36) = false := by rw [← byteI_at hi]; simp [c36]
              have hGV : ∀ j, nxF s m (byteI p i) false f (j + 1) = (f j && fitB (byteI p i) (byteI s j)) := fun j => by rw [nx_byte c94 c36]; exact byte_s HLOW.out j
              have hG0 : nxF s m (byteI p i) false f 0 = false := by
                rw [nx_byte c94 c36]; show (decide (m < 0) && _ && _) = false; rw [decide_eq_false (by omega)]; rfl
              generalize nxF s m (byteI p i) false f = G at *
              have HGV := Lib.hid hGV
              have HNX := Lib.hid HNX0
              have HG0 := Lib.hid hG0
              clear hGV HNX0 hG0 hinv c94 c36
              have hns := star_no hstf
              clear hst hstf
              go_upto_region 7 with fail
              go_cut [11] (fun s11 wx => s11 = .bool false ∧ wx = wr.alloc (.cells (madeCells #[.bool false] (s.size + 1)) 4))
              case first =>
                rcases hns with ⟨h1', h2'⟩ | h1'
                all_goals
                  go_wp2_with fail
                  go_meet
                  exact ⟨rfl, rfl⟩
              case rest =>
                obtain ⟨rfl, rfl⟩ := hcut
                clear hns
                go_wp2_with fail
                go_loopw [12] (fun qv wr' => ∃ q : Nat, qv = .int .i64 q ∧ q ≤ s.size + 1 ∧ BR wr' gn (s.size + 1) (cut G q) ∧ BR wr' g (s.size + 1) f ∧ Below w.heap.size w wr') (fun qv _ => s.size + 1 - (intOf qv).toNat)
                case atStart => exact ⟨0, rfl, by omega, HB2.out.1.congr (fun j _ => cut_none (fun j h => by omega) j), HB2.out.2.1, HB2.out.2.2⟩
                case round =>
                  obtain ⟨q, rfl, hq, hn, ha, hb⟩ := hrel
                  by_cases hqs : q ≤ s.size
                  · have hq1 : (q : Int) ≤ (s.size : Int) := by omega
                    have hgne : gn ≠ g := by omega
                    have hq0 : (0 : Int) ≤ (q : Int) := by omega
                    have hq2 : (q : Int) < (s.size : Int) + 1 := by omega
                    have hcn := hn.cell (j := q) (by omega)
                    rw [cut_self] at hcn
                    have hfn := hn.frozen q
                    have hws := fun nq => store_any (hn.drewN nq) (ha.drewN nq) (below_drewN hb nq) (q := q) (by omega) hgne hgw
                    have HW := Lib.hid hws
                    clear hws
                    rcases q with _ | r
                    · clear hn ha hb
                      go_wp2_with fail
                      go_quiet (fail)
                      go_wp2_with fail
                      go_roundw
                      case rel => exact ⟨1, by go_num, by omega, (HW.out _ _ HG0.out).1, (HW.out _ _ HG0.out).2⟩
                      case measure => (simp [intOf] <;> omega)
                    · have hrs : r < s.size := by omega
                      have hcr := ha.cell (j := r) (by omega)
                      have hG0 := HGV.out r
                      have hfc := fit_cases (c := byteI p i) (b := byteI s r)
                      generalize fitB (byteI p i) (byteI s r) = b2 at hfc hG0
                      rw [byteI_at hi, byteI_at hrs] at hfc
                      generalize f r = b1 at *
                      have HF := Lib.hid hG0
                      have hr0 : (0 : Int) ≤ (r : Int) := by omega
                      have hr1 : (r : Int) < (s.size : Int) + 1 := by omega
                      have hr2 : (r : Int) < (s.size : Int) := by omega
                      clear hn ha hb hG0
                      rcases hfc with ⟨x1, rfl⟩ | ⟨x1, x2, rfl⟩ | ⟨x1, x2, x, x3, rfl⟩
                      all_goals (try cases b2)
                      all_goals
                        cases b1
                        all_goals
                          go_wp2_with fail
                          go_quiet (fail)
                          go_wp2_with fail
                          go_roundw
                          case rel => exact ⟨r + 1 + 1, by go_num, by omega, (HW.out _ _ HF.out).1, (HW.out _ _ HF.out).2⟩
                          case measure => (simp [intOf] <;> omega)
                  · obtain rfl : q = s.size + 1 := by omega
                    go_wp2_with fail
                    go_roundw
                    case rel => exact ⟨i + 1, gn, G, rfl, by go_num, hn.congr (cut_full (Nat.le_refl _)), hgw, hb, HNX.out⟩
                    case measure => (simp [intOf] <;> omega)
    · obtain rfl : i = p.size := by omega
      have hfe := hinv.done
      subst hfe
      clear hinv
      go_wp2_with fail
      go_ret
      exact ⟨g, rfl, hrow, hbw⟩
set_option maxRecDepth 100000 in
theorem sME_any (p s : ByteArray) (n : Int) (w : World) (hp : p.size ≤ maxLen) (hs : s.size ≤ maxLen) :
    Calls Tryd.prog 52 #[.string p, .string s, .int .i64 n] w fun e w' => e = .returned (.int .i64 (meI p s n)) ∧ Below w.heap.size w w' := by
  have hs' := hs
  unfold maxLen at hs'
  by_cases hok : meOk p s n = true
  · obtain ⟨hpv, hpl⟩ : patV p = true ∧ place s n = true := by simpa [meOk] using hok
    obtain ⟨hv, hin⟩ := placeS hpl
    obtain ⟨m, rfl, hm⟩ := place_nat hpl
    have hres : meI p s m = topF (endsF p s m p.size 0 (startF m)) (s.size + 1) := by unfold meI; rw [if_pos hok]; rfl
    have HRES := Lib.hid hres
    have hsz := valid_size hv
    have HE := Lib.hid (fun W => l12Ends_any p s m W hp hs hpv hm hsz)
    clear hres hok hpl
    go_enter Tryd.func52, Tryd.ntmps52
    go_wp2_with fail
    refine (sPV_any _ _ hp).mono ?_
    rintro e w' ⟨rfl, rfl⟩
    go_wp2_with fail
    refine (sTV_any _ _ hs).mono ?_
    rintro e w' ⟨rfl, rfl⟩
    go_wp2_with fail
    refine (l1In_any _ _ _ _).mono ?_
    rintro e w' ⟨rfl, rfl⟩
    go_wp2_with fail
    refine (HE.out _).mono ?_
    rintro e W1 ⟨g, rfl, hrow, hb⟩
    generalize endsF p s m p.size 0 (startF m) = f at *
    go_wp2_with fail
    go_loop [8, 9] (fun ov qv => ∃ q : Nat, qv = .int .i64 q ∧ q ≤ s.size + 1 ∧ ov = .int .i64 (topF f q)) (fun _ qv => s.size + 1 - (intOf qv).toNat)
    case atStart => exact ⟨0, rfl, Nat.zero_le _, rfl⟩
    case round =>
      obtain ⟨q, rfl, hq, rfl⟩ := hrel
      by_cases hqs : q < s.size + 1
      · have hc := hrow.cell hqs
        have hq0 : (0 : Int) ≤ (q : Int) := by omega
        have hq1 : (q : Int) < (s.size : Int) + 1 := by omega
        cases hfq : f q
        · have HF := Lib.hid hfq
          rw [hfq] at hc
          clear hfq
          go_wp2_with fail
          go_round
          case rel => exact ⟨q + 1, by go_num, by omega, by rw [topF_miss HF.out]⟩
          case measure => (simp [intOf] <;> omega)
        · have HF := Lib.hid hfq
          rw [hfq] at hc
          clear hfq
          go_wp2_with fail
          go_round
          case rel => exact ⟨q + 1, by go_num, by omega, by rw [topF_hit HF.out]⟩
          case measure => (simp [intOf] <;> omega)
      · obtain rfl : q = s.size + 1 := by omega
        go_wp2_with fail
        go_ret
        exact ⟨ret_int (HRES.out).symm, hb⟩
  · have hres : meI p s n = -1 := by unfold meI; rw [if_neg hok]
    rw [hres]
    have hcs : patV p = false ∨ (patV p = true ∧ place s n = false) := by
      cases h1 : patV p
      · exact .inl rfl
      · refine .inr ⟨rfl, ?_⟩
        simpa [meOk, h1] using hok
    clear hok hres
    rcases hcs with h1 | ⟨h1, h2⟩
    · go_enter Tryd.func52, Tryd.ntmps52
      go_wp2_with fail
      refine (sPV_any _ _ hp).mono ?_
      rintro e w' ⟨rfl, rfl⟩
      go_wp2_with fail
      go_ret
      exact ⟨rfl, Below.refl _ _⟩
    · rcases placeF (s := s) (p := n) (by simp [h2]) with h3 | ⟨h3, h4⟩
      · clear h2
        go_enter Tryd.func52, Tryd.ntmps52
        go_wp2_with fail
        refine (sPV_any _ _ hp).mono ?_
        rintro e w' ⟨rfl, rfl⟩
        go_wp2_with fail
        refine (sTV_any _ _ hs).mono ?_
        rintro e w' ⟨rfl, rfl⟩
        go_wp2_with fail
        go_ret
        exact ⟨rfl, Below.refl _ _⟩
      · clear h2
        go_enter Tryd.func52, Tryd.ntmps52
        go_wp2_with fail
        refine (sPV_any _ _ hp).mono ?_
        rintro e w' ⟨rfl, rfl⟩
        go_wp2_with fail
        refine (sTV_any _ _ hs).mono ?_
        rintro e w' ⟨rfl, rfl⟩
        go_wp2_with fail
        refine (l1In_any _ _ _ _).mono ?_
        rintro e w' ⟨rfl, rfl⟩
        go_wp2_with fail
        go_ret
        exact ⟨rfl, Below.refl _ _⟩
end Go.Proofs.YtlnldnenkajcdaaDoor
