/- The contracts of the reference's TypeAll and EraseAll. -/
import Derived.Test.YtmdjmaijennmkaaTa
import Derived.Test.YtmdjmaijennmkaaJr
set_option linter.unusedVariables false
set_option linter.unusedSimpArgs false
namespace Go.Proofs.Ytmdjmaijennmkaa
open Go.RowKit
theorem jc_all {s put out : ByteArray} {l : List (Int × Int)} (h : cuV s l = true) (ho : out = tyX s put l) (hv : valid out.data.toList = true) : jcL out (cuFrom put.size (l.map endsC) 0 0) = joinR (cuFrom put.size (l.map endsC) 0 0) := by
  unfold jcL
  rw [if_pos]
  exact cu_pl (cu_fits h) (by simpa using (plV_iff.1 (cuV_iff.1 h).2).2.2) (by rw [ho]; rfl) hv
set_option maxRecDepth 100000 in
theorem sTA_any (s put : ByteArray) (A : Option Addr) (n c : Nat) (ps : List (Int × Int)) (w : World) (hs : s.size ≤ maxLen) (hp : put.size ≤ 1100000) (h : Row w w.heap.size A (pairs ps)) (hn : ps.length = n) (hmax : n ≤ 3000000) :
    Calls Try.prog 28 #[.string s, .slice A n c, .string put] w (TyP (tyS s put ps) (tyC s put ps) (tyOk s put ps) w) := by
  subst hn
  have hmade : ∀ W : World, w.heap.size ≤ W.heap.size → (W.alloc (.cells #[] 44)).ownsRow w.heap.size 44 2 (.slice (some ⟨W.heap.size, 0, none⟩) 0 0) 0 [] := fun W hW => World.ownsRow_made W #[] 0 hW (by decide) rfl
  cases hok : cuV s ps
  · have h1 : tyS s put ps = ⟨#[]⟩ := by unfold tyS; rw [hok]; rfl
    have h2 : tyC s put ps = [] := by unfold tyC; rw [hok]; rfl
    have h3 : tyOk s put ps = false := by unfold tyOk; rw [hok]; rfl
    have hcv := sCV_any s A _ c ps w hs h rfl hmax
    rw [hok] at hcv
    rw [h1, h2, h3]
    have HCV := Lib.hid hcv
    clear hcv h1 h2 h3 hok h
    go_enter Try.func28, Try.ntmps28
    go_wp2_with fail
    refine HCV.out.mono ?_
    rintro e W1 ⟨rfl, hb1⟩
    have HM := Lib.hid (And.intro (hmade W1 hb1.size) (hb1.alloc hb1.size (.cells #[] 44)))
    clear hb1 hmade
    go_wp2_with fail
    go_ret3
    exact ⟨_, 0, rfl, HM.out⟩
  · have hpl := (cuV_iff.1 hok).2
    obtain ⟨hv, _, h8⟩ := plV_iff.1 hpl
    have hsz := valid_size hv
    have hcv := sCV_any s A _ c ps w hs h rfl hmax
    rw [hok] at hcv
    have hxs := ty_size hok hp
    have hjc := fun out ho hv => jc_all (put := put) (out := out) hok ho hv
    have hf := cu_fits hok
    have h1 : tyS s put ps = if valid (tyX s put ps).data.toList = true then tyX s put ps else s := by unfold tyS; rw [hok]; rfl
    have h2 : tyC s put ps = if valid (tyX s put ps).data.toList = true then joinR (cuFrom put.size (ps.map endsC) 0 0) else ps := by unfold tyC; rw [hok]; rfl
    have h3 : tyOk s put ps = valid (tyX s put ps).data.toList := by unfold tyOk; rw [hok]; rfl
    generalize tyS s put ps = TS at *
    generalize tyC s put ps = TC at *
    generalize tyOk s put ps = TO at *
    have hxe : ∀ x : ByteArray, x.data.toList = tyFrom s.data.toList put.data.toList (ps.map endsC) 0 → x = tyX s put ps := fun x hx => ba_ext hx
    generalize tyX s put ps = X at *
    have HTT := Lib.hid (And.intro h1 (And.intro h2 h3))
    have H0 := Lib.hid (TyInv.start (put := put) hf)
    have hst := fun k (hk : k < (ps.map endsC).length) o a cur (h : TyInv s put (ps.map endsC) k o a cur) => h.step hk (by omega) hp
    have hdn := fun k (hk : (ps.map endsC).length ≤ k) o a cur (h : TyInv s put (ps.map endsC) k o a cur) => h.done hk
    have hEl : (ps.map endsC).length = ps.length := by simp
    have hEg : ∀ k (hk : k < ps.length) (hk2 : k < (ps.map endsC).length), (ps.map endsC)[k] = endsC ps[k] := fun k hk hk2 => by simp
    have hcl0 : (cuFrom put.size (ps.map endsC) 0 0).length ≤ 8 := by rw [cuFrom_len]; simpa using h8
    generalize tyFrom s.data.toList put.data.toList (ps.map endsC) 0 = R at *
    generalize hE : ps.map endsC = E at *
    have HE := Lib.hid (And.intro hEl (And.intro hEg (And.intro hxe (And.intro hjc hcl0))))
    have HS := Lib.hid hst
    have HD := Lib.hid hdn
    have HCV := Lib.hid hcv
    obtain ⟨i0, hi, hz0, hz1, hz2⟩ := info_parts infoPair
    clear hst hdn hEl hEg hE hf h1 h2 h3 hxe hjc hcl0 hcv hok hpl hv
    go_enter Try.func28, Try.ntmps28
    go_wp2_with fail
    refine HCV.out.mono ?_
    rintro e W1 ⟨rfl, hb1⟩
    have HM := Lib.hid (And.intro (hmade W1 hb1.size) (hb1.alloc hb1.size (.cells #[] 44)))
    have hz1' : w.heap.size ≤ (W1.alloc (.cells #[] 44)).heap.size := by have := hb1.size; simp; omega
    clear hb1
    go_wp2_with fail
    go_loopw [9, 10, 11, 12] (fun ov av nv iv wr => ∃ (k : Nat) (o : ByteArray) (a : Nat) (cur : List (Int × Int)), k ≤ ps.length ∧ iv = .int .i64 k ∧ ov = .string o ∧ av = .int .i64 a ∧ Hid (TyInv s put E k o.data.toList a cur ∧ cur.length = k) ∧ a ≤ s.size ∧ o.size ≤ k * 2000000 ∧ wr.ownsRow w.heap.size 44 2 nv cur.length (pairs cur) ∧ Below w.heap.size w wr ∧ w.heap.size ≤ wr.heap.size) (fun _ _ _ iv _ => ps.length - (intOf iv).toNat)
    case atStart => exact ⟨0, ⟨#[]⟩, 0, [], Nat.zero_le _, rfl, rfl, rfl, Lib.hid ⟨H0.out, rfl⟩, Nat.zero_le _, by show (0 : Nat) ≤ _; omega, HM.out.1, HM.out.2, hz1'⟩
    case round =>
      obtain ⟨k, o, a, cur, hk, rfl, rfl, rfl, hinv, has, hol, hown, hbw, hsz2⟩ := hrel
      by_cases hkn : k < ps.length
      · obtain ⟨p, q, he, hap, hpq, hqs, hnx, hlen⟩ := HS.out k (by rw [HE.out.1]; exact hkn) o.data.toList a cur hinv.out.1
        rw [HE.out.2.1 k hkn (by rw [HE.out.1]; exact hkn)] at he
        obtain ⟨g, z, rfl, hgz, cw0, cw1⟩ := h.pair hkn
        generalize (ps[k]'hkn) = y at cw0 cw1 he
        obtain ⟨y1, y2⟩ := y
        simp only at cw0 cw1
        have c0 := (hbw.cell (p := ⟨g, z + k * 2, none⟩) hgz).trans cw0
        have c1 := (hbw.cell (p := ⟨g, z + k * 2 + 1, none⟩) hgz).trans cw1
        have HCW := Lib.hid (And.intro cw0 cw1)
        clear cw0 cw1
        have hk' : (k : Int) < (ps.length : Int) := by omega
        have hk0 : (0 : Int) ≤ (k : Int) := by omega
        have ha0 : (0 : Int) ≤ (a : Int) := by omega
        have hap' : (a : Int) ≤ (p : Int) := by omega
        have hps' : (p : Int) ≤ (s.size : Int) := by omega
        have hlo := fun W => l7Lo_below y1 y2 W
        have hhi := fun W => l7Hi_below y1 y2 W
        have he1 : loC (y1, y2) = (p : Int) := congrArg Prod.fst he
        have he2 : hiC (y1, y2) = (q : Int) := congrArg Prod.snd he
        rw [he1] at hlo
        rw [he2] at hhi
        have hol' : o.data.toList.length = o.size := by simp
        rw [hol'] at hnx hlen
        have hcb : cur.length ≤ 8 := by have := hinv.out.2; omega
        have hNk : o.size + (p - a) + put.size ≤ (k + 1) * 2000000 := by rw [Nat.add_mul]; omega
        have hk8 : k * 2000000 ≤ 16000000 := Nat.mul_le_mul_right 2000000 (show k ≤ 8 by omega)
        obtain ⟨o2, ho2⟩ : ∃ o2, o2 = o ++ s.extract a p ++ put := ⟨_, rfl⟩
        have ho2d : o2.data.toList = o.data.toList ++ ((s.data.toList.drop a).take (p - a) ++ put.data.toList) := by rw [ho2]; exact piece_data o s put a p
        have ho2s : o2.size = o.size + (p - a) + put.size := by
          have e1 : o2.data.toList.length = o2.size := by simp
          rw [← e1, ho2d, hlen]
        rw [← ho2d, ← ho2s] at hnx
        rw [← ho2s] at hNk
        have HLO := Lib.hid (And.intro hlo hhi)
        have HNX := Lib.hid (And.intro hnx (And.intro hNk hinv.out.2))
        have HO2 := Lib.hid (And.intro ho2 (show (o.size : Int) + ((min p s.size - a : Nat) : Int) + (put.size : Int) = (o2.size : Int) by omega))
        obtain ⟨An, cn, rfl⟩ := own_form2 hown
        have HW := Lib.hid (And.intro hown hbw)
        have hgz2 : g < wr.heap.size := by omega
        clear hnx hlen hlo hhi he he1 he2 hinv hown hbw h ho2 ho2d ho2s hol' hNk
        go_wp2_with fail
        refine (HLO.out.1 _).mono ?_
        rintro e W2 ⟨rfl, hb2⟩
        have hown2 := own_below HW.out.1 hb2
        have hbw2 := HW.out.2.trans (hb2.mono hsz2)
        have c02 := (hb2.cell (p := ⟨g, z + k * 2, none⟩) hgz2).trans c0
        have c12 := (hb2.cell (p := ⟨g, z + k * 2 + 1, none⟩) hgz2).trans c1
        have hsz3 : w.heap.size ≤ W2.heap.size := Nat.le_trans hsz2 hb2.size
        have hgz3 : g < W2.heap.size := Nat.lt_of_lt_of_le hgz2 hb2.size
        clear hb2 HW c0 c1
        go_wp2_with (first | (at_builtin; refine wpList_append_own _ rfl _ _ 25 rfl w.heap.size 44 i0 (.agg #[.int .i64 0, .int .i64 0]) 2 16 Try.underlying25 hi hz0 hz1 hz2 rfl (by decide) _ cur.length (pairs cur) rfl (hown2.alloc _) ⟨W2.heap.size, 0, none⟩ 1 1 [_, _] rfl rfl (news2 _ _ _ _) (ones2 _ _) (by unfold maxLen; omega) (by omega) (by simp; omega) ?_))
        intro v5 w5 hown5 hg5 _
        rw [HO2.out.2] at hown5 hg5
        have hb5 : Below w.heap.size w w5 := (hbw2.alloc hsz3 _).grown hg5 (by simp; omega) (fun q hq => (hown2.lt q hq).1)
        have hsz5 : w.heap.size ≤ w5.heap.size := by have := hg5.size; simp at this; omega
        rw [cu_step] at hown5
        have c05 := (hb5.cell (p := ⟨g, z + k * 2, none⟩) hgz).trans HCW.out.1
        have c15 := (hb5.cell (p := ⟨g, z + k * 2 + 1, none⟩) hgz).trans HCW.out.2
        have HF := Lib.hid (And.intro hown5 (And.intro hb5 hsz5))
        have hcl5 : (cur ++ [((o2.size : Int), (o2.size : Int))]).length = cur.length + 1 := by simp
        clear hown2 hbw2 c02 c12 hg5 hown5 hb5
        go_wp2_with fail
        refine (HLO.out.2 _).mono ?_
        rintro e W6 ⟨rfl, hb6⟩
        have HF2 := Lib.hid (And.intro (own_below HF.out.1 hb6) (And.intro (HF.out.2.1.trans (hb6.mono hsz5)) (Nat.le_trans hsz5 hb6.size)))
        clear hb6 HF c05 c15
        go_wp2_with fail
        go_roundw
        case rel =>
          rw [← HO2.out.1]
          refine ⟨k + 1, o2, q, _, by omega, by go_num, rfl, rfl, Lib.hid ⟨HNX.out.1, by rw [hcl5, HNX.out.2.2]⟩, by omega, HNX.out.2.1, ?_, HF2.out.2.1, HF2.out.2.2⟩
          rw [hcl5]; exact HF2.out.1
        case measure => (simp [intOf] <;> omega)
      · obtain rfl : k = ps.length := by omega
        obtain ⟨d1, d2⟩ := HD.out _ (Nat.le_of_eq HE.out.1) o.data.toList a cur hinv.out.1
        subst d2
        have hk8 : ps.length * 2000000 ≤ 16000000 := Nat.mul_le_mul_right 2000000 (show ps.length ≤ 8 by omega)
        have hx := HE.out.2.2.1 (o ++ s.extract a s.size) ((tail_data o s a).trans d1)
        have HX := Lib.hid hx
        have ha0 : (0 : Int) ≤ (a : Int) := by omega
        have has' : (a : Int) ≤ (s.size : Int) := by omega
        obtain ⟨An, cn, rfl⟩ := own_form2 hown
        have HW := Lib.hid (And.intro hown hbw)
        have hcb := HE.out.2.2.2.2
        have hjc := HE.out.2.2.2.1 X rfl
        generalize cuFrom put.size E 0 0 = K at *
        have HJC := Lib.hid hjc
        have HROW := Lib.hid h
        clear d1 hinv hown hbw hx hjc h
        go_wp2_with fail
        rw [HX.out]
        refine (sTV_any _ _ hxs).mono ?_
        rintro e w' ⟨rfl, rfl⟩
        cases hval : valid X.data.toList
        · have hTT := HTT.out
          rw [hval] at hTT
          simp only [Bool.false_eq_true, if_false] at hTT
          obtain ⟨t1, t2, t3⟩ := hTT
          subst t1 t2 t3
          have hO := World.ownsRow_made (base := w.heap.size) (e := 44) (size := 2) wr #[] 0 hsz2 (by decide) rfl
          have hbE := HW.out.2.alloc hsz2 (.cells #[] 44)
          cases A with
          | none =>
            obtain rfl := nil_row HROW.out
            have HF := Lib.hid (And.intro hO hbE)
            clear hO hbE
            go_wp2_with fail
            go_ret3
            exact ⟨_, 0, rfl, HF.out⟩
          | some ad =>
            have hnews : ∀ j u, (pairs TC)[j]? = some u → (wr.alloc (.cells #[] 44)).cell? (ad.add j) = some u := by
              intro j u hj
              obtain ⟨b, o, e, hb, hc⟩ := (HROW.out.below hbE) j u hj
              injection e with e
              subst e
              rw [Go.WideShapes.add_plain]; exact hc
            have hpn := pairs_len TC
            go_wp2_with (first | (at_builtin; refine wpList_append_own _ rfl _ _ 25 rfl w.heap.size 44 i0 (.agg #[.int .i64 0, .int .i64 0]) 2 16 Try.underlying25 hi hz0 hz1 hz2 rfl (by decide) _ 0 [] rfl hO ad TC.length c (pairs TC) rfl hpn hnews (pairs_ones _) (by unfold maxLen; omega) (by omega) (by simp; omega) ?_))
            intro v w3 hown hgrow _
            have hb3 : Below w.heap.size w w3 := hbE.grown hgrow (by simp; omega) (fun k hk => (hO.lt k hk).1)
            have hown' : w3.ownsRow w.heap.size 44 2 v TC.length (pairs TC) := by simpa using hown
            obtain ⟨A3, c3, rfl⟩ := own_form2 hown'
            have HF := Lib.hid (And.intro hown' hb3)
            clear hown hown' hgrow hb3 hO hbE hnews hpn
            go_wp2_with fail
            go_ret3
            exact ⟨A3, c3, rfl, HF.out⟩
        · have hTT := HTT.out
          rw [hval] at hTT
          simp only [if_true] at hTT
          obtain ⟨t1, t2, t3⟩ := hTT
          subst t1 t2 t3
          have hjx := HJC.out hval
          have hrr := Row.of_own2 HW.out.1
          have hsj := sJC_any TS _ _ cn K wr hxs hrr rfl (by omega)
          rw [hjx] at hsj
          have HSJ := Lib.hid hsj
          clear hjx hrr hsj
          go_wp2_with fail
          refine HSJ.out.mono ?_
          rintro e W7 ⟨A7, c7, rfl, ho7, hb7⟩
          have HF := Lib.hid (And.intro (own_le ho7 hsz2) (HW.out.2.trans (hb7.mono hsz2)))
          clear ho7 hb7 HSJ
          go_wp2_with fail
          go_ret3
          exact ⟨A7, c7, rfl, HF.out⟩
set_option maxRecDepth 100000 in
theorem sEA_any (s : ByteArray) (A : Option Addr) (n c : Nat) (ps : List (Int × Int)) (w : World) (hs : s.size ≤ maxLen) (h : Row w w.heap.size A (pairs ps)) (hn : ps.length = n) (hmax : n ≤ 3000000) :
    Calls Try.prog 30 #[.string s, .slice A n c] w (ErP (erS s ps) (erC s ps) w) := by
  subst hn
  have hmade : ∀ W : World, w.heap.size ≤ W.heap.size → (W.alloc (.cells #[] 44)).ownsRow w.heap.size 44 2 (.slice (some ⟨W.heap.size, 0, none⟩) 0 0) 0 [] := fun W hW => World.ownsRow_made W #[] 0 hW (by decide) rfl
  cases hok : cuV s ps
  · have h1 : erS s ps = ⟨#[]⟩ := by unfold erS; rw [hok]; rfl
    have h2 : erC s ps = [] := by unfold erC; rw [hok]; rfl
    have hcv := sCV_any s A _ c ps w hs h rfl hmax
    rw [hok] at hcv
    rw [h1, h2]
    have HCV := Lib.hid hcv
    clear hcv h1 h2 hok h
    go_enter Try.func30, Try.ntmps30
    go_wp2_with fail
    refine HCV.out.mono ?_
    rintro e W1 ⟨rfl, hb1⟩
    have HM := Lib.hid (And.intro (hmade W1 hb1.size) (hb1.alloc hb1.size (.cells #[] 44)))
    clear hb1 hmade
    go_wp2_with fail
    go_ret2
    exact ⟨_, 0, rfl, HM.out⟩
  · have hpl := (cuV_iff.1 hok).2
    obtain ⟨hv, hbn, h8⟩ := plV_iff.1 hpl
    have hsz := valid_size hv
    have hcv := sCV_any s A _ c ps w hs h rfl hmax
    rw [hok] at hcv
    obtain ⟨e1, e2, e3, e4⟩ := er_ref hok
    have hW : ∀ k (hk : k < ps.length), (ps.map wideC)[k]? = some (wideC ps[k]) := fun k hk => by simp [hk]
    have hbd := cu_bounds hok
    have hWl : (ps.map wideC).length = ps.length := by simp
    have hWt : ∀ k (hk : k < ps.length), (ps.map wideC).take (k + 1) = (ps.map wideC).take k ++ [wideC ps[k]] := fun k hk => by
      rw [List.take_succ_eq_append_getElem (by simpa using hk)]; simp
    have hj8 : (jcL s (ps.map wideC)).length ≤ 8 := by
      unfold jcL
      split
      · exact Nat.le_trans (joinR_len _) (by simpa using h8)
      · simp
    generalize hEe : ps.map wideC = E at *
    generalize hJe : jcL s E = J at *
    obtain ⟨i0, hi, hz0, hz1, hz2⟩ := info_parts infoPair
    have HX := Lib.hid (And.intro e1 (And.intro e2 (And.intro e3 e4)))
    have HE := Lib.hid (And.intro hWl (And.intro hWt hJe))
    have HCV := Lib.hid hcv
    clear e1 e2 e3 e4 hcv hWl hWt hW hEe hok hpl hv hbn
    generalize erS s ps = ES at *
    generalize erC s ps = EC at *
    go_enter Try.func30, Try.ntmps30
    go_wp2_with fail
    refine HCV.out.mono ?_
    rintro e W1 ⟨rfl, hb1⟩
    have HM := Lib.hid (And.intro (hmade W1 hb1.size) (hb1.alloc hb1.size (.cells #[] 44)))
    have hz1' : w.heap.size ≤ (W1.alloc (.cells #[] 44)).heap.size := by have := hb1.size; simp; omega
    clear hb1
    go_wp2_with fail
    go_loopw [6, 7] (fun nv iv wr => ∃ (k : Nat), k ≤ ps.length ∧ iv = .int .i64 k ∧ wr.ownsRow w.heap.size 44 2 nv k (pairs (E.take k)) ∧ Below w.heap.size w wr ∧ w.heap.size ≤ wr.heap.size) (fun _ iv _ => ps.length - (intOf iv).toNat)
    case atStart => exact ⟨0, Nat.zero_le _, rfl, HM.out.1, HM.out.2, hz1'⟩
    case round =>
      obtain ⟨k, hk, rfl, hown, hbw, hsz2⟩ := hrel
      by_cases hkn : k < ps.length
      · obtain ⟨g, z, rfl, hgz, cw0, cw1⟩ := h.pair hkn
        have het := HE.out.2.1 k hkn
        have hbd' := hbd _ (List.getElem_mem hkn)
        generalize (ps[k]'hkn) = y at cw0 cw1 het hbd'
        obtain ⟨y1, y2⟩ := y
        simp only at cw0 cw1 hbd'
        have c0 := (hbw.cell (p := ⟨g, z + k * 2, none⟩) hgz).trans cw0
        have c1 := (hbw.cell (p := ⟨g, z + k * 2 + 1, none⟩) hgz).trans cw1
        have HCW := Lib.hid (And.intro cw0 cw1)
        have hk' : (k : Int) < (ps.length : Int) := by omega
        have hk0 : (0 : Int) ≤ (k : Int) := by omega
        have hlo := fun W => l7Lo_below y1 y2 W
        have hhi := fun W => l7Hi_below y1 y2 W
        have hwd : wideC (y1, y2) = (if loC (y1, y2) = hiC (y1, y2) then max 0 (loC (y1, y2) - 1) else loC (y1, y2), hiC (y1, y2)) := rfl
        have hlb : -1000000 ≤ loC (y1, y2) ∧ loC (y1, y2) ≤ 1000000 := by unfold loC; simp only; omega
        rw [hwd] at het
        clear hwd
        generalize loC (y1, y2) = lo at *
        generalize hiC (y1, y2) = hi' at *
        have HLO := Lib.hid (And.intro hlo hhi)
        have HET := Lib.hid het
        obtain ⟨An, cn, rfl⟩ := own_form2 hown
        have HW := Lib.hid (And.intro hown hbw)
        have hgz2 : g < wr.heap.size := by omega
        clear cw0 cw1 het hlo hhi hown hbw hbd'
        go_wp2_with fail
        refine (HLO.out.1 _).mono ?_
        rintro e W2 ⟨rfl, hb2⟩
        have hbw2 := HW.out.2.trans (hb2.mono hsz2)
        have c02 := (hbw2.cell (p := ⟨g, z + k * 2, none⟩) hgz).trans HCW.out.1
        have c12 := (hbw2.cell (p := ⟨g, z + k * 2 + 1, none⟩) hgz).trans HCW.out.2
        have HW2 := Lib.hid (And.intro (own_below HW.out.1 hb2) (And.intro hbw2 (Nat.le_trans hsz2 hb2.size)))
        clear hb2 hbw2 HW c0 c1
        go_wp2_with fail
        refine (HLO.out.2 _).mono ?_
        rintro e W3 ⟨rfl, hb3⟩
        have hbw3 := HW2.out.2.1.trans (hb3.mono HW2.out.2.2)
        have c03 := (hbw3.cell (p := ⟨g, z + k * 2, none⟩) hgz).trans HCW.out.1
        have c13 := (hbw3.cell (p := ⟨g, z + k * 2 + 1, none⟩) hgz).trans HCW.out.2
        have HW3 := Lib.hid (And.intro (own_below HW2.out.1 hb3) (And.intro hbw3 (Nat.le_trans HW2.out.2.2 hb3.size)))
        clear hb3 hbw3 HW2 c02 c12
        have hstep : Hid (∀ (x : Int), x = (if lo = hi' then max 0 (lo - 1) else lo) → ∀ (W5 : World) (v : Value) (xs : List Value), W5.ownsRow w.heap.size 44 2 v (k + 1) (pairs (E.take k) ++ [.int .i64 x, .int .i64 hi']) → W5.ownsRow w.heap.size 44 2 v (k + 1) (pairs (E.take (k + 1)))) := Lib.hid (fun x hx W5 v _ ho => by
          rw [HET.out, pairs_snoc, ← hx]; exact ho)
        by_cases hxy : lo = hi'
        · have hee : (lo == hi') = true := by simp [hxy]
          have HXY : Hid (max 0 (lo - 1) = (if lo = hi' then max 0 (lo - 1) else lo)) := Lib.hid (by rw [if_pos hxy])
          clear hxy
          go_wp2_with fail
          refine (HLO.out.2 _).mono ?_
          rintro e W4 ⟨rfl, hb4⟩
          have hown4 := own_below HW3.out.1 hb4
          have hbw4 := HW3.out.2.1.trans (hb4.mono HW3.out.2.2)
          have hsz4 : w.heap.size ≤ W4.heap.size := Nat.le_trans HW3.out.2.2 hb4.size
          clear hb4 HW3 c03 c13
          go_wp2_with (first | (at_builtin; refine wpList_append_own _ rfl _ _ 25 rfl w.heap.size 44 i0 (.agg #[.int .i64 0, .int .i64 0]) 2 16 Try.underlying25 hi hz0 hz1 hz2 rfl (by decide) _ k (pairs (E.take k)) rfl (hown4.alloc _) ⟨W4.heap.size, 0, none⟩ 1 1 [_, _] rfl rfl (news2 _ _ _ _) (ones2 _ _) (by unfold maxLen; omega) (by omega) (by simp; omega) ?_))
          intro v5 w5 hown5 hg5 _
          have hb5 : Below w.heap.size w w5 := (hbw4.alloc hsz4 _).grown hg5 (by simp; omega) (fun q hq => (hown4.lt q hq).1)
          have hsz5 : w.heap.size ≤ w5.heap.size := by have := hg5.size; simp at this; omega
          have hown6 := hstep.out _ HXY.out w5 v5 [] hown5
          have HF := Lib.hid (And.intro hown6 (And.intro hb5 hsz5))
          clear hown4 hbw4 hg5 hown5 hown6 hb5
          go_wp2_with fail
          go_roundw
          case rel => exact ⟨k + 1, by omega, by go_num, HF.out.1, HF.out.2.1, HF.out.2.2⟩
          case measure => (simp [intOf] <;> omega)
        · have hee : (lo == hi') = false := by simp [hxy]
          have HXY : Hid (lo = (if lo = hi' then max 0 (lo - 1) else lo)) := Lib.hid (by rw [if_neg hxy])
          clear hxy
          go_wp2_with fail
          refine (HLO.out.2 _).mono ?_
          rintro e W4 ⟨rfl, hb4⟩
          have hown4 := own_below HW3.out.1 hb4
          have hbw4 := HW3.out.2.1.trans (hb4.mono HW3.out.2.2)
          have hsz4 : w.heap.size ≤ W4.heap.size := Nat.le_trans HW3.out.2.2 hb4.size
          clear hb4 HW3 c03 c13
          go_wp2_with (first | (at_builtin; refine wpList_append_own _ rfl _ _ 25 rfl w.heap.size 44 i0 (.agg #[.int .i64 0, .int .i64 0]) 2 16 Try.underlying25 hi hz0 hz1 hz2 rfl (by decide) _ k (pairs (E.take k)) rfl (hown4.alloc _) ⟨W4.heap.size, 0, none⟩ 1 1 [_, _] rfl rfl (news2 _ _ _ _) (ones2 _ _) (by unfold maxLen; omega) (by omega) (by simp; omega) ?_))
          intro v5 w5 hown5 hg5 _
          have hb5 : Below w.heap.size w w5 := (hbw4.alloc hsz4 _).grown hg5 (by simp; omega) (fun q hq => (hown4.lt q hq).1)
          have hsz5 : w.heap.size ≤ w5.heap.size := by have := hg5.size; simp at this; omega
          have hown6 := hstep.out _ HXY.out w5 v5 [] hown5
          have HF := Lib.hid (And.intro hown6 (And.intro hb5 hsz5))
          clear hown4 hbw4 hg5 hown5 hown6 hb5
          go_wp2_with fail
          go_roundw
          case rel => exact ⟨k + 1, by omega, by go_num, HF.out.1, HF.out.2.1, HF.out.2.2⟩
          case measure => (simp [intOf] <;> omega)
      · obtain rfl : k = ps.length := by omega
        have hEt : E.take ps.length = E := by rw [← HE.out.1]; exact List.take_length
        rw [hEt] at hown
        obtain ⟨An, cn, rfl⟩ := own_form2 hown
        have hrr := Row.of_own2 hown
        have hsj := sJC_any s _ _ cn E wr hs hrr HE.out.1 (by omega)
        rw [HE.out.2.2] at hsj
        have HSJ := Lib.hid hsj
        have HW := Lib.hid (And.intro hown hbw)
        clear hown hbw hrr hsj h
        go_wp2_with fail
        refine HSJ.out.mono ?_
        rintro e W7 ⟨A7, c7, rfl, ho7, hb7⟩
        have hrj := Row.of_own2 ho7
        have hst := sTA_any s ⟨#[]⟩ _ _ c7 J W7 hs (by show (0 : Nat) ≤ _; omega) hrj rfl (by omega)
        rw [HX.out.2.1, HX.out.2.2.1, HX.out.2.2.2] at hst
        have HST := Lib.hid hst
        have HF := Lib.hid (And.intro (HW.out.2.trans (hb7.mono hsz2)) (Nat.le_trans hsz2 hb7.size))
        clear hst hrj ho7 hb7 HSJ HW
        go_wp2_with fail
        refine HST.out.mono ?_
        rintro e W8 ⟨A8, c8, rfl, ho8, hb8⟩
        have HG := Lib.hid (And.intro (own_le ho8 HF.out.2) (HF.out.1.trans (hb8.mono HF.out.2)))
        clear ho8 hb8 HST HF
        go_wp2_with fail
        go_ret2
        exact ⟨A8, c8, rfl, HG.out⟩
end Go.Proofs.Ytmdjmaijennmkaa
