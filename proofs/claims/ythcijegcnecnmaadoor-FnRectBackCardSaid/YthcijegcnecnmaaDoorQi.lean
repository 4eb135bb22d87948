/- The law on RectCut over drawn inputs, walked. -/
import Derived.Test.YthcijegcnecnmaaDoorQm
import Derived.Test.YthcijegcnecnmaaDoorQg
import Derived.Test.YthcijegcnecnmaaDoorAl
set_option linter.unusedVariables false
set_option linter.unusedSimpArgs false
namespace Go.Proofs.YthcijegcnecnmaaDoor
open Go.RowKit
theorem rt_no {s : ByteArray} {a b : Int} (h : rcOk s a b = false) : rtC s a b = ⟨#[]⟩ ∨ rtC s a b = s := by
  unfold rtC
  split
  · rw [if_neg (by simp [h])]; exact .inr rfl
  · exact .inl rfl
theorem lens_take {l : List ByteArray} {k : Nat} (hk : k < l.length) : lens (l.take (k + 1)) = lens (l.take k) + l[k].size := by
  rw [List.take_succ_eq_append_getElem hk, lens_app]; simp [lens]
theorem lens_le (l : List ByteArray) (k : Nat) : lens (l.take k) ≤ lens l := by
  have : lens l = lens (l.take k) + lens (l.drop k) := by rw [← lens_app, List.take_append_drop]
  omega
theorem rtC_small (s : ByteArray) (a b : Int) (hs : s.size ≤ 200) : (rtC s a b).size ≤ 200 := by
  cases h : rcOk s a b
  · rcases rt_no h with e | e <;> rw [e]
    · exact Nat.zero_le _
    · exact hs
  · have := (rt_all h).2.2.1; omega
set_option maxHeartbeats 4000000 in
set_option maxRecDepth 100000 in
theorem law_FnRectCut (A : Option Addr) (n c : Nat) (zs : List Int) (w : World) (h : IsBytes w A n c zs) (hM : ML w) :
    Calls Tryd.prog 8 #[.slice A n c] w fun e w' => e = .returned (.bool true) ∧ Below w.heap.size w w' := by
  by_cases hbig : 1048576 < n
  · go_enter Tryd.func8, Tryd.ntmps8
    go_wp2
    go_ret
    exact ⟨rfl, Below.refl _ _⟩
  have hML := hM.lt
  have HD := Lib.hid (dDrawRectCut A n c zs _ h)
  clear h
  go_enter Tryd.func8, Tryd.ntmps8
  go_wp2_with fail
  refine HD.out.mono ?_
  rintro e W1 ⟨s, a, b, rfl, hs0, hu1, hu2, hv1, hv2, hb1⟩
  have hs : s.size ≤ maxLen := by unfold maxLen; omega
  clear hbig
  have hlen := rc_small s a b
  have hxs := rtC_small s a b hs0
  have hc1 := fun w hM => iRC_any s a b w hs hM
  have hc2 := fun w => sRC_any s a b w hs
  have hc3 := fun w hM => iRc_any s a b w hs hM
  have hall := rt_all (s := s) (a := a) (b := b)
  have hok2 : rcOk s a b = true → place s a = true ∧ place s b = true := fun h => by unfold rcOk at h; simpa using h
  have hno : rcOk s a b = false → (rtC s a b = ⟨#[]⟩ ∨ rtC s a b = s) ∧ (place s a && place s b) = false := fun h => ⟨rt_no h, h⟩
  have hp1 := fun w => placeOk_any s a w hs
  have hp2 := fun w => placeOk_any s b w hs
  have hlm1 := fun W => iLM_any s W hs
  have hlm2 := fun W => iLM_any (rtC s a b) W (by unfold maxLen; omega)
  have hac := fun (p q : Nat) W => applyChange_any s ⟨#[]⟩ p q W hs0 (Nat.zero_le _)
  generalize rcL s a b = xs at *
  generalize rtC s a b = x at *
  generalize hok : rcOk s a b = ok at *
  clear hok
  have H1 := Lib.hid hc1
  have H2 := Lib.hid hc2
  have H3 := Lib.hid hc3
  have HA := Lib.hid hall
  have HO2 := Lib.hid hok2
  have HN := Lib.hid hno
  have HL1 := Lib.hid hlm1
  have HL2 := Lib.hid hlm2
  have HAC := Lib.hid hac
  clear hc1 hc2 hc3 hall hok2 hno hlm1 hlm2 hac
  go_wp2_with fail
  refine (H1.out _ (hM.below hb1 hML)).mono ?_
  rintro e W2 ⟨rfl, hb2⟩
  have hbw2 := below_on hb1 hb2
  clear hb2 hb1
  go_wp2_with fail
  refine (H2.out _).mono ?_
  rintro e W3 ⟨rfl, hb3⟩
  have hbw3 := below_on hbw2 hb3
  clear hb3 hbw2 H1 H2
  cases ok
  · obtain ⟨hx, hpq⟩ := HN.out rfl
    have HP1 := Lib.hid hp1
    have HP2 := Lib.hid hp2
    clear hp1 hp2 HA HN HL1 HL2 HAC HO2 H3 hxs
    cases hpa : place s a
    · rw [hpa] at HP1
      rcases hx with rfl | rfl
      all_goals
        go_wp2_with fail
        refine (HP1.out _).mono ?_
        rintro e w' ⟨rfl, rfl⟩
        go_wp2_with (go_at_call 19; refine (alive_any _).mono ?_; rintro e w' ⟨rfl, rfl⟩)
        all_goals (go_ret; exact ⟨by first | rfl | simp, hbw3⟩)
    · have hpb : place s b = false := by rw [hpa] at hpq; simpa using hpq
      rw [hpa] at HP1
      rw [hpb] at HP2
      rcases hx with rfl | rfl
      all_goals
        go_wp2_with fail
        refine (HP1.out _).mono ?_
        rintro e w' ⟨rfl, rfl⟩
        go_wp2_with fail
        refine (HP2.out _).mono ?_
        rintro e w' ⟨rfl, rfl⟩
        go_wp2_with (go_at_call 19; refine (alive_any _).mono ?_; rintro e w' ⟨rfl, rfl⟩)
        all_goals (go_ret; exact ⟨by first | rfl | simp, hbw3⟩)
  · obtain ⟨pa, pb⟩ := HO2.out rfl
    obtain ⟨g1, g2, g3, g4⟩ := HA.out rfl
    rw [pa] at hp1
    rw [pb] at hp2
    rw [g2] at HL2
    have hlt := lens_le xs
    have hlk := fun k (hk : k < xs.length) => lens_take hk
    have hls : lens xs ≤ 200 := by omega
    have HP1 := Lib.hid hp1
    have HP2 := Lib.hid hp2
    have G1 := Lib.hid g1
    have G4 := Lib.hid g4
    have HLT := Lib.hid hlt
    have HLK := Lib.hid hlk
    clear hp1 hp2 HA HN HO2 g1 g2 g4 hlt hlk
    go_wp2_with fail
    refine (HP1.out _).mono ?_
    rintro e w' ⟨rfl, rfl⟩
    go_wp2_with fail
    refine (HP2.out _).mono ?_
    rintro e w' ⟨rfl, rfl⟩
    go_wp2_with fail
    refine (H3.out _ (hM.below hbw3 hML)).mono ?_
    rintro e W4 ⟨A4, c4, rfl, ho4, hb4⟩
    have hr4 := Row.of_own ho4
    have hbw4 := below_on hbw3 hb4
    clear ho4 hb4 hbw3
    go_wp2_with fail
    go_loopw [7, 9] (fun nv kv wr => ∃ k : Nat, k ≤ xs.length ∧ kv = .int .i64 k ∧ nv = .int .i64 ((s.size : Int) - (lens (xs.take k) : Nat)) ∧ wr = W4) (fun _ kv _ => xs.length - (intOf kv).toNat)
    case atStart => exact ⟨0, Nat.zero_le _, rfl, by simp [lens], rfl⟩
    case round =>
      obtain ⟨k, hk, rfl, rfl, rfl⟩ := hrel
      by_cases hkx : k < xs.length
      · obtain ⟨g, o, rfl, hgb, c0⟩ := hr4.str hkx
        have h7 := HLT.out k
        have h8 := HLT.out (k + 1)
        have h9 := HLK.out k hkx
        have hnx : ∀ v : Int, v = (s.size : Int) - (lens (xs.take k) : Nat) - ((xs[k]'hkx).size : Int) → v = (s.size : Int) - (lens (xs.take (k + 1)) : Nat) := fun v hv => by omega
        generalize (xs[k]'hkx) = z at *
        have HNX := Lib.hid hnx
        have hzs : z.size ≤ 200 := by omega
        clear h8 h9 hnx
        generalize lens (xs.take k) = L at *
        have hk' : (k : Int) < (xs.length : Int) := by omega
        have hk0 : (0 : Int) ≤ (k : Int) := by omega
        have x5 : IntKind.i64.wrap ((s.size : Int) - (L : Int) - (z.size : Int)) = (s.size : Int) - (L : Int) - (z.size : Int) := IntWalk.i64_in _ (by omega)
        go_wp2_with fail
        go_roundw
        case rel => exact ⟨k + 1, by omega, by go_num, by rw [HNX.out _ rfl], by first | rfl | trivial⟩
        case measure => (simp [intOf] <;> omega)
      · obtain rfl : k = xs.length := by omega
        have hxn : (s.size : Int) - (lens (xs.take xs.length) : Nat) = (x.size : Int) := by rw [List.take_length, G1.out]
        rw [hxn]
        obtain ⟨W4, hW⟩ : ∃ W, W = wr := ⟨wr, rfl⟩
        subst hW
        clear hxn
        by_cases h1l : xs.length = 1
        · obtain ⟨p, q, i1, i2, i3, i4, i5, i6, i7⟩ := G4.out h1l
          have hap := fun W => HAC.out p q W i6 i3 i4 i7
          rw [← i5] at hap
          have HAP := Lib.hid hap
          have h1l' : ((xs.length : Int) == 1) = true := by rw [h1l]; rfl
          clear hap i5 i6 i7 HAC G4 H3
          go_wp2_with fail
          refine (HAP.out _).mono ?_
          rintro e W5 ⟨rfl, hb5⟩
          have hbw5 := below_on hbw4 hb5
          go_wp2_with fail
          refine (HL2.out _).mono ?_
          rintro e w' ⟨rfl, rfl⟩
          go_wp2_with fail
          refine (HL1.out _).mono ?_
          rintro e w' ⟨rfl, rfl⟩
          go_wp2_with fail
          all_goals (go_ret; exact ⟨by first | rfl | simp, hbw5⟩)
        · have h1l' : ((xs.length : Int) == 1) = false := beq_eq_false_iff_ne.mpr (by omega)
          clear HAC G4 H3
          go_wp2_with fail
          refine (HL2.out _).mono ?_
          rintro e w' ⟨rfl, rfl⟩
          go_wp2_with fail
          refine (HL1.out _).mono ?_
          rintro e w' ⟨rfl, rfl⟩
          go_wp2_with fail
          all_goals (go_ret; exact ⟨by first | rfl | simp, hbw4⟩)
end Go.Proofs.YthcijegcnecnmaaDoor
