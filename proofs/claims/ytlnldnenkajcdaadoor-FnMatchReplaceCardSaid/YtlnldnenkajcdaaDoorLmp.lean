/- The law on replaced matches, walked. -/
import Derived.Test.YtlnldnenkajcdaaDoorMu
import Derived.Test.YtlnldnenkajcdaaDoorMv
import Derived.Test.YtlnldnenkajcdaaDoorMw2
import Derived.Test.YtlnldnenkajcdaaDoorAl
set_option linter.unusedVariables false
set_option linter.unusedSimpArgs false
namespace Go.Proofs.YtlnldnenkajcdaaDoor
open Go.RowKit
set_option maxHeartbeats 4000000 in
set_option maxRecDepth 100000 in
theorem law_FnMatchReplace (A : Option Addr) (n c : Nat) (zs : List Int) (w : World) (h : IsBytes w A n c zs) (hM : ML w) :
    Calls Tryd.prog 6 #[.slice A n c] w fun e w' => e = .returned (.bool true) ∧ Below w.heap.size w w' := by
  by_cases hbig : 1048576 < n
  · go_enter Tryd.func6, Tryd.ntmps6
    go_wp2
    go_ret
    exact ⟨rfl, Below.refl _ _⟩
  have hbg : decide ((1048576 : Int) < (n : Int)) = false := by simp; omega
  have hML := hM.lt
  have HM := Lib.hid hM
  clear hM
  go_enter Tryd.func6, Tryd.ntmps6
  go_wp2_with fail
  refine (dDrawMatchReplace A n c zs _ h).mono ?_
  rintro e W1 ⟨p, s, t, rfl, hp0, hs0, ht0, hb⟩
  have hs : s.size ≤ maxLen := by unfold maxLen; omega
  have hp : p.size ≤ maxLen := by unfold maxLen; omega
  have hM1 := HM.out.below hb hML
  have HB1 := Lib.hid hb
  have hBW := hb.size
  clear hbig hb
  have hc1 := fun W hM => iMR_any p s t W hp hs (by omega) hM
  have hc2 := fun W => sMR_any p s t W hp hs (by omega)
  cases hz : mrB p s t
  · rw [hz] at hc1 hc2
    have hbad := mr_bad hz
    generalize mrS p s t = x at *
    have H1 := Lib.hid hc1
    have H2 := Lib.hid hc2
    have HM1 := Lib.hid hM1
    clear hc1 hc2 hM1 hz
    go_wp2_with fail
    refine (H1.out _ HM1.out).mono ?_
    rintro e W2 ⟨rfl, hb2⟩
    have HB2 := Lib.hid (HB1.out.trans (hb2.mono hBW))
    clear hb2
    go_wp2_with fail
    refine (H2.out _).mono ?_
    rintro e W3 ⟨rfl, hb3⟩
    have HB3 := Lib.hid (HB2.out.trans (hb3.mono HB2.out.size))
    clear hb3
    by_cases hx : x = ⟨#[]⟩
    · subst hx
      go_wp2_with (go_at_call 17; refine (alive_any _).mono ?_; rintro e w' ⟨rfl, rfl⟩)
      go_ret
      exact ⟨rfl, HB3.out⟩
    · obtain rfl : x = s := hbad.resolve_left hx
      go_wp2_with (go_at_call 17; refine (alive_any _).mono ?_; rintro e w' ⟨rfl, rfl⟩)
      all_goals
        go_ret
        exact ⟨by first | rfl | simp, HB3.out⟩
  · rw [hz] at hc1 hc2
    obtain ⟨hok, h12, hv, hx⟩ := mr_good hz
    obtain ⟨a1, a2⟩ := amp_same hok
    have hc3 := fun W hM => iMR_any p s ⟨#[38]⟩ W hp hs (by decide) hM
    rw [a1, a2] at hc3
    have hxl : (mrS p s t).size = (mrL p s t).length := by rw [hx]; show (mrL p s t).toArray.size = _; simp
    have hxv : valid (mrS p s t).data.toList = true := by rw [hx]; simpa using hv
    have hxs : (mrS p s t).size ≤ maxLen := Nat.le_trans (valid_size hxv) (by decide)
    have hc4 := fun W => iTV_any (mrS p s t) W hxs
    rw [hxv] at hc4
    have hc5 := fun W => iMA_any p s W hp hs
    have hlen := maL_small p s
    have hss : s.size ≤ 120 := by
      unfold mrOk at hok; rw [Bool.and_eq_true] at hok; exact valid_size hok.2
    have hst := fun k m (h : MzInv p s t k m) (hk : k < (maL p s).length) => h.step hk h12
    have hsm := fun k m (h : MzInv p s t k m) (hk : k ≤ 122) => h.small hk hss
    have hdn := fun m (h : MzInv p s t (maL p s).length m) => hxl ▸ h.done
    have h0 := MzInv.start p s t
    have hmk := mkN_le t.data.toList
    have hmk2 : mkN t.data.toList ≤ 8 := by have : t.data.toList.length = t.size := by rw [Array.length_toList]; rfl
                                            omega
    have hnx := fun j (hj : j < t.size) => mkN_next t hj
    have hml := fun j => mkN_le (t.data.toList.take j)
    have hnd := mkN_done t
    generalize mrS p s t = x at *
    generalize maL p s = ml at *
    have H1 := Lib.hid hc1
    have H2 := Lib.hid hc2
    have H3 := Lib.hid hc3
    have H4 := Lib.hid hc4
    have H5 := Lib.hid hc5
    have HM1 := Lib.hid hM1
    have HST := Lib.hid hst
    have HSM := Lib.hid hsm
    have HDN := Lib.hid hdn
    have H0 := Lib.hid h0
    have HNX := Lib.hid hnx
    have HML := Lib.hid hml
    have HND := Lib.hid hnd
    clear hc1 hc2 hc3 hc4 hc5 hM1 hst hsm hdn h0 hnx hml hnd hz hok hv hx a1 a2 hxl hxv hmk
    go_wp2_with fail
    refine (H1.out _ HM1.out).mono ?_
    rintro e W2 ⟨rfl, hb2⟩
    have HB2 := Lib.hid (HB1.out.trans (hb2.mono hBW))
    clear hb2
    go_wp2_with fail
    refine (H2.out _).mono ?_
    rintro e W3 ⟨rfl, hb3⟩
    have HB3 := Lib.hid (HB2.out.trans (hb3.mono HB2.out.size))
    clear hb3
    go_wp2_with fail
    go_loop [10, 11] (fun mv jv => ∃ j : Nat, j ≤ t.size ∧ jv = .int .i64 j ∧ mv = .int .i64 (mkN (t.data.toList.take j) : Nat)) (fun _ jv => t.size - (intOf jv).toNat)
    case atStart => exact ⟨0, Nat.zero_le _, rfl, by simp [mkN]⟩
    case round =>
      obtain ⟨j, hj, rfl, rfl⟩ := hrel
      by_cases hjn : j < t.size
      · have hb8 : t[j].toNat < 256 := t[j].toNat_lt
        have hm8 : mkN (t.data.toList.take j) ≤ 8 := Nat.le_trans (HML.out j) (by rw [List.length_take]; omega)
        have HN := Lib.hid (HNX.out j hjn)
        generalize mkN (t.data.toList.take j) = mj at *
        have hj' : (j : Int) < (t.size : Int) := by omega
        by_cases h38 : t[j] = 38
        · have e1 : ((t[j].toNat : Int) == 38) = true := by rw [h38]; rfl
          have HR := Lib.hid (HN.out.trans (by rw [if_pos h38]))
          clear h38 HN
          go_wp2_with fail
          go_round
          case rel => exact ⟨j + 1, by omega, by go_num, by rw [HR.out]; go_num⟩
          case measure => (simp [intOf] <;> omega)
        · have e1 : ((t[j].toNat : Int) == 38) = false := by
            have : t[j].toNat ≠ 38 := fun e => h38 (UInt8.toNat_inj.1 e)
            simp; omega
          have HR := Lib.hid (HN.out.trans (by rw [if_neg h38]))
          clear h38 HN
          go_wp2_with fail
          go_round
          case rel => exact ⟨j + 1, by omega, by go_num, by rw [HR.out]; rfl⟩
          case measure => (simp [intOf] <;> omega)
      · obtain rfl : j = t.size := by omega
        rw [HND.out]
        generalize mkN t.data.toList = mk at *
        go_wp2_with fail
        refine (H5.out _).mono ?_
        rintro e W4 ⟨A4, c4, rfl, ho4, hb4⟩
        have hr4 := Row.of_own2 ho4
        have HB4 := Lib.hid (HB3.out.trans (hb4.mono HB3.out.size))
        clear ho4 hb4
        go_wp2_with fail
        go_loopw [12, 14] (fun nv kv wr => ∃ (k : Nat) (m : Int) (q : Nat), k ≤ ml.length ∧ kv = .int .i64 k ∧ nv = .int .i64 m ∧ MzInv p s t k m ∧ wr = W4.drewN q) (fun _ kv _ => ml.length - (intOf kv).toNat)
        case atStart => exact ⟨0, _, 0, Nat.zero_le _, rfl, rfl, H0.out, rfl⟩
        case round =>
          obtain ⟨k, m, q, hk, rfl, rfl, hinv, rfl⟩ := hrel
          obtain ⟨m0, m1⟩ := HSM.out k m hinv (by omega)
          by_cases hkn : k < ml.length
          · obtain ⟨y, z, hyz, g1, g2, g3, hn⟩ := HST.out k m hinv hkn
            obtain ⟨b, of, rfl, hbb, c0, c1⟩ := hr4.pair (j := k) hkn
            rw [hyz] at c0 c1
            simp only at c0 c1
            have hk' : (k : Int) < (ml.length : Int) := by omega
            have hk0 : (0 : Int) ≤ (k : Int) := by omega
            obtain ⟨M, hMM⟩ : ∃ M, ((mk : Int) - 1) * ((z : Int) - (y : Int)) = M := ⟨_, rfl⟩
            have hM1 : -120 ≤ M ∧ M ≤ 960 := by
              rw [← hMM]
              obtain ⟨d, hd⟩ := Int.eq_ofNat_of_zero_le (show 0 ≤ (z : Int) - (y : Int) by omega)
              rw [hd, Int.sub_mul, Int.one_mul]
              have e : (mk : Int) * (d : Int) = ((mk * d : Nat) : Int) := by simp
              have : mk * d ≤ 8 * 120 := Nat.mul_le_mul hmk2 (by omega)
              rw [e]; omega
            have HN := Lib.hid hn
            have x1 : IntKind.i64.wrap ((mk : Int) - 1) = (mk : Int) - 1 := IntWalk.i64_in _ (by omega)
            have x2 : IntKind.i64.wrap ((z : Int) - (y : Int)) = (z : Int) - (y : Int) := IntWalk.i64_in _ (by omega)
            have x3 : IntKind.i64.wrap M = M := IntWalk.i64_in _ (by omega)
            clear hyz hn hinv
            go_wp2_with fail
            go_quiet (fail)
            go_wp2_with fail
            go_roundw
            case rel => exact ⟨k + 1, _, _, by omega, by go_num, rfl, by rw [← hMM]; exact HN.out, rfl⟩
            case measure => (simp [intOf] <;> omega)
          · obtain rfl : k = ml.length := by omega
            have hd := HDN.out m hinv
            have HD := Lib.hid hd
            have hM5 := HM.out.below (below_drewN HB4.out q) hML
            have HM5 := Lib.hid hM5
            clear hinv hd hM5
            go_wp2_with fail
            refine (H3.out _ HM5.out).mono ?_
            rintro e W6 ⟨rfl, hb6⟩
            have HB6 := Lib.hid ((below_drewN HB4.out q).trans (hb6.mono (below_drewN HB4.out q).size))
            have e6 : ((x.size : Int) == m) = true := by rw [HD.out]; simp
            clear hb6
            go_wp2_with fail
            refine (H4.out _).mono ?_
            rintro e w' ⟨rfl, rfl⟩
            go_wp2_with fail
            go_ret
            exact ⟨by first | rfl | simp, HB6.out⟩
end Go.Proofs.YtlnldnenkajcdaaDoor
