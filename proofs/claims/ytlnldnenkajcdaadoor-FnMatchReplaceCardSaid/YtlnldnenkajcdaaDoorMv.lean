/- The contract of the reference's MatchReplace. -/
import Derived.Test.YtlnldnenkajcdaaDoorMr
import Derived.Test.YtlnldnenkajcdaaDoorMa
import Derived.Lib.Strings
set_option linter.unusedVariables false
set_option linter.unusedSimpArgs false
namespace Go.Proofs.YtlnldnenkajcdaaDoor
open Go.RowKit
theorem ba_eq {a b : ByteArray} (h : a.data.toList = b.data.toList) : a = b := by
  cases a; cases b; simp only [ByteArray.mk.injEq]; exact Array.toList_inj.1 h
/-- The bytes as a text. -/
def tx (l : List UInt8) : ByteArray := ⟨l.toArray⟩
theorem tx_size (l : List UInt8) : (tx l).size = l.length := by show l.toArray.size = _; simp
theorem tx_cut (l : List UInt8) (s : ByteArray) (a b : Nat) : tx l ++ s.extract a b = tx (l ++ (s.data.toList.drop a).take (b - a)) := by
  apply ba_eq
  rw [ByteArray.data_append, Array.toList_append, Lib.extract_data]
  simp [tx]
theorem tx_rest (l : List UInt8) (s : ByteArray) (a : Nat) : tx l ++ s.extract a s.size = tx (l ++ s.data.toList.drop a) := by
  rw [tx_cut]
  congr 2
  exact List.take_of_length_le (by rw [List.length_drop, Array.length_toList]; exact Nat.le_refl _)
theorem tx_nil (s : ByteArray) : (⟨#[]⟩ : ByteArray) ++ s.extract 0 s.size = s := by
  apply ba_eq
  rw [ByteArray.data_append, Array.toList_append, Lib.extract_data, List.drop_zero, Nat.sub_zero, List.take_of_length_le (by rw [Array.length_toList]; exact Nat.le_refl _)]
  simp
theorem rep_next (w : ByteArray) (x : List UInt8) {j : Nat} (hj : j < w.size) :
    repL (w.data.toList.take (j + 1)) x = repL (w.data.toList.take j) x ++ (if w[j] = 38 then x else (w.data.toList.drop j).take (j + 1 - j)) := by
  have hjl : j < w.data.toList.length := by rw [Array.length_toList]; exact hj
  rw [List.take_succ_eq_append_getElem hjl, repL_snoc]
  have e : w.data.toList[j] = w[j] := rfl
  rw [e, show j + 1 - j = 1 by omega, List.drop_eq_getElem_cons hjl, e]
  simp
theorem rep_done (w : ByteArray) (x : List UInt8) : repL (w.data.toList.take w.size) x = repL w.data.toList x := by
  rw [List.take_of_length_le (by rw [Array.length_toList]; exact Nat.le_refl _)]
theorem rep_small (w x : List UInt8) (hw : w.length ≤ 120) (hx : x.length ≤ 120) : (repL w x).length ≤ 14520 :=
  Nat.le_trans (repL_len x w) (Nat.le_trans (Nat.mul_le_mul hw (Nat.succ_le_succ hx)) (by decide))
set_option maxHeartbeats 4000000 in
set_option maxRecDepth 100000 in
theorem sMR_any (p s wth : ByteArray) (w : World) (hp : p.size ≤ maxLen) (hs : s.size ≤ maxLen) (hwt : wth.size ≤ 1100000) :
    Calls Tryd.prog 14 #[.string p, .string s, .string wth] w fun e w' => e = .returned (.tuple #[.string (mrS p s wth), .bool (mrB p s wth)]) ∧ Below w.heap.size w w' := by
  have hs' := hs
  unfold maxLen at hs'
  cases hpv : patV p
  · have h0 : mrOk p s = false := by unfold mrOk; rw [hpv]; rfl
    have h1 : mrS p s wth = ⟨#[]⟩ := by unfold mrS; rw [h0]; rfl
    have h2 : mrB p s wth = false := by unfold mrB; rw [h0]; rfl
    rw [h1, h2]
    have hc := fun W => sPV_any p W hp
    rw [hpv] at hc
    have HC := Lib.hid hc
    clear hc h0 h1 h2
    go_enter Tryd.func14, Tryd.ntmps14
    go_wp2_with fail
    refine (HC.out _).mono ?_
    rintro e w' ⟨rfl, rfl⟩
    go_wp2_with fail
    go_ret2
    exact ⟨rfl, Below.refl _ _⟩
  have hc1 := fun W => sPV_any p W hp
  rw [hpv] at hc1
  have HC1 := Lib.hid hc1
  clear hc1
  have hc2 := fun W => sTV_any s W hs
  cases hv : valid s.data.toList
  · have h0 : mrOk p s = false := by unfold mrOk; rw [hv, Bool.and_false]
    have h1 : mrS p s wth = ⟨#[]⟩ := by unfold mrS; rw [h0]; rfl
    have h2 : mrB p s wth = false := by unfold mrB; rw [h0]; rfl
    rw [h1, h2]
    rw [hv] at hc2
    have HC := Lib.hid hc2
    clear hc2 h0 h1 h2
    go_enter Tryd.func14, Tryd.ntmps14
    go_wp2_with fail
    refine (HC1.out _).mono ?_
    rintro e w' ⟨rfl, rfl⟩
    go_wp2_with fail
    refine (HC.out _).mono ?_
    rintro e w' ⟨rfl, rfl⟩
    go_wp2_with fail
    go_ret2
    exact ⟨rfl, Below.refl _ _⟩
  rw [hv] at hc2
  have HC2 := Lib.hid hc2
  have hsz := valid_size hv
  have hok : mrOk p s = true := by unfold mrOk; rw [hpv, hv]; rfl
  clear hc2
  have hlen := maL_small p s
  by_cases h12 : wth.size ≤ 120
  rotate_left
  · have hd : decide (wth.size ≤ 120) = false := decide_eq_false h12
    have h1 : mrS p s wth = s := by unfold mrS; rw [if_pos hok, hd]; rfl
    have h2 : mrB p s wth = false := by unfold mrB; rw [hd, Bool.and_false]; rfl
    rw [h1, h2]
    have hlt : (120 : Int) < (wth.size : Int) := by omega
    have hc3 := fun W => sMA_any p s W hp hs
    generalize maL p s = ml at *
    have HC3 := Lib.hid hc3
    clear hd h1 h2 hv hpv hok hc3
    go_enter Tryd.func14, Tryd.ntmps14
    go_wp2_with fail
    refine (HC1.out _).mono ?_
    rintro e w' ⟨rfl, rfl⟩
    go_wp2_with fail
    refine (HC2.out _).mono ?_
    rintro e w' ⟨rfl, rfl⟩
    go_wp2_with fail
    refine (HC3.out _).mono ?_
    rintro e W1 ⟨A, c, rfl, ho1, hb1⟩
    have HB1 := Lib.hid hb1
    clear ho1 hb1
    go_wp2_with fail
    refine wp_loop_rounds 1 ?_
    rw [rounds_succ]
    go_wp2_with fail
    all_goals
      go_ret2
      exact ⟨rfl, HB1.out⟩
  have HE : Hid (mrS p s wth = (if valid (mrL p s wth) = true then tx (mrL p s wth) else s) ∧ mrB p s wth = valid (mrL p s wth)) := Lib.hid (by unfold mrS mrB; rw [hok, decide_eq_true h12]; simp [tx])
  have HS := Lib.hid (fun k (hk : k < (maL p s).length) o a (h : MrInv p s wth k o a) => h.step hk h12)
  have HD := Lib.hid (fun o a (h : MrInv p s wth (maL p s).length o a) => h.done (Nat.le_refl _))
  have H0 := Lib.hid (MrInv.start p s wth)
  clear hv hpv hok
  go_enter Tryd.func14, Tryd.ntmps14
  go_wp2_with fail
  refine (HC1.out _).mono ?_
  rintro e w' ⟨rfl, rfl⟩
  go_wp2_with fail
  refine (HC2.out _).mono ?_
  rintro e w' ⟨rfl, rfl⟩
  clear HC1 HC2
  go_wp2_with fail
  refine (sMA_any p s _ hp hs).mono ?_
  rintro e W1 ⟨A, c, rfl, ho1, hb1⟩
  have hrow := Row.of_own2 ho1
  have HBW := Lib.hid hb1
  clear ho1 hb1
  go_wp2_with fail
  go_loopw [8, 9, 11] (fun ov av i wr => ∃ (k : Nat) (o : List UInt8) (a q : Nat), k ≤ (maL p s).length ∧ i = .int .i64 k ∧ av = .int .i64 a ∧ ov = .string (tx o) ∧ MrInv p s wth k o a ∧ wr = W1.drewN q) (fun _ _ i _ => (maL p s).length - (intOf i).toNat)
  case atStart => exact ⟨0, [], 0, 0, Nat.zero_le _, rfl, rfl, rfl, H0.out, rfl⟩
  case round =>
    obtain ⟨k, o, a, q, hk, rfl, rfl, rfl, hinv, rfl⟩ := hrel
    have ho : o.length ≤ k * 20000 := hinv.2.2.2
    have has : a ≤ s.size := hinv.1
    have hkm : k * 20000 ≤ 2440000 := Nat.mul_le_mul (show k ≤ 122 by omega) (Nat.le_refl 20000)
    have hto : (tx o).size ≤ 2440000 := by rw [tx_size]; omega
    by_cases hkn : k < (maL p s).length
    · obtain ⟨x, y, hxy, hax, hxy2, hys, h120, hnx⟩ := HS.out k hkn _ _ hinv
      obtain ⟨b, of, rfl, hb, hc1, hd1⟩ := hrow.pair (j := k) hkn
      rw [hxy] at hc1 hd1
      have HN := Lib.hid hnx
      have hk' : (k : Int) < ((maL p s).length : Int) := by omega
      have hk0 : (0 : Int) ≤ (k : Int) := by omega
      have hax' : (a : Int) ≤ (x : Int) := by omega
      have hxy' : (x : Int) ≤ (y : Int) := by omega
      have hys' : (y : Int) ≤ (s.size : Int) := by omega
      have hxs' : (x : Int) ≤ (s.size : Int) := by omega
      simp only at hc1 hd1
      clear hinv hnx hxy
      have ho1 : (o ++ (s.data.toList.drop a).take (x - a)).length ≤ 2440000 + 120 := by
        rw [List.length_append, List.length_take]; omega
      have hsx : ((s.data.toList.drop x).take (y - x)).length ≤ 120 := by rw [List.length_take]; omega
      go_wp2_with fail
      rw [tx_cut]
      have HN2 : Hid (MrInv p s wth (k + 1) ((o ++ (s.data.toList.drop a).take (x - a)) ++ repL wth.data.toList ((s.data.toList.drop x).take (y - x))) y) := Lib.hid (by rw [List.append_assoc]; exact HN.out)
      obtain ⟨o1, hO1⟩ : ∃ o1, o ++ (s.data.toList.drop a).take (x - a) = o1 := ⟨_, rfl⟩
      rw [hO1] at ho1 HN2 ⊢
      clear HN hO1 hto ho hrow
      go_loopw [8, 12] (fun ov jv wr => ∃ (j q' : Nat), j ≤ wth.size ∧ jv = .int .i64 j ∧ ov = .string (tx (o1 ++ repL (wth.data.toList.take j) ((s.data.toList.drop x).take (y - x)))) ∧ wr = W1.drewN q') (fun _ jv _ => wth.size - (intOf jv).toNat)
      case atStart => exact ⟨0, q, Nat.zero_le _, rfl, by simp [repL], rfl⟩
      case round =>
        obtain ⟨j, q', hj, rfl, rfl, rfl⟩ := hrel
        by_cases hjn : j < wth.size
        · have hrl := rep_small (wth.data.toList.take j) ((s.data.toList.drop x).take (y - x)) (by rw [List.length_take]; omega) hsx
          have hts : (tx (o1 ++ repL (wth.data.toList.take j) ((s.data.toList.drop x).take (y - x)))).size ≤ 2500000 := by rw [tx_size, List.length_append]; omega
          have HR := Lib.hid (rep_next wth ((s.data.toList.drop x).take (y - x)) hjn)
          have hb8 : wth[j].toNat < 256 := wth[j].toNat_lt
          have hj' : (j : Int) < (wth.size : Int) := by omega
          clear hrl
          generalize repL (wth.data.toList.take j) ((s.data.toList.drop x).take (y - x)) = rj at *
          by_cases h38 : wth[j] = 38
          · have e0 : ((wth[j].toNat : Int) == 38) = true := by rw [h38]; rfl
            have HR2 := Lib.hid (HR.out.trans (by rw [if_pos h38]))
            clear h38 HR
            go_wp2_with fail
            go_quiet (fail)
            rw [tx_cut]
            go_wp2_with fail
            go_roundw
            case rel => exact ⟨j + 1, _, by omega, by go_num, by rw [HR2.out, List.append_assoc], rfl⟩
            case measure => (simp [intOf] <;> omega)
          · have e0 : ((wth[j].toNat : Int) == 38) = false := by
              have : wth[j].toNat ≠ 38 := fun e => h38 (UInt8.toNat_inj.1 e)
              simp; omega
            have HR2 := Lib.hid (HR.out.trans (by rw [if_neg h38]))
            clear h38 HR
            go_wp2_with fail
            rw [tx_cut]
            go_roundw
            case rel => exact ⟨j + 1, _, by omega, by go_num, by rw [HR2.out, List.append_assoc], rfl⟩
            case measure => (simp [intOf] <;> omega)
        · obtain rfl : j = wth.size := by omega
          rw [rep_done]
          go_wp2_with fail
          go_roundw
          case rel => exact ⟨k + 1, _, y, q', by omega, by go_num, rfl, rfl, HN2.out, rfl⟩
          case measure => (simp [intOf] <;> omega)
    · obtain rfl : k = (maL p s).length := by omega
      have HDn := Lib.hid (HD.out _ _ hinv)
      have has' : (a : Int) ≤ (s.size : Int) := by omega
      have hlx : (mrL p s wth).length ≤ 2440000 + 120 := by
        rw [← HDn.out, List.length_append, List.length_drop]
        have : s.data.toList.length = s.size := by rw [Array.length_toList]; rfl
        omega
      have hxs : (tx (mrL p s wth)).size ≤ maxLen := by
        rw [tx_size]; unfold maxLen; omega
      clear hinv hlx
      go_wp2_with fail
      rw [tx_rest, HDn.out]
      go_wp2_with fail
      refine (sTV_any _ _ hxs).mono ?_
      rintro e w' ⟨rfl, rfl⟩
      have e1 : (tx (mrL p s wth)).data.toList = mrL p s wth := by simp [tx]
      rw [e1]
      by_cases hv2 : valid (mrL p s wth) = true
      · rw [hv2]
        go_wp2_with fail
        go_ret2
        obtain ⟨g1, g2⟩ := HE.out
        rw [g1, g2, hv2, if_pos rfl]
        exact ⟨rfl, below_drewN HBW.out q⟩
      · rw [Bool.eq_false_iff.2 hv2]
        go_wp2_with fail
        go_ret2
        obtain ⟨g1, g2⟩ := HE.out
        rw [g1, g2, if_neg hv2, Bool.eq_false_iff.2 hv2]
        exact ⟨rfl, below_drewN HBW.out q⟩
end Go.Proofs.YtlnldnenkajcdaaDoor
