/- The law on plain patterns over drawn inputs, walked. -/
import Derived.Test.YtkjippbnpaaaaaaMa
import Derived.Test.YtkjippbnpaaaaaaMh
import Derived.Test.YtkjippbnpaaaaaaRw
import Derived.Test.YtkjippbnpaaaaaaIs
import Derived.Test.YtkjippbnpaaaaaaAl
set_option linter.unusedVariables false
set_option linter.unusedSimpArgs false
namespace Go.Proofs.Ytkjippbnpaaaaaa
open Go.RowKit
theorem fp_small (s what : ByteArray) (h : s.size ≤ 200) : (fpL s what).length ≤ 202 := by
  have : ∀ n a, (fpRest s what n a).length ≤ n := by
    intro n
    induction n with
    | zero => intro a; exact Nat.le_refl _
    | succ n ih =>
      intro a
      simp only [fpRest]; split
      · simp
      · have := ih (fnI s what (a + what.size)); simp; omega
  have := this (s.size + 2) (fnI s what 0)
  unfold fpL; omega
theorem fp_vals {s what : ByteArray} : ∀ (n : Nat) (a : Int), (a = -1 ∨ (0 ≤ a ∧ a ≤ s.size)) → ∀ x ∈ fpRest s what n a, 0 ≤ x ∧ x ≤ s.size
  | 0, a, _, x, hx => by simp [fpRest] at hx
  | n + 1, a, ha, x, hx => by
    simp only [fpRest] at hx
    split at hx
    · simp at hx
    · rcases List.mem_cons.1 hx with rfl | hx
      · omega
      · refine fp_vals n _ ?_ x hx
        rcases fn_range s what (a + what.size) with h | ⟨h1, h2, h3, _⟩
        · exact .inl h
        · exact .inr ⟨by omega, h3⟩
theorem fpL_vals {s what : ByteArray} : ∀ x ∈ fpL s what, 0 ≤ x ∧ x ≤ s.size := by
  refine fp_vals _ _ ?_
  rcases fn_range s what 0 with h | ⟨h1, h2, h3, _⟩
  · exact .inl h
  · exact .inr ⟨by omega, h3⟩
set_option maxRecDepth 100000 in
theorem law_FnFindMatch (A : Option Addr) (n c : Nat) (zs : List Int) (w : World) (h : IsBytes w A n c zs) (hM : ML w) :
    Calls Try.prog 10 #[.slice A n c] w fun e w' => e = .returned (.bool true) ∧ Below w.heap.size w w' := by
  by_cases hbig : 1048576 < n
  · go_enter Try.func10, Try.ntmps10
    go_wp2
    go_ret
    exact ⟨rfl, Below.refl _ _⟩
  have hbg : decide ((1048576 : Int) < (n : Int)) = false := by simp; omega
  have hML := hM.lt
  go_enter Try.func10, Try.ntmps10
  go_wp2_with fail
  refine (dDrawFindPlaces A n c zs _ h).mono ?_
  rintro e W1 ⟨s, what, rfl, hs0, hw0, hb⟩
  have hM1 := hM.below hb hML
  have hs : s.size ≤ maxLen := by unfold maxLen; omega
  have hwm : what.size ≤ maxLen := by unfold maxLen; omega
  clear hbig
  have hlen := fp_small s what hs0
  have hvals := fpL_vals (s := s) (what := what)
  have hml := fun (h1 : ltrB what = true) (h2 : what.size ≤ 20) (h3 : 0 < what.size) => maL_ltr (s := s) h1 h2 h3
  have hc3 := fun W => iMA_any what s W hwm hs
  generalize hxs : fpL s what = xs at *
  have HXS := Lib.hid hxs
  have HV := Lib.hid hvals
  have HML := Lib.hid hml
  have H3 := Lib.hid hc3
  have hf1 := fun (W : World) (hM : ML W) => hxs ▸ iFP_any s what W hs (by omega) hM
  have hf2 := fun (W : World) => hxs ▸ sFP_any s what W hs (by omega)
  have H1 := Lib.hid hf1
  have H2 := Lib.hid hf2
  clear hxs hvals hml hc3 hf1 hf2
  go_wp2_with fail
  refine (H1.out _ hM1).mono ?_
  rintro e W2 ⟨A2, c2, rfl, ho2, hb2⟩
  have hr2 := Row.of_own ho2
  have hbw2 := hb.trans (hb2.mono hb.size)
  clear ho2 hb2
  go_wp2_with fail
  refine (H2.out _).mono ?_
  rintro e W3 ⟨A3, c3, rfl, ho3, hb3⟩
  have hr3 := Row.of_own ho3
  have hr23 := (hr2.below hb3).more hb3.size
  have hbw3 := hbw2.trans (hb3.mono hbw2.size)
  clear ho3 hb3 hr2 hbw2
  go_wp2_with fail
  refine (sameInts_same A2 A3 _ _ c2 c3 xs W3 hr23 hr3 rfl rfl (by omega)).mono ?_
  rintro e W3' ⟨rfl, q3, rfl⟩
  have hr24 := hr23.drewN q3
  have hbw4 := below_drewN hbw3 q3
  have hHZ : W3.heap.size = (W3.drewN q3).heap.size := rfl
  have hr25 : Row (W3.drewN q3) (W3.drewN q3).heap.size A2 (ints xs) := hr24
  clear hHZ hr24
  generalize W3.drewN q3 = W4 at *
  clear hr23 hr3 hbw3
  go_wp2_with fail
  go_loop [6] (fun i => ∃ k : Nat, k ≤ what.size ∧ i = .int .i64 k ∧ ∀ j, j < k → 97 ≤ byteI what j ∧ byteI what j ≤ 122) (fun i => what.size - (intOf i).toNat)
  case atStart => exact ⟨0, Nat.zero_le _, rfl, fun j h => by omega⟩
  case round =>
    obtain ⟨k, hk, rfl, hall⟩ := hrel
    have HA := Lib.hid hall
    clear hall
    by_cases hlt : k < what.size
    · have hlt' : (k : Int) < (what.size : Int) := by omega
      have hk0 : (0 : Int) ≤ (k : Int) := by omega
      have hbk := byteI_at hlt
      have hu := u8_lt what[k]
      have HBK := Lib.hid hbk
      clear hbk
      by_cases hc : 97 ≤ (what[k].toNat : Int) ∧ (what[k].toNat : Int) ≤ 122
      · have x1 : decide ((what[k].toNat : Int) < 97) = false := by simp; omega
        have x2 : decide ((122 : Int) < (what[k].toNat : Int)) = false := by simp; omega
        have HC := Lib.hid hc
        clear hc
        go_wp2_with fail
        go_round
        case rel => exact ⟨k + 1, by omega, by go_num, fun j hj => by
          rcases Nat.lt_or_ge j k with h | h
          · exact HA.out j h
          · obtain rfl : j = k := by omega
            rw [HBK.out]; exact HC.out⟩
        case measure => (simp [intOf] <;> omega)
      · by_cases hc1 : (what[k].toNat : Int) < 97
        · have x1 : decide ((what[k].toNat : Int) < 97) = true := by simp; omega
          go_wp2_with (go_at_call 26; refine (alive_any _).mono ?_; rintro e w' ⟨rfl, rfl⟩)
          go_ret
          exact ⟨rfl, hbw4⟩
        · have x1 : decide ((what[k].toNat : Int) < 97) = false := by simp; omega
          have x2 : decide ((122 : Int) < (what[k].toNat : Int)) = true := by simp; omega
          clear hc
          go_wp2_with (go_at_call 26; refine (alive_any _).mono ?_; rintro e w' ⟨rfl, rfl⟩)
          go_ret
          exact ⟨rfl, hbw4⟩
    · obtain rfl : k = what.size := by omega
      have hltr : ltrB what = true := ltr_at.2 HA.out
      cases hne : what.toList.isEmpty
      · obtain ⟨g1, g2, g3⟩ := what_ne hne
        have HG := Lib.hid g1
        clear g1
        by_cases h20 : what.size ≤ 20
        · have hm := HML.out hltr h20 g3
          have x1 : decide ((20 : Int) < (what.size : Int)) = false := by simp; omega
          have hc3 := fun W => hm ▸ H3.out W
          have H4 := Lib.hid hc3
          clear hc3 hm hltr
          go_wp2_with fail
          refine (H4.out _).mono ?_
          rintro e W5 ⟨A5, c5, rfl, ho5, hb5⟩
          rw [List.length_map] at ho5 ⊢
          have hr5 := Row.of_own2 ho5
          have hr26 := (hr25.below hb5).more hb5.size
          have hbw5 := hbw4.trans (hb5.mono hbw4.size)
          clear ho5 hb5 hbw4 hr25
          go_wp2_with fail
          go_loopw [8] (fun iv wr => ∃ k : Nat, iv = .int .i64 k ∧ k ≤ xs.length ∧ ∃ q, wr = W5.drewN q) (fun iv _ => xs.length - (intOf iv).toNat)
          case atStart => exact ⟨0, rfl, Nat.zero_le _, 0, rfl⟩
          case round =>
            obtain ⟨k, rfl, hk, q, rfl⟩ := hrel
            by_cases hkx : k < xs.length
            · obtain ⟨b, o, rfl, hbb, hc1⟩ := hr26.ints_at hkx
              obtain ⟨b', o', rfl, hbb', d0, d1⟩ := hr5.pair (j := k) (by simpa using hkx)
              have hv := HV.out _ (List.getElem_mem hkx)
              simp only [List.getElem_map] at d0 d1
              generalize xs[k]'hkx = x at *
              have hk' : (k : Int) < (xs.length : Int) := by omega
              have hk0 : (0 : Int) ≤ (k : Int) := by omega
              have x3 : decide ((xs.length : Int) ≤ (k : Int)) = false := by simp; omega
              have x4 : decide (xs.length ≤ k) = false := by simp; omega
              have x5 : IntKind.i64.wrap (x + (what.size : Int)) = x + (what.size : Int) := IntWalk.i64_in _ (by omega)
              go_wp2_with fail
              go_quiet (fail)
              go_wp2_with fail
              go_roundw
              case rel => exact ⟨k + 1, by go_num, by omega, _, rfl⟩
              case measure => (simp [intOf] <;> omega)
            · obtain rfl : k = xs.length := by omega
              go_wp2_with fail
              go_ret
              exact ⟨by first | rfl | simp, below_drewN hbw5 q⟩
        · have x1 : decide ((20 : Int) < (what.size : Int)) = true := by simp; omega
          go_wp2_with (go_at_call 26; refine (alive_any _).mono ?_; rintro e w' ⟨rfl, rfl⟩)
          go_ret
          exact ⟨rfl, hbw4⟩
      · have hnl := what_eq hne
        go_wp2_with (go_at_call 26; refine (alive_any _).mono ?_; rintro e w' ⟨rfl, rfl⟩)
        go_ret
        exact ⟨rfl, hbw4⟩
end Go.Proofs.Ytkjippbnpaaaaaa
