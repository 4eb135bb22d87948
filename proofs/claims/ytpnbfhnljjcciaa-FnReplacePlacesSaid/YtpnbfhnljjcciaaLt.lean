/- The law on ReplacePlaces over drawn inputs, walked. -/
import Derived.Test.YtpnbfhnljjcciaaRt
import Derived.Test.YtpnbfhnljjcciaaAl
namespace Go.Proofs.Ytpnbfhnljjcciaa
open Go.RowKit
set_option linter.unusedVariables false
theorem law_FnReplacePlaces (A : Option Addr) (n c : Nat) (zs : List Int) (w : World) (h : IsBytes w A n c zs) (hM : ML w) :
    Calls Try.prog 6 #[.slice A n c] w fun e w' => e = .returned (.bool true) ∧ Below w.heap.size w w' := by
  by_cases hbig : 1048576 < n
  · go_enter Try.func6, Try.ntmps6
    go_wp2
    go_ret
    exact ⟨rfl, Below.refl _ _⟩
  have hbg : decide ((1048576 : Int) < (n : Int)) = false := by simp; omega
  have hML := hM.lt
  go_enter Try.func6, Try.ntmps6
  go_wp2_with fail
  refine (dDrawReplacePlaces A n c zs _ h).mono ?_
  rintro e W1 ⟨s, what, wth, rfl, hs0, hw0, hx0, hb⟩
  have hM1 := hM.below hb hML
  have hs : s.size ≤ maxLen := by unfold maxLen; omega
  have hwm : what.size ≤ maxLen := by unfold maxLen; omega
  clear hbig
  have hgood := fun h => rp_good (s := s) (what := what) (wth := wth) h
  have hbad := fun h => rp_bad (s := s) (what := what) (wth := wth) h
  have hlen : (fpL s what).length ≤ 202 := by have := fpL_len s what; omega
  have hi := fun W hM => iRP_any s what wth W hs (by omega) (by omega) hM
  have hsp := fun W => sRP_any s what wth W hs (by omega) (by omega)
  generalize rpS s what wth = x at *
  generalize rpB s what wth = y at *
  have HI := Lib.hid hi
  have HP := Lib.hid hsp
  clear hi hsp
  cases y
  · have hx := hbad rfl
    clear hgood hbad
    have hcase : ((x.toList == ([] : List UInt8)) = true) ∨ ((x.toList == ([] : List UInt8)) = false ∧ (x.toList == s.toList) = true) := by
      cases h0 : (x.toList == ([] : List UInt8))
      · right
        refine ⟨rfl, ?_⟩
        rcases hx with rfl | rfl
        · rw [Lib.toList_data] at h0; simp at h0
        · simp
      · left; rfl
    clear hx
    go_wp2_with fail
    refine (HI.out _ hM1).mono ?_
    rintro e W2 ⟨rfl, hb2⟩
    go_wp2_with fail
    refine (HP.out _).mono ?_
    rintro e W3 ⟨rfl, hb3⟩
    have hfin : Below w.heap.size w W3 := (hb.trans (hb2.mono hb.size)).trans (hb3.mono (Nat.le_trans hb.size hb2.size))
    rcases hcase with hc | ⟨hc1, hc2⟩
    · go_wp2_with fail
      refine (alive_any _).mono ?_
      rintro e w' ⟨rfl, rfl⟩
      go_wp2_with fail
      go_ret
      exact ⟨rfl, hfin⟩
    · go_wp2_with fail
      refine (alive_any _).mono ?_
      rintro e w' ⟨rfl, rfl⟩
      go_wp2_with fail
      go_ret
      exact ⟨rfl, hfin⟩
  · obtain ⟨g1, g2, g3, g4⟩ := hgood rfl
    clear hgood hbad
    have hi2 := fun W hM => iRP_any s what what W hs (by omega) (by omega) hM
    rw [g1, g2] at hi2
    have HI2 := Lib.hid hi2
    clear hi2 g1 g2
    have hpos : 0 ≤ ((fpL s what).length : Int) := by omega
    have hm1 : ((fpL s what).length : Int) * ((wth.size : Int) - what.size) ≤ 40400 := by
      have h1 : ((fpL s what).length : Int) * ((wth.size : Int) - what.size) ≤ (fpL s what).length * 200 := Int.mul_le_mul_of_nonneg_left (by omega) hpos
      omega
    have hm2 : -40400 ≤ ((fpL s what).length : Int) * ((wth.size : Int) - what.size) := by
      have h1 : ((fpL s what).length : Int) * (-200) ≤ (fpL s what).length * ((wth.size : Int) - what.size) := Int.mul_le_mul_of_nonneg_left (by omega) hpos
      omega
    have hxs : x.size ≤ maxLen := by unfold maxLen; omega
    have htv := fun W => iTV_any x W hxs
    rw [g3] at htv
    have HT := Lib.hid htv
    have hfp := fun W hM => iFP_any s what W hs (by omega) hM
    have HF := Lib.hid hfp
    have hg4 : ((x.size : Int) == s.size + (fpL s what).length * ((wth.size : Int) - what.size)) = true := by rw [g4]; simp
    clear g3 htv hfp g4 hpos
    go_wp2_with fail
    refine (HI.out _ hM1).mono ?_
    rintro e W2 ⟨rfl, hb2⟩
    go_wp2_with fail
    refine (HP.out _).mono ?_
    rintro e W3 ⟨rfl, hb3⟩
    have hb13 : Below w.heap.size w W3 := (hb.trans (hb2.mono hb.size)).trans (hb3.mono (Nat.le_trans hb.size hb2.size))
    have hM3 : ML W3 := hM.below hb13 hML
    go_wp2_with fail
    refine (HI2.out _ hM3).mono ?_
    rintro e W4 ⟨rfl, hb4⟩
    have hb14 : Below w.heap.size w W4 := hb13.trans (hb4.mono hb13.size)
    have hM4 : ML W4 := hM.below hb14 hML
    go_wp2_with fail
    refine (HT.out _).mono ?_
    rintro e w' ⟨rfl, rfl⟩
    go_wp2_with fail
    refine (HF.out _ hM4).mono ?_
    rintro e W5 ⟨A5, c5, rfl, ho5, hb5⟩
    have hfin : Below w.heap.size w W5 := hb14.trans (hb5.mono hb14.size)
    clear ho5
    generalize (fpL s what).length = L at *
    go_wp2_with fail
    go_ret
    exact ⟨rfl, hfin⟩
end Go.Proofs.Ytpnbfhnljjcciaa
