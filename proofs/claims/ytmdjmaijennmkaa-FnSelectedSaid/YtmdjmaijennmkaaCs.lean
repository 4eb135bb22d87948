/- The contract of the reference's CursorsValid. -/
import Derived.Test.YtmdjmaijennmkaaCv
set_option linter.unusedVariables false
set_option linter.unusedSimpArgs false
namespace Go.Proofs.Ytmdjmaijennmkaa
open Go.RowKit Go.Sort
theorem cs_low {n : Nat} {c : Int × Int} {a b r x z p q : Bool} {ly hy : Int} (h1 : b = (inC n c && r)) (h2 : b = a) (h3 : inC n c = (decide (0 ≤ ly) && decide (hy ≤ n))) (h4 : ly < 0 ∨ n < hy) (hz : z = (p && (x && a && q))) : z = false := by
  have : inC n c = false := by rw [h3]; rcases h4 with h | h <;> simp <;> omega
  subst h2
  rw [this] at h1
  cases p <;> cases x <;> simp_all
theorem cs_go {n : Nat} {c : Int × Int} {a b r : Bool} {ly hy : Int} (h1 : b = (inC n c && r)) (h2 : b = a) (h3 : inC n c = (decide (0 ≤ ly) && decide (hy ≤ n))) (h4 : ¬ ly < 0) (h5 : ¬ n < hy) : r = a := by
  have : inC n c = true := by rw [h3]; simp; omega
  rw [this] at h1
  simp_all
set_option maxHeartbeats 4000000 in
theorem sCV_any (s : ByteArray) (A : Option Addr) (n c : Nat) (ps : List (Int × Int)) (w : World) (hs : s.size ≤ maxLen) (h : Row w w.heap.size A (pairs ps)) (hn : ps.length = n) (hmax : n ≤ 3000000) :
    Calls Try.prog 15 #[.string s, .slice A n c] w fun e w' => e = .returned (.bool (cuV s ps)) ∧ Below w.heap.size w w' := by
  have hs' := hs
  unfold maxLen at hs'
  have mixed : Try.prog.follows .mixedOrders = true := by kernel_rfl
  have hcv : cuV s ps = (apC ps && (valid s.data.toList && allIn s.size ps && decide (n ≤ 8))) := by rw [← hn]; rfl
  have HC := Lib.hid hcv
  have HN := Lib.hid hn
  clear hcv hn
  go_enter Try.func15, Try.ntmps15
  go_wp2_with fail
  go_loopw [5] (fun i wr => ∃ k : Nat, k ≤ n ∧ i = .int .i64 k ∧ Below w.heap.size w wr ∧ Hid (apC (ps.drop (k - 1)) = apC ps ∧ allIn s.size (ps.drop k) = allIn s.size ps)) (fun i _ => n - (intOf i).toNat)
  case atStart => exact ⟨0, Nat.zero_le _, rfl, Below.refl _ _, Lib.hid ⟨rfl, rfl⟩⟩
  case round =>
    obtain ⟨k, hk, rfl, hbw, HA⟩ := hrel
    by_cases hkn : k < n
    · have hkl : k < ps.length := by rw [HN.out]; exact hkn
      obtain ⟨b, o, rfl, hb, hc1, hd1⟩ := ((h.below hbw).more hbw.size).pairQ (Nat.le_refl _) (j := k) hkl
      have HI := Lib.hid (allIn_drop s.size hkl)
      have hk' : (k : Int) < (n : Int) := by omega
      have hk0 : (0 : Int) ≤ (k : Int) := by omega
      have HBW := Lib.hid hbw
      have hpr : 0 < k → ∃ x : Int × Int, (∀ n os, (grow (wr.drewN n) os).cell? ⟨b, o + (k - 1) * 2, none⟩ = some (.int .i64 x.1)) ∧ (∀ n os, (grow (wr.drewN n) os).cell? ⟨b, o + (k - 1) * 2 + 1, none⟩ = some (.int .i64 x.2)) ∧ apC (ps.drop (k - 1)) = (decide (hiC x < loC (ps[k]'hkl)) && apC (ps.drop k)) := by
        intro hkp
        obtain ⟨j, rfl⟩ : ∃ j, k = j + 1 := ⟨k - 1, by omega⟩
        obtain ⟨b', o', hA, _, hc2, hd2⟩ := ((h.below hbw).more hbw.size).pairQ (Nat.le_refl _) (j := j) (by omega)
        injection hA with hA
        injection hA with hA1 hA2
        subst hA1 hA2
        exact ⟨ps[j]'(by omega), hc2, hd2, apC_drop hkl⟩
      generalize (ps[k]'hkl) = y at hc1 hd1 HI hpr
      obtain ⟨y1, y2⟩ := y
      have hin : inC s.size (y1, y2) = (decide (0 ≤ loC (y1, y2)) && decide (hiC (y1, y2) ≤ s.size)) := rfl
      have hlc := fun n os => l7Lo_grow y1 y2 wr n os
      have hhc := fun n os => l7Hi_grow y1 y2 wr n os
      generalize loC (y1, y2) = ly at hin hlc hpr
      generalize hiC (y1, y2) = hy at hin hhc
      simp only at hc1 hd1
      have HIN := Lib.hid hin
      have HPR := Lib.hid hpr
      clear hbw h hb hin hpr
      by_cases h1 : ly < 0
      · go_wp2_with fail
        refine wp_region_quiet_grown (by assumption) (by kernel_rfl) ?_
        repeat (go_big_quiet_step (first | (go_at_call 41; exact hlc _ _) | (go_at_call 42; exact hhc _ _)))
        refine wpQuiet_nil ?_
        intro _ hw'
        obtain ⟨⟨nq, osq⟩, hw''⟩ := hw'
        subst hw''
        go_wp2_with fail
        go_ret
        exact ⟨ret_bool (cs_low HI.out HA.out.2 HIN.out (.inl h1) HC.out).symm, HBW.out.trans ((below_grow wr nq osq).mono HBW.out.size)⟩
      · have h1' : decide (ly < 0) = false := by simp; omega
        by_cases h2 : (s.size : Int) < hy
        · go_wp2_with fail
          refine wp_region_quiet_grown (by assumption) (by kernel_rfl) ?_
          repeat (go_big_quiet_step (first | (go_at_call 41; exact hlc _ _) | (go_at_call 42; exact hhc _ _)))
          refine wpQuiet_nil ?_
          intro _ hw'
          obtain ⟨⟨nq, osq⟩, hw''⟩ := hw'
          subst hw''
          go_wp2_with fail
          go_ret
          exact ⟨ret_bool (cs_low HI.out HA.out.2 HIN.out (.inr h2) HC.out).symm, HBW.out.trans ((below_grow wr nq osq).mono HBW.out.size)⟩
        · have h2' : decide ((s.size : Int) < hy) = false := by simp; omega
          rcases Nat.eq_zero_or_pos k with hkz | hkp
          · have hkz' : decide (0 < k) = false := by simp; omega
            have HKZ := Lib.hid hkz
            clear hkz
            go_wp2_with fail
            refine wp_region_quiet_grown (by assumption) (by kernel_rfl) ?_
            repeat (go_big_quiet_step (first | (go_at_call 41; exact hlc _ _) | (go_at_call 42; exact hhc _ _)))
            refine wpQuiet_nil ?_
            intro _ hw'
            obtain ⟨⟨nq, osq⟩, hw''⟩ := hw'
            subst hw''
            go_wp2_with fail
            go_roundw
            case rel => exact ⟨k + 1, by omega, by go_num, HBW.out.trans ((below_grow wr nq osq).mono HBW.out.size), Lib.hid ⟨by have := HA.out.1; rw [HKZ.out] at this ⊢; exact this, cs_go HI.out HA.out.2 HIN.out (by omega) (by omega)⟩⟩
            case measure => (simp [intOf] <;> omega)
          · obtain ⟨⟨x1, x2⟩, hc2, hd2, hap⟩ := HPR.out hkp
            simp only at hc2 hd2
            have hkt : decide (0 < k) = true := by simp; omega
            have hkm0 : (0 : Int) ≤ (k : Int) - 1 := by omega
            have hkm : (k : Int) - 1 < (n : Int) := by omega
            have hkn' : ((k : Int) - 1).toNat = k - 1 := by omega
            have hxc := fun n os => l7Hi_grow x1 x2 wr n os
            generalize hiC (x1, x2) = hx at hap hxc
            have HAP := Lib.hid hap
            clear hap
            by_cases h3 : ly ≤ hx
            · go_wp2_with fail
              refine wp_region_quiet_grown (by assumption) (by kernel_rfl) ?_
              repeat (go_big_quiet_step (first | (go_at_call 41; exact hlc _ _) | (go_at_call 42; first | with_reducible exact hhc _ _ | with_reducible exact hxc _ _)))
              refine wpQuiet_nil ?_
              intro _ hw'
              obtain ⟨⟨nq, osq⟩, hw''⟩ := hw'
              subst hw''
              go_wp2_with fail
              go_ret
              refine ⟨ret_bool ?_, HBW.out.trans ((below_grow wr nq osq).mono HBW.out.size)⟩
              rw [HC.out, ← HA.out.1, HAP.out, decide_eq_false (show ¬ hx < ly by omega)]; rfl
            · have h3' : decide (ly ≤ hx) = false := by simp; omega
              go_wp2_with fail
              refine wp_region_quiet_grown (by assumption) (by kernel_rfl) ?_
              repeat (go_big_quiet_step (first | (go_at_call 41; exact hlc _ _) | (go_at_call 42; first | with_reducible exact hhc _ _ | with_reducible exact hxc _ _)))
              refine wpQuiet_nil ?_
              intro _ hw'
              obtain ⟨⟨nq, osq⟩, hw''⟩ := hw'
              subst hw''
              go_wp2_with fail
              go_roundw
              case rel => exact ⟨k + 1, by omega, by go_num, HBW.out.trans ((below_grow wr nq osq).mono HBW.out.size), Lib.hid ⟨by rw [Nat.add_sub_cancel, ← HA.out.1, HAP.out, decide_eq_true (show hx < ly by omega)]; rfl, cs_go HI.out HA.out.2 HIN.out (by omega) (by omega)⟩⟩
              case measure => (simp [intOf] <;> omega)
    · obtain rfl : k = n := by omega
      have hap : cuV s ps = (valid s.data.toList && decide (k ≤ 8)) := by
        rw [HC.out, ← HA.out.1, apC_short (by rw [HN.out]; omega), ← HA.out.2, allIn_end s.size (Nat.le_of_eq HN.out)]; simp
      have HE := Lib.hid hap
      clear hap
      cases hv : valid s.data.toList
      · go_wp2_with fail
        refine (sTV_any _ _ hs).mono ?_
        rintro e w' ⟨rfl, rfl⟩
        go_wp2_with fail
        go_ret
        exact ⟨ret_bool (by rw [HE.out, hv]; rfl), hbw⟩
      · go_wp2_with fail
        refine (sTV_any _ _ hs).mono ?_
        rintro e w' ⟨rfl, rfl⟩
        go_wp2_with fail
        go_ret
        exact ⟨ret_bool (by rw [HE.out, hv]; simp; omega), hbw⟩
end Go.Proofs.Ytmdjmaijennmkaa
