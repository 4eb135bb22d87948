/- The law on JoinCursors, walked. -/
import Derived.Test.YtmdjmaijennmkaaDs
import Derived.Test.YtmdjmaijennmkaaJi
set_option linter.unusedVariables false
set_option linter.unusedSimpArgs false
namespace Go.Proofs.Ytmdjmaijennmkaa
open Go.RowKit
theorem jc_within {s : ByteArray} {l : List (Int × Int)} (h : jcL s l ≠ []) : (∀ c ∈ l, ∃ x ∈ jcL s l, min x.1 x.2 ≤ min c.1 c.2 ∧ max c.1 c.2 ≤ max x.1 x.2) ∧ cuV s (jcL s l) = true ∧ (jcL s l).length ≤ l.length ∧ jcL s (jcL s l) = jcL s l ∧ (cuV s l = true → jcL s l = l) := by
  have hp : plV s l = true := by
    cases hh : plV s l
    · exact absurd (by unfold jcL; rw [hh]; rfl) h
    · rfl
  have hj : jcL s l = joinR l := by unfold jcL; rw [if_pos hp]
  have hv := join_valid hp
  refine ⟨fun c hc => ?_, by rw [hj]; exact hv, by rw [hj]; exact joinR_len l, by rw [hj]; exact join_again hv, fun hc => join_again hc⟩
  obtain ⟨x, hx, h1, h2⟩ := joinR_within hc
  exact ⟨x, by rw [hj]; exact hx, by unfold loC at h1; exact h1, by unfold hiC at h2; exact h2⟩
theorem jc_small3 (s : ByteArray) (l : List (Int × Int)) : (jcL s l).length ≤ 8 := by
  unfold jcL
  split
  · rename_i h
    exact Nat.le_trans (joinR_len l) (plV_iff.1 h).2.2
  · simp
set_option maxHeartbeats 4000000 in
set_option maxRecDepth 100000 in
theorem law_FnJoinCursors (A : Option Addr) (n c : Nat) (zs : List Int) (w : World) (h : IsBytes w A n c zs) :
    Calls Try.prog 10 #[.slice A n c] w fun e w' => e = .returned (.bool true) ∧ Below w.heap.size w w' := by
  have hn0 : n ≤ maxLen := by obtain ⟨_, h1, h2, _⟩ := h; omega
  unfold maxLen at hn0
  by_cases hn : n ≤ 1048576
  rotate_left
  · go_enter Try.func10, Try.ntmps10
    go_wp2
    go_ret
    exact ⟨rfl, Below.refl _ _⟩
  have HD := Lib.hid (dDrawJoinCursors A n c zs w h)
  clear h
  go_enter Try.func10, Try.ntmps10
  go_wp2_with fail
  refine HD.out.mono ?_
  rintro e W1 ⟨s, A1, c1, ys, rfl, hs, hl, ho1, hb1⟩
  have hsm : s.size ≤ maxLen := by unfold maxLen; omega
  have hr1 := Row.of_own2 ho1
  have hsml := jc_small3 s ys
  have hin := jc_within (s := s) (l := ys)
  have hc1 := fun A c W h => iJC_any s A _ c ys W hsm h rfl (by omega)
  have hc2 := fun A c W h => sJC_any s A _ c ys W hsm h rfl (by omega)
  have hc3 := fun A c W h => iCV_any s A _ c ys W hsm h rfl (by omega)
  have hc4 := fun A c W h => iCV_any s A _ c (jcL s ys) W hsm h rfl (by omega)
  have hc5 := fun A c W h => iJC_any s A _ c (jcL s ys) W hsm h rfl (by omega)
  generalize hjj : jcL s (jcL s ys) = js at *
  generalize jcL s ys = xs at *
  generalize cuV s ys = vy at *
  generalize cuV s xs = vx at *
  have H1 := Lib.hid hc1
  have H2 := Lib.hid hc2
  have H3 := Lib.hid hc3
  have H4 := Lib.hid hc4
  have H5 := Lib.hid hc5
  have HI := Lib.hid hin
  clear hc1 hc2 hc3 hc4 hc5 hin ho1 hjj
  go_wp2_with fail
  refine (H1.out _ _ _ hr1).mono ?_
  rintro e W2 ⟨A2, c2, rfl, ho2, hb2⟩
  have hr12 := row_on hr1 hb2
  have hr2 := Row.of_own2 ho2
  have hbw2 := below_on hb1 hb2
  clear ho2 hr1 hb1 hb2
  go_wp2_with fail
  refine (H2.out _ _ _ hr12).mono ?_
  rintro e W3 ⟨A3, c3, rfl, ho3, hb3⟩
  have hr13 := row_on hr12 hb3
  have hr23 := row_on hr2 hb3
  have hr3 := Row.of_own2 ho3
  have hbw3 := below_on hbw2 hb3
  clear ho3 hr12 hr2 hbw2 hb3
  go_wp2_with fail
  refine (sameCursors_same A2 A3 _ _ c2 c3 xs W3 hr23 hr3 rfl rfl (by omega)).mono ?_
  rintro e w' ⟨rfl, q4, rfl⟩
  have hb4 := drewN_on W3 q4
  generalize W3.drewN q4 = W4 at *
  have hr14 := row_on hr13 hb4
  have hr24 := row_on hr23 hb4
  have hbw4 := below_on hbw3 hb4
  clear hr13 hr23 hr3 hbw3 hb4 H1 H2
  rcases hx0 : xs with _ | ⟨x0, xt⟩
  · subst hx0
    go_wp2_with fail
    refine (alive_any _).mono ?_
    rintro e w' ⟨rfl, rfl⟩
    go_wp2_with fail
    go_ret
    exact ⟨rfl, hbw4⟩
  rw [← hx0]
  obtain ⟨g1, g2, g3, g4, g5⟩ := HI.out (by rw [hx0]; simp)
  have hxl : 0 < xs.length := by rw [hx0]; simp
  have hxe : ((xs.length : Int) == 0) = false := beq_eq_false_iff_ne.mpr (by omega)
  clear HI hx0 x0 xt
  subst g2
  replace g4 := g4.symm
  subst g4
  have HG := Lib.hid (And.intro g1 g5)
  have HR2 := Lib.hid hr24
  have HR1 := Lib.hid hr14
  clear g1 g5 hr24 hr14
  go_wp2_with fail
  go_loopw [6] (fun iv wr => ∃ k : Nat, k ≤ ys.length ∧ iv = .int .i64 k ∧ ∃ q, wr = W4.drewN q) (fun iv _ => ys.length - (intOf iv).toNat)
  case atStart => exact ⟨0, Nat.zero_le _, rfl, 0, rfl⟩
  case round =>
    obtain ⟨k, hk, rfl, q, rfl⟩ := hrel
    by_cases hkx : k < ys.length
    · obtain ⟨g, z, rfl, hgz, cw0, cw1⟩ := HR1.out.pair hkx
      have hk' : (k : Int) < (ys.length : Int) := by omega
      have hk0 : (0 : Int) ≤ (k : Int) := by omega
      have hin := HG.out.1 _ (List.getElem_mem hkx)
      generalize (ys[k]'hkx).1 = a1 at *
      generalize (ys[k]'hkx).2 = a2 at *
      have HIN := Lib.hid hin
      clear hin
      go_wp2_with fail
      go_loopw [7, 8] (fun bv jv wr => ∃ (j : Nat) (b : Bool), j ≤ xs.length ∧ bv = .bool b ∧ jv = .int .i64 j ∧ (∀ i (hi : i < xs.length), i < j → (min xs[i].1 xs[i].2 ≤ min a1 a2 ∧ max a1 a2 ≤ max xs[i].1 xs[i].2) → b = true) ∧ ∃ q, wr = W4.drewN q) (fun _ jv _ => xs.length - (intOf jv).toNat)
      case atStart => exact ⟨0, false, Nat.zero_le _, rfl, rfl, fun i hi h => by omega, q, rfl⟩
      case round =>
        obtain ⟨j, b, hj, rfl, rfl, hall, q2, rfl⟩ := hrel
        have HA := Lib.hid hall
        clear hall
        by_cases hjx : j < xs.length
        · obtain ⟨g', z', rfl, hgz', dw0, dw1⟩ := HR2.out.pair hjx
          have hj' : (j : Int) < (xs.length : Int) := by omega
          have hj0 : (0 : Int) ≤ (j : Int) := by omega
          have hnew : Hid (∀ b' : Bool, ((b = true ∨ (min xs[j].1 xs[j].2 ≤ min a1 a2 ∧ max a1 a2 ≤ max xs[j].1 xs[j].2)) → b' = true) → ∀ i (hi : i < xs.length), i < j + 1 → (min xs[i].1 xs[i].2 ≤ min a1 a2 ∧ max a1 a2 ≤ max xs[i].1 xs[i].2) → b' = true) := Lib.hid (by
            intro b' hb' i hi hij hc
            rcases Nat.lt_or_ge i j with h | h
            · exact hb' (.inl (HA.out i hi h hc))
            · obtain rfl : i = j := by omega
              exact hb' (.inr hc))
          generalize (xs[j]'hjx).1 = b1 at *
          generalize (xs[j]'hjx).2 = b2 at *
          clear HA
          cases b
          · by_cases h1 : min b1 b2 ≤ min a1 a2
            · by_cases h2 : max a1 a2 ≤ max b1 b2
              · have e1 : decide (min b1 b2 ≤ min a1 a2) = true := by simpa using h1
                have e2 : decide (max a1 a2 ≤ max b1 b2) = true := by simpa using h2
                clear hnew
                go_wp2_with fail
                go_quiet (fail)
                go_wp2_with fail
                go_roundw
                case rel => exact ⟨j + 1, true, by omega, by simp [h1, h2], by go_num, fun _ _ _ _ => rfl, _, rfl⟩
                case measure => (simp [intOf] <;> omega)
              · have HN := Lib.hid (hnew.out false (fun h => by
                  rcases h with h | h
                  · cases h
                  · exact absurd h.2 h2))
                have e1 : decide (min b1 b2 ≤ min a1 a2) = true := by simpa using h1
                have e2 : decide (max a1 a2 ≤ max b1 b2) = false := by simpa using h2
                clear hnew
                go_wp2_with fail
                go_quiet (fail)
                go_wp2_with fail
                go_roundw
                case rel => exact ⟨j + 1, false, by omega, by simp [e1, e2], by go_num, fun i hi u v => absurd (HN.out i hi u v) (by simp), _, rfl⟩
                case measure => (simp [intOf] <;> omega)
            · have HN := Lib.hid (hnew.out false (fun h => by
                rcases h with h | h
                · cases h
                · exact absurd h.1 h1))
              have e1 : decide (min b1 b2 ≤ min a1 a2) = false := by simpa using h1
              clear hnew
              go_wp2_with fail
              go_quiet (fail)
              go_wp2_with fail
              go_roundw
              case rel => exact ⟨j + 1, false, by omega, by simp [e1], by go_num, fun i hi u v => absurd (HN.out i hi u v) (by simp), _, rfl⟩
              case measure => (simp [intOf] <;> omega)
          · clear hnew
            go_wp2_with fail
            go_quiet (fail)
            go_wp2_with fail
            go_roundw
            case rel => exact ⟨j + 1, true, by omega, by simp, by go_num, fun _ _ _ _ => rfl, _, rfl⟩
            case measure => (simp [intOf] <;> omega)
        · obtain rfl : j = xs.length := by omega
          have hbt : b = true := by
            obtain ⟨y, hy, hc⟩ := HIN.out
            obtain ⟨i, hi, rfl⟩ := List.getElem_of_mem hy
            exact HA.out i hi hi hc
          subst hbt
          clear HA
          go_wp2_with fail
          go_roundw
          case rel => exact ⟨k + 1, by omega, by go_num, _, rfl⟩
          case measure => (simp [intOf] <;> omega)
    · obtain rfl : k = ys.length := by omega
      have hb6 := drewN_on W4 q
      generalize W4.drewN q = W6 at *
      have hr16 := row_on HR1.out hb6
      have hr26 := row_on HR2.out hb6
      have hbw6 := below_on hbw4 hb6
      clear hbw4 hb6 HR1 HR2
      have G5 := HG.out.2
      clear HG
      go_wp2_with fail
      refine (H4.out _ _ _ hr26).mono ?_
      rintro e W7 ⟨rfl, hb7⟩
      have hr17 := row_on hr16 hb7
      have hr27 := row_on hr26 hb7
      have hbw7 := below_on hbw6 hb7
      clear hr16 hr26 hbw6 hb7
      go_wp2_with fail
      refine (H5.out _ _ _ hr27).mono ?_
      rintro e W8 ⟨A8, c8, rfl, ho8, hb8⟩
      have hr18 := row_on hr17 hb8
      have hr28 := row_on hr27 hb8
      have hr8 := Row.of_own2 ho8
      have hbw8 := below_on hbw7 hb8
      clear hr17 hr27 hbw7 hb8 ho8
      go_wp2_with fail
      refine (sameCursors_same A8 A2 _ _ c8 c2 xs W8 hr8 hr28 rfl rfl (by omega)).mono ?_
      rintro e w' ⟨rfl, q9, rfl⟩
      have hb9 := drewN_on W8 q9
      generalize W8.drewN q9 = W9 at *
      have hr19 := row_on hr18 hb9
      have hr29 := row_on hr28 hb9
      have hbw9 := below_on hbw8 hb9
      clear hr18 hr28 hbw8 hb9 hr8
      go_wp2_with fail
      refine (H3.out _ _ _ hr19).mono ?_
      rintro e Wa ⟨rfl, hba⟩
      have hr1a := row_on hr19 hba
      have hr2a := row_on hr29 hba
      have hbwa := below_on hbw9 hba
      clear hr19 hr29 hbw9 hba
      cases vy
      · go_wp2_with fail
        all_goals (go_ret; exact ⟨by first | rfl | simp, hbwa⟩)
      · have G6 := G5 rfl
        subst G6
        go_wp2_with fail
        refine (sameCursors_same A2 A1 _ _ c2 c1 _ Wa hr2a hr1a rfl rfl (by omega)).mono ?_
        rintro e w' ⟨rfl, qb, rfl⟩
        have hfin := below_drewN hbwa qb
        go_wp2_with fail
        all_goals (go_ret; exact ⟨by first | rfl | simp, hfin⟩)
end Go.Proofs.Ytmdjmaijennmkaa
