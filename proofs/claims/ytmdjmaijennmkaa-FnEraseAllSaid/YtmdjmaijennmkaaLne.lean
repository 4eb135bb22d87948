/- The law on EraseAll: plain laws, and the walk. -/
import Derived.Test.YtmdjmaijennmkaaDs
set_option linter.unusedVariables false
set_option linter.unusedSimpArgs false
namespace Go.Proofs.Ytmdjmaijennmkaa
open Go.RowKit
theorem er_good {s : ByteArray} {l : List (Int × Int)} (h : cuV s l = true) : (erS s l).size ≤ s.size ∧ cuV (erS s l) (erC s l) = true ∧ (erC s l).length ≤ l.length ∧ ((∀ c ∈ l, c.1 ≠ c.2) → tyS s ⟨#[]⟩ l = erS s l) := by
  have hp := wide_pl h
  have hf := cu_wide h
  have hs : s.size = s.data.toList.length := by simp
  obtain ⟨hv, _, h8⟩ := plV_iff.1 hp
  have e1 : erS s l = erX s l := by unfold erS; rw [if_pos h]
  have e2 : erC s l = joinR (cuFrom 0 (l.map wideC) 0 0) := by unfold erC; rw [if_pos h]
  have hval : valid (erX s l).data.toList = true := by
    have := erase_valid (sl := s.data.toList) (by rw [← hs]; exact hf) hv
    simpa [erX] using this
  refine ⟨?_, ?_, ?_, ?_⟩
  · rw [e1]
    have := (ty_sub s.data.toList (l.map wideC) 0 (by rw [← hs]; exact hf)).length_le
    rw [List.drop_zero, ← hs] at this
    show (tyFrom s.data.toList [] (l.map wideC) 0).toArray.size ≤ _
    rw [List.size_toArray]; exact this
  · rw [e1, e2]
    exact join_valid (cu_pl (wth := ⟨#[]⟩) hf h8 (by unfold erX; simp) hval)
  · rw [e2]
    exact Nat.le_trans (joinR_len _) (by rw [cuFrom_len]; simp)
  · intro hall
    have hm : l.map endsC = l.map wideC := by
      refine List.map_congr_left fun c hc => ?_
      have h1 := hall c hc
      have h2 : loC c ≠ hiC c := by unfold loC hiC; omega
      unfold endsC wideC
      rw [if_neg h2]
    have hx : tyX s ⟨#[]⟩ l = erX s l := by unfold tyX erX; rw [hm]
    unfold tyS
    rw [if_pos h, hx, if_pos hval, e1]
theorem er_bad {s : ByteArray} {l : List (Int × Int)} (h : cuV s l = false) : erS s l = ⟨#[]⟩ ∧ erC s l = [] := by
  unfold erS erC; simp [h]
theorem c_small {s : ByteArray} {l : List (Int × Int)} (h : cuV s l = true) : l.length ≤ 8 := (plV_iff.1 (cuV_iff.1 h).2).2.2
theorem erC_small (s : ByteArray) (l : List (Int × Int)) : (erC s l).length ≤ 8 := by
  unfold erC
  split
  · rename_i h
    exact Nat.le_trans (joinR_len _) (by rw [cuFrom_len]; simpa using c_small h)
  · simp
set_option maxHeartbeats 2000000 in
set_option maxRecDepth 100000 in
theorem law_FnEraseAll (A : Option Addr) (n c : Nat) (zs : List Int) (w : World) (h : IsBytes w A n c zs) :
    Calls Try.prog 12 #[.slice A n c] w fun e w' => e = .returned (.bool true) ∧ Below w.heap.size w w' := by
  have hn0 : n ≤ maxLen := by obtain ⟨_, h1, h2, _⟩ := h; omega
  unfold maxLen at hn0
  by_cases hn : n ≤ 1048576
  rotate_left
  · go_enter Try.func12, Try.ntmps12
    go_wp2
    go_ret
    exact ⟨rfl, Below.refl _ _⟩
  have HD := Lib.hid (dDrawEraseAll A n c zs w h)
  clear h
  go_enter Try.func12, Try.ntmps12
  go_wp2_with fail
  refine HD.out.mono ?_
  rintro e W1 ⟨s, A1, c1, ys, rfl, hs, hl, ho1, hb1⟩
  have hsm : s.size ≤ maxLen := by unfold maxLen; omega
  have hr1 := Row.of_own2 ho1
  have hbad := fun (hv : cuV s ys = false) => er_bad hv
  have hgood := fun (hv : cuV s ys = true) => er_good hv
  have hsml := erC_small s ys
  have hc1 := fun A c W h => iEA_any s A c ys W hsm h (by omega)
  have hc2 := fun A c W h => sEA_any s A _ c ys W hsm h rfl (by omega)
  have hc3 := fun A c W h => sCV_any s A _ c ys W hsm h rfl (by omega)
  have hc4 := fun A c W h => iTA_any s ⟨#[]⟩ A c ys W hsm (by decide) h (by omega)
  generalize erS s ys = x at *
  generalize erC s ys = xs at *
  generalize tyS s ⟨#[]⟩ ys = tx at *
  generalize tyC s ⟨#[]⟩ ys = txs at *
  generalize tyOk s ⟨#[]⟩ ys = tb at *
  generalize hv : cuV s ys = v at *
  have H1 := Lib.hid hc1
  have H2 := Lib.hid hc2
  have H3 := Lib.hid hc3
  have H4 := Lib.hid hc4
  have HB := Lib.hid hbad
  have HG := Lib.hid hgood
  clear hc1 hc2 hc3 hc4 hbad hgood ho1 hv
  go_wp2_with fail
  refine (H1.out _ _ _ hr1).mono ?_
  rintro e W2 ⟨A2, c2, rfl, ho2, hb2⟩
  have hr12 := row_on hr1 hb2
  have hr2 := Row.of_own2 ho2
  have hbw2 := below_on hb1 hb2
  clear ho2 hr1 hb1 hb2
  go_wp2_with fail
  refine (H2.out _ _ _ hr12).mono ?_
  rintro e W3 ⟨A3, c3, rfl, ho3, hb3⟩
  have hr13 := row_on hr12 hb3
  have hr23 := row_on hr2 hb3
  have hr3 := Row.of_own2 ho3
  have hbw3 := below_on hbw2 hb3
  clear ho3 hr12 hr2 hbw2 hb3
  go_wp2_with fail
  refine (sameCursors_same A2 A3 _ _ c2 c3 xs W3 hr23 hr3 rfl rfl (by omega)).mono ?_
  rintro e w' ⟨rfl, q4, rfl⟩
  have hb4 := drewN_on W3 q4
  generalize W3.drewN q4 = W4 at *
  have hr14 := row_on hr13 hb4
  have hr24 := row_on hr23 hb4
  have hbw4 := below_on hbw3 hb4
  clear hr13 hr23 hr3 hbw3 hb4
  go_wp2_with fail
  refine (H3.out _ _ _ hr14).mono ?_
  rintro e W5 ⟨rfl, hb5⟩
  have hr15 := row_on hr14 hb5
  have hr25 := row_on hr24 hb5
  have hbw5 := below_on hbw4 hb5
  clear hr14 hr24 hbw4 hb5
  cases v
  · obtain ⟨rfl, rfl⟩ := HB.out rfl
    go_wp2_with fail
    refine (alive_any _).mono ?_
    rintro e w' ⟨rfl, rfl⟩
    go_wp2_with fail
    go_ret
    exact ⟨rfl, hbw5⟩
  obtain ⟨g1, g2, g3, g4⟩ := HG.out rfl
  have HG2 := Lib.hid (And.intro g2 g4)
  clear g2 g4 HG HB H1 H2 H3
  have hrr := Lib.hid hr25
  clear hr25
  go_wp2_with fail
  go_loopw [9, 10] (fun bv iv wr => ∃ (k : Nat) (b : Bool), k ≤ ys.length ∧ bv = .bool b ∧ iv = .int .i64 k ∧ (b = true → ∀ j (hj : j < ys.length), j < k → ys[j].1 ≠ ys[j].2) ∧ ∃ q, wr = W5.drewN q) (fun _ iv _ => ys.length - (intOf iv).toNat)
  case atStart => exact ⟨0, true, Nat.zero_le _, rfl, rfl, fun _ j hj h => by omega, 0, rfl⟩
  case round =>
    obtain ⟨k, b, hk, rfl, rfl, hall, q, rfl⟩ := hrel
    have HA := Lib.hid hall
    clear hall
    by_cases hkx : k < ys.length
    · obtain ⟨g, z, rfl, hgz, cw0, cw1⟩ := hr15.pair hkx
      have hk' : (k : Int) < (ys.length : Int) := by omega
      have hk0 : (0 : Int) ≤ (k : Int) := by omega
      have hnew : Hid (∀ b' : Bool, (b' = true → b = true ∧ ys[k].1 ≠ ys[k].2) → (b' = true → ∀ j (hj : j < ys.length), j < k + 1 → ys[j].1 ≠ ys[j].2)) := Lib.hid (by
        intro b' hb' ht j hj hjk
        rcases Nat.lt_or_ge j k with h | h
        · exact HA.out (hb' ht).1 j hj h
        · obtain rfl : j = k := by omega
          exact (hb' ht).2)
      generalize (ys[k]'hkx).1 = a1 at *
      generalize (ys[k]'hkx).2 = a2 at *
      cases b
      · go_wp2_with fail
        go_quiet (fail)
        go_wp2_with fail
        go_roundw
        case rel => exact ⟨k + 1, false, by omega, rfl, by go_num, hnew.out false (fun h => by cases h), _, rfl⟩
        case measure => (simp [intOf] <;> omega)
      · by_cases hxy : a1 = a2
        · subst hxy
          go_wp2_with fail
          go_quiet (fail)
          go_wp2_with fail
          go_roundw
          case rel => exact ⟨k + 1, false, by omega, by simp, by go_num, hnew.out false (fun h => by cases h), _, rfl⟩
          case measure => (simp [intOf] <;> omega)
        · have e1 : (a1 == a2) = false := by simp [hxy]
          have HN := Lib.hid (And.intro hxy (hnew.out true (fun _ => ⟨rfl, hxy⟩) rfl))
          clear hxy hnew
          go_wp2_with fail
          go_quiet (fail)
          go_wp2_with fail
          go_roundw
          case rel => exact ⟨k + 1, true, by omega, by simp [HN.out.1], by go_num, fun _ => HN.out.2, _, rfl⟩
          case measure => (simp [intOf] <;> omega)
    · obtain rfl : k = ys.length := by omega
      have hbx : Hid (b = true → tx = x) := Lib.hid (fun hb => HG2.out.2 (fun y hy => by
        obtain ⟨j, hj, rfl⟩ := List.getElem_of_mem hy
        exact HA.out hb j hj hj))
      have hb6 := drewN_on W5 q
      generalize W5.drewN q = W6 at *
      have hr16 := row_on hr15 hb6
      have hr26 := row_on hrr.out hb6
      have hbw6 := below_on hbw5 hb6
      have hxm : x.size ≤ maxLen := by unfold maxLen; omega
      clear hr15 hbw5 hb6 HA hrr
      go_wp2_with fail
      refine (H4.out _ _ _ hr16).mono ?_
      rintro e W7 ⟨A7, c7, rfl, ho7, hb7⟩
      have hr27 := row_on hr26 hb7
      have hbw7 := below_on hbw6 hb7
      clear hr16 hr26 hbw6 hb7 ho7 H4
      have hcv := iCV_any x A2 _ c2 xs W7 hxm hr27 rfl (by omega)
      rw [HG2.out.1] at hcv
      have HCV := Lib.hid hcv
      clear hcv
      cases b
      · go_wp2_with fail
        refine HCV.out.mono ?_
        rintro e W8 ⟨rfl, hb8⟩
        have hbw8 := below_on hbw7 hb8
        go_wp2_with fail
        all_goals (go_ret; exact ⟨by first | rfl | simp, hbw8⟩)
      · obtain rfl := hbx.out rfl
        go_wp2_with fail
        refine HCV.out.mono ?_
        rintro e W8 ⟨rfl, hb8⟩
        have hbw8 := below_on hbw7 hb8
        go_wp2_with fail
        all_goals (go_ret; exact ⟨by first | rfl | simp, hbw8⟩)
end Go.Proofs.Ytmdjmaijennmkaa
