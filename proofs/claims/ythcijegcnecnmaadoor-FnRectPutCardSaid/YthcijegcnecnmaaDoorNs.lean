/- The reference's contracts on lines: LineMany, LineStart, LineEnd, LineOf, ColumnOf, PlaceAt. -/
import Derived.Test.YthcijegcnecnmaaDoorNl
set_option linter.unusedVariables false
set_option linter.unusedSimpArgs false
namespace Go.Proofs.YthcijegcnecnmaaDoor
open Go.RowKit

theorem valid_cut {s : ByteArray} (h : valid s.data.toList = true) (n : Nat) : valid (s.extract 0 n).data.toList = true := by
  have h1 : allOk s.data.toList = true ∧ s.size ≤ 120 := by simpa [valid] using h
  have h2 : ∀ (l : List UInt8) (k : Nat), allOk l = true → allOk (l.take k) = true := by
    intro l
    induction l with
    | nil => intro k _; simp [allOk]
    | cons c l ih =>
      intro k hc
      cases k with
      | zero => simp [allOk]
      | succ k =>
        simp only [List.take_succ_cons, allOk, Bool.and_eq_true] at hc ⊢
        exact ⟨hc.1, ih k hc.2⟩
  unfold valid
  rw [Lib.extract_data, List.drop_zero, h2 _ _ h1.1]
  have : (s.data.toList.take (n - 0)).length ≤ s.data.toList.length := by rw [List.length_take]; omega
  have h3 : s.data.toList.length = s.size := by simp
  simp only [Bool.true_and, decide_eq_true_eq]
  omega
theorem cut_nl {s : ByteArray} {n j : Nat} (hj : j < n) : isNl (s.extract 0 n) j = isNl s j := by
  by_cases hs : j < s.size
  · have h1 : j < (s.extract 0 n).size := by rw [ByteArray.size_extract]; omega
    rw [nl_or h1, nl_or hs]
    have : (s.extract 0 n)[j] = s[j] := by rw [ByteArray.getElem_extract]; simp
    rw [this]
  · have h1 : ¬ j < (s.extract 0 n).size := by rw [ByteArray.size_extract]; omega
    cases h2 : isNl s j
    · cases h3 : isNl (s.extract 0 n) j
      · rfl
      · exact absurd (nl_lt h3) h1
    · exact absurd (nl_lt h2) hs
theorem cut_cnt {s : ByteArray} {n : Nat} : ∀ j, j ≤ n → cntN (s.extract 0 n) j = cntN s j
  | 0, _ => rfl
  | j + 1, h => by rw [cnt_s, cnt_s, cut_cnt j (by omega), cut_nl (by omega)]
theorem lm_cut {s : ByteArray} (h : valid s.data.toList = true) {n : Nat} (hn : n ≤ s.size) : lmI (s.extract 0 n) = 1 + cntN s n := by
  rw [lm_cnt (valid_cut h n)]
  have : (s.extract 0 n).size = n := by rw [ByteArray.size_extract]; omega
  rw [this, cut_cnt n (Nat.le_refl _)]
theorem sLM_any (s : ByteArray) (w : World) (hs : s.size ≤ maxLen) :
    Calls Tryd.prog 48 #[.string s] w fun e w' => e = .returned (.int .i64 (lmI s)) ∧ w = w' := by
  have hs' := hs
  unfold maxLen at hs'
  cases hv : valid s.data.toList
  · have HE : Hid (lmI s = -1) := Lib.hid (by unfold lmI; rw [if_neg (by simp [hv])])
    go_enter Tryd.func48, Tryd.ntmps48
    go_wp2_with fail
    refine (sTV_any _ _ hs).mono ?_
    rintro e w' ⟨rfl, rfl⟩
    go_wp2_with fail
    go_ret
    exact ⟨ret_int HE.out.symm, rfl⟩
  · have HE := Lib.hid (lm_cnt hv)
    have h120 := valid_size hv
    go_enter Tryd.func48, Tryd.ntmps48
    go_wp2_with fail
    refine (sTV_any _ _ hs).mono ?_
    rintro e w' ⟨rfl, rfl⟩
    go_wp2_with fail
    go_loop [3, 4] (fun nv kv => ∃ k : Nat, k ≤ s.size ∧ kv = .int .i64 k ∧ nv = .int .i64 ((cntN s k : Int) + 1)) (fun _ kv => s.size - (intOf kv).toNat)
    case atStart => exact ⟨0, Nat.zero_le _, rfl, rfl⟩
    case round =>
      obtain ⟨k, hk, rfl, rfl⟩ := hrel
      have hc := cnt_le s k
      by_cases hks : k < s.size
      · have hks' : (k : Int) < (s.size : Int) := by omega
        have hk0 : (0 : Int) ≤ (k : Int) := by omega
        have hnl := nl_at hks
        have hcs := cnt_s s k
        cases hx : isNl s k
        · rw [hx] at hnl hcs
          have e0 := hnl.symm
          have HC : Hid (cntN s (k + 1) = cntN s k) := Lib.hid (by rw [hcs]; simp)
          clear hnl hcs hx
          go_wp2_with fail
          go_round
          case rel => exact ⟨k + 1, by omega, by go_num, by rw [HC.out]⟩
          case measure => (simp [intOf] <;> omega)
        · rw [hx] at hnl hcs
          have e0 := hnl.symm
          have HC : Hid (cntN s (k + 1) = cntN s k + 1) := Lib.hid (by rw [hcs]; simp)
          clear hnl hcs hx
          go_wp2_with fail
          go_round
          case rel => exact ⟨k + 1, by omega, by go_num, by rw [HC.out]; congr 1⟩
          case measure => (simp [intOf] <;> omega)
      · obtain rfl : k = s.size := by omega
        go_wp2_with fail
        go_ret
        exact ⟨ret_int (by rw [HE.out]; omega), rfl⟩
theorem sLS_any (s : ByteArray) (l : Int) (w : World) (hs : s.size ≤ maxLen) :
    Calls Tryd.prog 58 #[.string s, .int .i64 l] w fun e w' => e = .returned (.int .i64 (lsI s l)) ∧ w = w' := by
  have hs' := hs
  unfold maxLen at hs'
  cases hv : valid s.data.toList
  · have HE : Hid (lsI s l = -1) := Lib.hid (by unfold lsI; rw [if_neg (by unfold lineOk; simp [hv])])
    go_enter Tryd.func58, Tryd.ntmps58
    go_wp2_with fail
    refine (sTV_any _ _ hs).mono ?_
    rintro e w' ⟨rfl, rfl⟩
    go_wp2_with fail
    go_ret
    exact ⟨ret_int HE.out.symm, rfl⟩
  · by_cases hl : l < 0
    · have HE : Hid (lsI s l = -1) := Lib.hid (by unfold lsI; rw [if_neg (by unfold lineOk inI; simp; omega)])
      have e0 : decide (l < 0) = true := by simp; omega
      go_enter Tryd.func58, Tryd.ntmps58
      go_wp2_with fail
      refine (sTV_any _ _ hs).mono ?_
      rintro e w' ⟨rfl, rfl⟩
      go_wp2_with fail
      go_ret
      exact ⟨ret_int HE.out.symm, rfl⟩
    · obtain ⟨n, rfl⟩ := Int.eq_ofNat_of_zero_le (show 0 ≤ l by omega)
      have h120 := valid_size hv
      have hOk : lineOk s n = decide (n ≤ cntN s s.size) := by unfold lineOk inI; rw [hv, Bool.eq_iff_iff]; simp
      have HE1 : Hid (n ≤ cntN s s.size → lsI s n = lsN s n) := Lib.hid (fun h => by unfold lsI; rw [if_pos (by rw [hOk]; simp [h])]; rfl)
      have HE2 : Hid (¬ n ≤ cntN s s.size → lsI s n = -1) := Lib.hid (fun h => by unfold lsI; rw [if_neg (by rw [hOk]; simp; omega)])
      have e0 : decide ((n : Int) < 0) = false := by simp
      clear hOk hl
      go_enter Tryd.func58, Tryd.ntmps58
      go_wp2_with fail
      refine (sTV_any _ _ hs).mono ?_
      rintro e w' ⟨rfl, rfl⟩
      go_wp2_with fail
      go_loop [5, 6] (fun nv kv => ∃ k : Nat, k ≤ s.size + 1 ∧ kv = .int .i64 k ∧ nv = .int .i64 (cntN s k) ∧ (n ≤ cntN s s.size → k ≤ lsN s n)) (fun _ kv => s.size + 1 - (intOf kv).toNat)
      case atStart => exact ⟨0, Nat.zero_le _, rfl, rfl, fun _ => Nat.zero_le _⟩
      case round =>
        obtain ⟨k, hk, rfl, rfl, hinv⟩ := hrel
        have hc := cnt_le s k
        by_cases hks : k ≤ s.size
        · have hks' : (k : Int) ≤ (s.size : Int) := by omega
          have hk0 : (0 : Int) ≤ (k : Int) := by omega
          by_cases hhit : cntN s k = n ∧ (k = 0 ∨ isNl s (k - 1) = true)
          · have hls : lsN s n = k := ls_uniq hks hhit.1 fun j hj => by
              rcases hhit.2 with h0 | h0
              · omega
              · have h1 := cnt_mono s (show j ≤ k - 1 by omega)
                have h2 := cnt_s s (k - 1)
                rw [h0, show k - 1 + 1 = k by omega, if_pos rfl] at h2
                omega
            have hle : n ≤ cntN s s.size := by rw [← hhit.1]; exact cnt_mono s hks
            have HR : Hid (lsI s n = k) := Lib.hid (by rw [HE1.out hle, hls])
            have e1 : ((cntN s k : Int) == (n : Int)) = true := by simp [hhit.1]
            rcases k with _ | r
            · clear hinv hhit hls
              go_wp2_with fail
              go_ret
              exact ⟨ret_int HR.out.symm, rfl⟩
            · have hrs : r < s.size := by omega
              have hnl := nl_at hrs
              have h3 : isNl s r = true := by
                rcases hhit.2 with h0 | h0
                · omega
                · exact h0
              rw [h3] at hnl
              have e2 := hnl.symm
              have e3 : (((r : Int) + 1) == 0) = false := by simp; omega
              have hr0 : (0 : Int) ≤ (r : Int) := by omega
              have hr1 : (r : Int) < (s.size : Int) := by omega
              clear hinv hhit hls hnl h3
              go_wp2_with fail
              go_ret
              exact ⟨ret_int HR.out.symm, rfl⟩
          · have hnext : n ≤ cntN s s.size → k + 1 ≤ lsN s n := fun h => by
              have h1 := hinv h
              rcases Nat.eq_or_lt_of_le h1 with h2 | h2
              · exfalso
                obtain ⟨g1, g2, g3⟩ := ls_ok h
                have g4 := (bol_spec s (lsN s n)).2.2.2.1
                rw [bol_ls h, ← h2] at g4
                rw [← h2] at g2
                exact hhit ⟨g2, g4⟩
              · omega
            have HN := Lib.hid hnext
            clear hinv hnext
            -- the second test of the round
            by_cases hlt : k < s.size
            · have hlt' : (k : Int) < (s.size : Int) := by omega
              have hnl := nl_at hlt
              have hcs := cnt_s s k
              obtain ⟨x, hx⟩ : ∃ x, isNl s k = x := ⟨_, rfl⟩
              rw [hx] at hnl hcs
              have e5 := hnl.symm
              have HC : Hid (cntN s (k + 1) = cntN s k + if x = true then 1 else 0) := Lib.hid hcs
              clear hnl hcs hx
              by_cases h1 : cntN s k = n
              · have e1 : ((cntN s k : Int) == (n : Int)) = true := by simp [h1]
                rcases k with _ | r
                · exact absurd ⟨h1, .inl rfl⟩ hhit
                · have hrs : r < s.size := by omega
                  have hnl := nl_at hrs
                  have h3 : isNl s r = false := by
                    cases h4 : isNl s r
                    · rfl
                    · exact absurd ⟨h1, .inr h4⟩ hhit
                  rw [h3] at hnl
                  have e2 := hnl.symm
                  have e3 : (((r : Int) + 1) == 0) = false := by simp; omega
                  have hr0 : (0 : Int) ≤ (r : Int) := by omega
                  have hr1 : (r : Int) < (s.size : Int) := by omega
                  clear hhit hnl h3 h1
                  cases x
                  all_goals
                    go_wp2_with fail
                    go_round
                    case rel => exact ⟨r + 1 + 1, by omega, by go_num, by rw [HC.out]; simp, HN.out⟩
                    case measure => (simp [intOf] <;> omega)
              · have e1 : ((cntN s k : Int) == (n : Int)) = false := by simp; omega
                clear hhit h1
                cases x
                all_goals
                  go_wp2_with fail
                  go_round
                  case rel => exact ⟨k + 1, by omega, by go_num, by rw [HC.out]; simp, HN.out⟩
                  case measure => (simp [intOf] <;> omega)
            · have hcs : cntN s (k + 1) = cntN s k := by rw [cnt_size s (show s.size ≤ k + 1 by omega), cnt_size s (show s.size ≤ k by omega)]
              have HC := Lib.hid hcs
              have hge : (s.size : Int) ≤ (k : Int) := by omega
              have e5 : decide (k < s.size) = false := by simp; omega
              clear hcs hlt
              by_cases h1 : cntN s k = n
              · have e1 : ((cntN s k : Int) == (n : Int)) = true := by simp [h1]
                rcases k with _ | r
                · exact absurd ⟨h1, .inl rfl⟩ hhit
                · have hrs : r < s.size := by omega
                  have hnl := nl_at hrs
                  have h3 : isNl s r = false := by
                    cases h4 : isNl s r
                    · rfl
                    · exact absurd ⟨h1, .inr h4⟩ hhit
                  rw [h3] at hnl
                  have e2 := hnl.symm
                  have e3 : (((r : Int) + 1) == 0) = false := by simp; omega
                  have e6 : decide ((r : Int) + 1 < (s.size : Int)) = false := by simp; omega
                  have e7 : decide (r + 1 < s.size) = false := by simp; omega
                  have hr0 : (0 : Int) ≤ (r : Int) := by omega
                  have hr1 : (r : Int) < (s.size : Int) := by omega
                  clear hhit hnl h3 h1
                  go_wp2_with fail
                  go_round
                  case rel => exact ⟨r + 1 + 1, by omega, by go_num, by rw [HC.out], HN.out⟩
                  case measure => (simp [intOf] <;> omega)
              · have e1 : ((cntN s k : Int) == (n : Int)) = false := by simp; omega
                clear hhit h1
                go_wp2_with fail
                go_round
                case rel => exact ⟨k + 1, by omega, by go_num, by rw [HC.out], HN.out⟩
                case measure => (simp [intOf] <;> omega)
        · have HR : Hid (lsI s n = -1) := Lib.hid (HE2.out fun h => by
            have h1 := hinv h
            have h2 := (ls_ok h).1
            omega)
          clear hinv
          go_wp2_with fail
          go_ret
          exact ⟨ret_int HR.out.symm, rfl⟩
theorem sLE_any (s : ByteArray) (l : Int) (w : World) (hs : s.size ≤ maxLen) :
    Calls Tryd.prog 60 #[.string s, .int .i64 l] w fun e w' => e = .returned (.int .i64 (leI s l)) ∧ w = w' := by
  have hs' := hs
  unfold maxLen at hs'
  have hc1 := fun W => sLS_any s l W hs
  cases hl : lineOk s l
  · have HE : Hid (leI s l = -1) := Lib.hid (by unfold leI; rw [if_neg (by simp [hl])])
    have hx : lsI s l = -1 := by unfold lsI; rw [if_neg (by simp [hl])]
    rw [hx] at hc1
    have H1 := Lib.hid hc1
    clear hc1 hx
    go_enter Tryd.func60, Tryd.ntmps60
    go_wp2_with fail
    refine (H1.out _).mono ?_
    rintro e w' ⟨rfl, rfl⟩
    go_wp2_with fail
    refine wp_loop_rounds 1 ?_
    rw [rounds_succ]
    go_wp2_with fail
    go_ret
    exact ⟨ret_int HE.out.symm, rfl⟩
  · obtain ⟨n, rfl, hn, hv⟩ := lineOk_nat hl
    have HE : Hid (leI s n = eolN s (lsN s n)) := Lib.hid (by unfold leI; rw [if_pos hl]; rfl)
    have hx : lsI s n = lsN s n := by unfold lsI; rw [if_pos hl]; rfl
    rw [hx] at hc1
    obtain ⟨g1, _, _⟩ := ls_ok hn
    obtain ⟨e1, e2, e3, e4⟩ := eol_spec s g1
    have h120 := valid_size hv
    generalize lsN s n = a at *
    generalize eolN s a = z at *
    have H1 := Lib.hid hc1
    have H3 := Lib.hid e3
    have H4 := Lib.hid e4
    clear hc1 hx e3 e4
    go_enter Tryd.func60, Tryd.ntmps60
    go_wp2_with fail
    refine (H1.out _).mono ?_
    rintro e w' ⟨rfl, rfl⟩
    go_wp2_with fail
    go_loop [5] (fun kv => ∃ k : Nat, kv = .int .i64 k ∧ a ≤ k ∧ k ≤ z) (fun kv => s.size - (intOf kv).toNat)
    case atStart => exact ⟨a, rfl, Nat.le_refl _, e1⟩
    case round =>
      obtain ⟨k, rfl, hk1, hk2⟩ := hrel
      have hk0 : (0 : Int) ≤ (k : Int) := by omega
      rcases Nat.eq_or_lt_of_le hk2 with h | h
      · have HZ := Lib.hid h
        by_cases hks : k < s.size
        · have hks' : (k : Int) < (s.size : Int) := by omega
          have hnl := nl_at hks
          have h5 : isNl s k = true := by
            rcases H4.out with g | g
            · omega
            · rw [h]; exact g
          rw [h5] at hnl
          have e5 := hnl.symm
          have e6 : ((s[k].toNat : Int) != 10) = false := by simp at e5 ⊢; omega
          clear hnl h5 h
          go_wp2_with fail
          go_ret
          exact ⟨ret_int (by rw [HE.out, HZ.out]), rfl⟩
        · have e5 : decide ((k : Int) < (s.size : Int)) = false := by simp; omega
          clear h
          go_wp2_with fail
          go_ret
          exact ⟨ret_int (by rw [HE.out, HZ.out]), rfl⟩
      · have hks : k < s.size := by omega
        have hks' : (k : Int) < (s.size : Int) := by omega
        have hnl := nl_at hks
        rw [H3.out k hk1 h] at hnl
        have e5 := hnl.symm
        have e6 : ((s[k].toNat : Int) != 10) = true := by simp at e5 ⊢; omega
        clear hnl
        go_wp2_with fail
        go_round
        case rel => exact ⟨k + 1, by go_num, by omega, by omega⟩
        case measure => (simp [intOf] <;> omega)
theorem sLO_any (s : ByteArray) (p : Int) (w : World) (hs : s.size ≤ maxLen) :
    Calls Tryd.prog 32 #[.string s, .int .i64 p] w fun e w' => e = .returned (.int .i64 (loI s p)) ∧ w = w' := by
  have hs' := hs
  unfold maxLen at hs'
  cases hp : place s p
  · have HE : Hid (loI s p = -1) := Lib.hid (by unfold loI; rw [if_neg (by simp [hp])])
    rcases placeF (s := s) (p := p) (by simp [hp]) with h1 | ⟨h1, h2⟩
    · clear hp
      go_enter Tryd.func32, Tryd.ntmps32
      go_wp2_with fail
      refine (sTV_any _ _ hs).mono ?_
      rintro e w' ⟨rfl, rfl⟩
      go_wp2_with fail
      go_ret
      exact ⟨ret_int HE.out.symm, rfl⟩
    · clear hp
      go_enter Tryd.func32, Tryd.ntmps32
      go_wp2_with fail
      refine (sTV_any _ _ hs).mono ?_
      rintro e w' ⟨rfl, rfl⟩
      go_wp2_with fail
      refine (l1In_any _ _ _ _).mono ?_
      rintro e w' ⟨rfl, rfl⟩
      go_wp2_with fail
      go_ret
      exact ⟨ret_int HE.out.symm, rfl⟩
  · obtain ⟨hv, hin⟩ := placeS hp
    obtain ⟨n, rfl, hn⟩ := place_nat hp
    have HE : Hid (loI s n = cntN s n) := Lib.hid (by unfold loI; rw [if_pos hp]; rfl)
    have hcn := cnt_le s n
    have hc := fun W => sLM_any (s.extract 0 n) W (by rw [ByteArray.size_extract]; unfold maxLen; omega)
    rw [lm_cut hv hn] at hc
    have HC := Lib.hid hc
    have hn' : (n : Int) ≤ (s.size : Int) := by omega
    clear hc hp
    go_enter Tryd.func32, Tryd.ntmps32
    go_wp2_with fail
    refine (sTV_any _ _ hs).mono ?_
    rintro e w' ⟨rfl, rfl⟩
    go_wp2_with fail
    refine (l1In_any _ _ _ _).mono ?_
    rintro e w' ⟨rfl, rfl⟩
    go_wp2_with fail
    refine (HC.out _).mono ?_
    rintro e w' ⟨rfl, rfl⟩
    go_wp2_with fail
    go_ret
    exact ⟨ret_int (by rw [HE.out]; omega), rfl⟩
theorem co_at {s : ByteArray} {n : Nat} (hp : place s n = true) (hn : n ≤ s.size) : coI s n = (n : Int) - bolN s n ∧ lsI s (cntN s n) = bolN s n ∧ bolN s n ≤ n := by
  have hv := (placeS hp).1
  have hc := cnt_mono s hn
  have hok : lineOk s (cntN s n) = true := by unfold lineOk inI; rw [hv]; simp; omega
  refine ⟨by unfold coI; rw [if_pos hp]; rfl, ?_, (bol_spec s n).1⟩
  unfold lsI
  rw [if_pos hok, Int.toNat_natCast, ls_of s hn]
theorem sCO_any (s : ByteArray) (p : Int) (w : World) (hs : s.size ≤ maxLen) :
    Calls Tryd.prog 31 #[.string s, .int .i64 p] w fun e w' => e = .returned (.int .i64 (coI s p)) ∧ w = w' := by
  have hs' := hs
  unfold maxLen at hs'
  have hc1 := fun W => sLO_any s p W hs
  cases hp : place s p
  · have HE : Hid (coI s p = -1) := Lib.hid (by unfold coI; rw [if_neg (by simp [hp])])
    have hx : loI s p = -1 := by unfold loI; rw [if_neg (by simp [hp])]
    rw [hx] at hc1
    have H1 := Lib.hid hc1
    clear hc1 hx
    go_enter Tryd.func31, Tryd.ntmps31
    go_wp2_with fail
    refine (H1.out _).mono ?_
    rintro e w' ⟨rfl, rfl⟩
    go_wp2_with fail
    go_ret
    exact ⟨ret_int HE.out.symm, rfl⟩
  · obtain ⟨n, rfl, hn⟩ := place_nat hp
    have hx : loI s n = cntN s n := by unfold loI; rw [if_pos hp]; rfl
    rw [hx] at hc1
    obtain ⟨g1, g2, g3⟩ := co_at hp hn
    have HE := Lib.hid g1
    have hc2 := fun W => sLS_any s (cntN s n) W hs
    rw [g2] at hc2
    have h120 := valid_size (placeS hp).1
    generalize cntN s n = c at *
    generalize bolN s n = b at *
    have H1 := Lib.hid hc1
    have H2 := Lib.hid hc2
    clear hc1 hc2 hx g1 g2
    go_enter Tryd.func31, Tryd.ntmps31
    go_wp2_with fail
    refine (H1.out _).mono ?_
    rintro e w' ⟨rfl, rfl⟩
    go_wp2_with fail
    refine (H2.out _).mono ?_
    rintro e w' ⟨rfl, rfl⟩
    go_wp2_with fail
    go_ret
    exact ⟨ret_int HE.out.symm, rfl⟩
theorem sPA_any (s : ByteArray) (l c : Int) (w : World) (hs : s.size ≤ maxLen) :
    Calls Tryd.prog 33 #[.string s, .int .i64 l, .int .i64 c] w fun e w' => e = .returned (.int .i64 (paI s l c)) ∧ w = w' := by
  have hs' := hs
  unfold maxLen at hs'
  have hc1 := fun W => sLS_any s l W hs
  have hc2 := fun W => sLE_any s l W hs
  cases hl : lineOk s l
  · have HE : Hid (paI s l c = -1) := Lib.hid (by unfold paI; rw [if_neg (by simp [hl])])
    have hx : lsI s l = -1 := by unfold lsI; rw [if_neg (by simp [hl])]
    rw [hx] at hc1
    have H1 := Lib.hid hc1
    clear hc1 hc2 hx
    go_enter Tryd.func33, Tryd.ntmps33
    go_wp2_with fail
    refine (H1.out _).mono ?_
    rintro e w' ⟨rfl, rfl⟩
    go_wp2_with fail
    go_ret
    exact ⟨ret_int HE.out.symm, rfl⟩
  · obtain ⟨n, rfl, hn, hv⟩ := lineOk_nat hl
    have hx : lsI s n = lsN s n := by unfold lsI; rw [if_pos hl]; rfl
    have hy : leI s n = eolN s (lsN s n) := by unfold leI; rw [if_pos hl]; rfl
    rw [hx] at hc1
    rw [hy] at hc2
    obtain ⟨g1, _, _⟩ := ls_ok hn
    obtain ⟨e1, e2, _, _⟩ := eol_spec s g1
    have h120 := valid_size hv
    have HP1 : Hid (0 ≤ c → paI s n c = lsN s n + min c ((eolN s (lsN s n) : Int) - lsN s n)) := Lib.hid (fun h => by unfold paI; rw [if_pos ⟨hl, h⟩]; rfl)
    have HP2 : Hid (c < 0 → paI s n c = -1) := Lib.hid (fun h => by unfold paI; rw [if_neg (by omega)])
    generalize lsN s n = a at *
    generalize eolN s a = z at *
    have H1 := Lib.hid hc1
    have H2 := Lib.hid hc2
    clear hc1 hc2 hx hy
    by_cases hc : c < 0
    · have e0 : decide (c < 0) = true := by simp; omega
      go_enter Tryd.func33, Tryd.ntmps33
      go_wp2_with fail
      refine (H1.out _).mono ?_
      rintro e w' ⟨rfl, rfl⟩
      go_wp2_with fail
      go_ret
      exact ⟨ret_int (HP2.out hc).symm, rfl⟩
    · have e0 : decide (c < 0) = false := by simp; omega
      go_enter Tryd.func33, Tryd.ntmps33
      go_wp2_with fail
      refine (H1.out _).mono ?_
      rintro e w' ⟨rfl, rfl⟩
      go_wp2_with fail
      refine (H2.out _).mono ?_
      rintro e w' ⟨rfl, rfl⟩
      go_wp2_with fail
      all_goals
        go_ret
        exact ⟨ret_int (by rw [HP1.out (by omega)] <;> omega), rfl⟩
end Go.Proofs.YthcijegcnecnmaaDoor
