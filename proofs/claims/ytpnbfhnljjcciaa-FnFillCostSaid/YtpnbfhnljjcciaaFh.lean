/- The reference's LinesOf, as far as its lengths, and plain lemmas on costs. -/
import Derived.Test.YtpnbfhnljjcciaaFg
import Derived.Test.YtpnbfhnljjcciaaNs
import Derived.Test.YtpnbfhnljjcciaaFc
set_option linter.unusedVariables false
set_option linter.unusedSimpArgs false
namespace Go.Proofs.Ytpnbfhnljjcciaa
open Go.RowKit
/-- A new slice of few short texts. -/
def FewPost (w : World) (e : Ending) (w' : World) : Prop := ∃ ss : List ByteArray, StrsPost ss w e w' ∧ ss.length ≤ 200 ∧ ∀ x ∈ ss, x.size ≤ 100000
set_option maxRecDepth 100000 in
theorem sLns_few (s : ByteArray) (w : World) (hs : s.size ≤ 200) : Calls Try.prog 66 #[.string s] w (FewPost w) := by
  have hs2 : s.size ≤ maxLen := by unfold maxLen; omega
  obtain ⟨i0, hi, hz0, hz1, hz2⟩ := info_parts infoStr
  obtain ⟨B, hB⟩ : ∃ B, w.heap.size = B := ⟨_, rfl⟩
  have hmade : (w.alloc (.cells #[] 9)).ownsRow B 9 1 (.slice (some ⟨w.heap.size, 0, none⟩) 0 0) 0 [] := World.ownsRow_made w #[] 0 (by omega) (by decide) rfl
  have hbm : Below B w (w.alloc (.cells #[] 9)) := (Below.refl _ _).alloc (by omega) _
  have HM := Lib.hid (And.intro hmade hbm)
  have HB := Lib.hid hB
  clear hmade hbm hB
  have h1 := fun w => sLM_any s w hs2
  cases hv : valid s.data.toList
  · have hlm : lmI s = -1 := by unfold lmI; rw [if_neg (by simp [hv])]
    rw [hlm] at h1
    have H1 := Lib.hid h1
    have HP : Hid (FewPost w (.returned (.slice (some ⟨w.heap.size, 0, none⟩) 0 0)) (w.alloc (.cells #[] 9))) := Lib.hid (by
      have h := HM.out
      rw [← HB.out] at h
      exact ⟨[], ⟨_, 0, rfl, h.1, h.2⟩, by simp, fun x hx => by simp at hx⟩)
    clear h1 hlm hv
    go_enter Try.func66, Try.ntmps66
    go_wp2_with fail
    refine wp_loop_rounds 1 ?_
    rw [rounds_succ]
    go_wp2_with fail
    refine (H1.out _).mono ?_
    rintro e w' ⟨rfl, rfl⟩
    go_wp2_with fail
    go_ret
    exact HP.out
  · have h120 := valid_size hv
    have hcl := cnt_le s s.size
    rw [lm_cnt hv] at h1
    have hlo : ∀ k : Nat, k ≤ cntN s s.size → lineOk s k = true := fun k hk => by unfold lineOk inI; rw [hv]; simp; omega
    have hc1 := fun (k : Nat) (hk : k ≤ cntN s s.size) W => (show lsI s k = lsN s k by unfold lsI; rw [if_pos (hlo k hk)]; rfl) ▸ sLS_any s k W hs2
    have hc2 := fun (k : Nat) (hk : k ≤ cntN s s.size) W => (show leI s k = eolN s (lsN s k) by unfold leI; rw [if_pos (hlo k hk)]; rfl) ▸ sLE_any s k W hs2
    have hle := fun (k : Nat) (hk : k ≤ cntN s s.size) => (show lsN s k ≤ eolN s (lsN s k) ∧ eolN s (lsN s k) ≤ s.size from ⟨(eol_spec s (ls_ok hk).1).1, (eol_spec s (ls_ok hk).1).2.1⟩)
    have HC1 := Lib.hid hc1
    have HC2 := Lib.hid hc2
    have HLE := Lib.hid hle
    have H1 := Lib.hid h1
    clear hc1 hc2 hle h1 hlo hv
    generalize hcc : cntN s s.size = cc at *
    clear hcc
    go_enter Try.func66, Try.ntmps66
    go_wp2_with fail
    go_loopw [3, 4] (fun ov kv wr => ∃ (k : Nat) (out : List ByteArray), kv = .int .i64 k ∧ k ≤ cc + 1 ∧ out.length = k ∧ Hid (∀ x ∈ out, x.size ≤ 200) ∧ wr.ownsRow B 9 1 ov out.length (strVals out) ∧ Below B w wr) (fun _ kv _ => cc + 1 - (intOf kv).toNat)
    case atStart => exact ⟨0, [], rfl, Nat.zero_le _, rfl, Lib.hid (fun x hx => by simp at hx), HM.out.1, HM.out.2⟩
    case round =>
      obtain ⟨k, out, rfl, hk, hol, hx, hown, hbw⟩ := hrel
      have hBz : B ≤ wr.heap.size := by have := hbw.size; have := HB.out; omega
      have hol' : out.length ≤ k := by omega
      have HOL := Lib.hid hol
      clear hol
      by_cases hkc : k ≤ cc
      · have hk0 : (0 : Int) ≤ (k : Int) := by omega
        have hk1 : (k : Int) < 1 + (cc : Int) := by omega
        have hs1 := HC1.out k hkc
        have hs2' := HC2.out k hkc
        obtain ⟨l1, l2⟩ := HLE.out k hkc
        generalize lsN s k = a at *
        generalize eolN s a = z at *
        have HS1 := Lib.hid hs1
        have HS2 := Lib.hid hs2'
        have ha0 : (0 : Int) ≤ (a : Int) := by omega
        have haz : (a : Int) ≤ (z : Int) := by omega
        have hzs : (z : Int) ≤ (s.size : Int) := by omega
        have HX : Hid (∀ x ∈ out ++ [s.extract a z], x.size ≤ 200) := Lib.hid (fun x h => by
          rcases List.mem_append.1 h with h | h
          · exact hx.out x h
          · obtain rfl : x = s.extract a z := by simpa using h
            rw [ByteArray.size_extract]; omega)
        clear hs1 hs2' hx
        go_wp2_with fail
        refine (H1.out _).mono ?_
        rintro e w' ⟨rfl, rfl⟩
        go_wp2_with fail
        refine (HS1.out _).mono ?_
        rintro e w' ⟨rfl, rfl⟩
        go_wp2_with fail
        refine (HS2.out _).mono ?_
        rintro e w' ⟨rfl, rfl⟩
        go_wp2_with (first | (at_builtin; refine wpList_append_own _ rfl _ _ 39 rfl B 9 i0 (.string .empty) 1 16 Try.underlying39 hi hz0 hz1 hz2 rfl (by decide) _ _ _ rfl (hown.alloc _) ⟨wr.heap.size, 0, none⟩ 1 1 [.string (s.extract a z)] rfl rfl (news1 _ _ _) (ones1 _) (by unfold maxLen; omega) (by omega) (by simp; omega) ?_))
        intro v' w1 hown' hgrow _
        obtain ⟨hown3, hbw3⟩ := str_add hbw hBz hown hown' hgrow
        clear hown' hgrow hown hbw
        go_wp2_with fail
        go_roundw
        case rel => exact ⟨k + 1, _, by go_num, by omega, by simp [HOL.out], HX, hown3, hbw3⟩
        case measure => (simp [intOf] <;> omega)
      · have hk1 : 1 + (cc : Int) ≤ (k : Int) := by omega
        obtain ⟨A', c', rfl⟩ := own_form3 hown
        have HP : Hid (FewPost w (.returned (.slice A' out.length c')) wr) := Lib.hid (by
          have hB := HB.out
          exact ⟨out, ⟨A', c', rfl, by rw [hB]; exact hown, by rw [hB]; exact hbw⟩, by omega, fun x h => by have := hx.out x h; omega⟩)
        clear hown hbw hx
        go_wp2_with fail
        refine (H1.out _).mono ?_
        rintro e w' ⟨rfl, rfl⟩
        go_wp2_with fail
        go_ret
        exact HP.out
theorem fgN_range (ws : List ByteArray) (W : Int) (k : Nat) : ∀ f n, n ≤ ws.length → n ≤ fgN ws W k f n ∧ fgN ws W k f n ≤ ws.length
  | 0, n, h => ⟨Nat.le_refl _, h⟩
  | f + 1, n, h => by
    rw [fgN]
    split
    · rename_i hc
      have := fgN_range ws W k f (n + 1) (by omega)
      omega
    · exact ⟨Nat.le_refl _, h⟩
theorem fgR_small (ws : List ByteArray) (W : Int) (hl : ws.length ≤ 121) (hz : ∀ x ∈ ws, x.size ≤ 121) : ∀ f k out, out.length ≤ k → k ≤ 121 → (∀ x ∈ out, x.size ≤ 100000) → (fgR ws W f k out).length ≤ 121 ∧ ∀ x ∈ fgR ws W f k out, x.size ≤ 100000
  | 0, k, out, h1, h2, h3 => ⟨by simp only [fgR]; omega, h3⟩
  | f + 1, k, out, h1, h2, h3 => by
    rw [fgR]
    split
    · rename_i hk
      have hr : k + 1 ≤ fgE ws W k ∧ fgE ws W k ≤ ws.length := fgN_range ws W k ws.length (k + 1) (by omega)
      have ht := txN_le hz k (fgE ws W k - k)
      have ht2 : (121 + 1) * (fgE ws W k - k) ≤ 122 * 121 := Nat.mul_le_mul_left _ (by omega)
      refine fgR_small ws W hl hz f _ _ (by simp; omega) (by omega) fun x hx => ?_
      rcases List.mem_append.1 hx with h | h
      · exact h3 x h
      · obtain rfl : x = txN ws k (fgE ws W k - k) := by simpa using h
        omega
    · exact ⟨by omega, h3⟩
theorem fg_few (s : ByteArray) (W : Int) : (fgL s W).length ≤ 121 ∧ ∀ x ∈ fgL s W, x.size ≤ 100000 := by
  unfold fgL
  split
  · exact fgR_small _ W (words_small s).1 (words_small s).2 _ 0 [] (Nat.zero_le _) (Nat.zero_le _) (fun x hx => by simp at hx)
  · exact ⟨by simp, fun x hx => by simp at hx⟩
theorem sFG_few (s : ByteArray) (W : Int) (w : World) (hs : s.size ≤ 200) : Calls Try.prog 65 #[.string s, .int .i64 W] w (FewPost w) :=
  (sFG_any s W w (by unfold maxLen; omega)).mono fun e w' h => ⟨_, h, by have := (fg_few s W).1; omega, (fg_few s W).2⟩
theorem cost_nonneg (len width : Int) (last : Bool) : 0 ≤ costI len width last := by
  unfold costI
  split
  · have : 0 ≤ (width - len) * (width - len) := by
      rcases Int.le_total 0 (width - len) with h | h
      · exact Int.mul_nonneg h h
      · exact Int.mul_nonneg_of_nonpos_of_nonpos h h
    rw [Int.mul_assoc]; omega
  · split
    · omega
    · rename_i h _
      exact Int.mul_nonneg (by omega) (by omega)
theorem cost_last (len width : Int) : costI len width true ≤ costI len width false := by
  unfold costI
  split
  · omega
  · rename_i h
    simp only [if_true]
    exact Int.mul_nonneg (by omega) (by omega)
/-- From a sum on, no cost is less than the sum, where there is one. -/
theorem fcL_ge (width : Int) : ∀ (ss : List ByteArray) (sum : Int), 0 ≤ sum → (∀ x ∈ ss, x.size ≤ 120) → sum ≤ fcL width ss sum
  | [], sum, h, _ => by simp [fcL]
  | x :: r, sum, h, hx => by
    simp only [fcL]
    rw [if_neg (by have := hx x (List.mem_cons_self ..); omega)]
    have h1 := cost_nonneg x.size width r.isEmpty
    have h2 := fcL_ge width r (sum + costI x.size width r.isEmpty) (by omega) (fun y hy => hx y (List.mem_cons_of_mem _ hy))
    omega
/-- The lines without the last one cost no more. -/
theorem fcL_mono (width : Int) : ∀ (ss : List ByteArray) (last : ByteArray) (sum sum' : Int), 0 ≤ sum → sum ≤ sum' → (∀ x ∈ ss, x.size ≤ 120) → last.size ≤ 120 → fcL width ss sum ≤ fcL width (ss ++ [last]) sum'
  | [], last, sum, sum', h0, h, _, hl => by
    simp only [List.nil_append, fcL]
    rw [if_neg (by omega)]
    have := cost_nonneg last.size width ([] : List ByteArray).isEmpty
    omega
  | x :: r, last, sum, sum', h0, h, hx, hl => by
    simp only [List.cons_append, fcL]
    rw [if_neg (by have := hx x (List.mem_cons_self ..); omega), if_neg (by have := hx x (List.mem_cons_self ..); omega)]
    have h1 := cost_nonneg x.size width r.isEmpty
    have h2 : costI x.size width r.isEmpty ≤ costI x.size width (r ++ [last]).isEmpty := by
      have : (r ++ [last]).isEmpty = false := by simp
      rw [this]
      cases r.isEmpty
      · omega
      · exact cost_last _ _
    exact fcL_mono width r last _ _ (by omega) (by omega) (fun y hy => hx y (List.mem_cons_of_mem _ hy)) hl
end Go.Proofs.Ytpnbfhnljjcciaa
