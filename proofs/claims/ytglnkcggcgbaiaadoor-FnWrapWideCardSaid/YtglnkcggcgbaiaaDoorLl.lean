/- The law on the texts of rows in a wide window over drawn inputs, walked. -/
import Derived.Test.YtglnkcggcgbaiaaDoorLk
set_option linter.unusedVariables false
set_option linter.unusedSimpArgs false
namespace Go.Proofs.YtglnkcggcgbaiaaDoor
open Go.RowKit
theorem wide_rows {s : ByteArray} {W : Nat} (hl : ∀ x ∈ linesL s, x.size ≤ W) : ∀ k n, n + k = cntN s s.size → (rowsF s W (k + 1) n).map (cutT s) = linesF s k n
  | k, n, h => by
    have hn : n ≤ cntN s s.size := by omega
    have h1 : (lineS s n).size ≤ W := hl _ (List.mem_of_getElem? (linesL_get s hn))
    rw [lineS_size hn] at h1
    have hw : wrapLn s W n = [((lsN s n : Int), (eolN s (lsN s n) : Int))] := by
      unfold wrapLn
      generalize hf : eolN s (lsN s n) - lsN s n = f at *
      cases f
      · rfl
      · simp only [wrapF]; rw [if_neg (by omega)]
    have hc : cutT s ((lsN s n : Int), (eolN s (lsN s n) : Int)) = lineS s n := by simp [cutT, lineS]
    cases k with
    | zero => simp only [rowsF, linesF, hw, List.append_nil, List.map_cons, List.map_nil, hc]
    | succ k =>
      rw [rowsF, linesF, List.map_append, hw, wide_rows hl k (n + 1) (by omega)]
      simp only [List.map_cons, List.map_nil, hc]
      rfl
theorem rt_wide {s : ByteArray} {W : Int} (h0 : (rtL s W).length ≠ 0) (hl : ∀ x ∈ linesL s, (x.size : Int) ≤ W) : rtL s W = linesL s := by
  have hw : wOk s W = true := by
    cases hw : wOk s W
    · exact absurd (by rw [rt_len]; unfold rowsL; rw [if_neg (by simp [hw])]; rfl) h0
    · rfl
  obtain ⟨hv, n, rfl, _⟩ := wOk_s hw
  rw [rtL, rowsL_ok hw]
  exact wide_rows (fun x hx => by have := hl x hx; omega) _ 0 (by omega)
/-- The lines of a text: none if it is not valid. -/
def linesV (s : ByteArray) : List ByteArray := if valid s.data.toList = true then linesL s else []
theorem linesV_len (s : ByteArray) : (linesV s).length ≤ 121 := by
  unfold linesV
  split
  · rename_i h
    have := valid_size h
    have := cnt_le s s.size
    rw [linesL_len]; omega
  · simp
theorem rt_wideV {s : ByteArray} {W : Int} (h0 : (rtL s W).length ≠ 0) (hl : ∀ x ∈ linesV s, (x.size : Int) ≤ W) : rtL s W = linesV s := by
  have hv : valid s.data.toList = true := by
    cases hv : valid s.data.toList
    · exact absurd (by rw [rt_len]; unfold rowsL wOk; rw [hv]; rfl) h0
    · rfl
  have e : linesV s = linesL s := by unfold linesV; rw [if_pos hv]
  rw [e] at hl ⊢
  exact rt_wide h0 hl
theorem linesV_small (s : ByteArray) : ∀ x ∈ linesV s, x.size ≤ s.size := by
  unfold linesV
  split
  · exact lines_small s
  · intro x hx; simp at hx
def LinesVPost (s : ByteArray) (w : World) (e : Ending) (w' : World) : Prop :=
  ∃ A c, e = .returned (.slice A (linesV s).length c) ∧ Row w' w'.heap.size A (strVals (linesV s)) ∧ Below w.heap.size w w'
theorem iLinesOf3_any (s : ByteArray) (w : World) (hs : s.size ≤ 200) (hM : ML w) : Calls Tryd.prog 32 #[.string s] w (LinesVPost s w) := by
  cases hv : valid s.data.toList
  · have hs' : s.size ≤ maxLen := by unfold maxLen; omega
    have ht := fun w => iTV_any s w hs'
    rw [hv] at ht
    have HT := Lib.hid ht
    have hp : LinesVPost s w (.returned (.slice none 0 0)) w := by
      have e : linesV s = [] := by unfold linesV; rw [if_neg (by simp [hv])]
      unfold LinesVPost
      rw [e]
      exact ⟨none, 0, rfl, Row.empty, Below.refl _ _⟩
    have HP := Lib.hid hp
    clear ht hp hv
    go_enter Tryd.func32, Tryd.ntmps32
    go_wp2_with fail
    refine (HT.out _).mono ?_
    rintro e w' ⟨rfl, rfl⟩
    go_wp2_with fail
    go_ret
    exact HP.out
  · have e : linesV s = linesL s := by unfold linesV; rw [if_pos hv]
    refine (iLinesOf2_any s w hs hv hM).mono fun e' w' h => ?_
    unfold LinesVPost
    rw [e]
    exact h
set_option maxRecDepth 100000 in
theorem law_FnWrapWide (A : Option Addr) (n c : Nat) (zs : List Int) (w : World) (h : IsBytes w A n c zs) (hM : ML w) :
    Calls Tryd.prog 9 #[.slice A n c] w fun e w' => e = .returned (.bool true) ∧ Below w.heap.size w w' := by
  by_cases hbig : 1048576 < n
  · go_enter Tryd.func9, Tryd.ntmps9
    go_wp2
    go_ret
    exact ⟨rfl, Below.refl _ _⟩
  have hML := hM.lt
  go_enter Tryd.func9, Tryd.ntmps9
  go_wp2_with fail
  refine (dDrawRowTexts A n c zs _ h).mono ?_
  rintro e W1 ⟨s, W, rfl, hs0, hv1, hv2, hb⟩
  have hs : s.size ≤ maxLen := by unfold maxLen; omega
  clear hbig
  have hlen : (rtL s W).length ≤ 121 := by rw [rt_len]; exact rows_small s W
  have hll := linesV_len s
  have H1 := Lib.hid fun w hM => iRT_any s W w hs hM
  have H2 := Lib.hid fun w => sRT_any s W w hs
  have hc3 := fun W hM => iLinesOf3_any s W hs0 hM
  unfold LinesVPost at hc3
  have hwd := fun h0 hl => rt_wideV (s := s) (W := W) h0 hl
  have hsm := linesV_small s
  generalize rtL s W = xs at *
  generalize linesV s = ls at *
  have H3 := Lib.hid hc3
  have HW := Lib.hid hwd
  have HSM := Lib.hid hsm
  clear hc3 hwd hsm
  go_wp2_with fail
  refine (H1.out _ (hM.below hb hML)).mono ?_
  rintro e W2 ⟨A2, c2, rfl, ho2, hb2⟩
  have hr2 := Row.of_own ho2
  have hbw2 := hb.trans (hb2.mono hb.size)
  clear ho2
  go_wp2_with fail
  refine (H2.out _).mono ?_
  rintro e W3 ⟨A3, c3, rfl, ho3, hb3⟩
  have hr3 := Row.of_own ho3
  have hr23 := (hr2.below hb3).more hb3.size
  have hbw3 := hbw2.trans (hb3.mono hbw2.size)
  clear ho3 hr2
  go_wp2_with fail
  refine (sameTexts_same A2 A3 _ _ c2 c3 xs W3 hr23 hr3 rfl rfl (by omega)).mono ?_
  rintro e w' ⟨rfl, q4, rfl⟩
  have hbw4 := below_drewN hbw3 q4
  have hr4 : Row (W3.drewN q4) (W3.drewN q4).heap.size A2 (strVals xs) := hr23.drewN q4
  clear hr23 hr3
  generalize W3.drewN q4 = W4 at *
  go_wp2_with fail
  refine (H3.out _ (hM.below hbw4 hML)).mono ?_
  rintro e W5 ⟨A5, c5, rfl, hr5, hb5⟩
  have hbw5 := hbw4.trans (hb5.mono hbw4.size)
  have hr45 := (hr4.below hb5).more hb5.size
  clear hr4
  go_wp2_with fail
  go_loopw [7] (fun iv wr => ∃ k : Nat, k ≤ ls.length ∧ iv = .int .i64 k ∧ (∀ j (hj : j < ls.length), j < k → (ls[j].size : Int) ≤ W) ∧ wr = W5) (fun iv _ => ls.length - (intOf iv).toNat)
  case atStart => exact ⟨0, Nat.zero_le _, rfl, fun j hj h => by omega, rfl⟩
  case round =>
    obtain ⟨k, hk, rfl, hall, rfl⟩ := hrel
    have HA := Lib.hid hall
    clear hall
    by_cases hkx : k < ls.length
    · obtain ⟨b, o, rfl, hbb, c0⟩ := hr5.str hkx
      have hx := HSM.out _ (List.getElem_mem hkx)
      have hk' : (k : Int) < (ls.length : Int) := by omega
      have hk0 : (0 : Int) ≤ (k : Int) := by omega
      by_cases hxW : W < (ls[k].size : Int)
      · clear HA
        generalize ls[k]'hkx = x at *
        go_wp2_with (go_at_call 28; refine (alive_any _).mono ?_; rintro e w' ⟨rfl, rfl⟩)
        go_ret
        exact ⟨rfl, hbw5⟩
      · have hnew : ∀ j (hj : j < ls.length), j < k + 1 → (ls[j].size : Int) ≤ W := by
          intro j hj hjk
          rcases Nat.lt_or_ge j k with h | h
          · exact HA.out j hj h
          · obtain rfl : j = k := by omega
            omega
        have HNW := Lib.hid hnew
        clear hnew HA
        generalize ls[k]'hkx = x at *
        go_wp2_with fail
        go_roundw
        case rel => exact ⟨k + 1, by omega, by go_num, HNW.out, by first | trivial | rfl⟩
        case measure => (simp [intOf] <;> omega)
    · obtain rfl : k = ls.length := by omega
      by_cases h0 : xs.length = 0
      · have e0 : ((xs.length : Int) == 0) = true := by simp [h0]
        clear h0 hr5 hr45 HW
        go_wp2_with (go_at_call 28; refine (alive_any _).mono ?_; rintro e w' ⟨rfl, rfl⟩)
        go_ret
        exact ⟨rfl, hbw5⟩
      · have e0 : ((xs.length : Int) == 0) = false := beq_eq_false_iff_ne.2 (by omega)
        have hxl : xs = ls := HW.out h0 fun x hx => by
          obtain ⟨j, hj, rfl⟩ := List.getElem_of_mem hx
          exact HA.out j hj hj
        subst hxl
        clear h0 HW HA
        go_wp2_with fail
        refine (sameTexts_same A2 A5 _ _ c2 c5 xs _ hr45 hr5 rfl rfl (by omega)).mono ?_
        rintro e w' ⟨rfl, q6, rfl⟩
        have hbw6 := below_drewN hbw5 q6
        go_wp2_with (go_at_call 28; refine (alive_any _).mono ?_; rintro e w' ⟨rfl, rfl⟩)
        go_ret
        exact ⟨rfl, hbw6⟩
end Go.Proofs.YtglnkcggcgbaiaaDoor
