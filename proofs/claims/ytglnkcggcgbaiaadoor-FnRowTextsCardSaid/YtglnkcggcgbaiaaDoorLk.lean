/- The law on the texts of rows over drawn inputs, walked. -/
import Derived.Test.YtglnkcggcgbaiaaDoorWq
import Derived.Test.YtglnkcggcgbaiaaDoorRu
import Derived.Test.YtglnkcggcgbaiaaDoorAl
set_option linter.unusedVariables false
set_option linter.unusedSimpArgs false
namespace Go.Proofs.YtglnkcggcgbaiaaDoor
open Go.RowKit
/-- Texts, one behind the other. -/
def catS (l : List ByteArray) : ByteArray := l.foldl (· ++ ·) ⟨#[]⟩
theorem cat_snoc {ss : List ByteArray} {k : Nat} {x : ByteArray} (h : ss[k]? = some x) : catS (ss.take (k + 1)) = catS (ss.take k) ++ x := by
  unfold catS
  rw [List.take_add_one, h, List.foldl_append]
  rfl
theorem fold_list : ∀ (l : List ByteArray) (o : ByteArray), (l.foldl (· ++ ·) o).data.toList = o.data.toList ++ l.flatMap (·.data.toList)
  | [], o => by simp
  | x :: l, o => by
    simp only [List.foldl_cons, List.flatMap_cons]
    rw [fold_list l, ByteArray.data_append, Array.toList_append, List.append_assoc]
theorem cat_list (l : List ByteArray) : (catS l).data.toList = l.flatMap (·.data.toList) := by
  unfold catS; rw [fold_list]; rfl
theorem cat_size {m : Nat} : ∀ (l : List ByteArray), (∀ x ∈ l, x.size ≤ m) → (catS l).size ≤ m * l.length := by
  intro l h
  have h1 : (catS l).size = (catS l).data.toList.length := (Array.length_toList ..).symm
  rw [h1, cat_list]
  clear h1
  induction l with
  | nil => simp
  | cons x l ih =>
    have h2 := ih fun y hy => h y (List.mem_cons_of_mem _ hy)
    have h3 : x.data.toList.length ≤ m := h x (List.mem_cons_self ..)
    simp only [List.flatMap_cons, List.length_append, List.length_cons, Nat.mul_add, Nat.mul_one]
    omega
theorem two_cuts (s : ByteArray) {a b c : Nat} (h1 : a ≤ b) (h2 : b ≤ c) : (s.extract a b).data.toList ++ (s.extract b c).data.toList = (s.extract a c).data.toList := by
  rw [← Array.toList_append, ← ByteArray.data_append, ByteArray.extract_append_extract, Nat.min_eq_left h1, Nat.max_eq_right h2]
theorem wrap_cat {s : ByteArray} {W e : Nat} (hW : 0 < W) : ∀ f a, e - a ≤ f → a ≤ e → ((wrapF s W e f a).map (cutT s)).flatMap (·.data.toList) = (s.extract a e).data.toList
  | 0, a, hf, ha => by simp [wrapF, cutT]
  | f + 1, a, hf, ha => by
    simp only [wrapF]
    by_cases hl : W < e - a
    · rw [if_pos hl]
      obtain ⟨c1, c2, c3⟩ := cut_spec s a hW
      rw [List.map_cons, List.flatMap_cons, wrap_cat hW f _ (by omega) (by omega)]
      exact two_cuts s (by omega) (by omega)
    · rw [if_neg hl]; simp [cutT]
theorem wrapLn_cat {s : ByteArray} {W n : Nat} (hW : 0 < W) (hn : n ≤ cntN s s.size) : ((wrapLn s W n).map (cutT s)).flatMap (·.data.toList) = (lineS s n).data.toList := by
  obtain ⟨g1, _, _⟩ := ls_ok hn
  exact wrap_cat hW _ _ (Nat.le_refl _) (eol_spec s g1).1
theorem rows_cat {s : ByteArray} {W : Nat} (hW : 0 < W) : ∀ k n, n + k = cntN s s.size → ((rowsF s W (k + 1) n).map (cutT s)).flatMap (·.data.toList) = (linesF s k n).flatMap (·.data.toList)
  | 0, n, h => by
    simp only [rowsF, linesF, List.append_nil, List.flatMap_cons, List.flatMap_nil]
    exact wrapLn_cat hW (by omega)
  | k + 1, n, h => by
    rw [rowsF, linesF, List.map_append, List.flatMap_append, wrapLn_cat hW (by omega), rows_cat hW k (n + 1) (by omega), List.flatMap_cons]
theorem rt_cat {s : ByteArray} {n : Nat} (h : wOk s n = true) : catS (rtL s n) = catS (linesL s) := by
  obtain ⟨hv, m, hm, h4, h40⟩ := wOk_s h
  have : n = m := by omega
  subst this
  refine ba_eq ?_
  rw [cat_list, cat_list, rtL, rowsL_ok h]
  exact rows_cat (by omega) _ 0 (by omega)
theorem rt_small {s : ByteArray} {n : Nat} (h : wOk s n = true) {k : Nat} (hk : k < (rtL s n).length) : ((rtL s n)[k]).size ≤ n := by
  have hk' : k < (rowsL s n).length := by rwa [rt_len] at hk
  obtain ⟨h1, h2, h3, h4, _⟩ := rows_at h hk'
  have e : (rtL s n)[k] = cutT s ((rowsL s n)[k]) := by simp [rtL]
  rw [e, h1]
  show (s.extract _ _).size ≤ n
  rw [ByteArray.size_extract]
  simp only [Int.toNat_natCast]
  omega
theorem lines_small (s : ByteArray) : ∀ x ∈ linesL s, x.size ≤ s.size := by
  intro x hx
  obtain ⟨k, hk, rfl⟩ := List.getElem_of_mem hx
  have hk' : k ≤ cntN s s.size := by rw [linesL_len] at hk; omega
  have h := linesL_get s hk'
  rw [List.getElem?_eq_getElem hk] at h
  injection h with h
  rw [h, lineS_size hk']
  have := (eol_spec s (ls_ok hk').1).2.1
  omega
theorem sameTexts_same (A C : Option Addr) (n m c d : Nat) (ss : List ByteArray) (w : World) (h1 : Row w w.heap.size A (strVals ss)) (h2 : Row w w.heap.size C (strVals ss)) (hn : ss.length = n) (hm : ss.length = m) (hmax : n ≤ 3000000) :
    Calls Tryd.prog 31 #[.slice A n c, .slice C m d] w fun e w' => e = .returned (.bool true) ∧ ∃ q, w' = w.drewN q := by
  obtain rfl : n = m := by omega
  go_enter Tryd.func31, Tryd.ntmps31
  go_wp2_with fail
  go_loopw [5] (fun i wr => ∃ k : Nat, k ≤ n ∧ i = .int .i64 k ∧ ∃ q, wr = w.drewN q) (fun i _ => n - (intOf i).toNat)
  case atStart => exact ⟨0, Nat.zero_le _, rfl, 0, rfl⟩
  case round =>
    obtain ⟨k, hk, rfl, q, rfl⟩ := hrel
    by_cases hkn : k < n
    · have hkl : k < ss.length := by omega
      obtain ⟨b, o, rfl, hb, hc1⟩ := h1.str (j := k) hkl
      obtain ⟨b', o', rfl, hb', hc2⟩ := h2.str (j := k) hkl
      generalize ss[k]'hkl = x at hc1 hc2
      have hk' : (k : Int) < (n : Int) := by omega
      have hk0 : (0 : Int) ≤ (k : Int) := by omega
      go_wp2_with fail
      go_quiet (fail)
      go_wp2_with fail
      go_roundw
      case rel => exact ⟨k + 1, by omega, by go_num, _, rfl⟩
      case measure => (simp [intOf] <;> omega)
    · go_wp2_with fail
      go_ret
      exact ⟨rfl, q, rfl⟩
theorem iLinesOf2_any (s : ByteArray) (w : World) (hs : s.size ≤ 200) (hv : valid s.data.toList = true) (hM : ML w) : Calls Tryd.prog 32 #[.string s] w (LinesPost s w) := by
  have hc := iLinesOf_any s w hs hM
  have HC := Lib.hid hc
  have hs' : s.size ≤ maxLen := by unfold maxLen; omega
  have ht := fun w => iTV_any s w hs'
  rw [hv] at ht
  have HT := Lib.hid ht
  clear hc ht
  go_enter Tryd.func32, Tryd.ntmps32
  go_wp2_with fail
  refine (HT.out _).mono ?_
  rintro e w' ⟨rfl, rfl⟩
  go_wp2_with fail
  refine (HC.out).mono ?_
  rintro e w' ⟨A, c, rfl, h1, h2⟩
  go_wp2_with fail
  go_ret
  exact ⟨A, c, rfl, h1, h2⟩
set_option maxRecDepth 100000 in
theorem law_FnRowTexts (A : Option Addr) (n c : Nat) (zs : List Int) (w : World) (h : IsBytes w A n c zs) (hM : ML w) :
    Calls Tryd.prog 8 #[.slice A n c] w fun e w' => e = .returned (.bool true) ∧ Below w.heap.size w w' := by
  by_cases hbig : 1048576 < n
  · go_enter Tryd.func8, Tryd.ntmps8
    go_wp2
    go_ret
    exact ⟨rfl, Below.refl _ _⟩
  have hML := hM.lt
  go_enter Tryd.func8, Tryd.ntmps8
  go_wp2_with fail
  refine (dDrawRowTexts A n c zs _ h).mono ?_
  rintro e W1 ⟨s, W, rfl, hs0, hv1, hv2, hb⟩
  have hs : s.size ≤ maxLen := by unfold maxLen; omega
  clear hbig
  have hlen : (rtL s W).length ≤ 121 := by rw [rt_len]; exact rows_small s W
  have H1 := Lib.hid fun w hM => iRT_any s W w hs hM
  have H2 := Lib.hid fun w => sRT_any s W w hs
  by_cases h0 : (rtL s W).length = 0
  · have e0 : (((rtL s W).length : Int) == 0) = true := by simp [h0]
    clear h0
    generalize rtL s W = xs at *
    go_wp2_with fail
    refine (H1.out _ (hM.below hb hML)).mono ?_
    rintro e W2 ⟨A2, c2, rfl, ho2, hb2⟩
    have hr2 := Row.of_own ho2
    have hbw2 := hb.trans (hb2.mono hb.size)
    clear ho2
    go_wp2_with fail
    refine (H2.out _).mono ?_
    rintro e W3 ⟨A3, c3, rfl, ho3, hb3⟩
    have hr3 := Row.of_own ho3
    have hr23 := (hr2.below hb3).more hb3.size
    have hbw3 := hbw2.trans (hb3.mono hbw2.size)
    clear ho3 hr2
    go_wp2_with fail
    refine (sameTexts_same A2 A3 _ _ c2 c3 xs W3 hr23 hr3 rfl rfl (by omega)).mono ?_
    rintro e w' ⟨rfl, q4, rfl⟩
    have hbw4 := below_drewN hbw3 q4
    go_wp2_with (go_at_call 28; refine (alive_any _).mono ?_; rintro e w' ⟨rfl, rfl⟩)
    go_ret
    exact ⟨rfl, hbw4⟩
  · have hw : wOk s W = true := by
      cases hw : wOk s W
      · exact absurd (by rw [rt_len]; unfold rowsL; rw [if_neg (by simp [hw])]; rfl) h0
      · rfl
    obtain ⟨hv, wn, rfl, hw4, hw40⟩ := wOk_s hw
    have e0 : (((rtL s wn).length : Int) == 0) = false := beq_eq_false_iff_ne.2 (by omega)
    have hsm := fun k (hk : k < (rtL s wn).length) => rt_small hw hk
    have hcat := rt_cat hw
    have h120 := valid_size hv
    have hll : (linesL s).length ≤ 121 := by have := cnt_le s s.size; rw [linesL_len]; omega
    have hls := lines_small s
    have hc3 := fun W hM => iLinesOf2_any s W hs0 hv hM
    unfold LinesPost at hc3
    clear h0 hw
    generalize rtL s wn = xs at *
    generalize linesL s = ls at *
    have HS := Lib.hid hsm
    have HC := Lib.hid hcat
    have HLS := Lib.hid hls
    have H3 := Lib.hid hc3
    clear hsm hcat hls hc3
    go_wp2_with fail
    refine (H1.out _ (hM.below hb hML)).mono ?_
    rintro e W2 ⟨A2, c2, rfl, ho2, hb2⟩
    have hr2 := Row.of_own ho2
    have hbw2 := hb.trans (hb2.mono hb.size)
    clear ho2
    go_wp2_with fail
    refine (H2.out _).mono ?_
    rintro e W3 ⟨A3, c3, rfl, ho3, hb3⟩
    have hr3 := Row.of_own ho3
    have hr23 := (hr2.below hb3).more hb3.size
    have hbw3 := hbw2.trans (hb3.mono hbw2.size)
    clear ho3 hr2
    go_wp2_with fail
    refine (sameTexts_same A2 A3 _ _ c2 c3 xs W3 hr23 hr3 rfl rfl (by omega)).mono ?_
    rintro e w' ⟨rfl, q4, rfl⟩
    have hbw4 := below_drewN hbw3 q4
    have hr4 := hr23.drewN q4
    clear hr23 hr3
    generalize W3.drewN q4 = W4 at *
    go_wp2_with fail
    go_loopw [6, 7] (fun av iv wr => ∃ k : Nat, k ≤ xs.length ∧ iv = .int .i64 k ∧ av = .string (catS (xs.take k)) ∧ wr = W4) (fun _ iv _ => xs.length - (intOf iv).toNat)
    case atStart => exact ⟨0, Nat.zero_le _, rfl, rfl, rfl⟩
    case round =>
      obtain ⟨k, hk, rfl, rfl, rfl⟩ := hrel
      by_cases hkx : k < xs.length
      · obtain ⟨b, o, rfl, hbb, c0⟩ := hr4.str hkx
        have hx := HS.out k hkx
        have hcs := cat_snoc (List.getElem?_eq_getElem hkx)
        have hz := cat_size (m := 40) (xs.take k) (fun x hx => by
          obtain ⟨j, hj, rfl⟩ := List.getElem_of_mem (List.mem_of_mem_take hx)
          have := HS.out j hj
          omega)
        have hl2 : (xs.take k).length ≤ 121 := by rw [List.length_take]; omega
        have hz2 : (catS (xs.take k)).size ≤ 4840 := by omega
        have HCS := Lib.hid hcs
        clear hcs hz hl2
        generalize xs[k]'hkx = x at *
        generalize catS (xs.take k) = o1 at *
        have hk' : (k : Int) < (xs.length : Int) := by omega
        have hk0 : (0 : Int) ≤ (k : Int) := by omega
        go_wp2_with fail
        go_roundw
        case rel => exact ⟨k + 1, by omega, by go_num, by rw [HCS.out], by first | trivial | rfl⟩
        case measure => (simp [intOf] <;> omega)
      · obtain rfl : k = xs.length := by omega
        rw [List.take_length, HC.out]
        clear hr4
        go_wp2_with fail
        refine (H3.out _ (hM.below hbw4 hML)).mono ?_
        rintro e W5 ⟨A5, c5, rfl, hr5, hb5⟩
        have hbw5 := hbw4.trans (hb5.mono hbw4.size)
        go_wp2_with fail
        go_loopw [8, 10] (fun av iv wr => ∃ k : Nat, k ≤ ls.length ∧ iv = .int .i64 k ∧ av = .string (catS (ls.take k)) ∧ wr = W5) (fun _ iv _ => ls.length - (intOf iv).toNat)
        case atStart => exact ⟨0, Nat.zero_le _, rfl, rfl, rfl⟩
        case round =>
          obtain ⟨k, hk, rfl, rfl, rfl⟩ := hrel
          by_cases hkx : k < ls.length
          · obtain ⟨b, o, rfl, hbb, c0⟩ := hr5.str hkx
            have hx := HLS.out _ (List.getElem_mem hkx)
            have hcs := cat_snoc (List.getElem?_eq_getElem hkx)
            have hz := cat_size (m := 200) (ls.take k) (fun x hx => by
              have := HLS.out x (List.mem_of_mem_take hx)
              omega)
            have hl2 : (ls.take k).length ≤ 121 := by rw [List.length_take]; omega
            have hz2 : (catS (ls.take k)).size ≤ 24200 := by omega
            have HCS := Lib.hid hcs
            clear hcs hz hl2
            generalize ls[k]'hkx = x at *
            generalize catS (ls.take k) = o1 at *
            generalize catS ls = o2 at *
            have hk' : (k : Int) < (ls.length : Int) := by omega
            have hk0 : (0 : Int) ≤ (k : Int) := by omega
            go_wp2_with fail
            go_roundw
            case rel => exact ⟨k + 1, by omega, by go_num, by rw [HCS.out], by first | trivial | rfl⟩
            case measure => (simp [intOf] <;> omega)
          · obtain rfl : k = ls.length := by omega
            rw [List.take_length]
            generalize catS ls = o2 at *
            clear hr5
            go_wp2_with fail
            go_ret
            exact ⟨by first | rfl | simp, hbw5⟩
end Go.Proofs.YtglnkcggcgbaiaaDoor
