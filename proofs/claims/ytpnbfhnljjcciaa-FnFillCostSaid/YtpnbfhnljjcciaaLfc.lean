/- The law on costs over drawn lines, walked. -/
import Derived.Test.YtpnbfhnljjcciaaRz
import Derived.Test.YtpnbfhnljjcciaaAl
set_option linter.unusedVariables false
set_option linter.unusedSimpArgs false
namespace Go.Proofs.Ytpnbfhnljjcciaa
open Go.RowKit
theorem fcL_any (W : Int) : ∀ (ss : List ByteArray) (sum : Int), (∀ x ∈ ss, x.size ≤ 120) ∨ fcL W ss sum = -1
  | [], _ => .inl (fun x hx => by simp at hx)
  | x :: r, sum => by
    simp only [fcL]
    split
    · exact .inr rfl
    · rename_i hx
      rcases fcL_any W r (sum + costI x.size W r.isEmpty) with h | h
      · refine .inl fun y hy => ?_
        rcases List.mem_cons.1 hy with rfl | hy
        · omega
        · exact h y hy
      · exact .inr h
theorem fc_alt (ss : List ByteArray) (W : Int) : fcI ss W = -1 ∨ (inI W 4 40 = true ∧ ss.length ≤ 120 ∧ (∀ x ∈ ss, x.size ≤ 120) ∧ fcI ss W = fcL W ss 0 ∧ 0 ≤ fcI ss W) := by
  by_cases h : inI W 4 40 = true ∧ ss.length ≤ 120
  · have e : fcI ss W = fcL W ss 0 := by unfold fcI; rw [if_pos h]
    rcases fcL_any W ss 0 with g | g
    · exact .inr ⟨h.1, h.2, g, e, by rw [e]; exact fcL_ge W ss 0 (Int.le_refl _) g⟩
    · exact .inl (by rw [e]; exact g)
  · exact .inl (by unfold fcI; rw [if_neg h])
theorem fc_parts {ss : List ByteArray} {W : Int} (h1 : inI W 4 40 = true) (h2 : ss.length ≤ 120) (h3 : ∀ x ∈ ss, x.size ≤ 120) (h4 : fcI ss W = fcL W ss 0) (h0 : ss.length - 1 < ss.length) :
    ((ss[ss.length - 1].size : Int) ≤ W → fcI [ss[ss.length - 1]] W = 0) ∧ fcI (ss.take (ss.length - 1)) W ≤ fcI ss W := by
  have hl : (ss[ss.length - 1]).size ≤ 120 := h3 _ (List.getElem_mem h0)
  refine ⟨fun hw => ?_, ?_⟩
  · unfold fcI
    rw [if_pos ⟨h1, by simp⟩]
    simp only [fcL]
    rw [if_neg (by omega)]
    unfold costI
    rw [if_neg (by omega)]
    simp
  · have e : ss = ss.take (ss.length - 1) ++ [ss[ss.length - 1]] := by
      conv => lhs; rw [← List.take_append_drop (ss.length - 1) ss]
      congr 1
      rw [List.drop_eq_getElem_cons h0, show ss.length - 1 + 1 = ss.length by omega, List.drop_length]
    have h5 : fcI (ss.take (ss.length - 1)) W = fcL W (ss.take (ss.length - 1)) 0 := by unfold fcI; rw [if_pos ⟨h1, by rw [List.length_take]; omega⟩]
    rw [h4, h5]
    have h6 := fcL_mono W (ss.take (ss.length - 1)) (ss[ss.length - 1]) 0 0 (Int.le_refl _) (Int.le_refl _) (fun x hx => h3 x (List.mem_of_mem_take hx)) hl
    rw [← e] at h6
    exact h6
theorem Row.take {w : World} {B : Nat} {A : Option Addr} {ss : List ByteArray} (h : Row w B A (strVals ss)) (n : Nat) : Row w B A (strVals (ss.take n)) := by
  intro j u hj
  refine h j u ?_
  simp only [strVals, List.map_take] at hj ⊢
  rw [List.getElem?_take] at hj
  split at hj
  · exact hj
  · cases hj
theorem row_one (W : World) (x : ByteArray) : Row (W.alloc (.cells #[.string x] 9)) (W.alloc (.cells #[.string x] 9)).heap.size (some ⟨W.heap.size, 0, none⟩) (strVals [x]) := by
  intro j u hj
  refine ⟨W.heap.size, 0, rfl, by simp, ?_⟩
  rw [Nat.zero_add, cell_of_row _ _ j _ _ _ (heap_alloc_new W _)]
  simpa [strVals] using hj
set_option maxRecDepth 100000 in
theorem law_FnFillCost (A : Option Addr) (n c : Nat) (zs : List Int) (w : World) (h : IsBytes w A n c zs) :
    Calls Try.prog 7 #[.slice A n c] w fun e w' => e = .returned (.bool true) ∧ Below w.heap.size w w' := by
  by_cases hbig : 1048576 < n
  · go_enter Try.func7, Try.ntmps7
    go_wp2
    go_ret
    exact ⟨rfl, Below.refl _ _⟩
  go_enter Try.func7, Try.ntmps7
  go_wp2_with fail
  refine (dDrawFillCost A n c zs _ h).mono ?_
  rintro e W1 ⟨A1, c1, ss, v, rfl, hr, hcap, hl, hz, hv1, hv2, hb⟩
  clear hbig
  have hzm : ∀ x ∈ ss, x.size ≤ maxLen := fun x hx => by have := hz x hx; unfold maxLen; omega
  have HZM := Lib.hid hzm
  have HR := Lib.hid hr
  have h1 := iFC_any A1 ss.length c1 ss v W1 hr rfl (by omega) hzm
  have h2 := fun q => sFC_any A1 ss.length c1 ss v (W1.drewN q) (hr.drewN q) rfl (by omega) hzm
  rcases fc_alt ss v with hn | ⟨g1, g2, g3, g4, g5⟩
  · rw [hn] at h1 h2
    have H1 := Lib.hid h1
    have H2 := Lib.hid h2
    clear h1 h2 hn hr hz hzm
    go_wp2_with fail
    refine (H1.out).mono ?_
    rintro e w' ⟨rfl, q1, rfl⟩
    go_wp2_with fail
    refine (H2.out _).mono ?_
    rintro e w' ⟨rfl, q2, rfl⟩
    have hbw := below_drewN hb (q1 + q2)
    go_wp2_with (go_at_call 17; refine (alive_any _).mono ?_; rintro e w' ⟨rfl, rfl⟩)
    go_ret
    exact ⟨rfl, hbw⟩
  · by_cases h0 : ss.length = 0
    · have hn0 : fcI ss v = 0 := by
        rw [g4]
        have : ss = [] := List.length_eq_zero_iff.1 h0
        rw [this]; rfl
      rw [hn0] at h1 h2
      have H1 := Lib.hid h1
      have H2 := Lib.hid h2
      have e0 : ((ss.length : Int) == 0) = true := by simp [h0]
      clear h1 h2 hn0 hr hz hzm g1 g2 g3 g4 g5 h0
      go_wp2_with fail
      refine (H1.out).mono ?_
      rintro e w' ⟨rfl, q1, rfl⟩
      go_wp2_with fail
      refine (H2.out _).mono ?_
      rintro e w' ⟨rfl, q2, rfl⟩
      have hbw := below_drewN hb (q1 + q2)
      go_wp2_with fail
      go_ret
      exact ⟨rfl, hbw⟩
    · have e0 : ((ss.length : Int) == 0) = false := beq_eq_false_iff_ne.2 (by omega)
      have hlt : ss.length - 1 < ss.length := by omega
      obtain ⟨p1, p2⟩ := fc_parts g1 g2 g3 g4 hlt
      obtain ⟨b, o, rfl, hbb, hc⟩ := hr.str hlt
      have hlast := g3 _ (List.getElem_mem hlt)
      generalize hx : ss[ss.length - 1]'hlt = x at *
      have h3 := fun w' (hr' : Row w' w'.heap.size (some ⟨b, o, none⟩) (strVals ss)) => iFC_any (some ⟨b, o, none⟩) (ss.length - 1) c1 (ss.take (ss.length - 1)) v w' (hr'.take _) (by rw [List.length_take]; omega) (by omega) (fun y hy => HZM.out y (List.mem_of_mem_take hy))
      generalize fcI (ss.take (ss.length - 1)) v = np at *
      generalize fcI ss v = nn at *
      have H1 := Lib.hid h1
      have H2 := Lib.hid h2
      have H3 := Lib.hid h3
      have HP1 := Lib.hid p1
      clear h1 h2 h3 hr hz hzm g1 g2 g3 g4 h0 p1 hx
      have k1 : (0 : Int) ≤ (ss.length : Int) - 1 := by omega
      have k4 : (ss.length : Int) - 1 ≤ (c1 : Int) := by omega
      have k5 : ss.length - 1 ≤ c1 := by omega
      have k6 : decide (c1 < ss.length - 1) = false := by simp; omega
      have k2 : (ss.length : Int) - 1 < (ss.length : Int) := by omega
      have k3 : ((ss.length : Int) - 1).toNat = ss.length - 1 := by omega
      go_wp2_with fail
      refine (H1.out).mono ?_
      rintro e w' ⟨rfl, q1, rfl⟩
      go_wp2_with fail
      refine (H2.out _).mono ?_
      rintro e w' ⟨rfl, q2, rfl⟩
      have hbw := below_drewN hb (q1 + q2)
      by_cases hxv : v < (x.size : Int)
      · go_wp2_with fail
        refine (H3.out _ (HR.out.drewN (q1 + q2))).mono ?_
        rintro e w' ⟨rfl, q3, rfl⟩
        have hbw3 := below_drewN hb (q1 + q2 + q3)
        go_wp2_with fail
        go_ret
        exact ⟨by first | rfl | simp, hbw3⟩
      · have h4 := fun w' A' (hr' : Row w' w'.heap.size A' (strVals [x])) => (HP1.out (by omega)) ▸ iFC_any A' 1 1 [x] v w' hr' rfl (by omega) (fun y hy => by (obtain rfl : y = x := by simpa using hy); unfold maxLen; omega)
        have H4 := Lib.hid h4
        have HA := Lib.hid (And.intro (row_one W1 x) (And.intro ((HR.out.alloc (Nat.le_refl _) (.cells #[.string x] 9)).more (show W1.heap.size ≤ (W1.alloc (.cells #[.string x] 9)).heap.size by simp)) (hb.alloc hb.size (.cells #[.string x] 9))))
        clear h4
        go_wp2_with fail
        refine (H4.out _ _ (HA.out.1.drewN (q1 + q2))).mono ?_
        rintro e w' ⟨rfl, q3, rfl⟩
        go_wp2_with fail
        refine (H3.out _ (HA.out.2.1.drewN (q1 + q2 + q3))).mono ?_
        rintro e w' ⟨rfl, q4, rfl⟩
        have hbw4 := below_drewN HA.out.2.2 (q1 + q2 + q3 + q4)
        go_wp2_with fail
        go_ret
        exact ⟨by first | rfl | simp, hbw4⟩
end Go.Proofs.Ytpnbfhnljjcciaa
