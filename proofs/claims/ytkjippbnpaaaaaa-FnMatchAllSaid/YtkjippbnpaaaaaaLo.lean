/- The laws on MatchEnd, MatchNext and MatchAll over drawn inputs, walked. -/
import Derived.Test.YtkjippbnpaaaaaaMa
import Derived.Test.YtkjippbnpaaaaaaMl
import Derived.Test.YtkjippbnpaaaaaaMx
import Derived.Test.YtkjippbnpaaaaaaNi
set_option linter.unusedVariables false
set_option linter.unusedSimpArgs false
namespace Go.Proofs.Ytkjippbnpaaaaaa
open Go.RowKit
set_option maxRecDepth 100000 in
theorem law_FnMatchEnd (A : Option Addr) (n c : Nat) (zs : List Int) (w : World) (h : IsBytes w A n c zs) :
    Calls Try.prog 7 #[.slice A n c] w fun e w' => e = .returned (.bool true) ∧ Below w.heap.size w w' := by
  by_cases hbig : 1048576 < n
  · go_enter Try.func7, Try.ntmps7
    go_wp2
    go_ret
    exact ⟨rfl, Below.refl _ _⟩
  have hbg : decide ((1048576 : Int) < (n : Int)) = false := by simp; omega
  go_enter Try.func7, Try.ntmps7
  go_wp2_with fail
  refine (dDrawMatchEnd A n c zs _ h).mono ?_
  rintro e W1 ⟨p, s, v, rfl, hp0, hs0, hv1, hv2, hb⟩
  have hs : s.size ≤ maxLen := by unfold maxLen; omega
  have hp : p.size ≤ maxLen := by unfold maxLen; omega
  clear hbig
  have hc1 := fun W => iME_any p s v W hp hs
  have hc2 := fun W => sME_any p s v W hp hs
  cases hpl : place s v
  · have hx : meI p s v = -1 := by
      rcases me_range p s v with h1 | ⟨_, h2, _, _⟩
      · exact h1
      · rw [hpl] at h2; cases h2
    rw [hx] at hc1 hc2
    have H1 := Lib.hid hc1
    have H2 := Lib.hid hc2
    clear hc1 hc2 hx
    go_wp2_with fail
    refine (H1.out _).mono ?_
    rintro e W2 ⟨rfl, hb2⟩
    have hbw2 := hb.trans (hb2.mono hb.size)
    go_wp2_with fail
    refine (H2.out _).mono ?_
    rintro e W3 ⟨rfl, hb3⟩
    have hbw3 := hbw2.trans (hb3.mono hbw2.size)
    go_wp2_with fail
    refine (placeOk_any s v _ hs).mono ?_
    rintro e w' ⟨rfl, rfl⟩
    go_wp2_with (go_at_call 26; refine (alive_any _).mono ?_; rintro e w' ⟨rfl, rfl⟩)
    go_ret
    exact ⟨rfl, hbw3⟩
  · obtain ⟨m, rfl, hm⟩ := place_nat hpl
    have hx := me_line (p := p) hpl hm
    have hc3 := fun W => iLO_any s m W hs
    rw [lo_at hpl] at hc3
    have hc4 := fun W => iLE_any s (cntN s m) W hs
    rw [le_at hpl hm] at hc4
    have hc5 := fun W => iME_any ⟨#[46, 42]⟩ s m W (by decide) hs
    rw [me_dots hpl hm] at hc5
    have hc6 := fun W => iME_any ⟨#[]⟩ s m W (by decide) hs
    rw [me_empty hpl hm] at hc6
    have hc7 := fun W => iPV_any p W hp
    generalize meI p s m = x at *
    generalize eolN s m = y at *
    generalize cntN s m = z at *
    have H1 := Lib.hid hc1
    have H2 := Lib.hid hc2
    have H3 := Lib.hid hc3
    have H4 := Lib.hid hc4
    have H5 := Lib.hid hc5
    have H6 := Lib.hid hc6
    have H7 := Lib.hid hc7
    have e0 : (x != x) = false := by simp
    have e1 : ((y : Int) == (y : Int)) = true := by simp
    have e2 : ((m : Int) == (m : Int)) = true := by simp
    clear hc1 hc2 hc3 hc4 hc5 hc6 hc7
    go_wp2_with fail
    refine (H1.out _).mono ?_
    rintro e W2 ⟨rfl, hb2⟩
    have hbw2 := hb.trans (hb2.mono hb.size)
    clear hb2
    go_wp2_with fail
    refine (H2.out _).mono ?_
    rintro e W3 ⟨rfl, hb3⟩
    have hbw3 := hbw2.trans (hb3.mono hbw2.size)
    clear hb3 hbw2
    go_wp2_with fail
    refine (placeOk_any s m _ hs).mono ?_
    rintro e w' ⟨rfl, rfl⟩
    go_wp2_with fail
    refine (H3.out _).mono ?_
    rintro e w' ⟨rfl, rfl⟩
    rcases hx with hx | ⟨hpv, hx1, hx2⟩
    · have e3 : (x == -1) = true := by simp [hx]
      have HX := Lib.hid hx
      clear hx
      go_wp2_with fail
      refine (H5.out _).mono ?_
      rintro e W4 ⟨rfl, hb4⟩
      have hbw4 := hbw3.trans (hb4.mono hbw3.size)
      clear hb4 hbw3
      go_wp2_with fail
      refine (H4.out _).mono ?_
      rintro e W5 ⟨rfl, hb5⟩
      have hbw5 := hbw4.trans (hb5.mono hbw4.size)
      clear hb5 hbw4
      go_wp2_with fail
      refine (H6.out _).mono ?_
      rintro e W6 ⟨rfl, hb6⟩
      have hbw6 := hbw5.trans (hb6.mono hbw5.size)
      clear hb6 hbw5
      go_wp2_with fail
      go_ret
      exact ⟨rfl, hbw6⟩
    · have e3 : (x == -1) = false := by simp; omega
      go_wp2_with fail
      refine (H4.out _).mono ?_
      rintro e W4 ⟨rfl, hb4⟩
      have hbw4 := hbw3.trans (hb4.mono hbw3.size)
      clear hb4 hbw3
      go_wp2_with fail
      refine (H5.out _).mono ?_
      rintro e W5 ⟨rfl, hb5⟩
      have hbw5 := hbw4.trans (hb5.mono hbw4.size)
      clear hb5 hbw4
      go_wp2_with fail
      refine (H4.out _).mono ?_
      rintro e W6 ⟨rfl, hb6⟩
      have hbw6 := hbw5.trans (hb6.mono hbw5.size)
      clear hb6 hbw5
      go_wp2_with fail
      refine (H6.out _).mono ?_
      rintro e W7 ⟨rfl, hb7⟩
      have hbw7 := hbw6.trans (hb7.mono hbw6.size)
      clear hb7 hbw6
      go_wp2_with fail
      refine (H7.out _).mono ?_
      rintro e w' ⟨rfl, rfl⟩
      go_wp2_with fail
      go_ret
      exact ⟨rfl, hbw7⟩
set_option maxRecDepth 100000 in
theorem law_FnMatchNext (A : Option Addr) (n c : Nat) (zs : List Int) (w : World) (h : IsBytes w A n c zs) :
    Calls Try.prog 8 #[.slice A n c] w fun e w' => e = .returned (.bool true) ∧ Below w.heap.size w w' := by
  by_cases hbig : 1048576 < n
  · go_enter Try.func8, Try.ntmps8
    go_wp2
    go_ret
    exact ⟨rfl, Below.refl _ _⟩
  have hbg : decide ((1048576 : Int) < (n : Int)) = false := by simp; omega
  go_enter Try.func8, Try.ntmps8
  go_wp2_with fail
  refine (dDrawMatchNext A n c zs _ h).mono ?_
  rintro e W1 ⟨p, s, v, rfl, hp0, hs0, hv1, hv2, hb⟩
  have hs : s.size ≤ maxLen := by unfold maxLen; omega
  have hp : p.size ≤ maxLen := by unfold maxLen; omega
  clear hbig
  have hc1 := fun W => iMN_any p s v W hp hs
  have hc2 := fun W => sMN_any p s v W hp hs
  cases ho : mnOk p s v
  · obtain ⟨e1, e2, e3⟩ := pair_no ho
    rw [e1, e2, e3] at hc1 hc2
    have H1 := Lib.hid hc1
    have H2 := Lib.hid hc2
    clear hc1 hc2 e1 e2 e3 ho
    go_wp2_with fail
    refine (H1.out _).mono ?_
    rintro e W2 ⟨rfl, hb2⟩
    have hbw2 := (hb.trans (hb2.mono hb.size)).alloc (Nat.le_trans hb.size hb2.size) (.cells #[.int .i64 0, .int .i64 0] 25)
    have hr2 := heap_alloc_new W2 (.cells #[.int .i64 0, .int .i64 0] 25)
    have HR2 := Lib.hid (And.intro hbw2 hr2)
    clear hb2 hbw2 hr2
    go_wp2_with fail
    refine (H2.out _).mono ?_
    rintro e W3 ⟨rfl, hb3⟩
    have hr3 := (hb3.block W2.heap.size (by simp)).trans HR2.out.2
    have hl3 : W2.heap.size < W3.heap.size := by have := hb3.size; simp at this; omega
    have hbw3 := (HR2.out.1.trans (hb3.mono HR2.out.1.size)).alloc (Nat.le_trans HR2.out.1.size hb3.size) (.cells #[.int .i64 0, .int .i64 0] 25)
    have c0 : W3.cell? ⟨W2.heap.size, 0, none⟩ = some (.int .i64 0) := cell_of_row W3 _ 0 _ _ _ hr3
    have c1 : W3.cell? ⟨W2.heap.size, 1, none⟩ = some (.int .i64 0) := cell_of_row W3 _ 1 _ _ _ hr3
    have HB := Lib.hid hbw3
    clear hb3 hr3 hbw3 HR2
    go_wp2_with (go_at_call 26; refine (alive_any _).mono ?_; rintro e w' ⟨rfl, rfl⟩)
    go_ret
    exact ⟨rfl, HB.out⟩
  · obtain ⟨g1, g2, g3, g4, g5, g6, g7, g8, g9, g10⟩ := mn_ok ho
    rw [ho] at hc1 hc2
    obtain ⟨m, hm⟩ := Int.eq_ofNat_of_zero_le g1
    subst hm
    have hc3 := fun W => iME_any p s (mnFrom p s m) W hp hs
    rw [g8] at hc3
    have hc4 := fun (k : Nat) (hk1 : (m : Int) ≤ k) (hk2 : (k : Int) < mnFrom p s m) W => (g9 k hk1 hk2) ▸ iME_any p s k W hp hs
    clear g8 g9 g10 ho
    generalize mnFrom p s m = x at *
    generalize mnTo p s m = y at *
    have H1 := Lib.hid hc1
    have H2 := Lib.hid hc2
    have H3 := Lib.hid hc3
    have H4 := Lib.hid hc4
    clear hc1 hc2 hc3 hc4
    go_wp2_with fail
    refine (H1.out _).mono ?_
    rintro e W2 ⟨rfl, hb2⟩
    have hbw2 := (hb.trans (hb2.mono hb.size)).alloc (Nat.le_trans hb.size hb2.size) (.cells #[.int .i64 x, .int .i64 y] 25)
    have hr2 := heap_alloc_new W2 (.cells #[.int .i64 x, .int .i64 y] 25)
    have HR2 := Lib.hid (And.intro hbw2 hr2)
    clear hb2 hbw2 hr2
    go_wp2_with fail
    refine (H2.out _).mono ?_
    rintro e W3 ⟨rfl, hb3⟩
    have hr3 := (hb3.block W2.heap.size (by simp)).trans HR2.out.2
    have hl3 : W2.heap.size < W3.heap.size := by have := hb3.size; simp at this; omega
    have hbw3 := (HR2.out.1.trans (hb3.mono HR2.out.1.size)).alloc (Nat.le_trans HR2.out.1.size hb3.size) (.cells #[.int .i64 x, .int .i64 y] 25)
    have c0 : W3.cell? ⟨W2.heap.size, 0, none⟩ = some (.int .i64 x) := cell_of_row W3 _ 0 _ _ _ hr3
    have c1 : W3.cell? ⟨W2.heap.size, 1, none⟩ = some (.int .i64 y) := cell_of_row W3 _ 1 _ _ _ hr3
    have hr4 : (W3.alloc (.cells #[.int .i64 x, .int .i64 y] 25)).heap[W2.heap.size]? = some (.cells #[.int .i64 x, .int .i64 y] 25 (0, 0)) := (Below.heap_alloc W3 _ _ hl3).trans hr3
    have HB := Lib.hid (And.intro hbw3 hr4)
    clear hb3 hr3 hbw3 HR2 hr4
    go_wp2_with fail
    go_loopw [10] (fun kv wr => ∃ k : Nat, kv = .int .i64 k ∧ m ≤ k ∧ (k : Int) ≤ x ∧ Below w.heap.size w wr ∧ wr.heap[W2.heap.size]? = some (.cells #[.int .i64 x, .int .i64 y] 25 (0, 0))) (fun kv _ => 1000 - (intOf kv).toNat)
    case atStart => exact ⟨m, rfl, Nat.le_refl _, g2, HB.out.1, HB.out.2⟩
    case round =>
      obtain ⟨k, rfl, hk1, hk2, hbr, hrr⟩ := hrel
      have d0 : wr.cell? ⟨W2.heap.size, 0, none⟩ = some (.int .i64 x) := cell_of_row wr _ 0 _ _ _ hrr
      have d1 : wr.cell? ⟨W2.heap.size, 1, none⟩ = some (.int .i64 y) := cell_of_row wr _ 1 _ _ _ hrr
      have hlr := World.block_lt_of_cell? wr _ d0
      have HRR := Lib.hid hrr
      have HBR := Lib.hid hbr
      clear hrr hbr c0 c1 hl3
      by_cases hkx : (k : Int) < x
      · go_wp2_with fail
        refine (H4.out k (by omega) hkx _).mono ?_
        rintro e W5 ⟨rfl, hb5⟩
        have hb6 := HBR.out.trans (hb5.mono HBR.out.size)
        have hr6 := (hb5.block W2.heap.size hlr).trans HRR.out
        have HX := Lib.hid (And.intro hb6 hr6)
        clear hb5 hb6 hr6
        go_wp2_with fail
        go_roundw
        case rel => exact ⟨k + 1, by go_num, by omega, by omega, HX.out.1, HX.out.2⟩
        case measure => (simp [intOf] <;> omega)
      · have e1 : ((y : Int) == (y : Int)) = true := by simp
        go_wp2_with fail
        go_region_held3 (fun w' => w'.cell? ⟨W2.heap.size, 0, none⟩ = some (.int .i64 x) ∧ w'.cell? ⟨W2.heap.size, 1, none⟩ = some (.int .i64 y)) (go_keep)
          ((go_at_call 14; refine (H3.out _).mono ?_; rintro e w1 ⟨rfl, hb1⟩; have k1 := (hb1.cell (p := ⟨W2.heap.size, 0, none⟩) hlr).trans d0; have k2 := (hb1.cell (p := ⟨W2.heap.size, 1, none⟩) hlr).trans d1))
        all_goals
          go_wp2_with fail
          go_ret
          exact ⟨by first | rfl | simp, (Below.drew HBR.out).trans (hb1.mono HBR.out.size)⟩
set_option maxRecDepth 100000 in
theorem law_FnMatchAll (A : Option Addr) (n c : Nat) (zs : List Int) (w : World) (h : IsBytes w A n c zs) :
    Calls Try.prog 9 #[.slice A n c] w fun e w' => e = .returned (.bool true) ∧ Below w.heap.size w w' := by
  by_cases hbig : 1048576 < n
  · go_enter Try.func9, Try.ntmps9
    go_wp2
    go_ret
    exact ⟨rfl, Below.refl _ _⟩
  have hbg : decide ((1048576 : Int) < (n : Int)) = false := by simp; omega
  go_enter Try.func9, Try.ntmps9
  go_wp2_with fail
  refine (dDrawMatchAll A n c zs _ h).mono ?_
  rintro e W1 ⟨p, s, rfl, hp0, hs0, hb⟩
  have hs : s.size ≤ maxLen := by unfold maxLen; omega
  have hp : p.size ≤ maxLen := by unfold maxLen; omega
  clear hbig
  have hlen := maL_small p s
  have hc1 := fun W => iMA_any p s W hp hs
  have hc2 := fun W => sMA_any p s W hp hs
  have hat := fun k a f (h : MaInv p s ((maL p s).take k) a f) (hk : k < (maL p s).length) => h.at_ hk
  have hla := fun k a f (h : MaInv p s ((maL p s).take k) a f) (hk : (maL p s).length ≤ k) => h.last hk
  have h0 : MaInv p s ((maL p s).take 0) 0 (s.size + 2) := MaInv.start p s
  generalize maL p s = xs at *
  have H1 := Lib.hid hc1
  have H2 := Lib.hid hc2
  have HAT := Lib.hid hat
  have HLA := Lib.hid hla
  have H0 := Lib.hid h0
  clear hc1 hc2 hat hla h0
  go_wp2_with fail
  refine (H1.out _).mono ?_
  rintro e W2 ⟨A2, c2, rfl, ho2, hb2⟩
  have hr2 := Row.of_own2 ho2
  have hbw2 := hb.trans (hb2.mono hb.size)
  clear ho2 hb2
  go_wp2_with fail
  refine (H2.out _).mono ?_
  rintro e W3 ⟨A3, c3, rfl, ho3, hb3⟩
  have hr3 := Row.of_own2 ho3
  have hr23 := (hr2.below hb3).more hb3.size
  have hbw3 := hbw2.trans (hb3.mono hbw2.size)
  clear ho3 hb3 hr2 hbw2
  go_wp2_with fail
  go_loopw [7, 8] (fun av iv wr => ∃ (k : Nat) (a : Int) (f : Nat), iv = .int .i64 k ∧ av = .int .i64 a ∧ k ≤ xs.length ∧ MaInv p s (xs.take k) a f ∧ Below W3.heap.size W3 wr) (fun _ iv _ => xs.length - (intOf iv).toNat)
  case atStart => exact ⟨0, 0, s.size + 2, rfl, rfl, Nat.zero_le _, H0.out, Below.refl _ _⟩
  case round =>
    obtain ⟨k, a, f, rfl, rfl, hk, hinv, hbr⟩ := hrel
    have hc := fun W => iMN_any p s a W hp hs
    by_cases hkx : k < xs.length
    · obtain ⟨i1, i2, i3⟩ := HAT.out k a f hinv hkx
      obtain ⟨g1, g2, g3, g4, g5, g6⟩ := mn_ok i1
      rw [i1] at hc
      obtain ⟨b, o, rfl, hbb, p0, p1⟩ := (hr23.below hbr).pair hkx
      obtain ⟨b', o', rfl, hbb', q0, q1⟩ := (hr3.below hbr).pair hkx
      rw [i2] at p0 p1 q0 q1
      have hk' : (k : Int) < (xs.length : Int) := by omega
      have hk0 : (0 : Int) ≤ (k : Int) := by omega
      generalize mnFrom p s a = x at *
      generalize mnTo p s a = y at *
      have HC := Lib.hid hc
      have HI := Lib.hid i3
      have HBR := Lib.hid hbr
      have hlz : W3.heap.size ≤ wr.heap.size := hbr.size
      clear hc i1 i2 i3 hinv hbr g6
      go_wp2_with fail
      refine (HC.out _).mono ?_
      rintro e W5 ⟨rfl, hb5⟩
      have p2 := (hb5.cell (p := ⟨b, o + k * 2, none⟩) (by show b < _; omega)).trans p0
      have p3 := (hb5.cell (p := ⟨b, o + k * 2 + 1, none⟩) (by show b < _; omega)).trans p1
      have q2 := (hb5.cell (p := ⟨b', o' + k * 2, none⟩) (by show b' < _; omega)).trans q0
      have q3 := (hb5.cell (p := ⟨b', o' + k * 2 + 1, none⟩) (by show b' < _; omega)).trans q1
      have hlw := hb5.size
      have hb6 := (HBR.out.trans (hb5.mono hlz)).alloc (Nat.le_trans hlz hlw) (.cells #[.int .i64 x, .int .i64 y] 25)
      have HB6 := Lib.hid hb6
      have l1 : b < W5.heap.size := by omega
      have l2 : b' < W5.heap.size := by omega
      clear hb5 hb6 p0 p1 q0 q1
      go_wp2_with fail
      go_quiet (fail)
      go_wp2_with fail
      go_roundw
      case rel => exact ⟨k + 1, _, f - 1, by go_num, rfl, by omega, HI.out, below_drewN HB6.out _⟩
      case measure => (simp [intOf] <;> omega)
    · obtain rfl : k = xs.length := by omega
      have hno := HLA.out _ a f hinv (Nat.le_refl _)
      rw [hno] at hc
      have HC := Lib.hid hc
      have HBR := Lib.hid hbr
      clear hc hno hinv hbr
      go_wp2_with fail
      refine (HC.out _).mono ?_
      rintro e W5 ⟨rfl, hb5⟩
      have hb6 := (hbw3.trans (HBR.out.mono hbw3.size)).trans (hb5.mono (Nat.le_trans hbw3.size HBR.out.size))
      go_wp2_with (go_at_call 26; refine (alive_any _).mono ?_; rintro e w' ⟨rfl, rfl⟩)
      go_ret
      exact ⟨rfl, hb6.alloc hb6.size _⟩
end Go.Proofs.Ytkjippbnpaaaaaa
