/- What is drawn: a change; a text with marks and a change. -/
import Derived.Test.YtlnldnenkajcdaaVw
import Derived.Deep.DeepCutAuto
set_option linter.unusedVariables false
set_option linter.unusedSimpArgs false
namespace Go.Proofs.Ytlnldnenkajcdaa
open Go.RowKit
/-- A box that holds a change. -/
def CBox (w : World) (g : Nat) (a c : Int) (put : ByteArray) : Prop := w.heap[g]? = some (.cells #[.int .i64 a, .int .i64 c, .string put] 36 (0, 0))
section
variable {w w' : World} {g B R : Nat} {a c : Int} {put : ByteArray}
theorem CBox.c0 (h : CBox w g a c put) : w.cell? ⟨g, 0, none⟩ = some (.int .i64 a) := cell_of_row w g 0 _ _ _ h
theorem CBox.c1 (h : CBox w g a c put) : w.cell? ⟨g, 1, none⟩ = some (.int .i64 c) := cell_of_row w g 1 _ _ _ h
theorem CBox.c2 (h : CBox w g a c put) : w.cell? ⟨g, 2, none⟩ = some (.string put) := cell_of_row w g 2 _ _ _ h
theorem CBox.fr (h : CBox w g a c put) (i : Nat) : w.frozen? ⟨g, i, none⟩ = false := by
  unfold CBox at h
  simp [World.frozen?, h]
theorem CBox.lt (h : CBox w g a c put) : g < w.heap.size := block_lt_of_cell (a := ⟨g, 0, none⟩) h.c0
theorem CBox.below (h : CBox w g a c put) (hb : Below B w w') (hg : g < B) : CBox w' g a c put := (hb.block g hg).trans h
theorem CBox.beside (h : CBox w g a c put) (hb : Beside R w w') (hg : g ≠ R) : CBox w' g a c put := (hb.block g h.lt (by intro e; injection e with e; exact hg e)).trans h
theorem CBox.new (w : World) (a c : Int) (put : ByteArray) : CBox (w.alloc (.cells #[.int .i64 a, .int .i64 c, .string put] 36)) w.heap.size a c put := heap_alloc_new w _
theorem CBox.alloc (h : CBox w g a c put) (o : Obj) : CBox (w.alloc o) g a c put := (heap_alloc_old w o h.lt).trans h
theorem CBox.drew (h : CBox w g a c put) : CBox w.drew g a c put := h
theorem CBox.set0 (h : CBox w g a c put) (x : Int) : CBox (w.setCell ⟨g, 0, none⟩ (.int .i64 x)) g x c put := by
  unfold CBox at h ⊢
  simp [World.setCell, Array.getElem?_modify, h]
theorem CBox.set1 (h : CBox w g a c put) (x : Int) : CBox (w.setCell ⟨g, 1, none⟩ (.int .i64 x)) g a x put := by
  unfold CBox at h ⊢
  simp [World.setCell, Array.getElem?_modify, h]
theorem CBox.set2 (h : CBox w g a c put) (x : ByteArray) : CBox (w.setCell ⟨g, 2, none⟩ (.string x)) g a c x := by
  unfold CBox at h ⊢
  simp [World.setCell, Array.getElem?_modify, h]
theorem CBox.other (h : CBox w g a c put) {p : Addr} (hp : p.block ≠ g) (v : Value) : CBox (w.setCell p v) g a c put := (Below.heap_setCell w p v g (fun e => hp e.symm)).trans h
theorem IsRd.set {R p : Nat} (h : IsRd w R p) {q : Addr} (hq : R < q.block) (v : Value) : IsRd (w.setCell q v) R p := by
  obtain ⟨A, c, zs, h1, h2, hh, h3⟩ := h
  exact ⟨A, c, zs, h1, h2, (Below.heap_setCell w q v R (Nat.ne_of_lt hq)).trans hh, h3.setCell (Nat.le_of_lt hq) v⟩
def cbLeft (w : World) (g : Nat) : Nat := match w.cell? ⟨g, 2, none⟩ with | some (.string u) => 200 - u.size | _ => 0
theorem CBox.left (h : CBox w g a c put) : cbLeft w g = 200 - put.size := by unfold cbLeft; rw [h.c2]
end
def ChPost (R p : Nat) (w : World) (e : Ending) (w' : World) : Prop :=
  ∃ (a c : Int) (put : ByteArray) (p' : Nat), e = .returned (.agg #[.int .i64 a, .int .i64 c, .string put]) ∧ put.size ≤ 1000 ∧ p ≤ p' ∧ p' ≤ p + 100 ∧ IsRd w' R p' ∧ Beside R w w'
set_option maxHeartbeats 4000000 in
set_option maxRecDepth 100000 in
theorem change_any (R p : Nat) (s : ByteArray) (n : Int) (w : World) (h : IsRd w R p) (hp : p ≤ 800000) (hs : s.size ≤ 200) (hn : n ≤ 1000000) (hn0 : -1000000 ≤ n) :
    Calls Try.prog 31 #[.pointer (some ⟨R, 0, none⟩), .string s, .int .i64 n] w (ChPost R p w) := by
  have hRl := h.lt
  have hm : min (256 : Int) ((s.size : Int) + 1) = (s.size : Int) + 1 := by omega
  obtain ⟨B, hB⟩ : ∃ B, w.heap.size = B := ⟨_, rfl⟩
  obtain ⟨Y, hY⟩ : ∃ Y, w.alloc (.cells #[.int .i64 0, .int .i64 0, .string ⟨#[]⟩] 36) = Y := ⟨_, rfl⟩
  have hX := CBox.new w 0 0 ⟨#[]⟩
  have hRY := h.alloc (.cells #[.int .i64 0, .int .i64 0, .string ⟨#[]⟩] 36)
  have hbY := (Beside.refl R w).alloc (.cells #[.int .i64 0, .int .i64 0, .string ⟨#[]⟩] 36)
  rw [hY] at hX hRY hbY
  have hne : w.heap.size ≠ R := by omega
  rw [hB] at hX hne
  go_enter Try.func31, Try.ntmps31
  go_wp2_with fail
  refine (pick_any R p _ _ hRY (by omega) (by omega)).mono ?_
  rintro e W1 ⟨at_, ha1, ha2, rfl, hR1, hb1, hs1⟩
  have haa := ha2 (by omega)
  clear ha2 hs1
  have hbw1 := hbY.trans hb1
  have hX1 := Lib.hid (hX.beside hb1 hne)
  clear hb1 hbY hX hRY hY
  go_upto_region 2 with fail
  go_cut [8] (fun s8 wx => ∃ (cu : Int) (p2 : Nat), s8 = .int .i64 cu ∧ cu ≤ 40 ∧ p + 1 ≤ p2 ∧ p2 ≤ p + 10 ∧ IsRd wx R p2 ∧ Beside R w wx ∧ CBox wx B 0 0 ⟨#[]⟩)
  case first =>
    go_wp2_with fail
    refine (pick_any R _ 5 _ hR1 (by omega) (by omega)).mono ?_
    rintro e W2 ⟨x, hx1, hx2, rfl, hR2, hb2, hs2⟩
    have hxx := hx2 (by omega)
    clear hx2 hs2
    go_wp2_with fail
    refine (pick_any R _ 40 _ hR2 (by omega) (by omega)).mono ?_
    rintro e W3 ⟨y, hy1, hy2, rfl, hR3, hb3, hs3⟩
    have hyy := hy2 (by omega)
    have hRl3 := hR3.lt
    clear hy2 hs3
    go_wp2_with fail
    refine (pick_any R _ 3 _ (hR3.alloc _) (by omega) (by omega)).mono ?_
    rintro e W4 ⟨j, hj1, hj2, rfl, hR4, hb4, hs4⟩
    have hjj := hj2 (by omega)
    clear hj2 hs4
    obtain ⟨i, rfl⟩ := Int.eq_ofNat_of_zero_le hj1
    obtain ⟨z, hz, hz3, hz4⟩ : ∃ z : Int, W4.cell? ⟨W3.heap.size, i, none⟩ = some (.int .i64 z) ∧ 0 ≤ z ∧ z ≤ 40 := by
      have h1 := hb4.one hRl3 i
      rcases (show i = 0 ∨ i = 1 ∨ i = 2 by omega) with rfl | rfl | rfl
      · exact ⟨0, h1, by omega, by omega⟩
      · exact ⟨x, h1, by omega, by omega⟩
      · exact ⟨y, h1, by omega, by omega⟩
    have hb5 := Lib.hid ((hbw1.trans ((hb2.trans hb3).alloc _)).trans hb4)
    have hX4 := Lib.hid (((hX1.out.beside (hb2.trans hb3) hne).alloc _).beside hb4 hne)
    clear hb2 hb3 hb4 hR1 hR2 hR3 hX1 hbw1
    go_wp2_with fail
    all_goals
      go_meet
      exact ⟨_, _, rfl, by omega, by omega, by omega, hR4, hb5.out, hX4.out⟩
  case rest =>
  obtain ⟨cu, p2, rfl, hcu, hp3, hp4, hR2, hb2, hX2⟩ := hcut
  clear hR1 hbw1 hX1
  generalize wc = W2 at *
  have HX2 := Lib.hid hX2
  clear hX2
  go_wp2_with fail
  refine (text_any R _ 0 _ hR2 (by omega) (by omega) (by omega)).mono ?_
  rintro e W5 ⟨t, p5, rfl, ht, hp5, hp6, hR5, hb6⟩
  have hb7 := hb2.trans hb6
  have hX5 := Lib.hid (HX2.out.beside hb6 hne)
  clear hb6 hb2 HX2 hR2
  go_upto_region 4 with fail
  go_cut [9] (fun s9 wx => ∃ (t' : ByteArray) (p6 : Nat), s9 = .string t' ∧ t'.size ≤ 200 ∧ p5 ≤ p6 ∧ p6 ≤ p5 + 10 ∧ IsRd wx R p6 ∧ Beside R w wx ∧ CBox wx B 0 0 ⟨#[]⟩)
  case first =>
    go_wp2_with fail
    refine (pick_any R _ 6 _ hR5 (by omega) (by omega)).mono ?_
    rintro e W6 ⟨x6, hx61, hx62, rfl, hR6, hb8, hs6⟩
    have hxx6 := hx62 (by omega)
    clear hx62 hs6
    go_wp2_with fail
    refine (pick_any R _ 20 _ hR6 (by omega) (by omega)).mono ?_
    rintro e W7 ⟨y7, hy71, hy72, rfl, hR7, hb9, hs7⟩
    have hyy7 := hy72 (by omega)
    have hRl7 := hR7.lt
    clear hy72 hs7
    go_wp2_with fail
    refine (pick_any R _ 3 _ (hR7.alloc _) (by omega) (by omega)).mono ?_
    rintro e W8 ⟨j8, hj81, hj82, rfl, hR8, hb10, hs8⟩
    have hjj8 := hj82 (by omega)
    clear hj82 hs8
    obtain ⟨i8, rfl⟩ := Int.eq_ofNat_of_zero_le hj81
    obtain ⟨z8, hz8, hz83, hz84⟩ : ∃ z : Int, W8.cell? ⟨W7.heap.size, i8, none⟩ = some (.int .i64 z) ∧ 0 ≤ z ∧ z ≤ 40 := by
      have h1 := hb10.one hRl7 i8
      rcases (show i8 = 0 ∨ i8 = 1 ∨ i8 = 2 by omega) with rfl | rfl | rfl
      · exact ⟨0, h1, by omega, by omega⟩
      · exact ⟨x6, h1, by omega, by omega⟩
      · exact ⟨y7, h1, by omega, by omega⟩
    have hb11 := Lib.hid (((hb7.trans (hb8.trans hb9)).alloc _).trans hb10)
    have hX8 := Lib.hid (((hX5.out.beside (hb8.trans hb9) hne).alloc _).beside hb10 hne)
    clear hb7 hb8 hb9 hb10 hR5 hR6 hR7 hX5
    go_wp2_with fail
    all_goals
      go_meet
      exact ⟨_, _, rfl, by first | (simp only [ByteArray.size_extract]; omega) | omega, by omega, by omega, hR8, hb11.out, hX8.out⟩
  case rest =>
  obtain ⟨t', p6, rfl, ht', hp7, hp8, hR8, hb8, hX8⟩ := hcut
  clear hR5 hb7 hX5
  generalize wc = W8 at *
  obtain ⟨g, hg⟩ : ∃ g, W8.heap.size = g := ⟨_, rfl⟩
  have hgw : w.heap.size ≤ g := hg ▸ hb8.size
  have hBg : B < g := by have := hX8.lt; omega
  have hgR : g ≠ R := by have := hR8.lt; omega
  have hG := CBox.new W8 at_ cu t'
  have hXG := hX8.alloc (.cells #[.int .i64 at_, .int .i64 cu, .string t'] 36)
  have hRG := hR8.alloc (.cells #[.int .i64 at_, .int .i64 cu, .string t'] 36)
  have hbG := hb8.alloc (.cells #[.int .i64 at_, .int .i64 cu, .string t'] 36)
  rw [hg] at hG
  have HG := Lib.hid (And.intro hG hXG)
  have HBG := Lib.hid hbG
  clear hX8 hR8 hb8 hG hXG hbG
  go_wp2_with fail
  refine (odd_any R _ n _ hRG (by omega) hn hn0).mono ?_
  rintro e W9 ⟨b, p9, rfl, hp9, hp10, hR9, hb9, hs9⟩
  have HG9 := Lib.hid (And.intro (HG.out.1.beside hb9 hgR) (HG.out.2.beside hb9 hne))
  have HB9 := Lib.hid (HBG.out.trans hb9)
  clear HG HBG hb9 hs9 hRG
  go_upto_if 53 with fail
  go_cut [] (fun wx => ∃ (a c : Int) (u : ByteArray) (p7 : Nat), u.size ≤ 1000 ∧ p9 ≤ p7 ∧ p7 ≤ p9 + 10 ∧ IsRd wx R p7 ∧ Beside R w wx ∧ CBox wx g a c u ∧ CBox wx B 0 0 ⟨#[]⟩)
  case first =>
    cases b
    · go_wp2_with fail
      go_meet
      exact ⟨_, _, _, p9, by omega, by omega, by omega, hR9, HB9.out, HG9.out.1, HG9.out.2⟩
    go_wp2_with fail
    refine (pick_any R p9 4 _ hR9 (by omega) (by omega)).mono ?_
    rintro e W10 ⟨v, hv1, hv2, rfl, hR10, hb10, hs10⟩
    have hvv := hv2 (by omega)
    have HG10 := Lib.hid (And.intro (HG9.out.1.beside hb10 hgR) (HG9.out.2.beside hb10 hne))
    have HB10 := Lib.hid (HB9.out.trans hb10)
    have hgl : g < W10.heap.size := HG10.out.1.lt
    have hRl10 := hR10.lt
    clear HG9 HB9 hb10 hs10 hR9
    have hgB : g ≠ B := by omega
    have hBg' : B ≠ g := by omega
    have hRg : R < g := by omega
    rcases (show v = 0 ∨ v = 1 ∨ v = 2 ∨ v = 3 by omega) with rfl | rfl | rfl | rfl
    · go_wp2_with fail
      refine (pick_any R _ 3 _ (hR10.alloc _) (by omega) (by omega)).mono ?_
      rintro e W11 ⟨j, hj1, hj2, rfl, hR11, hb11, hs11⟩
      have hjj := hj2 (by omega)
      obtain ⟨i, rfl⟩ := Int.eq_ofNat_of_zero_le hj1
      obtain ⟨z, hz⟩ : ∃ z : Int, W11.cell? ⟨W10.heap.size, i, none⟩ = some (.int .i64 z) := by
        have h1 := hb11.one hRl10 i
        rcases (show i = 0 ∨ i = 1 ∨ i = 2 by omega) with rfl | rfl | rfl
        · exact ⟨_, h1⟩
        · exact ⟨_, h1⟩
        · exact ⟨_, h1⟩
      have HG11 := Lib.hid (And.intro ((HG10.out.1.alloc _).beside hb11 hgR) ((HG10.out.2.alloc _).beside hb11 hne))
      have HB11 := Lib.hid ((HB10.out.alloc _).trans hb11)
      have g0 := HG11.out.1.c0
      have f0 := HG11.out.1.fr 0
      clear HG10 HB10 hb11 hs11 hR10 hj2
      go_wp2_with fail
      go_meet
      exact ⟨_, _, _, _, by omega, by omega, by omega, hR11.set hRg _, HB11.out.set (.inr hgw) _, HG11.out.1.set0 _, HG11.out.2.other hgB _⟩
    · go_wp2_with fail
      refine (pick_any R _ 3 _ (hR10.alloc _) (by omega) (by omega)).mono ?_
      rintro e W11 ⟨j, hj1, hj2, rfl, hR11, hb11, hs11⟩
      have hjj := hj2 (by omega)
      obtain ⟨i, rfl⟩ := Int.eq_ofNat_of_zero_le hj1
      obtain ⟨z, hz⟩ : ∃ z : Int, W11.cell? ⟨W10.heap.size, i, none⟩ = some (.int .i64 z) := by
        have h1 := hb11.one hRl10 i
        rcases (show i = 0 ∨ i = 1 ∨ i = 2 by omega) with rfl | rfl | rfl
        · exact ⟨_, h1⟩
        · exact ⟨_, h1⟩
        · exact ⟨_, h1⟩
      have HG11 := Lib.hid (And.intro ((HG10.out.1.alloc _).beside hb11 hgR) ((HG10.out.2.alloc _).beside hb11 hne))
      have HB11 := Lib.hid ((HB10.out.alloc _).trans hb11)
      have g0 := HG11.out.1.c1
      have f0 := HG11.out.1.fr 1
      clear HG10 HB10 hb11 hs11 hR10 hj2
      go_wp2_with fail
      go_meet
      exact ⟨_, _, _, _, by omega, by omega, by omega, hR11.set hRg _, HB11.out.set (.inr hgw) _, HG11.out.1.set1 _, HG11.out.2.other hgB _⟩
    · have g0 := HG10.out.1.c2
      have f0 := HG10.out.1.fr 2
      go_wp2_with fail
      go_meet
      exact ⟨_, _, _, _, by simp only [ByteArray.size_append, lit_size]; simp; omega, by omega, by omega, hR10.set hRg _, HB10.out.set (.inr hgw) _, HG10.out.1.set2 _, HG10.out.2.other hgB _⟩
    · go_wp2_with fail
      go_loopw [] (fun wr => ∃ u : ByteArray, u.size ≤ 200 ∧ IsRd wr R (p9 + 1) ∧ Beside R w wr ∧ CBox wr g at_ cu u ∧ CBox wr B 0 0 ⟨#[]⟩) (fun wr => cbLeft wr g)
      case atStart => exact ⟨t', ht', hR10, HB10.out, HG10.out.1, HG10.out.2⟩
      case round =>
        obtain ⟨u, hu, hRr, hbr, hXr, hYr⟩ := hrel
        have g0 := hXr.c2
        have f0 := hXr.fr 2
        have HS := Lib.hid (And.intro hRr (And.intro hbr (And.intro hXr hYr)))
        clear hRr hbr hXr hYr
        by_cases hu2 : u.size ≤ 120
        · have hsz : (u ++ (⟨#[109, 111, 114, 101, 32]⟩ : ByteArray)).size = u.size + 5 := by rw [ByteArray.size_append]; rfl
          have HSZ := Lib.hid hsz
          clear hsz
          go_wp2_with fail
          go_roundw
          case rel => exact ⟨_, by rw [HSZ.out]; omega, HS.out.1.set hRg _, HS.out.2.1.set (.inr hgw) _, HS.out.2.2.1.set2 _, HS.out.2.2.2.other hgB _⟩
          case measure =>
            rw [(HS.out.2.2.1.set2 _).left, HS.out.2.2.1.left, HSZ.out]
            omega
        · go_wp2_with fail
          go_meet
          exact ⟨_, _, u, _, by omega, by omega, by omega, HS.out.1, HS.out.2.1, HS.out.2.2.1, HS.out.2.2.2⟩
  case rest =>
    obtain ⟨a, c, u, p7, hu, hp11, hp12, hRf, hbf, hXf, hYf⟩ := hcut
    clear hR9 HB9 HG9
    have g0 := hXf.c0
    have g1 := hXf.c1
    have g2 := hXf.c2
    have r0 := hYf.c0
    have r1 := hYf.c1
    have r2 := hYf.c2
    have q0 := hYf.fr 0
    have q1 := hYf.fr 1
    have q2 := hYf.fr 2
    have hBl := hYf.lt
    have hRB : R < B := by omega
    have HF := Lib.hid (And.intro hRf (And.intro hbf (And.intro hXf hYf)))
    clear hRf hbf hXf hYf
    generalize wc = W at *
    go_wp2_with fail
    have hR3 : IsRd (((W.setCell ⟨B, 0, none⟩ (Value.int .i64 a)).setCell ⟨B, 1, none⟩ (Value.int .i64 c)).setCell ⟨B, 2, none⟩ (Value.string u)) R p7 :=
      ((HF.out.1.set (q := ⟨B, 0, none⟩) hRB _).set (q := ⟨B, 1, none⟩) hRB _).set (q := ⟨B, 2, none⟩) hRB _
    have hb3 : Beside R w (((W.setCell ⟨B, 0, none⟩ (Value.int .i64 a)).setCell ⟨B, 1, none⟩ (Value.int .i64 c)).setCell ⟨B, 2, none⟩ (Value.string u)) :=
      ((HF.out.2.1.set (p := ⟨B, 0, none⟩) (.inr (Nat.le_of_eq hB)) _).set (p := ⟨B, 1, none⟩) (.inr (Nat.le_of_eq hB)) _).set (p := ⟨B, 2, none⟩) (.inr (Nat.le_of_eq hB)) _
    have H3 := Lib.hid (And.intro hR3 hb3)
    clear hR3 hb3
    refine bodyPost_ret (v := .agg #[.int .i64 a, .int .i64 c, .string u]) ?_ rfl ⟨a, c, u, p7, rfl, hu, by omega, by omega, H3.out.1, H3.out.2⟩
    simp [results, Try.results31, go_sem, r0, r1, r2, q0, q1, q2, hBl]
end Go.Proofs.Ytlnldnenkajcdaa
