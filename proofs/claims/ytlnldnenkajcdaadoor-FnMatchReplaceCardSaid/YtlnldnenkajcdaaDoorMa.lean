/- The contracts of MatchAll, of the program and of the reference. -/
import Derived.Test.YtlnldnenkajcdaaDoorMo
import Derived.Test.YtlnldnenkajcdaaDoorPs
set_option linter.unusedVariables false
set_option linter.unusedSimpArgs false
namespace Go.Proofs.YtlnldnenkajcdaaDoor
open Go.RowKit
theorem ma_measure {p s : ByteArray} {a : Int} (ha : mnOk p s a = true) : s.size + 2 - (intOf (.int .i64 (max (mnTo p s a) (mnFrom p s a + 1)))).toNat < s.size + 2 - (intOf (.int .i64 a)).toNat := by
  obtain ⟨g1, g2, g3, g4, g5, g6, g7, g8⟩ := mn_ok ha
  simp only [intOf]
  omega
set_option maxRecDepth 100000 in
theorem iMA_any (p s : ByteArray) (w : World) (hp : p.size ≤ maxLen) (hs : s.size ≤ maxLen) :
    Calls Tryd.prog 18 #[.string p, .string s] w (PairsPost (maL p s) w) := by
  have hs' := hs
  unfold maxLen at hs'
  obtain ⟨i0, hi, hz0, hz1, hz2⟩ := info_parts infoPair
  obtain ⟨B, hB⟩ : ∃ B, w.heap.size = B := ⟨_, rfl⟩
  have HB := Lib.hid hB
  clear hB
  go_enter Tryd.func18, Tryd.ntmps18
  go_wp2_with fail
  go_loopw [5, 6] (fun v av wr => ∃ (xs : List (Int × Int)) (a : Int) (f : Nat), wr.ownsRow B 39 2 v xs.length (pairs xs) ∧ av = .int .i64 a ∧ MaInv p s xs a f ∧ Below B w wr) (fun _ av _ => s.size + 2 - (intOf av).toNat)
  case atStart => exact ⟨[], 0, s.size + 2, World.ownsRow_nil _ _ _ _, rfl, MaInv.start p s, Below.refl _ _⟩
  case round =>
    obtain ⟨xs, a, f, hown, rfl, hinv, hb⟩ := hrel
    have hBs : B ≤ wr.heap.size := by rw [← HB.out]; exact hb.size
    cases ho : mnOk p s a
    · have hno := pair_no ho
      have HI := Lib.hid (hinv.done ho)
      have hc := iMN_any p s a wr hp hs
      rw [hno.1, hno.2.1, ho] at hc
      have HC := Lib.hid hc
      have HBo := Lib.hid hb
      clear hinv hc hno ho hb
      go_wp2_with fail
      refine (HC.out).mono ?_
      rintro e W2 ⟨rfl, hb2⟩
      have hown2 := (own_below hown hb2).alloc (.cells #[.int .i64 0, .int .i64 0] 39)
      have hb3 := (HBo.out.trans (hb2.mono hBs)).alloc (Nat.le_trans hBs hb2.size) (.cells #[.int .i64 0, .int .i64 0] 39)
      obtain ⟨A, c, rfl⟩ := own_form2 hown2
      clear hown hb2
      go_wp2_with fail
      go_ret
      have hx := HI.out
      have HB' := HB.out
      rw [← hx]
      refine ⟨A, c, rfl, ?_, ?_⟩
      · rw [HB']; exact hown2
      · rw [HB']; exact hb3
    · obtain ⟨g1, g2, g3, g4, g5, g6, g7, g8⟩ := mn_ok ho
      have hlen := hinv.len ho
      have HI := Lib.hid (hinv.step ho)
      have HM := Lib.hid (ma_measure ho)
      have hc := iMN_any p s a wr hp hs
      rw [ho] at hc
      clear hinv g6 g7 g8 ho
      generalize mnFrom p s a = x at *
      generalize mnTo p s a = y at *
      have HC := Lib.hid hc
      have HBo := Lib.hid hb
      clear hc hb
      go_wp2_with fail
      refine (HC.out).mono ?_
      rintro e W2 ⟨rfl, hb2⟩
      have hown1 := own_below hown hb2
      have hlt2 := fun k hk => hown1.lt k hk
      have hown2 := hown1.alloc (.cells #[.int .i64 x, .int .i64 y] 39)
      clear hown1
      have hb3 := (HBo.out.trans (hb2.mono hBs)).alloc (Nat.le_trans hBs hb2.size) (.cells #[.int .i64 x, .int .i64 y] 39)
      have hB2 : B ≤ W2.heap.size := Nat.le_trans hBs hb2.size
      clear hown hb2
      have HB3 := Lib.hid hb3
      have HLT := Lib.hid hlt2
      clear hb3 hlt2
      go_wp2_with (first | (at_builtin; refine wpList_append_own _ rfl _ _ 36 rfl B 39 i0 (.agg #[.int .i64 0, .int .i64 0]) 2 16 Tryd.underlying36 hi hz0 hz1 hz2 rfl (by decide) _ _ _ rfl (hown2.alloc _) ⟨W2.heap.size + 1, 0, none⟩ 1 1 [.int .i64 x, .int .i64 y] rfl rfl ?c1 ?c2 ?c3 ?c4 ?c5 ?_))
      case c1 =>
        intro j u hj
        match j, hj with
        | 0, hj => simp at hj; subst hj; simp [Addr.add]
        | 1, hj => simp at hj; subst hj; simp [Addr.add]
      case c2 => intro u hu; simp at hu; rcases hu with rfl | rfl <;> rfl
      case c3 => unfold maxLen; omega
      case c4 => omega
      case c5 => simp; omega
      intro v' w1 hown' hgrow _
      have hb1 : Below B w w1 := (HB3.out.alloc (by simp; omega) _).grown hgrow (by simp; omega) (fun k hk => ((hown2.alloc (.cells #[.int .i64 x, .int .i64 y] 39)).lt k hk).1)
      have hcell := app_keep hgrow (fun k hk => (HLT.out k hk).2)
      have hc0 := hcell 0
      have hc1 := hcell 1
      simp at hc0 hc1
      rw [← pairs_snoc, ← show (xs ++ [(x, y)]).length = xs.length + 1 by simp] at hown'
      have hbl : W2.heap.size < w1.heap.size := by have := hgrow.size; simp at this; omega
      clear hown2 hgrow hcell HB3 HLT
      by_cases hxy : x = y
      · have e0 : (x == y) = true := by simp [hxy]
        have HX := Lib.hid hxy
        clear hxy
        go_wp2_with fail
        go_roundw
        case rel => exact ⟨xs ++ [(x, y)], _, f - 1, hown', by have := HX.out; congr 1; omega, HI.out, hb1⟩
        case measure => (have h1 := HM.out; have h2 := HX.out; simp [intOf] at h1 ⊢; omega)
      · have e0 : (x == y) = false := by simp [hxy]
        have HX := Lib.hid hxy
        clear hxy
        go_wp2_with fail
        go_roundw
        case rel => exact ⟨xs ++ [(x, y)], _, f - 1, hown', by have := HX.out; congr 1; omega, HI.out, hb1⟩
        case measure => (have h1 := HM.out; have h2 := HX.out; simp [intOf] at h1 ⊢; omega)
set_option maxRecDepth 100000 in
theorem sMA_any (p s : ByteArray) (w : World) (hp : p.size ≤ maxLen) (hs : s.size ≤ maxLen) :
    Calls Tryd.prog 28 #[.string p, .string s] w (PairsPost (maL p s) w) := by
  have hs' := hs
  unfold maxLen at hs'
  obtain ⟨i0, hi, hz0, hz1, hz2⟩ := info_parts infoPair
  obtain ⟨B, hB⟩ : ∃ B, w.heap.size = B := ⟨_, rfl⟩
  have HB := Lib.hid hB
  clear hB
  go_enter Tryd.func28, Tryd.ntmps28
  go_wp2_with fail
  go_loopw [5, 6] (fun v av wr => ∃ (xs : List (Int × Int)) (a : Int) (f : Nat), wr.ownsRow B 39 2 v xs.length (pairs xs) ∧ av = .int .i64 a ∧ MaInv p s xs a f ∧ Below B w wr) (fun _ av _ => s.size + 2 - (intOf av).toNat)
  case atStart => exact ⟨[], 0, s.size + 2, World.ownsRow_made w #[] 0 (by rw [HB.out]; exact Nat.le_refl _) (by decide) rfl, rfl, MaInv.start p s, (Below.refl _ _).alloc (by rw [HB.out]; exact Nat.le_refl _) _⟩
  case round =>
    obtain ⟨xs, a, f, hown, rfl, hinv, hb⟩ := hrel
    have hBs : B ≤ wr.heap.size := by rw [← HB.out]; exact hb.size
    cases ho : mnOk p s a
    · have hno := pair_no ho
      have HQ := Lib.hid (hinv.done ho)
      by_cases has : ¬ a ≤ (s.size : Int)
      · obtain ⟨A, c, rfl⟩ := own_form2 hown
        clear hinv hno ho
        go_wp2_with fail
        go_ret
        have hx := HQ.out
        have HB' := HB.out
        rw [← hx]
        refine ⟨A, c, rfl, ?_, ?_⟩
        · rw [HB']; exact hown
        · rw [HB']; exact hb
      have has' : a ≤ (s.size : Int) := by omega
      clear has
      have HI := Lib.hid (hinv.done ho)
      have hc := sMN_any p s a wr hp hs
      rw [hno.1, hno.2.1, ho] at hc
      have HC := Lib.hid hc
      have HBo := Lib.hid hb
      clear hinv hc hno ho hb
      go_wp2_with fail
      refine (HC.out).mono ?_
      rintro e W2 ⟨rfl, hb2⟩
      have hown2 := (own_below hown hb2).alloc (.cells #[.int .i64 0, .int .i64 0] 39)
      have hb3 := (HBo.out.trans (hb2.mono hBs)).alloc (Nat.le_trans hBs hb2.size) (.cells #[.int .i64 0, .int .i64 0] 39)
      obtain ⟨A, c, rfl⟩ := own_form2 hown2
      clear hown hb2
      go_wp2_with fail
      go_ret
      have hx := HI.out
      have HB' := HB.out
      rw [← hx]
      refine ⟨A, c, rfl, ?_, ?_⟩
      · rw [HB']; exact hown2
      · rw [HB']; exact hb3
    · obtain ⟨g1, g2, g3, g4, g5, g6, g7, g8⟩ := mn_ok ho
      have hlen := hinv.len ho
      have HI := Lib.hid (hinv.step ho)
      have HM := Lib.hid (ma_measure ho)
      have hc := sMN_any p s a wr hp hs
      rw [ho] at hc
      clear hinv g6 g7 g8 ho
      have has' : a ≤ (s.size : Int) := by omega
      generalize mnFrom p s a = x at *
      generalize mnTo p s a = y at *
      have HC := Lib.hid hc
      have HBo := Lib.hid hb
      clear hc hb
      go_wp2_with fail
      refine (HC.out).mono ?_
      rintro e W2 ⟨rfl, hb2⟩
      have hown1 := own_below hown hb2
      have hlt2 := fun k hk => hown1.lt k hk
      have hown2 := hown1.alloc (.cells #[.int .i64 x, .int .i64 y] 39)
      clear hown1
      have hb3 := (HBo.out.trans (hb2.mono hBs)).alloc (Nat.le_trans hBs hb2.size) (.cells #[.int .i64 x, .int .i64 y] 39)
      have hB2 : B ≤ W2.heap.size := Nat.le_trans hBs hb2.size
      clear hown hb2
      have HB3 := Lib.hid hb3
      have HLT := Lib.hid hlt2
      clear hb3 hlt2
      go_wp2_with (first | (at_builtin; refine wpList_append_own _ rfl _ _ 36 rfl B 39 i0 (.agg #[.int .i64 0, .int .i64 0]) 2 16 Tryd.underlying36 hi hz0 hz1 hz2 rfl (by decide) _ _ _ rfl (hown2.alloc _) ⟨W2.heap.size + 1, 0, none⟩ 1 1 [.int .i64 x, .int .i64 y] rfl rfl ?c1 ?c2 ?c3 ?c4 ?c5 ?_))
      case c1 =>
        intro j u hj
        match j, hj with
        | 0, hj => simp at hj; subst hj; simp [Addr.add]
        | 1, hj => simp at hj; subst hj; simp [Addr.add]
      case c2 => intro u hu; simp at hu; rcases hu with rfl | rfl <;> rfl
      case c3 => unfold maxLen; omega
      case c4 => omega
      case c5 => simp; omega
      intro v' w1 hown' hgrow _
      have hb1 : Below B w w1 := (HB3.out.alloc (by simp; omega) _).grown hgrow (by simp; omega) (fun k hk => ((hown2.alloc (.cells #[.int .i64 x, .int .i64 y] 39)).lt k hk).1)
      have hcell := app_keep hgrow (fun k hk => (HLT.out k hk).2)
      have hc0 := hcell 0
      have hc1 := hcell 1
      simp at hc0 hc1
      rw [← pairs_snoc, ← show (xs ++ [(x, y)]).length = xs.length + 1 by simp] at hown'
      have hbl : W2.heap.size < w1.heap.size := by have := hgrow.size; simp at this; omega
      clear hown2 hgrow hcell HB3 HLT
      by_cases hxy : x = y
      · have e0 : (x == y) = true := by simp [hxy]
        have HX := Lib.hid hxy
        clear hxy
        go_wp2_with fail
        go_roundw
        case rel => exact ⟨xs ++ [(x, y)], _, f - 1, hown', by have := HX.out; congr 1; omega, HI.out, hb1⟩
        case measure => (have h1 := HM.out; have h2 := HX.out; simp [intOf] at h1 ⊢; omega)
      · have e0 : (x == y) = false := by simp [hxy]
        have HX := Lib.hid hxy
        clear hxy
        go_wp2_with fail
        go_roundw
        case rel => exact ⟨xs ++ [(x, y)], _, f - 1, hown', by have := HX.out; congr 1; omega, HI.out, hb1⟩
        case measure => (have h1 := HM.out; have h2 := HX.out; simp [intOf] at h1 ⊢; omega)
end Go.Proofs.YtlnldnenkajcdaaDoor
