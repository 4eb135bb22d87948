/- The contracts of WrapRows, of the program and of the reference, walked. -/
import Derived.Test.YtglnkcggcgbaiaaDoorWi
set_option linter.unusedVariables false
set_option linter.unusedSimpArgs false
namespace Go.Proofs.YtglnkcggcgbaiaaDoor
open Go.RowKit
set_option maxRecDepth 100000 in
set_option maxHeartbeats 1000000 in
theorem iWR_any (s : ByteArray) (W : Int) (w : World) (hs : s.size ≤ maxLen) (hM : ML w) :
    Calls Tryd.prog 15 #[.string s, .int .i64 W] w (PairsPost (rowsL s W) w) := by
  have hs' := hs
  unfold maxLen at hs'
  cases hok : wOk s W
  · have hr : rowsL s W = [] := by unfold rowsL; rw [if_neg (by simp [hok])]
    rw [hr]
    have hnil : ∀ w' : World, PairsPost [] w' (.returned (.slice none 0 0)) w' := fun w' => ⟨none, 0, rfl, World.ownsRow_nil _ _ _ _, Below.refl _ _⟩
    have HN := Lib.hid hnil
    rcases wOk_no (s := s) (W := W) (by simp [hok]) with h1 | ⟨h1, h2⟩
    · clear hr hok hnil
      go_enter Tryd.func15, Tryd.ntmps15
      go_wp2_with fail
      refine (iTV_any _ _ hs).mono ?_
      rintro e w' ⟨rfl, rfl⟩
      go_wp2_with fail
      go_ret
      exact HN.out _
    · clear hr hok hnil
      go_enter Tryd.func15, Tryd.ntmps15
      go_wp2_with fail
      refine (iTV_any _ _ hs).mono ?_
      rintro e w' ⟨rfl, rfl⟩
      go_wp2_with fail
      refine (iW_any _ _).mono ?_
      rintro e w' ⟨rfl, rfl⟩
      go_wp2_with fail
      go_ret
      exact HN.out _
  · obtain ⟨hv, n, rfl, h4, h40⟩ := wOk_s hok
    have hin : inI n 4 40 = true := by unfold inI; simp; omega
    have h120 := valid_size hv
    have HR := Lib.hid (rowsL_ok hok)
    obtain ⟨i0, hi, hz0, hz1, hz2⟩ := info_parts infoPair
    have hlen := linesL_len s
    have hcl := cnt_le s s.size
    have hll : (linesL s).length ≤ 121 := by omega
    have hget := fun k (h : k ≤ cntN s s.size) => linesL_get s h
    have hlc := iLinesOf_any s w (by omega) hM
    have HC : Hid (Calls Tryd.prog 44 #[.string s] w (LinesPost s w)) := Lib.hid hlc
    have HL := Lib.hid hlen
    have HG := Lib.hid hget
    unfold LinesPost at HC
    clear hlc hlen hget hok
    generalize linesL s = lns at *
    go_enter Tryd.func15, Tryd.ntmps15
    go_wp2_with fail
    refine (iTV_any _ _ hs).mono ?_
    rintro e w' ⟨rfl, rfl⟩
    go_wp2_with fail
    refine (iW_any _ _).mono ?_
    rintro e w' ⟨rfl, rfl⟩
    go_wp2_with fail
    refine (HC.out).mono ?_
    rintro e W1 ⟨A, c, rfl, hrow, hb1⟩
    obtain ⟨B, hB⟩ : ∃ B, W1.heap.size = B := ⟨_, rfl⟩
    rw [hB] at hrow
    have HB := Lib.hid hB
    have HB1 := Lib.hid hb1
    clear hB hb1
    go_wp2_with fail
    go_loopw [5, 6, 23] (fun ov av iv wr => ∃ (k : Nat) (xs : List (Int × Int)), iv = .int .i64 k ∧ av = .int .i64 (atOf s k) ∧ WoInv s n k xs ∧ wr.ownsRow B 41 2 ov xs.length (pairs xs) ∧ Below B W1 wr) (fun _ _ iv _ => lns.length - (intOf iv).toNat)
    case atStart => exact ⟨0, [], rfl, by unfold atOf; rw [if_pos (Nat.zero_le _), ls_zero]; rfl, WoInv.start s n, World.ownsRow_nil _ _ _ _, Below.refl _ _⟩
    case round =>
      obtain ⟨k, xs, rfl, rfl, hinv, hown, hbw⟩ := hrel
      have hBz : B ≤ wr.heap.size := by rw [← HB.out]; exact hbw.size
      by_cases hk : k ≤ cntN s s.size
      · have hkl : k < lns.length := by have := HL.out; omega
        have hkl' : (k : Int) < (lns.length : Int) := by omega
        have hk0 : (0 : Int) ≤ (k : Int) := by omega
        have hrw := hrow.below hbw
        obtain ⟨b, o, hA, hbB, hc⟩ := hrw.str hkl
        have hgk := HG.out k hk
        rw [List.getElem?_eq_getElem hkl] at hgk
        injection hgk with hgk
        rw [hgk] at hc
        have hlsz := lineS_size hk
        obtain ⟨g1, _, _⟩ := ls_ok hk
        obtain ⟨e1, e2, _, _⟩ := eol_spec s g1
        have hat : atOf s k = lsN s k := by unfold atOf; rw [if_pos hk]
        have hnx := atOf_next hk
        have hen := hinv.enter hk
        rw [hat]
        have HE := Lib.hid hen
        have HNX := Lib.hid hnx
        subst hA
        have hst := fun xs a (h : WiInv s n k xs a) hl => h.step (by omega) hl
        have HST := Lib.hid hst
        have hlv := fun xs a (h : WiInv s n k xs a) hl => h.leave hl
        have HLV := Lib.hid hlv
        have hwb := fun xs a (h : WiInv s n k xs a) => (show lsN s k ≤ a ∧ a ≤ eolN s (lsN s k) ∧ xs.length ≤ a + k from ⟨h.2.1, h.2.2.1, h.2.2.2.1⟩)
        have HWB := Lib.hid hwb
        clear hst hlv hwb hgk hat hnx hen hinv hrw
        generalize hls : lsN s k = l at *
        generalize hel : eolN s l = z at *
        have hzz : (lineS s k).size = z - l := hlsz
        generalize lineS s k = ln at *
        have hz2' : (l : Int) + (ln.size : Int) = (z : Int) := by omega
        have HZ := Lib.hid hz2'
        have zz1 : (l : Int) + (ln.size : Int) ≤ (z : Int) := by omega
        have zz2 : (z : Int) ≤ (l : Int) + (ln.size : Int) := by omega
        clear hlsz hzz hz2' hls hel hll
        go_wp2_with fail
        go_loopw [5, 6] (fun ov2 av2 wr2 => ∃ (a : Nat) (xs2 : List (Int × Int)), av2 = .int .i64 a ∧ WiInv s n k xs2 a ∧ wr2.ownsRow B 41 2 ov2 xs2.length (pairs xs2) ∧ Below B W1 wr2) (fun _ av2 _ => s.size + 1 - (intOf av2).toNat)
        case atStart => exact ⟨l, xs, rfl, HE.out, hown, hbw⟩
        case round =>
          obtain ⟨a, ys, rfl, hwi, hown2, hbw2⟩ := hrel
          obtain ⟨w1, w2, w3⟩ := HWB.out ys a hwi
          have hBz2 : B ≤ wr.heap.size := by rw [← HB.out]; exact hbw2.size
          clear hown hbw hc hBz
          by_cases hlw : n < z - a
          · have hlw' : (n : Int) < (l : Int) + (ln.size : Int) - (a : Int) := by omega
            have HS := Lib.hid (HST.out ys a hwi hlw)
            have hsp := last_sp (s := s) (a := a) (W := n) (by omega)
            obtain ⟨cc1, cc2, cc3⟩ := cut_spec s a (show 0 < n by omega)
            have hsz : (s.extract a (a + n)).size < 4611686018427387904 := by rw [ByteArray.size_extract]; omega
            have hcl2 := fun w => li_any (s.extract a (a + n)) 32 hsz w
            generalize Lib.lastIndexByte (s.extract a (a + n)) 32 = r at *
            generalize cutAt s a n = cu at *
            have HCL := Lib.hid hcl2
            have ha0 : (0 : Int) ≤ (a : Int) := by omega
            have ha1 : (a : Int) ≤ (a : Int) + (n : Int) := by omega
            have ha2 : (a : Int) + (n : Int) ≤ (s.size : Int) := by omega
            clear hcl2 hwi hsz cc3
            have hcu : (r = -1 ∧ cu = a + n) ∨ (0 ≤ r ∧ r ≤ 40 ∧ (cu : Int) = a + r + 1) := by
              rcases hsp with ⟨h1, h2⟩ | ⟨j, h1, h2, h3⟩
              · exact .inl ⟨h1, h2⟩
              · exact .inr ⟨by omega, by omega, by omega⟩
            clear hsp
            rcases hcu with ⟨rfl, hcu⟩ | ⟨hr0, hr1, hcu⟩
            · have HCU : Hid ((cu : Int) = (a : Int) + (n : Int)) := Lib.hid (by omega)
              clear hcu
              go_wp2_with fail
              refine (HCL.out _).mono ?_
              rintro e w' ⟨rfl, rfl⟩
              go_wp2_with (first | (at_builtin; refine wpList_append_own _ rfl _ _ 24 rfl B 41 i0 (.agg #[.int .i64 0, .int .i64 0]) 2 16 Tryd.underlying24 hi hz0 hz1 hz2 rfl (by decide) _ _ _ rfl (hown2.alloc _) ⟨wr.heap.size, 0, none⟩ 1 1 [.int .i64 a, .int .i64 ((a : Int) + (n : Int))] rfl rfl ?c1 ?c2 ?c3 ?c4 ?c5 ?_))
              case c1 =>
                intro j u hj
                match j, hj with
                | 0, hj => simp at hj; subst hj; simp [Addr.add]
                | 1, hj => simp at hj; subst hj; simp [Addr.add]
              case c2 => intro u hu; simp at hu; rcases hu with rfl | rfl <;> rfl
              case c3 => unfold maxLen; omega
              case c4 => omega
              case c5 => simp; omega
              intro v' w1 hown' hgrow _
              obtain ⟨hown3, hbw3⟩ := row_add hbw2 hBz2 hown2 hown' hgrow
              rw [← HCU.out] at hown3
              clear hown' hgrow hown2 hbw2
              go_wp2_with fail
              go_roundw
              case rel => exact ⟨cu, _, by rw [HCU.out], HS.out, hown3, hbw3⟩
              case measure => (simp [intOf] <;> omega)
            · have HCU : Hid ((cu : Int) = (a : Int) + r + 1) := Lib.hid (by omega)
              have hr2 : (a : Int) + r + 1 ≤ (s.size : Int) := by omega
              clear hcu
              go_wp2_with fail
              refine (HCL.out _).mono ?_
              rintro e w' ⟨rfl, rfl⟩
              go_wp2_with (first | (at_builtin; refine wpList_append_own _ rfl _ _ 24 rfl B 41 i0 (.agg #[.int .i64 0, .int .i64 0]) 2 16 Tryd.underlying24 hi hz0 hz1 hz2 rfl (by decide) _ _ _ rfl (hown2.alloc _) ⟨wr.heap.size, 0, none⟩ 1 1 [.int .i64 a, .int .i64 ((a : Int) + r + 1)] rfl rfl ?c1 ?c2 ?c3 ?c4 ?c5 ?_))
              case c1 =>
                intro j u hj
                match j, hj with
                | 0, hj => simp at hj; subst hj; simp [Addr.add]
                | 1, hj => simp at hj; subst hj; simp [Addr.add]
              case c2 => intro u hu; simp at hu; rcases hu with rfl | rfl <;> rfl
              case c3 => unfold maxLen; omega
              case c4 => omega
              case c5 => simp; omega
              intro v' w1 hown' hgrow _
              obtain ⟨hown3, hbw3⟩ := row_add hbw2 hBz2 hown2 hown' hgrow
              rw [← HCU.out] at hown3
              clear hown' hgrow hown2 hbw2
              go_wp2_with fail
              go_roundw
              case rel => exact ⟨cu, _, by rw [HCU.out], HS.out, hown3, hbw3⟩
              case measure => (have h9 := HCU.out; simp [intOf] <;> omega)
          · have hlw' : (l : Int) + (ln.size : Int) - (a : Int) ≤ (n : Int) := by omega
            have HS := Lib.hid (HLV.out ys a hwi hlw)
            clear hwi
            go_wp2_with (first | (at_builtin; refine wpList_append_own _ rfl _ _ 24 rfl B 41 i0 (.agg #[.int .i64 0, .int .i64 0]) 2 16 Tryd.underlying24 hi hz0 hz1 hz2 rfl (by decide) _ _ _ rfl (hown2.alloc _) ⟨wr.heap.size, 0, none⟩ 1 1 [.int .i64 a, .int .i64 ((l : Int) + (ln.size : Int))] rfl rfl ?c1 ?c2 ?c3 ?c4 ?c5 ?_))
            case c1 =>
              intro j u hj
              match j, hj with
              | 0, hj => simp at hj; subst hj; simp [Addr.add]
              | 1, hj => simp at hj; subst hj; simp [Addr.add]
            case c2 => intro u hu; simp at hu; rcases hu with rfl | rfl <;> rfl
            case c3 => unfold maxLen; omega
            case c4 => omega
            case c5 => simp; omega
            intro v' w1 hown' hgrow _
            obtain ⟨hown3, hbw3⟩ := row_add hbw2 hBz2 hown2 hown' hgrow
            rw [HZ.out] at hown3
            clear hown' hgrow hown2 hbw2
            go_wp2_with fail
            go_roundw
            case rel => exact ⟨k + 1, _, by go_num, by rw [HNX.out, HZ.out]; go_num, HS.out, hown3, hbw3⟩
            case measure => (simp [intOf] <;> omega)
      · have hkl : ¬ (k : Int) < (lns.length : Int) := by have := HL.out; omega
        have hdone := hinv.done hk
        have HD := Lib.hid hdone
        obtain ⟨A5, c5, rfl⟩ := own_form2 hown
        clear hinv hdone
        go_wp2_with fail
        go_ret
        have h1 := HD.out
        have h2 := HR.out
        have h3 := HB1.out
        have h4 := HB.out
        rw [h2, ← h1]
        refine ⟨A5, c5, rfl, hown.mono (by have := h3.size; omega), h3.trans (hbw.mono (by have := h3.size; omega))⟩
end Go.Proofs.YtglnkcggcgbaiaaDoor
