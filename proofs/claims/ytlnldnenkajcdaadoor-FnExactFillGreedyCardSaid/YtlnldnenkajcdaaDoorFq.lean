/- The contract of the program's FillGreedy. -/
import Derived.Test.YtlnldnenkajcdaaDoorFo
set_option linter.unusedVariables false
set_option linter.unusedSimpArgs false
namespace Go.Proofs.YtlnldnenkajcdaaDoor
open Go.RowKit
theorem fg_len (s : ByteArray) (W : Int) : (fgL s W).length ≤ 121 := by
  unfold fgL
  split
  · have h : ∀ (ws : List ByteArray), ws.length ≤ 121 → ∀ f k out, FrInv ws W k out → (fgR ws W f k out).length ≤ 121 := by
      intro ws hl f
      induction f with
      | zero => intro k out h; have := h.1; have := h.2.1; simp only [fgR]; omega
      | succ f ih =>
        intro k out h
        rw [fgR]
        split
        · rename_i hk
          have hr : ∀ g n, k + 1 ≤ n → n ≤ ws.length → k + 1 ≤ fgN ws W k g n ∧ fgN ws W k g n ≤ ws.length := by
            intro g
            induction g with
            | zero => intro n h1 h2; exact ⟨h1, h2⟩
            | succ g ihg =>
              intro n h1 h2
              rw [fgN]
              split
              · rename_i hc; exact ihg (n + 1) (by omega) (by omega)
              · exact ⟨h1, h2⟩
          obtain ⟨r1, r2⟩ := hr ws.length (k + 1) (Nat.le_refl _) hk
          exact ih _ _ (h.step hk rfl r1 r2)
        · have := h.1; have := h.2.1; omega
    exact h _ (words_small s).1 _ 0 [] (FrInv.start _ W)
  · simp
theorem own_le' {w : World} {base base' size n : Nat} {e : TypeId} {v : Value} {xs : List Value} (h : w.ownsRow base e size v n xs) (hb : base' ≤ base) : w.ownsRow base' e size v n xs := by
  refine ⟨h.1, ?_⟩
  rcases h.2 with g | ⟨g, cap, cur, h1, h2, h3⟩
  · exact .inl g
  · exact .inr ⟨g, cap, cur, h1, Nat.le_trans hb h2, h3⟩
theorem iW2_any (W : Int) (w : World) : Calls Tryd.prog 26 #[.int .i64 W] w fun e w' => e = .returned (.bool (inI W 4 40)) ∧ w = w' := by
  go_enter Tryd.func26, Tryd.ntmps26
  go_wp2_with fail
  refine (in_any _ _ _ _).mono ?_
  rintro e w' ⟨rfl, rfl⟩
  go_wp2_with fail
  go_ret
  exact ⟨rfl, rfl⟩
set_option maxHeartbeats 4000000 in
set_option maxRecDepth 100000 in
theorem iFG_any (s : ByteArray) (W : Int) (w : World) (hs : s.size ≤ maxLen) (hM : Tab w) :
    Calls Tryd.prog 13 #[.string s, .int .i64 W] w (StrsPost (fgL s W) w) := by
  have hs' := hs
  unfold maxLen at hs'
  have hTV := fun W => iTV_any s W hs
  cases hv : valid s.data.toList
  · have hr : fgL s W = [] := by
      have hw : wordsL s = [] := by unfold wordsL; rw [if_neg (by simp [hv])]
      unfold fgL; rw [hw]; split <;> rfl
    rw [hr]
    rw [hv] at hTV
    have HTV := Lib.hid hTV
    clear hTV
    go_enter Tryd.func13, Tryd.ntmps13
    go_wp2_with fail
    refine (HTV.out _).mono ?_
    rintro e w' ⟨rfl, rfl⟩
    go_wp2_with fail
    go_ret
    exact ⟨none, 0, rfl, World.ownsRow_nil _ _ _ _, Below.refl _ _⟩
  cases hw : inI W 4 40
  · have hr : fgL s W = [] := by unfold fgL; rw [if_neg (by simp [hw])]
    rw [hr]
    rw [hv] at hTV
    have HTV := Lib.hid hTV
    have hW := fun w => iW2_any W w
    rw [hw] at hW
    have HW := Lib.hid hW
    clear hTV hW
    go_enter Tryd.func13, Tryd.ntmps13
    go_wp2_with fail
    refine (HTV.out _).mono ?_
    rintro e w' ⟨rfl, rfl⟩
    go_wp2_with fail
    refine (HW.out _).mono ?_
    rintro e w' ⟨rfl, rfl⟩
    go_wp2_with fail
    go_ret
    exact ⟨none, 0, rfl, World.ownsRow_nil _ _ _ _, Below.refl _ _⟩
  · obtain ⟨i0, hi, hz0, hz1, hz2⟩ := info_parts infoStr
    rw [hv] at hTV
    have hW := fun w => iW2_any W w
    rw [hw] at hW
    have hwr : 4 ≤ W ∧ W ≤ 40 := by simpa [inI] using hw
    obtain ⟨hwl, hws⟩ := words_small s
    have hWO := fun w hM => iWO_any s w hs hM
    have hr : fgL s W = fgR (wordsL s) W (wordsL s).length 0 [] := by unfold fgL; rw [if_pos hw]
    rw [hr]
    generalize wordsL s = ws at *
    have hres : ∀ out, GInv ws W ws.length out → out = fgR ws W ws.length 0 [] := fun out h => h.done
    generalize fgR ws W ws.length 0 [] = res at *
    have hsz : ∀ k (hk : k < ws.length), ws[k].size ≤ 121 := fun k hk => hws _ (List.getElem_mem hk)
    have HTV := Lib.hid hTV
    have HW := Lib.hid hW
    have HWO := Lib.hid hWO
    have HRES := Lib.hid hres
    have HSZ := Lib.hid hsz
    clear hTV hW hWO hres hsz hws hr hv hw
    go_enter Tryd.func13, Tryd.ntmps13
    go_wp2_with fail
    refine (HTV.out _).mono ?_
    rintro e w' ⟨rfl, rfl⟩
    go_wp2_with fail
    refine (HW.out _).mono ?_
    rintro e w' ⟨rfl, rfl⟩
    go_wp2_with fail
    refine (HWO.out _ hM).mono ?_
    rintro e W1 ⟨A, c, rfl, ho, hb⟩
    have hr := Row.of_own ho
    have HB := Lib.hid hb
    clear ho hb
    go_wp2_with fail
    go_loopw [5, 20] (fun ov iv wr => ∃ (j : Nat) (out : List ByteArray), j ≤ ws.length ∧ iv = .int .i64 j ∧ out.length ≤ j ∧ Hid (GInv ws W j out) ∧ Hid (∀ x ∈ out, x.size ≤ 1000) ∧ wr.ownsRow W1.heap.size 9 1 ov out.length (strVals out) ∧ Below W1.heap.size W1 wr) (fun _ iv _ => ws.length - (intOf iv).toNat)
    case atStart => exact ⟨0, [], Nat.zero_le _, rfl, Nat.le_refl _, Lib.hid (.inl ⟨rfl, rfl⟩), Lib.hid (by simp), World.ownsRow_nil _ _ _ _, Below.refl _ _⟩
    case round =>
      obtain ⟨j, out, hj, rfl, hol, HG, HX, hown, hbw⟩ := hrel
      have hBz : W1.heap.size ≤ wr.heap.size := hbw.size
      by_cases hjx : j < ws.length
      · obtain ⟨g, o, rfl, hgb, c0⟩ := (hr.below hbw).str hjx
        have hxs := HSZ.out j hjx
        have hj' : (j : Int) < (ws.length : Int) := by omega
        have hj0 : (0 : Int) ≤ (j : Int) := by omega
        rcases Nat.eq_zero_or_pos out.length with h0 | h0
        · obtain rfl : out = [] := List.eq_nil_of_length_eq_zero h0
          have hj00 : j = 0 := by
            rcases HG.out with ⟨h, _⟩ | ⟨k, outs, h, _⟩
            · exact h
            · exact absurd (congrArg List.length h) (by simp)
          subst hj00
          have hnx := GInv.first (ws := ws) (W := W) hjx
          have HNX := Lib.hid hnx
          clear hnx
          simp only [Nat.add_zero] at c0
          have hzz : ∀ x ∈ [ws[0]'hjx], x.size ≤ 1000 := fun x hx => by
            have e : x = ws[0]'hjx := by simpa using hx
            rw [e]; omega
          have HZ := Lib.hid hzz
          clear hzz
          generalize (ws[0]'hjx) = x at *
          have HB2 := Lib.hid hbw
          obtain ⟨A6, c6, rfl⟩ := own_form3 hown
          simp only [List.length_nil] at hown
          clear hbw
          go_wp2_with (first | (at_builtin; refine wpList_append_own _ rfl _ _ 22 rfl W1.heap.size 9 i0 (.string .empty) 1 16 Tryd.underlying22 hi hz0 hz1 hz2 rfl (by decide) _ _ _ rfl (hown.alloc _) ⟨wr.heap.size, 0, none⟩ 1 1 [.string x] rfl rfl (news1 _ _ _) (ones1 _) (by unfold maxLen; omega) (by omega) (by simp; omega) ?_))
          intro v' w1 hown' hgrow _
          have hb1 : Below W1.heap.size W1 w1 := (HB2.out.alloc hBz _).grown hgrow (by simp; omega) (fun k hk => ((hown.alloc (.cells #[.string x] 9)).lt k hk).1)
          clear hown hgrow HB2
          go_wp2_with fail
          go_roundw
          case rel => exact ⟨1, [x], by omega, by go_num, Nat.le_refl _, HNX, HZ, hown', hb1⟩
          case measure => (simp [intOf] <;> omega)
        · have hnx := HG.out.next hjx h0
          obtain ⟨A6, c6, rfl⟩ := own_form3 hown
          obtain ⟨g6, rfl, hcap⟩ : ∃ g, A6 = some ⟨g, 0, none⟩ ∧ out.length ≤ c6 := by
            rcases hown.2 with ⟨e, h1⟩ | ⟨g', c', cur, e, _, _, h4, _⟩
            · omega
            · injection e with e1 _ e3
              exact ⟨g', e1, by omega⟩
          obtain ⟨l, hl⟩ : ∃ l, out.length = l + 1 := ⟨out.length - 1, by omega⟩
          have hcell : wr.cell? ⟨g6, l, none⟩ = some (.string (out[out.length - 1]'(by omega))) := (hown.cellAt l (by omega)).trans (by
            have e : out.length - 1 = l := by omega
            rw [strVals, List.getElem?_map]
            simp only [e]
            rw [List.getElem?_eq_getElem (by omega)]; rfl)
          have hlz := HX.out (out[out.length - 1]'(by omega)) (List.getElem_mem _)
          have hfz := hown.frozenAt l
          have hgB := (hown.lt g6 rfl).1
          have hol1 : out.length - 1 = l := by omega
          have hset : ∀ y, (strVals out).set l (.string y) = strVals (out.set l y) := fun y => by simp [strVals, List.map_set]
          have hst : ∀ y, (wr.setCell ⟨g6, l, none⟩ (.string y)).ownsRow W1.heap.size 9 1 (.slice (some ⟨g6, 0, none⟩) (l + 1) c6) (l + 1) (strVals (out.set l y)) := fun y => by
            have h := (hown.stored l (.string y)).1
            rw [hset, hl] at h
            exact h
          have hsl : ∀ y, (out.set l y).length = l + 1 := fun y => by rw [List.length_set]; exact hl
          have hxs2 : ∀ y, y.size ≤ 1000 → ∀ x ∈ out.set l y, x.size ≤ 1000 := fun y hy x hx => by
            rcases List.mem_or_eq_of_mem_set hx with h | rfl
            · exact HX.out x h
            · exact hy
          simp only [hol1] at hcell hlz hnx
          generalize (out[l]'(by omega)) = z at *
          have hxm : ∀ y ∈ out ++ [ws[j]'hjx], y.size ≤ 1000 := fun y hy => by
            rcases List.mem_append.1 hy with h | h
            · exact HX.out y h
            · obtain rfl : y = ws[j]'hjx := by simpa using h
              omega
          have hl2 : (out ++ [ws[j]'hjx]).length = l + 1 + 1 := by rw [List.length_append, hl]; rfl
          generalize (ws[j]'hjx) = x at *
          have hl0 : (0 : Int) ≤ (l : Int) := by omega
          have hl1 : (l : Int) < ((l + 1 : Nat) : Int) := by omega
          have hlm : ((l + 1 : Nat) : Int) - 1 = (l : Int) := by omega
          have HST := Lib.hid hst
          have HSL := Lib.hid hsl
          have HXS := Lib.hid hxs2
          have HXM := Lib.hid hxm
          have HL2 := Lib.hid hl2
          have HB2 := Lib.hid hbw
          rw [hl] at hown hol ⊢
          clear hset hst hsl hxs2 hxm hl2 hbw hcap hol1 hl h0
          rcases hnx with ⟨n1, n2⟩ | ⟨n1, n2⟩
          · have N2 := Lib.hid n2
            have hys : (z ++ (⟨#[32]⟩ ++ x)).size ≤ 1000 := by
              rw [ByteArray.size_append, ByteArray.size_append]
              have : (⟨#[32]⟩ : ByteArray).size = 1 := rfl
              omega
            have HYS := Lib.hid hys
            clear n2 hown hys
            go_wp2_with fail
            go_roundw
            case rel => exact ⟨j + 1, out.set l (z ++ (⟨#[32]⟩ ++ x)), by omega, by go_num, by rw [HSL.out]; omega, N2, Lib.hid (HXS.out _ HYS.out), by rw [HSL.out]; exact HST.out _, HB2.out.setCell (p := ⟨g6, l, none⟩) hgB _⟩
            case measure => (simp [intOf] <;> omega)
          · have N2 := Lib.hid n2
            clear n2
            go_wp2_with (first | (at_builtin; refine wpList_append_own _ rfl _ _ 22 rfl W1.heap.size 9 i0 (.string .empty) 1 16 Tryd.underlying22 hi hz0 hz1 hz2 rfl (by decide) _ _ _ rfl (hown.alloc _) ⟨wr.heap.size, 0, none⟩ 1 1 [.string x] rfl rfl (news1 _ _ _) (ones1 _) (by unfold maxLen; omega) (by omega) (by simp; omega) ?_))
            intro v' w1 hown' hgrow _
            have hb1 : Below W1.heap.size W1 w1 := (HB2.out.alloc hBz _).grown hgrow (by simp; omega) (fun k hk => ((hown.alloc (.cells #[.string x] 9)).lt k hk).1)
            rw [strVals_snoc] at hown'
            clear hown hgrow HB2
            go_wp2_with fail
            go_roundw
            case rel => exact ⟨j + 1, out ++ [x], by omega, by go_num, by rw [HL2.out]; omega, N2, HXM, by rw [HL2.out]; exact hown', hb1⟩
            case measure => (simp [intOf] <;> omega)
      · obtain rfl : j = ws.length := by omega
        have he := HRES.out out HG.out
        subst he
        obtain ⟨A6, c6, rfl⟩ := own_form3 hown
        have HE : Hid (StrsPost out w (.returned (.slice A6 out.length c6)) wr) := Lib.hid ⟨A6, c6, rfl, own_le' hown HB.out.size, HB.out.trans (hbw.mono HB.out.size)⟩
        clear hown hbw
        go_wp2_with fail
        go_ret
        exact HE.out
end Go.Proofs.YtlnldnenkajcdaaDoor
