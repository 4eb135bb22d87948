/- The reference's FillGreedy. -/
import Derived.Test.YtlnldnenkajcdaaDoorFb
import Derived.Test.YtlnldnenkajcdaaDoorPv
import Derived.Test.YtlnldnenkajcdaaDoorMk
set_option linter.unusedVariables false
set_option linter.unusedSimpArgs false
namespace Go.Proofs.YtlnldnenkajcdaaDoor
open Go.RowKit
/-- Where the line that begins with word k ends, from n on. -/
def fgN (ws : List ByteArray) (W : Int) (k : Nat) : Nat → Nat → Nat
  | 0, n => n
  | f + 1, n => if n < ws.length ∧ ((n + 1 : Nat) : Int) - k - 1 + szN ws k (n + 1 - k) ≤ W then fgN ws W k f (n + 1) else n
def fgE (ws : List ByteArray) (W : Int) (k : Nat) : Nat := fgN ws W k ws.length (k + 1)
def fgR (ws : List ByteArray) (W : Int) : Nat → Nat → List ByteArray → List ByteArray
  | 0, _, out => out
  | f + 1, k, out => if k < ws.length then fgR ws W f (fgE ws W k) (out ++ [txN ws k (fgE ws W k - k)]) else out
def fgL (s : ByteArray) (W : Int) : List ByteArray := if inI W 4 40 = true then fgR (wordsL s) W (wordsL s).length 0 [] else []
def FnInv (ws : List ByteArray) (W : Int) (k n : Nat) : Prop := k + 1 ≤ n ∧ n ≤ ws.length ∧ ∃ f, ws.length - n ≤ f ∧ fgN ws W k f n = fgE ws W k
theorem FnInv.start {ws : List ByteArray} {W : Int} {k : Nat} (hk : k < ws.length) : FnInv ws W k (k + 1) := ⟨Nat.le_refl _, hk, ws.length, by omega, rfl⟩
theorem FnInv.step {ws : List ByteArray} {W : Int} {k n : Nat} (h : FnInv ws W k n) (hn : n < ws.length) (hs : ((n + 1 : Nat) : Int) - k - 1 + szN ws k (n + 1 - k) ≤ W) : FnInv ws W k (n + 1) := by
  obtain ⟨h1, h2, f, h3, h4⟩ := h
  obtain ⟨g, rfl⟩ : ∃ g, f = g + 1 := ⟨f - 1, by omega⟩
  rw [fgN, if_pos ⟨hn, hs⟩] at h4
  exact ⟨by omega, hn, g, by omega, h4⟩
theorem FnInv.done {ws : List ByteArray} {W : Int} {k n : Nat} (h : FnInv ws W k n) (hs : ¬ (n < ws.length ∧ ((n + 1 : Nat) : Int) - k - 1 + szN ws k (n + 1 - k) ≤ W)) : n = fgE ws W k := by
  obtain ⟨h1, h2, f, h3, h4⟩ := h
  cases f with
  | zero => exact h4
  | succ f => rw [fgN, if_neg hs] at h4; exact h4
def FrInv (ws : List ByteArray) (W : Int) (k : Nat) (out : List ByteArray) : Prop := k ≤ ws.length ∧ out.length ≤ k ∧ ∃ f, ws.length - k ≤ f ∧ fgR ws W f k out = fgR ws W ws.length 0 []
theorem FrInv.start (ws : List ByteArray) (W : Int) : FrInv ws W 0 [] := ⟨Nat.zero_le _, Nat.zero_le _, _, Nat.le_refl _, rfl⟩
theorem FrInv.step {ws : List ByteArray} {W : Int} {k n : Nat} {out : List ByteArray} (h : FrInv ws W k out) (hk : k < ws.length) (hn : n = fgE ws W k) (h1 : k + 1 ≤ n) (h2 : n ≤ ws.length) : FrInv ws W n (out ++ [txN ws k (n - k)]) := by
  obtain ⟨g1, g2, f, g3, g4⟩ := h
  obtain ⟨g, rfl⟩ : ∃ g, f = g + 1 := ⟨f - 1, by omega⟩
  rw [fgR, if_pos hk, ← hn] at g4
  exact ⟨h2, by simp; omega, g, by omega, g4⟩
theorem FrInv.done {ws : List ByteArray} {W : Int} {k : Nat} {out : List ByteArray} (h : FrInv ws W k out) (hk : ¬ k < ws.length) : out = fgR ws W ws.length 0 [] := by
  obtain ⟨g1, g2, f, g3, g4⟩ := h
  cases f with
  | zero => exact g4
  | succ f => rw [fgR, if_neg hk] at g4; exact g4
theorem wRun_small (s : ByteArray) : ∀ n k out word, out.length ≤ k → word.size ≤ k → (∀ x ∈ out, x.size ≤ k) → (wRun s n k out word).length ≤ k + n ∧ ∀ x ∈ wRun s n k out word, x.size ≤ k + n
  | 0, k, out, word, h1, h2, h3 => ⟨h1, h3⟩
  | n + 1, k, out, word, h1, h2, h3 => by
    have e : k + (n + 1) = k + 1 + n := by omega
    rw [wRun, e]
    split
    · exact wRun_small s n (k + 1) _ _ (by omega) (by rw [ByteArray.size_append, ByteArray.size_extract]; omega) fun x hx => Nat.le_succ_of_le (h3 x hx)
    · split
      · exact wRun_small s n (k + 1) _ _ (by omega) (by omega) fun x hx => Nat.le_succ_of_le (h3 x hx)
      · refine wRun_small s n (k + 1) _ _ (by simp; omega) (Nat.zero_le _) fun x hx => ?_
        rcases List.mem_append.1 hx with h | h
        · exact Nat.le_succ_of_le (h3 x h)
        · obtain rfl : x = word := by simpa using h
          omega
theorem words_small (s : ByteArray) : (wordsL s).length ≤ 121 ∧ ∀ x ∈ wordsL s, x.size ≤ 121 := by
  unfold wordsL
  split
  · rename_i h
    have h120 := valid_size h
    obtain ⟨h1, h2⟩ := wRun_small s (s.size + 1) 0 [] ⟨#[]⟩ (Nat.zero_le _) (Nat.zero_le _) (fun x hx => by simp at hx)
    exact ⟨by omega, fun x hx => by have := h2 x hx; omega⟩
  · exact ⟨by simp, fun x hx => by simp at hx⟩
theorem Row.grown1 {w w' : World} {B : Nat} {A : Option Addr} {xs : List Value} {row : Option Nat} (h : Row w B A xs) (hg : w.grownBy w' row) (hB : B ≤ w.heap.size) (hne : ∀ a, A = some a → row ≠ some a.block) : Row w' B A xs := by
  intro j u hj
  obtain ⟨b, o, rfl, hb, hc⟩ := h j u hj
  exact ⟨b, o, rfl, hb, (hg.cell_far ⟨b, o + j, none⟩ (show b < w.heap.size by omega) (Ne.symm (hne ⟨b, o, none⟩ rfl))).trans hc⟩
theorem own_block {w : World} {base size n c : Nat} {e : TypeId} {A : Option Addr} {xs : List Value} (h : w.ownsRow base e size (.slice A n c) n xs) (a : Addr) (ha : A = some a) : base ≤ a.block := by
  subst ha
  rcases h.2 with ⟨h1, _⟩ | ⟨g, cap, cur, h1, h2, _⟩
  · cases h1
  · injection h1 with h1
    injection h1 with h1
    subst h1
    exact h2
set_option maxRecDepth 100000 in
theorem sFG_any (s : ByteArray) (W : Int) (w : World) (hs : s.size ≤ maxLen) :
    Calls Tryd.prog 12 #[.string s, .int .i64 W] w (StrsPost (fgL s W) w) := by
  have hs' := hs
  unfold maxLen at hs'
  obtain ⟨i0, hi, hz0, hz1, hz2⟩ := info_parts infoStr
  obtain ⟨B, hB⟩ : ∃ B, w.heap.size = B := ⟨_, rfl⟩
  have hmade : (w.alloc (.cells #[] 9)).ownsRow B 9 1 (.slice (some ⟨w.heap.size, 0, none⟩) 0 0) 0 [] := World.ownsRow_made w #[] 0 (by omega) (by decide) rfl
  have hbm : Below B w (w.alloc (.cells #[] 9)) := (Below.refl _ _).alloc (by omega) _
  have HM := Lib.hid (And.intro hmade hbm)
  have HB := Lib.hid hB
  obtain ⟨hl, hz⟩ := words_small s
  have HC := Lib.hid fun w => sWO_any s w hs
  have hfg : fgL s W = if inI W 4 40 = true then fgR (wordsL s) W (wordsL s).length 0 [] else [] := rfl
  generalize fgL s W = res at *
  generalize wordsL s = ws at *
  have HF := Lib.hid hfg
  have HZ := Lib.hid hz
  clear hmade hbm hB hfg hz
  go_enter Tryd.func12, Tryd.ntmps12
  go_wp2_with fail
  refine (HC.out _).mono ?_
  rintro e W1 ⟨A, c, rfl, ho, hb⟩
  have hr := Row.of_own ho
  have hown0 := own_below1 HM.out.1 hb
  have hb0 := HM.out.2.trans (hb.mono (by have := HB.out; simp; omega))
  have hn0 : ∀ a, A = some a → (Value.slice (some ⟨w.heap.size, 0, none⟩) 0 0).ownBlock ≠ some a.block := by
    intro a ha h
    have h : some w.heap.size = some a.block := h
    injection h with h
    have := own_block ho a ha
    simp at this
    omega
  have HN := Lib.hid hn0
  have HO := Lib.hid (And.intro hown0 hb0)
  clear ho hown0 hb0 hn0
  cases hin : inI W 4 40
  · have HE : Hid (res = []) := Lib.hid (by rw [HF.out, if_neg (by simp [hin])])
    have HP : Hid (StrsPost res w (.returned (.slice (some ⟨w.heap.size, 0, none⟩) 0 0)) W1) := Lib.hid (by
      rw [HE.out]
      have h := HO.out
      rw [← HB.out] at h
      exact ⟨_, 0, rfl, h.1, h.2⟩)
    by_cases h0 : 0 < ws.length
    · have h0' : (0 : Int) < (ws.length : Int) := by omega
      have HI := Lib.hid fun w => hin ▸ l1In_any W 4 40 w
      clear h0 hin
      go_wp2_with fail
      refine wp_loop_rounds 1 ?_
      rw [rounds_succ]
      go_wp2_with fail
      refine (HI.out _).mono ?_
      rintro e w' ⟨rfl, rfl⟩
      go_wp2_with fail
      go_ret
      exact HP.out
    · have h0' : (ws.length : Int) ≤ 0 := by omega
      clear h0 hin
      go_wp2_with fail
      refine wp_loop_rounds 1 ?_
      rw [rounds_succ]
      go_wp2_with fail
      go_ret
      exact HP.out
  · have HE : Hid (res = fgR ws W ws.length 0 []) := Lib.hid (by rw [HF.out, if_pos hin])
    have HI := Lib.hid fun w => hin ▸ l1In_any W 4 40 w
    have hW : 4 ≤ W ∧ W ≤ 40 := by simpa [inI] using hin
    clear hin HF
    go_wp2_with fail
    go_loopw [5, 7] (fun ov kv wr => ∃ (k : Nat) (out : List ByteArray), kv = .int .i64 k ∧ FrInv ws W k out ∧ wr.ownsRow B 9 1 ov out.length (strVals out) ∧ Below B w wr ∧ Row wr W1.heap.size A (strVals ws) ∧ W1.heap.size ≤ wr.heap.size ∧ ∀ a, A = some a → ov.ownBlock ≠ some a.block) (fun _ kv _ => ws.length - (intOf kv).toNat)
    case atStart => exact ⟨0, [], rfl, FrInv.start ws W, HO.out.1, HO.out.2, hr, Nat.le_refl _, HN.out⟩
    case round =>
      obtain ⟨k, out, rfl, hinv, hown, hbw, hro, hsz, hne⟩ := hrel
      have hBz : B ≤ wr.heap.size := by have := hbw.size; have := HB.out; omega
      have hk0 : (0 : Int) ≤ (k : Int) := by omega
      have hol := hinv.2.1
      by_cases hkl : k < ws.length
      · have hkl' : (k : Int) < (ws.length : Int) := by omega
        have HIN := Lib.hid hinv
        have HS := Lib.hid (FnInv.start (W := W) hkl)
        have HRW := Lib.hid (hro.more hsz)
        have HOW := Lib.hid (And.intro hown (And.intro hbw (And.intro hro hne)))
        clear hinv hown hbw hro hne
        go_wp2_with fail
        refine (HI.out _).mono ?_
        rintro e w' ⟨rfl, rfl⟩
        go_wp2_with fail
        go_loopw [8] (fun nv wr2 => ∃ n : Nat, nv = .int .i64 n ∧ FnInv ws W k n ∧ wr = wr2) (fun nv _ => ws.length - (intOf nv).toNat)
        case atStart => exact ⟨k + 1, by go_num, HS.out, rfl⟩
        case round =>
          obtain ⟨n, rfl, hn, rfl⟩ := hrel
          obtain ⟨n1, n2, _⟩ := id hn
          have hn0 : (0 : Int) ≤ (n : Int) := by omega
          by_cases hfit : n < ws.length ∧ ((n + 1 : Nat) : Int) - k - 1 + szN ws k (n + 1 - k) ≤ W
          · have HNX := Lib.hid (hn.step hfit.1 hfit.2)
            have hcz := sSz_any A ws.length c ws k (n + 1) wr HRW.out rfl (by omega) HZ.out (by omega) (by omega)
            have hnl' : (n : Int) < (ws.length : Int) := by omega
            rw [show ((n + 1 : Nat) : Int) = (n : Int) + 1 by omega] at hcz hfit
            obtain ⟨v, hv⟩ : ∃ v, (n : Int) + 1 - k - 1 + szN ws k (n + 1 - k) = v := ⟨_, rfl⟩
            rw [hv] at hcz hfit
            have hvW : v ≤ W := hfit.2
            have HCZ := Lib.hid hcz
            clear hn hcz hfit hv
            go_wp2_with fail
            refine (HCZ.out).mono ?_
            rintro e w' ⟨rfl, rfl⟩
            go_wp2_with fail
            go_roundw
            case rel => exact ⟨n + 1, by go_num, HNX.out, by first | trivial | rfl⟩
            case measure => (simp [intOf] <;> omega)
          · have hE := hn.done hfit
            have HFR := Lib.hid (HIN.out.step hkl hE n1 n2)
            have HTX := Lib.hid (sTx_any A ws.length c ws k n wr HRW.out rfl (by omega) HZ.out (by omega) n2)
            have hnn : ((ws.length : Int) ≤ (n : Int)) ∨ (∃ v : Int, (n : Int) < (ws.length : Int) ∧ W < v ∧ Hid (Calls Tryd.prog 24 #[.slice A ws.length c, .int .i64 k, .int .i64 ((n : Int) + 1)] wr fun e w' => e = .returned (.int .i64 v) ∧ wr = w')) := by
              by_cases hnl : n < ws.length
              · have hcz := sSz_any A ws.length c ws k (n + 1) wr HRW.out rfl (by omega) HZ.out (by omega) (by omega)
                rw [show ((n + 1 : Nat) : Int) = (n : Int) + 1 by omega] at hcz hfit
                exact .inr ⟨_, by omega, by omega, Lib.hid hcz⟩
              · exact .inl (by omega)
            generalize txN ws k (n - k) = x at *
            clear hn hfit hE
            rcases hnn with hge | ⟨v, hnl', hvW, HCZ⟩
            rotate_right
            · go_wp2_with fail
              refine (HCZ.out).mono ?_
              rintro e w' ⟨rfl, rfl⟩
              go_wp2_with fail
              refine (HTX.out).mono ?_
              rintro e w' ⟨rfl, rfl⟩
              obtain ⟨hown, hbw, hro, hne⟩ := HOW.out
              obtain ⟨g, o, hA, hgl, _⟩ := hro.str hkl
              have HRO := Lib.hid (And.intro hro (And.intro hne hA))
              clear hro hne hA
              go_wp2_with (first | (at_builtin; refine wpList_append_lies _ rfl _ _ 22 rfl B 9 i0 (.string .empty) 1 16 Tryd.underlying22 hi hz0 hz1 hz2 rfl (by decide) _ _ _ rfl (hown.alloc _) ⟨wr.heap.size, 0, none⟩ 1 1 [.string x] rfl rfl (news1 _ _ _) (ones1 _) (by omega) (by unfold maxLen; omega) (by omega) (by simp; omega) (wr.heap.size + 1) (by simp) ?_))
              intro gg cap w1 hown' hgrow hat hlt
              obtain ⟨hown3, hbw3⟩ := str_add hbw hBz hown hown' hgrow
              have hr1 := (HRO.out.1.below ((Below.refl W1.heap.size wr).alloc hsz _)).grown1 hgrow (by simp; omega) HRO.out.2.1
              have hz1 : W1.heap.size ≤ w1.heap.size := by have := hgrow.size; simp at this; omega
              have hn1 : ∀ a, A = some a → (Value.slice (some ⟨gg, 0, none⟩) (out ++ [x]).length cap).ownBlock ≠ some a.block := by
                intro a ha h
                have h : some gg = some a.block := h
                injection h with h
                rcases hat with h2 | h2
                · exact HRO.out.2.1 a ha (by rw [h2]; exact congrArg some h)
                · have hA := HRO.out.2.2
                  rw [hA] at ha
                  injection ha with ha
                  subst ha
                  simp only at h
                  omega
              have HZZ := Lib.hid (And.intro hown3 (And.intro hbw3 (And.intro hr1 (And.intro hz1 hn1))))
              clear hown hbw hown' hgrow hat hown3 hbw3 hr1 hn1
              go_wp2_with fail
              go_roundw
              case rel => exact ⟨n, out ++ [x], rfl, HFR.out, by simpa using HZZ.out.1, HZZ.out.2.1, HZZ.out.2.2.1, HZZ.out.2.2.2.1, by simpa using HZZ.out.2.2.2.2⟩
              case measure => (simp [intOf] <;> omega)
            · skip
              go_wp2_with fail
              refine (HTX.out).mono ?_
              rintro e w' ⟨rfl, rfl⟩
              obtain ⟨hown, hbw, hro, hne⟩ := HOW.out
              obtain ⟨g, o, hA, hgl, _⟩ := hro.str hkl
              have HRO := Lib.hid (And.intro hro (And.intro hne hA))
              clear hro hne hA
              go_wp2_with (first | (at_builtin; refine wpList_append_lies _ rfl _ _ 22 rfl B 9 i0 (.string .empty) 1 16 Tryd.underlying22 hi hz0 hz1 hz2 rfl (by decide) _ _ _ rfl (hown.alloc _) ⟨wr.heap.size, 0, none⟩ 1 1 [.string x] rfl rfl (news1 _ _ _) (ones1 _) (by omega) (by unfold maxLen; omega) (by omega) (by simp; omega) (wr.heap.size + 1) (by simp) ?_))
              intro gg cap w1 hown' hgrow hat hlt
              obtain ⟨hown3, hbw3⟩ := str_add hbw hBz hown hown' hgrow
              have hr1 := (HRO.out.1.below ((Below.refl W1.heap.size wr).alloc hsz _)).grown1 hgrow (by simp; omega) HRO.out.2.1
              have hz1 : W1.heap.size ≤ w1.heap.size := by have := hgrow.size; simp at this; omega
              have hn1 : ∀ a, A = some a → (Value.slice (some ⟨gg, 0, none⟩) (out ++ [x]).length cap).ownBlock ≠ some a.block := by
                intro a ha h
                have h : some gg = some a.block := h
                injection h with h
                rcases hat with h2 | h2
                · exact HRO.out.2.1 a ha (by rw [h2]; exact congrArg some h)
                · have hA := HRO.out.2.2
                  rw [hA] at ha
                  injection ha with ha
                  subst ha
                  simp only at h
                  omega
              have HZZ := Lib.hid (And.intro hown3 (And.intro hbw3 (And.intro hr1 (And.intro hz1 hn1))))
              clear hown hbw hown' hgrow hat hown3 hbw3 hr1 hn1
              go_wp2_with fail
              go_roundw
              case rel => exact ⟨n, out ++ [x], rfl, HFR.out, by simpa using HZZ.out.1, HZZ.out.2.1, HZZ.out.2.2.1, HZZ.out.2.2.2.1, by simpa using HZZ.out.2.2.2.2⟩
              case measure => (simp [intOf] <;> omega)
      · have hks' : (ws.length : Int) ≤ (k : Int) := by omega
        have HD := Lib.hid (hinv.done hkl)
        obtain ⟨A', c', rfl⟩ := own_form3 hown
        have hp : StrsPost res w (.returned (.slice A' out.length c')) wr := by
          rw [HE.out, ← HD.out]
          have hB := HB.out
          exact ⟨A', c', rfl, by rw [hB]; exact hown, by rw [hB]; exact hbw⟩
        have HP := Lib.hid hp
        clear hinv hp hown hbw hro hne
        go_wp2_with fail
        go_ret
        exact HP.out
end Go.Proofs.YtlnldnenkajcdaaDoor
