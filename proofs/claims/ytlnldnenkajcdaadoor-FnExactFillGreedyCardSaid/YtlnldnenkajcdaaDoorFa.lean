/- Words in plain words, and the reference's WordsOf. -/
import Derived.Test.YtlnldnenkajcdaaDoorNl
import Derived.Test.YtlnldnenkajcdaaDoorSs
set_option linter.unusedVariables false
set_option linter.unusedSimpArgs false
namespace Go.Proofs.YtlnldnenkajcdaaDoor
open Go.RowKit
def StrsPost (ss : List ByteArray) (w : World) (e : Ending) (w' : World) : Prop :=
  ∃ (A : Option Addr) (c : Nat), e = .returned (.slice A ss.length c) ∧ w'.ownsRow w.heap.size 9 1 (.slice A ss.length c) ss.length (strVals ss) ∧ Below w.heap.size w w'
/-- Is there a byte of a word at place k? -/
def wb (s : ByteArray) (k : Nat) : Bool := decide (k < s.size) && (byteI s k != 32) && !isNl s k
def wRun (s : ByteArray) : Nat → Nat → List ByteArray → ByteArray → List ByteArray
  | 0, _, out, _ => out
  | n + 1, k, out, word => if wb s k = true then wRun s n (k + 1) out (word ++ s.extract k (k + 1)) else if word = ⟨#[]⟩ then wRun s n (k + 1) out word else wRun s n (k + 1) (out ++ [word]) ⟨#[]⟩
def wordsL (s : ByteArray) : List ByteArray := if valid s.data.toList = true then wRun s (s.size + 1) 0 [] ⟨#[]⟩ else []
def WdInv (s : ByteArray) (k : Nat) (out : List ByteArray) (word : ByteArray) : Prop :=
  wRun s (s.size + 1 - k) k out word = wordsL s ∧ out.length ≤ k ∧ word.size ≤ k ∧ ∀ x ∈ out, x.size ≤ s.size + 1
theorem WdInv.start {s : ByteArray} (hv : valid s.data.toList = true) : WdInv s 0 [] ⟨#[]⟩ := ⟨by unfold wordsL; rw [if_pos hv]; rfl, Nat.zero_le _, Nat.le_refl _, fun x hx => by simp at hx⟩
theorem WdInv.more {s : ByteArray} {k : Nat} {out : List ByteArray} {word : ByteArray} (h : WdInv s k out word) (hk : k ≤ s.size) (hb : wb s k = true) : WdInv s (k + 1) out (word ++ s.extract k (k + 1)) := by
  obtain ⟨h1, h2, h3, h4⟩ := h
  refine ⟨?_, by omega, ?_, h4⟩
  · rw [show s.size + 1 - k = (s.size + 1 - (k + 1)) + 1 by omega] at h1
    rw [← h1]
    conv => rhs; rw [wRun]
    rw [if_pos hb]
  · rw [ByteArray.size_append, ByteArray.size_extract]; omega
theorem WdInv.skip {s : ByteArray} {k : Nat} {out : List ByteArray} (h : WdInv s k out ⟨#[]⟩) (hk : k ≤ s.size) (hb : wb s k = false) : WdInv s (k + 1) out ⟨#[]⟩ := by
  obtain ⟨h1, h2, h3, h4⟩ := h
  refine ⟨?_, by omega, Nat.zero_le _, h4⟩
  rw [show s.size + 1 - k = (s.size + 1 - (k + 1)) + 1 by omega] at h1
  rw [← h1]
  conv => rhs; rw [wRun]
  rw [if_neg (by simp [hb]), if_pos rfl]
theorem WdInv.put {s : ByteArray} {k : Nat} {out : List ByteArray} {word : ByteArray} (h : WdInv s k out word) (hk : k ≤ s.size) (hb : wb s k = false) (hw : word ≠ ⟨#[]⟩) : WdInv s (k + 1) (out ++ [word]) ⟨#[]⟩ := by
  obtain ⟨h1, h2, h3, h4⟩ := h
  refine ⟨?_, by simp; omega, Nat.zero_le _, fun x hx => ?_⟩
  · rw [show s.size + 1 - k = (s.size + 1 - (k + 1)) + 1 by omega] at h1
    rw [← h1]
    conv => rhs; rw [wRun]
    rw [if_neg (by simp [hb]), if_neg hw]
  · rcases List.mem_append.1 hx with h | h
    · exact h4 x h
    · obtain rfl : x = word := by simpa using h
      omega
theorem WdInv.done {s : ByteArray} {k : Nat} {out : List ByteArray} {word : ByteArray} (h : WdInv s k out word) (hk : ¬ k ≤ s.size) : out = wordsL s := by
  rw [← h.1, show s.size + 1 - k = 0 by omega]; rfl
theorem word_ne {x : ByteArray} (h : x ≠ ⟨#[]⟩) : x.toList.isEmpty = false := by
  rw [ByteArray.toList_eq]
  cases hl : x.data.toList with
  | nil =>
    refine absurd ?_ h
    obtain ⟨⟨l⟩⟩ := x
    simp only at hl
    rw [hl]
  | cons _ _ => rfl
theorem strVals_snoc (ss : List ByteArray) (x : ByteArray) : strVals ss ++ [.string x] = strVals (ss ++ [x]) := by simp [strVals]
theorem news1 (W : World) (T : TypeId) (a : Value) : ∀ (j : Nat) (u : Value), [a][j]? = some u → (W.alloc (.cells #[a] T)).cell? ((⟨W.heap.size, 0, none⟩ : Addr).add j) = some u := by
  intro j u hj
  match j, hj with
  | 0, hj => simp at hj; subst hj; simp [Addr.add]
theorem ones1 (x : ByteArray) : ∀ u ∈ [Value.string x], u.oneCell' = true := by
  intro u hu; simp at hu; subst hu; rfl
theorem own_form3 {w : World} {base e size n : Nat} {v : Value} {xs : List Value} (h : w.ownsRow base e size v n xs) : ∃ A c, v = .slice A n c := by
  rcases h.2 with ⟨h1, h2⟩ | ⟨g, cap, cur, h1, _⟩
  · exact ⟨none, 0, by rw [h1, h2]⟩
  · exact ⟨_, cap, h1⟩
theorem str_add {W1 wr w1 : World} {B T : Nat} {v v' : Value} {xs : List ByteArray} {a : ByteArray} (hb : Below B W1 wr) (hB : B ≤ wr.heap.size)
    (hown : wr.ownsRow B T 1 v xs.length (strVals xs)) (hown' : w1.ownsRow B T 1 v' (xs.length + 1) (strVals xs ++ [.string a])) (hgrow : (wr.alloc (.cells #[.string a] T)).grownBy w1 v.ownBlock) :
    w1.ownsRow B T 1 v' (xs ++ [a]).length (strVals (xs ++ [a])) ∧ Below B W1 w1 := by
  refine ⟨?_, (hb.alloc hB _).grown hgrow (by simp; omega) (fun k hk => ((hown.alloc (.cells #[.string a] T)).lt k hk).1)⟩
  rw [← strVals_snoc, show (xs ++ [a]).length = xs.length + 1 by simp]
  exact hown'
set_option maxRecDepth 100000 in
theorem sWO_any (s : ByteArray) (w : World) (hs : s.size ≤ maxLen) :
    Calls Tryd.prog 7 #[.string s] w (StrsPost (wordsL s) w) := by
  have hs' := hs
  unfold maxLen at hs'
  obtain ⟨i0, hi, hz0, hz1, hz2⟩ := info_parts infoStr
  obtain ⟨B, hB⟩ : ∃ B, w.heap.size = B := ⟨_, rfl⟩
  have hmade : (w.alloc (.cells #[] 9)).ownsRow B 9 1 (.slice (some ⟨w.heap.size, 0, none⟩) 0 0) 0 [] := World.ownsRow_made w #[] 0 (by omega) (by decide) rfl
  have hbm : Below B w (w.alloc (.cells #[] 9)) := (Below.refl _ _).alloc (by omega) _
  have HM := Lib.hid (And.intro hmade hbm)
  have HB := Lib.hid hB
  clear hmade hbm hB
  have H1 := Lib.hid fun w => sTV_any s w hs
  cases hv : valid s.data.toList
  · have hp : StrsPost (wordsL s) w (.returned (.slice (some ⟨w.heap.size, 0, none⟩) 0 0)) (w.alloc (.cells #[] 9)) := by
      have e : wordsL s = [] := by unfold wordsL; rw [if_neg (by simp [hv])]
      rw [e]
      have h1 := HM.out
      rw [← HB.out] at h1
      exact ⟨_, 0, rfl, h1.1, h1.2⟩
    have HP := Lib.hid hp
    have H1 := Lib.hid (fun w => hv ▸ sTV_any s w hs)
    clear hp hv
    go_enter Tryd.func7, Tryd.ntmps7
    go_wp2_with fail
    refine wp_loop_rounds 1 ?_
    rw [rounds_succ]
    go_wp2_with fail
    refine (H1.out _).mono ?_
    rintro e w' ⟨rfl, rfl⟩
    go_wp2_with fail
    go_ret
    exact HP.out
  · have h120 := valid_size hv
    have H1 := Lib.hid (fun w => hv ▸ sTV_any s w hs)
    have HS := Lib.hid (WdInv.start hv)
    have HMO := Lib.hid (fun k out word (h : WdInv s k out word) hk hb => h.more hk hb)
    have HSK := Lib.hid (fun k out (h : WdInv s k out ⟨#[]⟩) hk hb => h.skip hk hb)
    have HPU := Lib.hid (fun k out word (h : WdInv s k out word) hk hb hw => h.put hk hb hw)
    have HDO := Lib.hid (fun k out word (h : WdInv s k out word) hk => h.done hk)
    have HLE := Lib.hid (fun k out word (h : WdInv s k out word) => (show out.length ≤ k ∧ word.size ≤ k from ⟨h.2.1, h.2.2.1⟩))
    clear hv
    go_enter Tryd.func7, Tryd.ntmps7
    go_wp2_with fail
    go_loopw [3, 4, 5] (fun ov xv iv wr => ∃ (k : Nat) (out : List ByteArray) (word : ByteArray), iv = .int .i64 k ∧ xv = .string word ∧ k ≤ s.size + 1 ∧ WdInv s k out word ∧ wr.ownsRow B 9 1 ov out.length (strVals out) ∧ Below B w wr) (fun _ _ iv _ => s.size + 1 - (intOf iv).toNat)
    case atStart => exact ⟨0, [], ⟨#[]⟩, rfl, rfl, Nat.zero_le _, HS.out, HM.out.1, HM.out.2⟩
    case round =>
      obtain ⟨k, out, word, rfl, rfl, hk, hinv, hown, hbw⟩ := hrel
      have hBz : B ≤ wr.heap.size := by have := hbw.size; have := HB.out; omega
      obtain ⟨l1, l2⟩ := HLE.out k out word hinv
      have hk0 : (0 : Int) ≤ (k : Int) := by omega
      by_cases hks : k ≤ s.size
      · have hks' : (k : Int) ≤ (s.size : Int) := by omega
        have hcase : ((s.size : Int) ≤ (k : Int) ∧ wb s k = false) ∨ (∃ h : k < s.size, ((s[k].toNat : Int) != 32) = false ∧ wb s k = false) ∨ (∃ h : k < s.size, ((s[k].toNat : Int) != 32) = true ∧ ((s[k].toNat : Int) != 10) = false ∧ wb s k = false) ∨ (∃ h : k < s.size, ((s[k].toNat : Int) != 32) = true ∧ ((s[k].toNat : Int) != 10) = true ∧ wb s k = true) := by
          by_cases h : k < s.size
          · have hnl := nl_at h
            have hby := byteI_at h
            cases h1 : ((s[k].toNat : Int) != 32)
            · exact .inr (.inl ⟨h, h1, by unfold wb; rw [hby, h1]; simp⟩)
            · cases h2 : ((s[k].toNat : Int) != 10)
              · refine .inr (.inr (.inl ⟨h, h1, h2, ?_⟩))
                have : isNl s k = true := by rw [hnl]; simpa [bne] using h2
                unfold wb; rw [this]; simp
              · refine .inr (.inr (.inr ⟨h, h1, h2, ?_⟩))
                have : isNl s k = false := by rw [hnl]; simpa [bne] using h2
                unfold wb; rw [this, hby, h1]; simp [h]
          · exact .inl ⟨by omega, by unfold wb; simp [h]⟩
        rcases hcase with ⟨h, hb⟩ | ⟨h, e1, hb⟩ | ⟨h, e1, e2, hb⟩ | ⟨h, e1, e2, hb⟩
        rotate_right
        · have HN := Lib.hid (HMO.out k out word hinv hks hb)
          have hkl : (k : Int) < (s.size : Int) := by omega
          have hk1 : (k : Int) + 1 ≤ (s.size : Int) := by omega
          have hz : word.size + 1 ≤ 200 := by omega
          clear hinv hb
          go_wp2_with fail
          refine (H1.out _).mono ?_
          rintro e w' ⟨rfl, rfl⟩
          go_wp2_with fail
          go_roundw
          case rel => exact ⟨k + 1, out, _, by go_num, rfl, by omega, HN.out, hown, hbw⟩
          case measure => (simp [intOf] <;> omega)
        all_goals
          first
            | have hkl : (k : Int) < (s.size : Int) := by omega
            | skip
          by_cases hw : word = ⟨#[]⟩
          · subst hw
            have HN := Lib.hid (HSK.out k out hinv hks hb)
            clear hinv hb
            go_wp2_with fail
            refine (H1.out _).mono ?_
            rintro e w' ⟨rfl, rfl⟩
            go_wp2_with fail
            go_roundw
            case rel => exact ⟨k + 1, out, _, by go_num, rfl, by omega, HN.out, hown, hbw⟩
            case measure => (simp [intOf] <;> omega)
          · have HN := Lib.hid (HPU.out k out word hinv hks hb hw)
            have hwe := word_ne hw
            have hwe2 : (!word.toList.isEmpty) = true := by rw [hwe]; rfl
            have HW := Lib.hid hw
            clear hinv hb hw
            go_wp2_with fail
            refine (H1.out _).mono ?_
            rintro e w' ⟨rfl, rfl⟩
            go_wp2_with (first | (at_builtin; refine wpList_append_own _ rfl _ _ 22 rfl B 9 i0 (.string .empty) 1 16 Tryd.underlying22 hi hz0 hz1 hz2 rfl (by decide) _ _ _ rfl (hown.alloc _) ⟨wr.heap.size, 0, none⟩ 1 1 [.string word] rfl rfl (news1 _ _ _) (ones1 _) (by unfold maxLen; omega) (by omega) (by simp; omega) ?_))
            intro v' w1 hown' hgrow _
            obtain ⟨hown3, hbw3⟩ := str_add hbw hBz hown hown' hgrow
            clear hown' hgrow hown hbw
            go_wp2_with fail
            go_roundw
            case rel => exact ⟨k + 1, _, _, by go_num, rfl, by omega, HN.out, hown3, hbw3⟩
            case measure => (simp [intOf] <;> omega)
      · have hks' : (s.size : Int) < (k : Int) := by omega
        have HD := Lib.hid (HDO.out k out word hinv hks)
        obtain ⟨A, c, rfl⟩ := own_form3 hown
        have hp : StrsPost (wordsL s) w (.returned (.slice A out.length c)) wr := by
          rw [← HD.out]
          have hB := HB.out
          refine ⟨A, c, rfl, ?_, ?_⟩
          · rw [hB]; exact hown
          · rw [hB]; exact hbw
        have HP := Lib.hid hp
        clear hinv hp hown hbw
        go_wp2_with fail
        go_ret
        exact HP.out
end Go.Proofs.YtlnldnenkajcdaaDoor
