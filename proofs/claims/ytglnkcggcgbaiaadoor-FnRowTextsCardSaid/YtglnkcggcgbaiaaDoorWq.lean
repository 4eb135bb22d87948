/- The contracts of RowTexts, of the program and of the reference. -/
import Derived.Test.YtglnkcggcgbaiaaDoorWj
import Derived.Test.YtglnkcggcgbaiaaDoorWk
import Derived.Test.YtglnkcggcgbaiaaDoorWm
import Derived.Test.YtglnkcggcgbaiaaDoorSs
set_option linter.unusedVariables false
set_option linter.unusedSimpArgs false
namespace Go.Proofs.YtglnkcggcgbaiaaDoor
open Go.RowKit
def cutT (s : ByteArray) (x : Int × Int) : ByteArray := s.extract x.1.toNat x.2.toNat
/-- The texts of the rows. -/
def rtL (s : ByteArray) (W : Int) : List ByteArray := (rowsL s W).map (cutT s)
theorem rt_len (s : ByteArray) (W : Int) : (rtL s W).length = (rowsL s W).length := by simp [rtL]
theorem rt_at {s : ByteArray} {W : Int} {k : Nat} (hk : k < (rowsL s W).length) : ∃ a b : Nat, (rowsL s W)[k] = ((a : Int), (b : Int)) ∧ a ≤ b ∧ b ≤ s.size ∧ (rtL s W)[k]? = some (s.extract a b) := by
  by_cases h : wOk s W = true
  · obtain ⟨hv, n, rfl, _⟩ := wOk_s h
    obtain ⟨h1, h2, h3, _⟩ := rows_at h hk
    refine ⟨_, _, h1, h2, h3, ?_⟩
    unfold rtL
    rw [List.getElem?_map, List.getElem?_eq_getElem hk, h1]
    rfl
  · have hr : rowsL s W = [] := by unfold rowsL; rw [if_neg h]
    rw [hr] at hk
    exact absurd hk (by simp)
theorem take_str {ss : List ByteArray} {k : Nat} {x : ByteArray} (h : ss[k]? = some x) : strVals (ss.take k) ++ [.string x] = strVals (ss.take (k + 1)) := by
  simp [strVals, List.take_add_one, h]
theorem news1 (W : World) (T : TypeId) (a : Value) : ∀ (j : Nat) (u : Value), [a][j]? = some u → (W.alloc (.cells #[a] T)).cell? ((⟨W.heap.size, 0, none⟩ : Addr).add j) = some u := by
  intro j u hj
  match j, hj with
  | 0, hj => simp at hj; subst hj; simp [Addr.add]
theorem news1b (W : World) (o : Obj) (T : TypeId) (a : Value) : ∀ (j : Nat) (u : Value), [a][j]? = some u → ((W.alloc o).alloc (.cells #[a] T)).cell? ((⟨W.heap.size + 1, 0, none⟩ : Addr).add j) = some u := by
  have h := news1 (W.alloc o) T a
  have e : (W.alloc o).heap.size = W.heap.size + 1 := by simp
  rw [e] at h
  exact h
theorem ones1 (x : ByteArray) : ∀ u ∈ [Value.string x], u.oneCell' = true := by
  intro u hu; simp at hu; subst hu; rfl
theorem own_le {w : World} {base base' size n : Nat} {e : TypeId} {v : Value} {xs : List Value} (h : w.ownsRow base e size v n xs) (hb : base' ≤ base) : w.ownsRow base' e size v n xs := by
  refine ⟨h.1, ?_⟩
  rcases h.2 with g | ⟨g, cap, cur, h1, h2, h3⟩
  · exact .inl g
  · exact .inr ⟨g, cap, cur, h1, Nat.le_trans hb h2, h3⟩
def StrsPost (ss : List ByteArray) (w : World) (e : Ending) (w' : World) : Prop :=
  ∃ (A : Option Addr) (c : Nat), e = .returned (.slice A ss.length c) ∧ w'.ownsRow w.heap.size 9 1 (.slice A ss.length c) ss.length (strVals ss) ∧ Below w.heap.size w w'
/-- A row of another block reads as before an append. -/
theorem Row.grown1 {w w' : World} {B : Nat} {A : Option Addr} {xs : List Value} {row : Option Nat} (h : Row w B A xs) (hg : w.grownBy w' row) (hB : B ≤ w.heap.size) (hne : ∀ a, A = some a → row ≠ some a.block) : Row w' B A xs := by
  intro j u hj
  obtain ⟨b, o, rfl, hb, hc⟩ := h j u hj
  exact ⟨b, o, rfl, hb, (hg.cell_far ⟨b, o + j, none⟩ (show b < w.heap.size by omega) (Ne.symm (hne ⟨b, o, none⟩ rfl))).trans hc⟩
theorem own_block {w : World} {base size n c : Nat} {e : TypeId} {A : Option Addr} {xs : List Value} (h : w.ownsRow base e size (.slice A n c) n xs) (a : Addr) (ha : A = some a) : base ≤ a.block := by
  subst ha
  rcases h.2 with ⟨h1, _⟩ | ⟨g, cap, cur, h1, h2, _⟩
  · cases h1
  · injection h1 with h1
    injection h1 with h1
    subst h1
    exact h2
/-- The answer of a loop that took all texts. -/
theorem strs_end {ss : List ByteArray} {w W1 wr : World} {v : Value} {n : Nat} (hown : wr.ownsRow W1.heap.size 9 1 v n (strVals (ss.take n))) (hn : n = ss.length) (hb : Below w.heap.size w W1) (hbw : Below W1.heap.size W1 wr) :
    StrsPost ss w (.returned v) wr := by
  subst hn
  rw [List.take_length] at hown
  obtain ⟨A, c, rfl⟩ := own_form2 hown
  exact ⟨A, c, rfl, own_le hown hb.size, hb.trans (hbw.mono hb.size)⟩
theorem strs_end0 {ss : List ByteArray} {w wr : World} {v : Value} {n B : Nat} (hown : wr.ownsRow B 9 1 v n (strVals (ss.take n))) (hn : n = ss.length) (hB : w.heap.size = B) (hb : Below B w wr) :
    ∀ u, u = v → StrsPost ss w (.returned u) wr := by
  rintro u rfl
  subst hB
  exact strs_end hown hn (Below.refl _ _) hb
set_option maxRecDepth 100000 in
theorem iRT_any (s : ByteArray) (W : Int) (w : World) (hs : s.size ≤ maxLen) (hM : ML w) :
    Calls Tryd.prog 22 #[.string s, .int .i64 W] w (StrsPost (rtL s W) w) := by
  have hs' := hs
  unfold maxLen at hs'
  obtain ⟨i0, hi, hz0, hz1, hz2⟩ := info_parts infoStr
  have hlen := rows_small s W
  have hat := fun k hk => rt_at (s := s) (W := W) (k := k) hk
  have hl := rt_len s W
  have hc := iWR_any s W w hs hM
  generalize rtL s W = ss at *
  generalize rowsL s W = xs at *
  have HC := Lib.hid hc
  have HAT := Lib.hid hat
  have HL := Lib.hid hl
  clear hc hat hl
  go_enter Tryd.func22, Tryd.ntmps22
  go_wp2_with fail
  refine (HC.out).mono ?_
  rintro e W1 ⟨A, c, rfl, ho, hb⟩
  have hr := Row.of_own2 ho
  clear ho
  go_wp2_with fail
  go_loopw [5, 12] (fun ov iv wr => ∃ k : Nat, k ≤ xs.length ∧ iv = .int .i64 k ∧ wr.ownsRow W1.heap.size 9 1 ov k (strVals (ss.take k)) ∧ Below W1.heap.size W1 wr) (fun _ iv _ => xs.length - (intOf iv).toNat)
  case atStart => exact ⟨0, Nat.zero_le _, rfl, World.ownsRow_nil _ _ _ _, Below.refl _ _⟩
  case round =>
    obtain ⟨k, hk, rfl, hown, hbw⟩ := hrel
    by_cases hkx : k < xs.length
    · obtain ⟨a, b, g1, g2, g3, g4⟩ := HAT.out k hkx
      obtain ⟨g, o, rfl, hbb, c0, c1⟩ := (hr.below hbw).pair hkx
      rw [g1] at c0 c1
      simp only at c0 c1
      have hk' : (k : Int) < (xs.length : Int) := by omega
      have hk0 : (0 : Int) ≤ (k : Int) := by omega
      have ha0 : (0 : Int) ≤ (a : Int) := by omega
      have hab : (a : Int) ≤ (b : Int) := by omega
      have hbs : (b : Int) ≤ (s.size : Int) := by omega
      have hBz : W1.heap.size ≤ wr.heap.size := hbw.size
      have HT := Lib.hid (take_str g4)
      have hown2 := hown.alloc (.cells #[.int .i64 a, .int .i64 b] 41)
      have hlt := fun k hk => hown.lt k hk
      have hb2 := hbw.alloc hBz (.cells #[.int .i64 a, .int .i64 b] 41)
      have HB2 := Lib.hid hb2
      have HLT := Lib.hid hlt
      clear g1 g4 hb2 hown hbw hlt
      go_wp2_with (first | (at_builtin; refine wpList_append_own _ rfl _ _ 31 rfl W1.heap.size 9 i0 (.string .empty) 1 16 Tryd.underlying31 hi hz0 hz1 hz2 rfl (by decide) _ _ _ rfl (hown2.alloc _) ⟨wr.heap.size + 1, 0, none⟩ 1 1 [.string (s.extract a b)] rfl rfl (news1b _ _ _ _) (ones1 _) (by unfold maxLen; omega) (by omega) (by simp; omega) ?_))
      intro v' w1 hown' hgrow _
      have hb1 : Below W1.heap.size W1 w1 := (HB2.out.alloc (by simp; omega) _).grown hgrow (by simp; omega) (fun k hk => ((hown2.alloc (.cells #[.string (s.extract a b)] 9)).lt k hk).1)
      rw [HT.out] at hown'
      clear hown2 hgrow HB2 HLT
      go_wp2_with fail
      go_roundw
      case rel => exact ⟨k + 1, by omega, by go_num, hown', hb1⟩
      case measure => (simp [intOf] <;> omega)
    · obtain rfl : k = xs.length := by omega
      have HE := Lib.hid (strs_end hown HL.out.symm hb hbw)
      clear hown hbw
      go_wp2_with fail
      go_ret
      exact HE.out
set_option maxRecDepth 100000 in
theorem sRT_any (s : ByteArray) (W : Int) (w : World) (hs : s.size ≤ maxLen) :
    Calls Tryd.prog 21 #[.string s, .int .i64 W] w (StrsPost (rtL s W) w) := by
  have hs' := hs
  unfold maxLen at hs'
  obtain ⟨i0, hi, hz0, hz1, hz2⟩ := info_parts infoStr
  have hlen := rows_small s W
  have hat := fun k hk => rt_at (s := s) (W := W) (k := k) hk
  have hl := rt_len s W
  obtain ⟨B, hB⟩ : ∃ B, w.heap.size = B := ⟨_, rfl⟩
  have hmade : (w.alloc (.cells #[] 9)).ownsRow B 9 1 (.slice (some ⟨w.heap.size, 0, none⟩) 0 0) 0 [] := World.ownsRow_made w #[] 0 (by omega) (by decide) rfl
  have hbm : Below B w (w.alloc (.cells #[] 9)) := (Below.refl _ _).alloc (by omega) _
  have HM := Lib.hid (And.intro hmade hbm)
  have HB := Lib.hid hB
  have hc := fun w => sWR_any s W w hs
  generalize rtL s W = ss at *
  generalize rowsL s W = xs at *
  have HC := Lib.hid hc
  have HAT := Lib.hid hat
  have HL := Lib.hid hl
  clear hc hat hl hmade hbm hB
  go_enter Tryd.func21, Tryd.ntmps21
  go_wp2_with fail
  refine (HC.out _).mono ?_
  rintro e W1 ⟨A, c, rfl, ho, hb⟩
  have hr := Row.of_own2 ho
  have hown0 := own_below HM.out.1 hb
  have hb0 := HM.out.2.trans (hb.mono (by have := HB.out; simp; omega))
  have hn0 : ∀ a, A = some a → (Value.slice (some ⟨w.heap.size, 0, none⟩) 0 0).ownBlock ≠ some a.block := by
    intro a ha h
    have h : some w.heap.size = some a.block := h
    injection h with h
    have := own_block ho a ha
    simp at this
    omega
  have HN := Lib.hid hn0
  have HO := Lib.hid (And.intro hown0 hb0)
  clear ho hown0 hb0 hn0
  go_wp2_with fail
  go_loopw [5, 7] (fun ov iv wr => ∃ k : Nat, k ≤ xs.length ∧ iv = .int .i64 k ∧ wr.ownsRow B 9 1 ov k (strVals (ss.take k)) ∧ Below B w wr ∧ Row wr W1.heap.size A (pairs xs) ∧ W1.heap.size ≤ wr.heap.size ∧ ∀ a, A = some a → ov.ownBlock ≠ some a.block) (fun _ iv _ => xs.length - (intOf iv).toNat)
  case atStart => exact ⟨0, Nat.zero_le _, rfl, HO.out.1, HO.out.2, hr, Nat.le_refl _, HN.out⟩
  case round =>
    obtain ⟨k, hk, rfl, hown, hbw, hro, hsz, hne⟩ := hrel
    by_cases hkx : k < xs.length
    · obtain ⟨a, b, g1, g2, g3, g4⟩ := HAT.out k hkx
      obtain ⟨g, o, rfl, hbb, c0, c1⟩ := hro.pair hkx
      rw [g1] at c0 c1
      simp only at c0 c1
      have hne' := hne _ rfl
      simp only at hne'
      have hk' : (k : Int) < (xs.length : Int) := by omega
      have hk0 : (0 : Int) ≤ (k : Int) := by omega
      have ha0 : (0 : Int) ≤ (a : Int) := by omega
      have hab : (a : Int) ≤ (b : Int) := by omega
      have hbs : (b : Int) ≤ (s.size : Int) := by omega
      have hBz : B ≤ wr.heap.size := by have := hbw.size; have := HB.out; omega
      have hgz : g < wr.heap.size := by omega
      have HT := Lib.hid (take_str g4)
      have HBW := Lib.hid (And.intro hbw (And.intro hro hne))
      clear g1 g4 hbw hro hne
      go_wp2_with fail
      go_region_held3 (fun w' => w'.cell? ⟨g, o + k * 2, none⟩ = some (.int .i64 a) ∧ w'.cell? ⟨g, o + k * 2 + 1, none⟩ = some (.int .i64 b))
        (first
          | go_keep
          | (go_split_ands
             refine ⟨?_, ?_⟩
             · (rw [hgrow.cell_far _ (by simp; omega) (Ne.symm hne')]; assumption)
             · (rw [hgrow.cell_far _ (by simp; omega) (Ne.symm hne')]; assumption)))
        ((refine step_append_lies _ (by rfl) _ _ _ (by rfl) B 9 i0 _ 1 16 Tryd.underlying31 hi hz0 hz1 hz2 rfl (by omega) _ k (strVals (ss.take k)) (by rfl) (hown.alloc _).drew
              ⟨wr.heap.size, 0, none⟩ 1 1 [.string (s.extract a b)] (by rfl) (by rfl) (World.news_of_block (cs := #[.string (s.extract a b)]) (t := 9) (fr := (0, 0)) (heap_alloc_new wr _)) (by simp [Value.oneCell'])
              (by omega) (by unfold maxLen; omega) (by omega) (by simp; omega) (wr.heap.size + 1) (by simp) ?_; intro gg cap w1 hown1 hgrow hat hlt))
      have hb1 : Below B w w1 := ((HBW.out.1.alloc hBz _).drew).grown hgrow (by simp; omega) (fun k hk => (hown.lt k hk).1)
      have hr1 : Row w1 W1.heap.size _ (pairs xs) := ((HBW.out.2.1.below ((Below.refl W1.heap.size wr).alloc hsz _).drew)).grown1 hgrow (by simp; omega) HBW.out.2.2
      rw [HT.out] at hown1
      have hz1 : W1.heap.size ≤ w1.heap.size := by have := hgrow.size; simp at this; omega
      have hn1 : ∀ a : Addr, some (⟨g, o, none⟩ : Addr) = some a → (Value.slice (some ⟨gg, 0, none⟩) (k + 1) cap).ownBlock ≠ some a.block := by
        intro a ha
        injection ha with ha
        subst ha
        intro h
        have h : some gg = some g := h
        injection h with h
        rcases hat with h2 | h2
        · exact hne' (by rw [h2]; exact congrArg some h)
        · omega
      have HZ := Lib.hid (And.intro hb1 (And.intro hr1 (And.intro hz1 hn1)))
      clear hb1 hr1 hn1 hgrow hat
      go_wp2_with fail
      go_roundw
      case rel => exact ⟨k + 1, by omega, by go_num, hown1, HZ.out.1, HZ.out.2.1, HZ.out.2.2.1, HZ.out.2.2.2⟩
      case measure => (simp [intOf] <;> omega)
    · obtain rfl : k = xs.length := by omega
      have HE : Hid (∀ v, v = _ → StrsPost ss w (.returned v) wr) := Lib.hid (strs_end0 hown HL.out.symm HB.out hbw)
      clear hown hbw
      go_wp2_with fail
      go_ret
      exact HE.out _ rfl
end Go.Proofs.YtglnkcggcgbaiaaDoor
