/- The contract of the program's MatchReplace. -/
import Derived.Test.YtlnldnenkajcdaaDoorMr
import Derived.Test.YtlnldnenkajcdaaDoorMa
import Derived.Test.YtlnldnenkajcdaaDoorBu
import Derived.Test.YtlnldnenkajcdaaDoorFd
import Derived.Lib.BufferKept
set_option linter.unusedVariables false
set_option linter.unusedSimpArgs false
namespace Go.Proofs.YtlnldnenkajcdaaDoor
open Go.RowKit
theorem atF_below {T e : TypeId} {B b : Nat} {p : Value} {bs : List Value} {W W' : World} (h : Lib.BuilderAtF T e B b p bs W) (hb : Below W.heap.size W W') : Lib.BuilderAtF T e B b p bs W' := by
  obtain ⟨h1, v, h2, h3, h4⟩ := h
  have hlt : b < W.heap.size := (Array.getElem?_eq_some_iff.1 h2).1
  exact ⟨h1, v, (hb.block b hlt).trans h2, h3.kept (row := none) ⟨hb.os, hb.tape, hb.output, hb.size, fun i hi _ => hb.block i hi⟩ (by cases v.ownBlock <;> simp), h4⟩
theorem isF_below {T e : TypeId} {B b : Nat} {bs : List Value} {W W' : World} (h : Lib.IsBuilderF T e B b bs W) (hb : Below W.heap.size W W') : Lib.IsBuilderF T e B b bs W' :=
  h.elim (fun x => .inl (atF_below x hb)) (fun x => .inr (atF_below x hb))
theorem Row.of_own_kept2 {w w' : World} {base T A n c b} {xs : List Value} {u8 : TypeId} (h : w.ownsRow base T 2 (.slice A n c) n xs) (hk : Lib.OthersKept u8 (some b) w w') (hb : b < base) (hT : T ≠ u8) : Row w' w'.heap.size A xs := by
  rcases h.2 with ⟨h1, h2⟩ | ⟨g, cap, cur, h1, h2, h3, h4, h5, h6, h7⟩
  · have : xs = [] := List.eq_nil_of_length_eq_zero (by have := h.1; omega)
    subst this
    exact Row.empty
  · injection h1 with h1
    subst h1
    have h8 := hk g _ h3 (by intro e; injection e with e; omega) (by intro c fz e; injection e with _ e _; exact hT e)
    intro j u hj
    have hg : g < w'.heap.size := (Array.getElem?_eq_some_iff.1 h8).1
    refine ⟨g, 0, rfl, hg, ?_⟩
    have hc := cell_of_row w' g (0 + j) cur T (0, 0) h8
    rw [hc, Nat.zero_add]
    rw [← h7, List.getElem?_take] at hj
    split at hj
    · simpa using hj
    · cases hj
theorem bu_new {w W1 : World} (hb : Below (w.alloc (Obj.cells #[Value.pointer none, Value.slice none 0 0] 48)).heap.size (w.alloc (Obj.cells #[Value.pointer none, Value.slice none 0 0] 48)) W1) : Lib.IsBuilderF 48 5 w.heap.size w.heap.size (Lib.byteCells []) W1 :=
  .inl ⟨Nat.le_refl _, _, (hb.block _ (by simp)).trans (heap_alloc_new w _), World.ownsRowF_of (World.ownsRow_nil _ _ _ _), by simp [Value.ownBlock]⟩
theorem one_piece (o : List UInt8) (s : ByteArray) (a : Nat) : Lib.byteCells o ++ Lib.strCells (s.extract a s.size) = Lib.byteCells (o ++ s.data.toList.drop a) := by
  rw [Lib.strCells_eq, Lib.extract_data, List.take_of_length_le (by simp)]
  simp [Lib.byteCells]
theorem two_parts (o : List UInt8) (s t : ByteArray) (a p : Nat) : Lib.byteCells o ++ Lib.strCells (s.extract a p) ++ Lib.strCells t = Lib.byteCells (o ++ ((s.data.toList.drop a).take (p - a) ++ t.data.toList)) := by
  rw [Lib.strCells_eq, Lib.strCells_eq, Lib.extract_data]
  simp [Lib.byteCells]
theorem box_kept {w w' : World} {g b : Nat} {cs : Array Value} {T u8 : TypeId} {fz : Nat × Nat} (h : w.heap[g]? = some (.cells cs T fz)) (hk : Lib.OthersKept u8 (some b) w w') (hg : g ≠ b) (hT : T ≠ u8) : w'.heap[g]? = some (.cells cs T fz) :=
  hk g _ h (by intro e; injection e with e; exact hg e) (by intro c f e; injection e with _ e _; exact hT e)
set_option maxHeartbeats 4000000 in
set_option maxRecDepth 100000 in
theorem iMR_any (p s wth : ByteArray) (w : World) (hp : p.size ≤ maxLen) (hs : s.size ≤ maxLen) (hwt : wth.size ≤ 1100000) (hM : ML w) :
    Calls Tryd.prog 15 #[.string p, .string s, .string wth] w fun e w' => e = .returned (.tuple #[.string (mrS p s wth), .bool (mrB p s wth)]) ∧ Below w.heap.size w w' := by
  have hs' := hs
  unfold maxLen at hs'
  cases hpv : patV p
  · have h0 : mrOk p s = false := by unfold mrOk; rw [hpv]; rfl
    have h1 : mrS p s wth = ⟨#[]⟩ := by unfold mrS; rw [h0]; rfl
    have h2 : mrB p s wth = false := by unfold mrB; rw [h0]; rfl
    rw [h1, h2]
    have hc := fun W => iPV_any p W hp
    rw [hpv] at hc
    have HC := Lib.hid hc
    clear hc h0 h1 h2
    go_enter Tryd.func15, Tryd.ntmps15
    go_wp2_with fail
    refine (HC.out _).mono ?_
    rintro e w' ⟨rfl, rfl⟩
    go_wp2_with fail
    go_ret2
    exact ⟨rfl, Below.refl _ _⟩
  have hc1 := fun W => iPV_any p W hp
  rw [hpv] at hc1
  have HC1 := Lib.hid hc1
  clear hc1
  have hc2 := fun W => iTV_any s W hs
  cases hv : valid s.data.toList
  · have h0 : mrOk p s = false := by unfold mrOk; rw [hv, Bool.and_false]
    have h1 : mrS p s wth = ⟨#[]⟩ := by unfold mrS; rw [h0]; rfl
    have h2 : mrB p s wth = false := by unfold mrB; rw [h0]; rfl
    rw [h1, h2]
    rw [hv] at hc2
    have HC := Lib.hid hc2
    clear hc2 h0 h1 h2
    go_enter Tryd.func15, Tryd.ntmps15
    go_wp2_with fail
    refine (HC1.out _).mono ?_
    rintro e w' ⟨rfl, rfl⟩
    go_wp2_with fail
    refine (HC.out _).mono ?_
    rintro e w' ⟨rfl, rfl⟩
    go_wp2_with fail
    go_ret2
    exact ⟨rfl, Below.refl _ _⟩
  rw [hv] at hc2
  have HC2 := Lib.hid hc2
  have hsz := valid_size hv
  have hok : mrOk p s = true := by unfold mrOk; rw [hpv, hv]; rfl
  clear hc2
  by_cases h12 : wth.size ≤ 120
  rotate_left
  · have hd : decide (wth.size ≤ 120) = false := decide_eq_false h12
    have h1 : mrS p s wth = s := by unfold mrS; rw [if_pos hok, hd]; rfl
    have h2 : mrB p s wth = false := by unfold mrB; rw [hd, Bool.and_false]; rfl
    rw [h1, h2]
    have hlt : (120 : Int) < (wth.size : Int) := by omega
    clear hd h1 h2 hv hpv hok
    go_enter Tryd.func15, Tryd.ntmps15
    go_wp2_with fail
    refine (HC1.out _).mono ?_
    rintro e w' ⟨rfl, rfl⟩
    go_wp2_with fail
    refine (HC2.out _).mono ?_
    rintro e w' ⟨rfl, rfl⟩
    go_wp2_with fail
    go_ret2
    exact ⟨rfl, Below.refl _ _⟩
  have HE : Hid (mrS p s wth = (if valid (mrL p s wth) = true then ⟨(mrL p s wth).toArray⟩ else s) ∧ mrB p s wth = valid (mrL p s wth)) := Lib.hid (by unfold mrS mrB; rw [hok, decide_eq_true h12]; simp)
  have hlen := maL_small p s
  have HS := Lib.hid (fun k (hk : k < (maL p s).length) o a (h : MrInv p s wth k o a) => h.step hk h12)
  have HD := Lib.hid (fun o a (h : MrInv p s wth (maL p s).length o a) => h.done (Nat.le_refl _))
  have H0 := Lib.hid (MrInv.start p s wth)
  have hML := hM.lt
  clear hv hpv hok
  go_enter Tryd.func15, Tryd.ntmps15
  go_wp2_with fail
  refine (HC1.out _).mono ?_
  rintro e w' ⟨rfl, rfl⟩
  go_wp2_with fail
  refine (HC2.out _).mono ?_
  rintro e w' ⟨rfl, rfl⟩
  clear HC1 HC2
  go_wp2_with fail
  refine (iMA_any p s _ hp hs).mono ?_
  rintro e W1 ⟨A, c, rfl, ho1, hb1⟩
  have hbu : Lib.IsBuilderF 48 5 w.heap.size w.heap.size (Lib.byteCells []) W1 := bu_new hb1
  have hbw : Below w.heap.size w W1 := ((Below.refl w.heap.size w).alloc (Nat.le_refl _) _).trans (hb1.mono (by simp))
  have hT : 39 ≠ 5 := by decide
  have hlt : w.heap.size < (w.alloc (Obj.cells #[Value.pointer none, Value.slice none 0 0] 48)).heap.size := by simp
  have HO := Lib.hid (fun w' (hk : Lib.OthersKept 5 (some w.heap.size) W1 w') => Row.of_own_kept2 ho1 hk hlt hT)
  have hbl : w.heap.size < W1.heap.size := by have := hb1.size; omega
  clear ho1 hb1 hlt
  have HBU := Lib.hid hbu
  have HBW := Lib.hid hbw
  have HM := Lib.hid hM
  clear hbu hbw hM
  go_wp2_with fail
  go_loopw [9, 28] (fun av i wr => ∃ (k : Nat) (o : List UInt8) (a : Nat), k ≤ (maL p s).length ∧ i = .int .i64 k ∧ av = .int .i64 a ∧ MrInv p s wth k o a ∧ Lib.IsBuilderF 48 5 w.heap.size w.heap.size (Lib.byteCells o) wr ∧ Below w.heap.size w wr ∧ Lib.OthersKept 5 (some w.heap.size) W1 wr ∧ w.heap.size < wr.heap.size) (fun _ i _ => (maL p s).length - (intOf i).toNat)
  case atStart => exact ⟨0, [], 0, Nat.zero_le _, rfl, rfl, H0.out, HBU.out, HBW.out, Lib.OthersKept.refl _ _ _, hbl⟩
  case round =>
    obtain ⟨k, o, a, hk, rfl, rfl, hinv, hbu2, hbw2, hok2, hbl2⟩ := hrel
    clear HBU HBW hbl
    have ho : o.length ≤ k * 20000 := hinv.2.2.2
    have has : a ≤ s.size := hinv.1
    have hkm : k * 20000 ≤ 2440000 := Nat.mul_le_mul (show k ≤ 122 by omega) (Nat.le_refl 20000)
    by_cases hkn : k < (maL p s).length
    · obtain ⟨x, y, hxy, hax, hxy2, hys, h120, hnx⟩ := HS.out k hkn _ _ hinv
      obtain ⟨b, of, rfl, hb, hc1, hd1⟩ := (HO.out _ hok2).pair (j := k) hkn
      rw [hxy] at hc1 hd1
      have HN := Lib.hid hnx
      have hk' : (k : Int) < ((maL p s).length : Int) := by omega
      have hk0 : (0 : Int) ≤ (k : Int) := by omega
      have hax' : (a : Int) ≤ (x : Int) := by omega
      have hxy' : (x : Int) ≤ (y : Int) := by omega
      have hys' : (y : Int) ≤ (s.size : Int) := by omega
      have hxs' : (x : Int) ≤ (s.size : Int) := by omega
      simp only at hc1 hd1
      obtain ⟨g, hg⟩ : ∃ g, wr.heap.size = g := ⟨_, rfl⟩
      have hgb : g ≠ w.heap.size := by omega
      have hbox0 := heap_alloc_new wr (.cells #[.int .i64 x, .int .i64 y] 39)
      have hbuA := hbu2.alloc (.cells #[.int .i64 x, .int .i64 y] 39)
      have hbwA := hbw2.alloc hbw2.size (.cells #[.int .i64 x, .int .i64 y] 39)
      have hokA := hok2.alloc (.cells #[.int .i64 x, .int .i64 y] 39)
      obtain ⟨X, hX⟩ : ∃ X, wr.alloc (.cells #[.int .i64 x, .int .i64 y] 39) = X := ⟨_, rfl⟩
      rw [hX] at hbox0 hbuA hbwA hokA
      rw [hg] at hbox0
      have b0 : X.cell? ⟨g, 0, none⟩ = some (.int .i64 x) := cell_of_row X _ 0 _ _ _ hbox0
      have b1 : X.cell? ⟨g, 1, none⟩ = some (.int .i64 y) := cell_of_row X _ 1 _ _ _ hbox0
      have hxsz : w.heap.size < X.heap.size := by rw [← hX]; simp; omega
      have hBX := Lib.hid (And.intro hbox0 (And.intro hbuA (And.intro hbwA hokA)))
      clear hinv hnx hxy hbox0 hbuA hbwA hokA hbu2 hbw2 hok2
      go_wp2_with fail
      refine (Tryd.Builder_WriteString_k _ _ _ _ _ hBX.out.2.1 (by rw [Lib.byteCells_length, ByteArray.size_extract]; omega) (Nat.le_of_lt hxsz)).mono ?_
      rintro e W2 ⟨rfl, hA2, hb2, ho2⟩
      have hbox2 := box_kept hBX.out.1 ho2 hgb hT
      have c0 : W2.cell? ⟨g, 0, none⟩ = some (.int .i64 x) := cell_of_row W2 _ 0 _ _ _ hbox2
      have c1 : W2.cell? ⟨g, 1, none⟩ = some (.int .i64 y) := cell_of_row W2 _ 1 _ _ _ hbox2
      have hbw3 := hBX.out.2.2.1.trans hb2
      have hok3 := hBX.out.2.2.2.trans ho2
      have hM2 := HM.out.below hbw3 hML
      obtain ⟨m, hm⟩ := hM2
      have hB2 := Lib.hid (And.intro hbox2 (And.intro hA2 (And.intro hbw3 hok3)))
      have hsz2 : w.heap.size < W2.heap.size := by have := hb2.size; omega
      clear b0 b1 hb2 ho2 hA2 hbox2 hbw3 hok3 hBX hX
      have hcl : Lib.countB wth ⟨#[38]⟩ * (s.extract x y).size ≤ 120 * 120 := Nat.mul_le_mul (Nat.le_trans (Lib.countB_le ⟨#[38]⟩ (by decide) _ wth (Nat.le_refl _)) h12) (by rw [ByteArray.size_extract]; omega)
      have HCL := Lib.hid hcl
      clear hcl
      go_wp2_with fail
      refine (Tryd.strings_ReplaceAll wth ⟨#[38]⟩ (s.extract x y) m W2 (by omega) hm (by decide) (by have := HCL.out; omega)).mono ?_
      rintro e W3 ⟨rfl, hb3⟩
      have hrep : Lib.replaceAll wth.data.toList (⟨#[38]⟩ : ByteArray).data.toList (s.extract x y).data.toList = repL wth.data.toList ((s.data.toList.drop x).take (y - x)) := by
        rw [Lib.extract_data]; exact replaceAll_rep _ _
      rw [hrep]
      obtain ⟨R, hR⟩ : ∃ R, repL wth.data.toList ((s.data.toList.drop x).take (y - x)) = R := ⟨_, rfl⟩
      have hRl : R.length ≤ 20000 := by
        rw [← hR]
        refine Nat.le_trans (repL_len _ _) (Nat.le_trans (Nat.mul_le_mul (show wth.data.toList.length ≤ 120 by simpa using h12) (show ((s.data.toList.drop x).take (y - x)).length + 1 ≤ 121 by rw [List.length_take, List.length_drop]; simp; omega)) (by decide))
      rw [hR] at HN ⊢
      have hbox3 := (hb3.block g (by have := (Array.getElem?_eq_some_iff.1 hB2.out.1).1; omega)).trans hB2.out.1
      have hA3 := atF_below hB2.out.2.1 hb3
      have hbw4 := hB2.out.2.2.1.trans (hb3.mono (Nat.le_of_lt hsz2))
      have hok4 := hB2.out.2.2.2.below hb3
      have hsz3 : w.heap.size < W3.heap.size := by have := hb3.size; omega
      have hB3 := Lib.hid (And.intro hbox3 (And.intro hA3 (And.intro hbw4 hok4)))
      have hRs : (⟨R.toArray⟩ : ByteArray).size = R.length := by show R.toArray.size = _; simp
      have HRS := Lib.hid hRs
      clear hbox3 hA3 hbw4 hok4 hB2 hb3 c0 c1 hm hrep hR hRs HCL
      go_wp2_with fail
      refine (Tryd.Builder_WriteString_k _ _ _ _ _ (.inr hB3.out.2.1) (by rw [HRS.out, List.length_append, Lib.strCells_length, Lib.byteCells_length, ByteArray.size_extract]; omega) (Nat.le_of_lt hsz3)).mono ?_
      rintro e W4 ⟨rfl, hA4, hb4, ho4⟩
      have hbox4 := box_kept hB3.out.1 ho4 hgb hT
      have c1 : W4.cell? ⟨g, 1, none⟩ = some (.int .i64 y) := cell_of_row W4 _ 1 _ _ _ hbox4
      have hbw5 := hB3.out.2.2.1.trans hb4
      have hok5 := hB3.out.2.2.2.trans ho4
      have hsz4 : w.heap.size < W4.heap.size := by have := hb4.size; omega
      have hB4 := Lib.hid (And.intro hA4 (And.intro hbw5 hok5))
      clear hbox4 hA4 hb4 ho4 hbw5 hok5 hB3
      go_wp2_with fail
      go_roundw
      case rel =>
        refine ⟨k + 1, o ++ ((s.data.toList.drop a).take (x - a) ++ R), y, by omega, by go_num, rfl, HN.out, ?_, hB4.out.2.1, hB4.out.2.2, hsz4⟩
        have hA5 := hB4.out.1
        rw [two_parts] at hA5
        have e : (⟨R.toArray⟩ : ByteArray).data.toList = R := by simp
        rw [e] at hA5
        exact .inr hA5
      case measure => (simp [intOf] <;> omega)
    · obtain rfl : k = (maL p s).length := by omega
      have hdone := HD.out _ _ hinv
      have HDn := Lib.hid hdone
      have has' : (a : Int) ≤ (s.size : Int) := by omega
      clear hinv hdone
      go_wp2_with fail
      refine (Tryd.Builder_WriteString_k _ _ _ _ _ hbu2 (by rw [Lib.byteCells_length, ByteArray.size_extract]; omega) hbw2.size).mono ?_
      rintro e W2 ⟨rfl, hA2, hb2, ho2⟩
      rw [one_piece, HDn.out] at hA2
      have hlx : (mrL p s wth).length ≤ 2440000 + 120 := by
        rw [← HDn.out, List.length_append, List.length_drop]
        have : s.data.toList.length = s.size := by rw [Array.length_toList]; rfl
        omega
      have hxs : (⟨(mrL p s wth).toArray⟩ : ByteArray).size ≤ maxLen := by
        show (mrL p s wth).toArray.size ≤ _
        rw [List.size_toArray]; unfold maxLen; omega
      clear HDn hlx
      go_wp2_with fail
      refine (Tryd.Builder_String_any_k _ _ _ _ (.inr hA2) (Nat.le_trans hbw2.size hb2.size)).mono ?_
      rintro e W3 ⟨rfl, hA3, hb3, ho3⟩
      go_wp2_with fail
      refine (iTV_any _ _ hxs).mono ?_
      rintro e w' ⟨rfl, rfl⟩
      by_cases hv2 : valid (mrL p s wth) = true
      · rw [hv2]
        go_wp2_with fail
        refine (Tryd.Builder_String_any_k _ _ _ _ hA3 (Nat.le_trans (Nat.le_trans hbw2.size hb2.size) hb3.size)).mono ?_
        rintro e W4 ⟨rfl, hA4, hb4, ho4⟩
        go_wp2_with fail
        go_ret2
        obtain ⟨g1, g2⟩ := HE.out
        rw [if_pos hv2] at g1
        refine ⟨?_, ((hbw2.trans hb2).trans hb3).trans hb4⟩
        rw [g1, g2, hv2]
        rfl
      · rw [Bool.eq_false_iff.2 hv2]
        go_wp2_with fail
        go_ret2
        obtain ⟨g1, g2⟩ := HE.out
        rw [if_neg hv2] at g1
        refine ⟨?_, (hbw2.trans hb2).trans hb3⟩
        rw [g1, g2, Bool.eq_false_iff.2 hv2]
        rfl
end Go.Proofs.YtlnldnenkajcdaaDoor
