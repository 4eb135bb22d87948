/- The contract of the program's ReplacePlaces. -/
import Derived.Test.YtpnbfhnljjcciaaRr
namespace Go.Proofs.Ytpnbfhnljjcciaa
open Go.RowKit

/-- A row of another type than the builder's bytes is kept while the builder is written. -/
theorem Row.of_own_kept {w w' : World} {base T A n c b} {xs : List Value} {u8 : TypeId} (h : w.ownsRow base T 1 (.slice A n c) n xs) (hk : Lib.OthersKept u8 (some b) w w') (hb : b < base) (hT : T ≠ u8) : Row w' w'.heap.size A xs := by
  rcases h.2 with ⟨h1, h2⟩ | ⟨g, cap, cur, h1, h2, h3, h4, h5, h6, h7⟩
  · have : xs = [] := List.eq_nil_of_length_eq_zero (by have := h.1; omega)
    subst this
    exact Row.empty
  · injection h1 with h1
    subst h1
    have h8 := hk g _ h3 (by intro e; injection e with e; omega) (by intro c fz e; injection e with _ e _; exact hT e)
    intro j u hj
    have hg : g < w'.heap.size := (Array.getElem?_eq_some_iff.1 h8).1
    refine ⟨g, 0, rfl, hg, ?_⟩
    have hc := cell_of_row w' g (0 + j) cur T (0, 0) h8
    rw [hc, Nat.zero_add]
    rw [← h7, List.getElem?_take] at hj
    split at hj
    · simpa using hj
    · cases hj

theorem bu_new {w W1 : World} (hb : Below (w.alloc (Obj.cells #[Value.pointer none, Value.slice none 0 0] 79)).heap.size (w.alloc (Obj.cells #[Value.pointer none, Value.slice none 0 0] 79)) W1) : Lib.IsBuilderF 79 5 w.heap.size w.heap.size (Lib.byteCells []) W1 :=
  .inl ⟨Nat.le_refl _, _, (hb.block _ (by simp)).trans (heap_alloc_new w _), World.ownsRowF_of (World.ownsRow_nil _ _ _ _), by simp [Value.ownBlock]⟩

theorem one_piece (o : List UInt8) (s : ByteArray) (a : Nat) : Lib.byteCells o ++ Lib.strCells (s.extract a s.size) = Lib.byteCells (o ++ s.data.toList.drop a) := by
  rw [Lib.strCells_eq, Lib.extract_data, List.take_of_length_le (by simp)]
  simp [Lib.byteCells]
theorem two_pieces (o : List UInt8) (s t : ByteArray) (a p : Nat) : Lib.byteCells o ++ Lib.strCells (s.extract a p) ++ Lib.strCells t = Lib.byteCells (o ++ ((s.data.toList.drop a).take (p - a) ++ t.data.toList)) := by
  rw [Lib.strCells_eq, Lib.strCells_eq, Lib.extract_data]
  simp [Lib.byteCells]

theorem iRP_any (s what wth : ByteArray) (w : World) (hs : s.size ≤ maxLen) (hw : what.size ≤ 2097152) (hwt : wth.size ≤ 1100000) (hM : ML w) :
    Calls Try.prog 26 #[.string s, .string what, .string wth] w fun e w' => e = .returned (.tuple #[.string (rpS s what wth), .bool (rpB s what wth)]) ∧ Below w.heap.size w w' := by
  have hs' := hs
  unfold maxLen at hs'
  by_cases hok : rpOk s what = true
  · obtain ⟨hv, hne⟩ : valid s.data.toList = true ∧ what.toList.isEmpty = false := by simpa [rpOk] using hok
    have hsz := valid_size hv
    obtain ⟨_, hne2, hne3⟩ := what_ne hne
    have HE : Hid (rpS s what wth = (if valid (rpL s what wth) = true then ⟨(rpL s what wth).toArray⟩ else s) ∧ rpB s what wth = valid (rpL s what wth)) := Lib.hid (by unfold rpS rpB; rw [hok]; simp)
    have hlen := fpL_len s what
    have hst := fun k (hk : k < (fpL s what).length) o a (h : RpInv s what wth k o a) => h.step hk (by omega) hwt
    have HS := Lib.hid hst
    have hdn := fun o a (h : RpInv s what wth (fpL s what).length o a) => h.done
    have HD := Lib.hid hdn
    have H0 := Lib.hid (RpInv.start s what wth)
    have hML := hM.lt
    clear hok hst hdn
    go_enter Try.func26, Try.ntmps26
    go_wp2_with fail
    refine (iTV_any _ _ hs).mono ?_
    rintro e w' ⟨rfl, rfl⟩
    go_wp2_with fail
    have hM0 : ML (w.alloc (Obj.cells #[Value.pointer none, Value.slice none 0 0] 79)) := hM.below ((Below.refl w.heap.size w).alloc (Nat.le_refl _) _) hML
    refine (iFP_any s what _ hs hw hM0).mono ?_
    rintro e W1 ⟨A, c, rfl, ho1, hb1⟩
    have hbu : Lib.IsBuilderF 79 5 w.heap.size w.heap.size (Lib.byteCells []) W1 := bu_new hb1
    have hbw : Below w.heap.size w W1 := ((Below.refl w.heap.size w).alloc (Nat.le_refl _) _).trans (hb1.mono (by simp))
    have hT : 3 ≠ 5 := by decide
    have hlt : w.heap.size < (w.alloc (Obj.cells #[Value.pointer none, Value.slice none 0 0] 79)).heap.size := by simp
    have HO := Lib.hid (fun w' (hk : Lib.OthersKept 5 (some w.heap.size) W1 w') => Row.of_own_kept ho1 hk hlt hT)
    clear ho1 hb1 hM0 hlt hT
    go_wp2_with fail
    go_loopw [9, 23] (fun av i wr => ∃ (k : Nat) (o : List UInt8) (a : Nat), k ≤ (fpL s what).length ∧ i = .int .i64 k ∧ av = .int .i64 a ∧ RpInv s what wth k o a ∧ Lib.IsBuilderF 79 5 w.heap.size w.heap.size (Lib.byteCells o) wr ∧ Below w.heap.size w wr ∧ Lib.OthersKept 5 (some w.heap.size) W1 wr) (fun _ i _ => (fpL s what).length - (intOf i).toNat)
    case atStart => exact ⟨0, [], 0, Nat.zero_le _, rfl, rfl, H0.out, hbu, hbw, Lib.OthersKept.refl _ _ _⟩
    case round =>
      obtain ⟨k, o, a, hk, rfl, rfl, hinv, hbu2, hbw2, hok2⟩ := hrel
      clear hbu hbw
      have ho : o.length ≤ k * 2000000 := hinv.2.2.2
      have has : a ≤ s.size := hinv.1
      have hkm : k * 2000000 ≤ 400000000 := Nat.mul_le_mul (show k ≤ 200 by omega) (Nat.le_refl 2000000)
      by_cases hkn : k < (fpL s what).length
      · obtain ⟨p, hp, hap, hps, hpw, hnx⟩ := HS.out k hkn _ _ hinv
        obtain ⟨b, of, rfl, hb, hc1⟩ := (HO.out _ hok2).ints_at (j := k) hkn
        rw [hp] at hc1
        have HN := Lib.hid hnx
        have hk' : (k : Int) < ((fpL s what).length : Int) := by omega
        have hk0 : (0 : Int) ≤ (k : Int) := by omega
        clear hinv hnx hp
        go_wp2_with fail
        refine (Try.Builder_WriteString_k _ _ _ _ _ hbu2 (by rw [Lib.byteCells_length, ByteArray.size_extract]; omega) hbw2.size).mono ?_
        rintro e W2 ⟨rfl, hA2, hb2, ho2⟩
        go_wp2_with fail
        refine (Try.Builder_WriteString_k _ _ _ _ _ (.inr hA2) (by rw [List.length_append, Lib.strCells_length, Lib.byteCells_length, ByteArray.size_extract]; omega) (Nat.le_trans hbw2.size hb2.size)).mono ?_
        rintro e W3 ⟨rfl, hA3, hb3, ho3⟩
        go_wp2_with fail
        go_roundw
        case rel =>
          refine ⟨k + 1, o ++ ((s.data.toList.drop a).take (p - a) ++ wth.data.toList), p + what.size, by omega, by go_num, by rw [Int.natCast_add], HN.out, ?_, (hbw2.trans hb2).trans hb3, (hok2.trans ho2).trans ho3⟩
          rw [two_pieces] at hA3
          exact .inr hA3
        case measure => (simp [intOf] <;> omega)
      · obtain rfl : k = (fpL s what).length := by omega
        have hdone := HD.out _ _ hinv
        have HDn := Lib.hid hdone
        clear hinv hdone
        go_wp2_with fail
        refine (Try.Builder_WriteString_k _ _ _ _ _ hbu2 (by rw [Lib.byteCells_length, ByteArray.size_extract]; omega) hbw2.size).mono ?_
        rintro e W2 ⟨rfl, hA2, hb2, ho2⟩
        rw [one_piece, HDn.out] at hA2
        have hlx : (rpL s what wth).length ≤ 400000000 + 200 := by
          rw [← HDn.out, List.length_append, List.length_drop]
          have : s.data.size = s.size := rfl
          have : s.data.toList.length = s.size := by simp
          omega
        have hxs : (⟨(rpL s what wth).toArray⟩ : ByteArray).size ≤ maxLen := by
          show (rpL s what wth).toArray.size ≤ _
          rw [List.size_toArray]; unfold maxLen; omega
        clear HDn hlx
        go_wp2_with fail
        refine (Try.Builder_String_any_k _ _ _ _ (.inr hA2) (Nat.le_trans hbw2.size hb2.size)).mono ?_
        rintro e W3 ⟨rfl, hA3, hb3, ho3⟩
        go_wp2_with fail
        refine (iTV_any _ _ hxs).mono ?_
        rintro e w' ⟨rfl, rfl⟩
        by_cases hv2 : valid (rpL s what wth) = true
        · rw [hv2]
          go_wp2_with fail
          refine (Try.Builder_String_any_k _ _ _ _ hA3 (Nat.le_trans (Nat.le_trans hbw2.size hb2.size) hb3.size)).mono ?_
          rintro e W4 ⟨rfl, hA4, hb4, ho4⟩
          go_wp2_with fail
          go_ret2
          obtain ⟨g1, g2⟩ := HE.out
          rw [if_pos hv2] at g1
          refine ⟨?_, ((hbw2.trans hb2).trans hb3).trans hb4⟩
          rw [g1, g2, hv2]
          rfl
        · rw [Bool.eq_false_iff.2 hv2]
          go_wp2_with fail
          go_ret2
          obtain ⟨g1, g2⟩ := HE.out
          rw [if_neg hv2] at g1
          refine ⟨?_, (hbw2.trans hb2).trans hb3⟩
          rw [g1, g2, Bool.eq_false_iff.2 hv2]
          rfl
  · have h1 : rpS s what wth = ⟨#[]⟩ := by unfold rpS; rw [if_neg hok]
    have h2 : rpB s what wth = false := by unfold rpB; simp [hok]
    rw [h1, h2]
    unfold rpOk at hok
    by_cases hv : valid s.data.toList = true
    · have hne : what.toList.isEmpty = true := by simpa [hv] using hok
      clear hok h1 h2
      go_enter Try.func26, Try.ntmps26
      go_wp2_with fail
      refine (iTV_any _ _ hs).mono ?_
      rintro e w' ⟨rfl, rfl⟩
      go_wp2_with fail
      go_ret2
      exact ⟨rfl, Below.refl _ _⟩
    · clear hok h1 h2
      go_enter Try.func26, Try.ntmps26
      go_wp2_with fail
      refine (iTV_any _ _ hs).mono ?_
      rintro e w' ⟨rfl, rfl⟩
      go_wp2_with fail
      go_ret2
      exact ⟨rfl, Below.refl _ _⟩
end Go.Proofs.Ytpnbfhnljjcciaa
