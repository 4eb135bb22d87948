/- The contracts of ReplacePlaces, of the program and of the reference. -/
import Derived.Test.YtpnbfhnljjcciaaPp
import Derived.Test.YtpnbfhnljjcciaaBu
import Derived.Test.YtpnbfhnljjcciaaIs
namespace Go.Proofs.Ytpnbfhnljjcciaa
open Go.RowKit

/-- What is put together from a place on: the pieces of the text and the other text between them. -/
def rpFrom (sl wl : List UInt8) (m : Nat) : List Int → Nat → List UInt8
  | [], a => sl.drop a
  | p :: r, a => (sl.drop a).take (p.toNat - a) ++ wl ++ rpFrom sl wl m r (p.toNat + m)
def rpL (s what wth : ByteArray) : List UInt8 := rpFrom s.data.toList wth.data.toList what.size (fpL s what) 0
def rpOk (s what : ByteArray) : Bool := valid s.data.toList && !what.toList.isEmpty
def rpS (s what wth : ByteArray) : ByteArray := if rpOk s what = true then (if valid (rpL s what wth) = true then ⟨(rpL s what wth).toArray⟩ else s) else ⟨#[]⟩
def rpB (s what wth : ByteArray) : Bool := rpOk s what && valid (rpL s what wth)
theorem rp_step {sl wl : List UInt8} {m : Nat} {xs : List Int} {k : Nat} (hk : k < xs.length) (a : Nat) : rpFrom sl wl m (xs.drop k) a = (sl.drop a).take (xs[k].toNat - a) ++ wl ++ rpFrom sl wl m (xs.drop (k + 1)) (xs[k].toNat + m) := by
  rw [List.drop_eq_getElem_cons hk]; rfl
/-- What holds at the head of both loops: o has been put together, a is where the text goes on. -/
def RpInv (s what wth : ByteArray) (k : Nat) (o : List UInt8) (a : Nat) : Prop :=
  a ≤ s.size ∧ (a : Int) = (((fpL s what).take k).getLast?.map (· + (what.size : Int))).getD 0 ∧ o ++ rpFrom s.data.toList wth.data.toList what.size ((fpL s what).drop k) a = rpL s what wth ∧ o.length ≤ k * 2000000
theorem RpInv.start (s what wth : ByteArray) : RpInv s what wth 0 [] 0 := ⟨Nat.zero_le _, rfl, rfl, by simp⟩
theorem RpInv.step {s what wth : ByteArray} {k : Nat} {o : List UInt8} {a : Nat} (h : RpInv s what wth k o a) (hk : k < (fpL s what).length) (hs : s.size ≤ 200) (hw : wth.size ≤ 1100000) :
    ∃ p : Nat, (fpL s what)[k] = p ∧ a ≤ p ∧ p ≤ s.size ∧ p + what.size ≤ s.size ∧ RpInv s what wth (k + 1) (o ++ ((s.data.toList.drop a).take (p - a) ++ wth.data.toList)) (p + what.size) := by
  obtain ⟨h1, h2, h3, h4⟩ := h
  obtain ⟨g1, g2, g3, g4, g5, g6⟩ := fp_next hk a h2
  obtain ⟨p, hp⟩ := Int.eq_ofNat_of_zero_le g3
  rw [hp] at g2 g4 g5 g6
  refine ⟨p, hp, by omega, by omega, by omega, by omega, ?_, ?_, ?_⟩
  · rw [← g2]; rfl
  · rw [← h3, rp_step hk, hp, Int.toNat_natCast]; simp
  · have : (s.data.toList.drop a).length ≤ s.size := by simp
    simp only [List.length_append, List.length_take, Array.length_toList]
    have h5 : wth.data.size = wth.size := rfl
    rw [h5, Nat.add_mul]
    have : min (p - a) (s.data.toList.drop a).length ≤ 200 := by omega
    omega
theorem RpInv.done {s what wth : ByteArray} {o : List UInt8} {a : Nat} (h : RpInv s what wth (fpL s what).length o a) : o ++ s.data.toList.drop a = rpL s what wth := by
  have := h.2.2.1
  rw [List.drop_of_length_le (Nat.le_refl _)] at this
  exact this
theorem ba_ext {x : ByteArray} {l : List UInt8} (h : x.data.toList = l) : x = ⟨l.toArray⟩ := by
  obtain ⟨⟨m⟩⟩ := x
  subst h; rfl
theorem piece_data (o s w : ByteArray) (a p : Nat) : (o ++ s.extract a p ++ w).data.toList = o.data.toList ++ ((s.data.toList.drop a).take (p - a) ++ w.data.toList) := by
  rw [ByteArray.data_append, Array.toList_append, ByteArray.data_append, Array.toList_append, Lib.extract_data, List.append_assoc]
theorem tail_data (o s : ByteArray) (a : Nat) : (o ++ s.extract a s.size).data.toList = o.data.toList ++ s.data.toList.drop a := by
  rw [ByteArray.data_append, Array.toList_append, Lib.extract_data, List.take_of_length_le (by simp)]

theorem sRP_any (s what wth : ByteArray) (w : World) (hs : s.size ≤ maxLen) (hw : what.size ≤ 2097152) (hwt : wth.size ≤ 1100000) :
    Calls Try.prog 27 #[.string s, .string what, .string wth] w fun e w' => e = .returned (.tuple #[.string (rpS s what wth), .bool (rpB s what wth)]) ∧ Below w.heap.size w w' := by
  have hs' := hs
  unfold maxLen at hs'
  by_cases hok : rpOk s what = true
  · obtain ⟨hv, hne⟩ : valid s.data.toList = true ∧ what.toList.isEmpty = false := by simpa [rpOk] using hok
    have hsz := valid_size hv
    obtain ⟨_, hne2, hne3⟩ := what_ne hne
    have HE : Hid (rpS s what wth = (if valid (rpL s what wth) = true then ⟨(rpL s what wth).toArray⟩ else s) ∧ rpB s what wth = valid (rpL s what wth)) := Lib.hid (by unfold rpS rpB; rw [hok]; simp)
    have hlen := fpL_len s what
    have hst := fun k (hk : k < (fpL s what).length) o a (h : RpInv s what wth k o a) => h.step hk (by omega) hwt
    have HS := Lib.hid hst
    have hdn := fun o a (h : RpInv s what wth (fpL s what).length o a) => h.done
    have HD := Lib.hid hdn
    have H0 := Lib.hid (RpInv.start s what wth)
    clear hok hst hdn
    go_enter Try.func27, Try.ntmps27
    go_wp2_with fail
    refine (sTV_any _ _ hs).mono ?_
    rintro e w' ⟨rfl, rfl⟩
    go_wp2_with fail
    refine (sFP_any s what _ hs hw).mono ?_
    rintro e W1 ⟨A, c, rfl, ho1, hb1⟩
    have hr1 := Row.of_own ho1
    clear ho1
    go_wp2_with fail
    go_loopw [8, 9, 11] (fun ov av i wr => ∃ (k : Nat) (o : ByteArray) (a : Nat), k ≤ (fpL s what).length ∧ i = .int .i64 k ∧ ov = .string o ∧ av = .int .i64 a ∧ RpInv s what wth k o.data.toList a ∧ ∃ q, wr = W1.drewN q) (fun _ _ i _ => (fpL s what).length - (intOf i).toNat)
    case atStart => exact ⟨0, ⟨#[]⟩, 0, Nat.zero_le _, rfl, rfl, rfl, H0.out, 0, rfl⟩
    case round =>
      obtain ⟨k, o, a, hk, rfl, rfl, rfl, hinv, q, rfl⟩ := hrel
      have ho : o.size ≤ k * 2000000 := hinv.2.2.2
      have has : a ≤ s.size := hinv.1
      have hkm : k * 2000000 ≤ 400000000 := Nat.mul_le_mul (show k ≤ 200 by omega) (Nat.le_refl 2000000)
      by_cases hkn : k < (fpL s what).length
      · obtain ⟨p, hp, hap, hps, hpw, hnx⟩ := HS.out k hkn _ _ hinv
        obtain ⟨b, of, rfl, hb, hc1⟩ := hr1.ints_at (j := k) hkn
        rw [hp] at hc1
        have HN := Lib.hid hnx
        have hk' : (k : Int) < ((fpL s what).length : Int) := by omega
        have hk0 : (0 : Int) ≤ (k : Int) := by omega
        clear hinv hnx hp
        go_wp2_with fail
        go_roundw
        case rel => exact ⟨k + 1, o ++ s.extract a p ++ wth, p + what.size, by omega, by go_num, rfl, by rw [Int.natCast_add], by rw [piece_data]; exact HN.out, q, rfl⟩
        case measure => (simp [intOf] <;> omega)
      · obtain rfl : k = (fpL s what).length := by omega
        have hdone := HD.out _ _ hinv
        have HDn := Lib.hid hdone
        clear hinv hdone
        go_wp2_with fail
        have hx : (o ++ s.extract a s.size).data.toList = rpL s what wth := (tail_data o s a).trans HDn.out
        have hxs : (o ++ s.extract a s.size).size ≤ maxLen := by
          rw [ByteArray.size_append, ByteArray.size_extract]; unfold maxLen; omega
        have HX := Lib.hid hx
        clear hx
        generalize o ++ s.extract a s.size = z at HX hxs
        refine (sTV_any _ _ hxs).mono ?_
        rintro e w' ⟨rfl, rfl⟩
        by_cases hv2 : valid z.data.toList = true
        · go_wp2_with fail
          go_ret2
          obtain ⟨g1, g2⟩ := HE.out
          rw [← HX.out, if_pos hv2] at g1
          rw [← HX.out] at g2
          refine ⟨?_, below_drewN hb1 _⟩
          rw [g1, g2, hv2, ← ba_ext (x := z) rfl]
          rfl
        · go_wp2_with fail
          go_ret2
          obtain ⟨g1, g2⟩ := HE.out
          rw [← HX.out, if_neg hv2] at g1
          rw [← HX.out] at g2
          refine ⟨?_, below_drewN hb1 _⟩
          rw [g1, g2, Bool.eq_false_iff.2 hv2]
          rfl
  · have h1 : rpS s what wth = ⟨#[]⟩ := by unfold rpS; rw [if_neg hok]
    have h2 : rpB s what wth = false := by unfold rpB; simp [hok]
    rw [h1, h2]
    unfold rpOk at hok
    by_cases hv : valid s.data.toList = true
    · have hne : what.toList.isEmpty = true := by simpa [hv] using hok
      clear hok h1 h2
      go_enter Try.func27, Try.ntmps27
      go_wp2_with fail
      refine (sTV_any _ _ hs).mono ?_
      rintro e w' ⟨rfl, rfl⟩
      go_wp2_with fail
      go_ret2
      exact ⟨rfl, Below.refl _ _⟩
    · clear hok h1 h2
      go_enter Try.func27, Try.ntmps27
      go_wp2_with fail
      refine (sTV_any _ _ hs).mono ?_
      rintro e w' ⟨rfl, rfl⟩
      go_wp2_with fail
      go_ret2
      exact ⟨rfl, Below.refl _ _⟩
end Go.Proofs.Ytpnbfhnljjcciaa
