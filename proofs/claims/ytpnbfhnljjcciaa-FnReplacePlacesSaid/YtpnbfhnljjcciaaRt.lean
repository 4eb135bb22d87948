/- What is drawn for ReplacePlaces; plain laws on what is put together. -/
import Derived.Test.YtpnbfhnljjcciaaRi
import Derived.Test.YtpnbfhnljjcciaaRw
namespace Go.Proofs.Ytpnbfhnljjcciaa
open Go.RowKit

theorem index_occ : ∀ (s sub : List UInt8), 0 ≤ Lib.index s sub → Lib.occAt s sub (Lib.index s sub).toNat = true
  | [], sub, h => by
    unfold Lib.index at h ⊢
    split
    · rename_i h1; simpa [Lib.occAt] using h1
    · rename_i h1; rw [if_neg h1] at h; omega
  | b :: l, sub, h => by
    have ih := index_occ l sub
    have hge := Lib.index_ge l sub
    unfold Lib.index at h ⊢
    split
    · rename_i h1; simpa [Lib.occAt] using h1
    · rename_i h1
      rw [if_neg h1] at h
      by_cases h2 : Lib.index l sub < 0
      · have : Lib.index l sub = -1 := by omega
        rw [this] at h
        simp at h
      · have h3 := ih (by omega)
        obtain ⟨k, hk⟩ := Int.eq_ofNat_of_zero_le (show 0 ≤ Lib.index l sub by omega)
        rw [hk] at h3 ⊢
        simp only [Int.toNat_natCast] at h3
        rw [if_neg (by simp)]
        have e : (((k : Int) + 1).toNat) = k + 1 := rfl
        rw [e]
        simpa [Lib.occAt] using h3
theorem fn_occ {s what : ByteArray} {a : Int} (h : 0 ≤ fnI s what a) : occ s what (fnI s what a).toNat = true := by
  by_cases hok : fnOk s what a = true
  · have e : fnI s what a = fnN s what a.toNat := by unfold fnI; rw [if_pos hok]
    obtain ⟨n, rfl, _⟩ := place_nat (fnOkS hok).1
    rw [Int.toNat_natCast] at e
    rw [e] at h ⊢
    unfold fnN at h ⊢
    simp only [] at h ⊢
    split at h
    · omega
    · rename_i h1
      rw [if_neg h1]
      have h2 := index_occ _ _ (show 0 ≤ Lib.index (s.data.toList.drop n) what.data.toList by omega)
      rw [occAt_drop] at h2
      unfold occ
      rw [Int.toNat_add (by omega) (by omega)]
      rw [Int.toNat_natCast]
      exact h2
  · unfold fnI at h; rw [if_neg hok] at h; omega
/-- The piece between two places, and a place's text. -/
theorem fp_text {s what : ByteArray} {k : Nat} (hk : k < (fpL s what).length) (a : Nat) (ha : (a : Int) = (((fpL s what).take k).getLast?.map (· + (what.size : Int))).getD 0) :
    ∃ p : Nat, (fpL s what)[k] = p ∧ a ≤ p ∧ p + what.size ≤ s.size ∧ (s.data.toList.drop a).take (p - a) ++ what.data.toList ++ s.data.toList.drop (p + what.size) = s.data.toList.drop a ∧ ((p + what.size : Nat) : Int) = (((fpL s what).take (k + 1)).getLast?.map (· + (what.size : Int))).getD 0 := by
  obtain ⟨g1, g2, g3, g4, g5, g6⟩ := fp_next hk a ha
  have ho := fn_occ (s := s) (what := what) (a := a) (by rw [g1]; exact g3)
  rw [g1] at ho
  obtain ⟨p, hp⟩ := Int.eq_ofNat_of_zero_le g3
  rw [hp] at g2 g4 g5 g6 ho
  have hroom : p + what.size ≤ s.size := by omega
  have hap : a ≤ p := by omega
  refine ⟨p, hp, hap, hroom, ?_, by rw [← g2]; rfl⟩
  unfold occ at ho
  rw [Int.toNat_natCast, Lib.occAt_iff_take _ _ _ (by simpa using hroom)] at ho
  have ho2 : (s.data.toList.drop p).take what.data.toList.length = what.data.toList := by simpa using ho
  have h1 : s.data.toList.drop p = what.data.toList ++ s.data.toList.drop (p + what.size) := by
    conv => lhs; rw [← List.take_append_drop what.data.toList.length (s.data.toList.drop p)]
    rw [ho2, List.drop_drop]
    simp
  have h2 : s.data.toList.drop a = (s.data.toList.drop a).take (p - a) ++ s.data.toList.drop p := by
    conv => lhs; rw [← List.take_append_drop (p - a) (s.data.toList.drop a)]
    rw [List.drop_drop]
    congr 2
    omega
  rw [List.append_assoc, ← h1, ← h2]
theorem rp_same {s what : ByteArray} : ∀ (n k a : Nat), (fpL s what).length - k = n → k ≤ (fpL s what).length → (a : Int) = (((fpL s what).take k).getLast?.map (· + (what.size : Int))).getD 0 → rpFrom s.data.toList what.data.toList what.size ((fpL s what).drop k) a = s.data.toList.drop a
  | 0, k, a, hn, hk, ha => by
    rw [List.drop_of_length_le (by omega)]
    rfl
  | n + 1, k, a, hn, hk, ha => by
    have hkl : k < (fpL s what).length := by omega
    obtain ⟨p, hp, h1, h2, h3, h4⟩ := fp_text hkl a ha
    rw [rp_step hkl, hp, Int.toNat_natCast, rp_same n (k + 1) (p + what.size) (by omega) (by omega) h4]
    exact h3
theorem rp_len {s what wth : ByteArray} : ∀ (n k a : Nat), (fpL s what).length - k = n → k ≤ (fpL s what).length → a ≤ s.size → (a : Int) = (((fpL s what).take k).getLast?.map (· + (what.size : Int))).getD 0 →
    ((rpFrom s.data.toList wth.data.toList what.size ((fpL s what).drop k) a).length : Int) = (s.size : Int) - a + n * ((wth.size : Int) - what.size)
  | 0, k, a, hn, hk, has, ha => by
    rw [List.drop_of_length_le (by omega)]
    simp [rpFrom]
    omega
  | n + 1, k, a, hn, hk, has, ha => by
    have hkl : k < (fpL s what).length := by omega
    obtain ⟨p, hp, h1, h2, h3, h4⟩ := fp_text hkl a ha
    have ih := rp_len (wth := wth) n (k + 1) (p + what.size) (by omega) (by omega) h2 h4
    rw [rp_step hkl, hp, Int.toNat_natCast, List.length_append, List.length_append, List.length_take, List.length_drop]
    have h5 : wth.data.toList.length = wth.size := by simp
    have h6 : s.data.toList.length = s.size := by simp
    rw [h5, h6, Nat.min_eq_left (by omega)]
    generalize (rpFrom s.data.toList wth.data.toList what.size ((fpL s what).drop (k + 1)) (p + what.size)).length = L at *
    have : ((n + 1 : Nat) : Int) * ((wth.size : Int) - what.size) = n * ((wth.size : Int) - what.size) + ((wth.size : Int) - what.size) := by rw [Int.natCast_add, Int.add_mul]; simp
    rw [this]
    generalize (n : Int) * ((wth.size : Int) - what.size) = M at *
    omega
theorem rpL_same (s what : ByteArray) : rpL s what what = s.data.toList := rp_same _ 0 0 rfl (Nat.zero_le _) rfl
theorem rpL_len (s what wth : ByteArray) : ((rpL s what wth).length : Int) = s.size + (fpL s what).length * ((wth.size : Int) - what.size) := by
  have := rp_len (s := s) (what := what) (wth := wth) _ 0 0 rfl (Nat.zero_le _) (Nat.zero_le _) rfl
  rw [List.drop_zero, Nat.sub_zero] at this
  unfold rpL
  rw [this]
  simp
theorem rpB_ok {s what wth : ByteArray} (h : rpB s what wth = true) : rpOk s what = true ∧ valid (rpL s what wth) = true := by simpa [rpB] using h
/-- What the law asks behind a result that is good. -/
theorem rp_good {s what wth : ByteArray} (h : rpB s what wth = true) :
    rpS s what what = s ∧ rpB s what what = true ∧ valid (rpS s what wth).data.toList = true ∧ ((rpS s what wth).size : Int) = s.size + (fpL s what).length * ((wth.size : Int) - what.size) := by
  obtain ⟨h1, h2⟩ := rpB_ok h
  have hv : valid s.data.toList = true := by
    have : valid s.data.toList = true ∧ what.toList.isEmpty = false := by simpa [rpOk] using h1
    exact this.1
  refine ⟨?_, ?_, ?_, ?_⟩
  · unfold rpS; rw [if_pos h1, rpL_same, if_pos hv]
  · unfold rpB; rw [h1, rpL_same, hv]; rfl
  · unfold rpS; rw [if_pos h1, if_pos h2]; simpa using h2
  · unfold rpS; rw [if_pos h1, if_pos h2, ← rpL_len]
    show ((rpL s what wth).toArray.size : Int) = _
    simp
theorem rp_bad {s what wth : ByteArray} (h : rpB s what wth = false) : rpS s what wth = ⟨#[]⟩ ∨ rpS s what wth = s := by
  unfold rpS
  by_cases h1 : rpOk s what = true
  · rw [if_pos h1]
    unfold rpB at h
    rw [h1] at h
    simp at h
    rw [if_neg (by rw [h]; simp)]
    exact .inr rfl
  · rw [if_neg h1]; exact .inl rfl
/-- Three texts that are drawn from a code. -/
def DThree (w : World) (e : Ending) (w' : World) : Prop :=
  ∃ (s t x : ByteArray), e = .returned (.tuple #[.string s, .string t, .string x]) ∧ s.size ≤ 200 ∧ t.size ≤ 200 ∧ x.size ≤ 200 ∧ Below w.heap.size w w'
set_option maxHeartbeats 1000000 in
theorem dDrawReplacePlaces (A : Option Addr) (n c : Nat) (zs : List Int) (w : World) (h : IsBytes w A n c zs) :
    Calls Try.prog 25 #[.slice A n c] w (DThree w) := by
  go_enter Try.func25, Try.ntmps25
  go_wp2_with fail
  refine (open_any A n c zs _ h).mono ?_
  rintro e W1 ⟨rfl, hR, hb, hsz⟩
  obtain ⟨B, hB⟩ : ∃ B, w.heap.size = B := ⟨_, rfl⟩
  rw [hB] at hR hb hsz ⊢
  have HB := Lib.hid hB
  clear hB
  go_wp2_with fail
  refine (text_any B 0 14 _ hR (by omega) (by omega) (by omega)).mono ?_
  rintro e W2 ⟨s, p2, rfl, hs, hp1, hp2, hR2, hb2⟩
  go_wp2_with fail
  refine (what_any B p2 s _ hR2 (by omega) hs).mono ?_
  rintro e W3 ⟨t, p3, rfl, ht, hp3, hp4, hR3, hb3⟩
  go_wp2_with fail
  refine (text_any B p3 14 _ hR3 (by omega) (by omega) (by omega)).mono ?_
  rintro e W4 ⟨x, p4, rfl, hx, hp5, hp6, hR4, hb4⟩
  have hb5 := ((hb2.trans hb3).trans hb4)
  clear hb2 hb3 hb4
  go_wp2_with fail
  have hlit : ∀ v : Int, 0 ≤ v → v < 4 → ∃ u : Nat, u ≤ 200 ∧ (#[Value.int .i64 0, .int .i64 1, .int .i64 3, .int .i64 200] : Array Value)[v.toNat]? = some (.int .i64 u) ∧ ∃ h : v.toNat < [Value.int .i64 0, .int .i64 1, .int .i64 3, .int .i64 200].length, [Value.int .i64 0, .int .i64 1, .int .i64 3, .int .i64 200][v.toNat] = .int .i64 u := by
    intro v h0 h1
    rcases (show v = 0 ∨ v = 1 ∨ v = 2 ∨ v = 3 by omega) with rfl | rfl | rfl | rfl
    · exact ⟨0, by omega, rfl, by decide, rfl⟩
    · exact ⟨1, by omega, rfl, by decide, rfl⟩
    · exact ⟨3, by omega, rfl, by decide, rfl⟩
    · exact ⟨200, by omega, rfl, by decide, rfl⟩
  have HL := Lib.hid hlit
  clear hlit
  go_region_with (first
    | (go_at_call 60
       refine (pick_any B p4 4 ((W4.alloc (Obj.cells #[.int .i64 0, .int .i64 1, .int .i64 3, .int .i64 200] 3)).drew) (hR4.alloc _) (by omega) (by omega)).mono ?_
       rintro e W5 ⟨v, hv1, hv2, rfl, hR5, hb6, hs6⟩
       obtain ⟨u, hu, hlu, _⟩ := HL.out v hv1 (hv2 (by omega))
       have hb6' := ((Beside.refl B _).drewN 1).trans hb6
       have hcA := (Beside.one hb6' hR4.lt v.toNat).trans hlu
       have hvv := hv2 (by omega))
    | (go_at_call 60
       refine (pick_any B p4 4 W4.drew hR4 (by omega) (by omega)).mono ?_
       rintro e W5 ⟨v, hv1, hv2, rfl, hR5, hb6, hs6⟩
       obtain ⟨u, hu, _, hlu, hcB⟩ := HL.out v hv1 (hv2 (by omega))
       have hvv := hv2 (by omega)))
  all_goals first
    | (exfalso; omega)
    | (have hb8 := hb.trans (((hb5.alloc (Obj.cells #[.int .i64 0, .int .i64 1, .int .i64 3, .int .i64 200] 3)).trans hb6').below (Nat.le_refl _) (by omega))
       go_wp2_with fail
       go_ret3
       exact ⟨s, t, _, rfl, hs, ht, by (simp only [ByteArray.size_extract]; omega), by rw [HB.out]; exact hb8⟩)
    | (have hb8 := hb.trans (((((hb5.drewN 1).trans hb6)).alloc (Obj.cells #[.int .i64 0, .int .i64 1, .int .i64 3, .int .i64 200] 3)).below (Nat.le_refl _) (by omega))
       go_wp2_with fail
       go_ret3
       exact ⟨s, t, _, rfl, hs, ht, by (simp only [ByteArray.size_extract]; omega), by rw [HB.out]; exact hb8⟩)
end Go.Proofs.Ytpnbfhnljjcciaa
