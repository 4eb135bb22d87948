/- Plain laws on replaced matches: their length, and & put for itself; what is drawn for the law. -/
import Derived.Test.YtlnldnenkajcdaaDoorMr
import Derived.Test.YtlnldnenkajcdaaDoorRp
import Derived.Deep.RegionWith
set_option linter.unusedVariables false
set_option linter.unusedSimpArgs false
namespace Go.Proofs.YtlnldnenkajcdaaDoor
open Go.RowKit
/-- How often & stands in a text. -/
def mkN : List UInt8 → Nat
  | [] => 0
  | b :: l => (if b = 38 then 1 else 0) + mkN l
theorem mkN_snoc (b : UInt8) : ∀ l : List UInt8, mkN (l ++ [b]) = mkN l + (if b = 38 then 1 else 0)
  | [] => by simp [mkN]
  | c :: l => by simp only [List.cons_append, mkN, mkN_snoc b l]; omega
theorem mkN_le : ∀ l : List UInt8, mkN l ≤ l.length
  | [] => Nat.le_refl _
  | b :: l => by
    have := mkN_le l
    simp only [mkN, List.length_cons]
    split <;> omega
theorem mkN_next (w : ByteArray) {j : Nat} (hj : j < w.size) : mkN (w.data.toList.take (j + 1)) = mkN (w.data.toList.take j) + (if w[j] = 38 then 1 else 0) := by
  have hjl : j < w.data.toList.length := by rw [Array.length_toList]; exact hj
  rw [List.take_succ_eq_append_getElem hjl, mkN_snoc]; rfl
theorem mkN_done (w : ByteArray) : mkN (w.data.toList.take w.size) = mkN w.data.toList := by
  rw [List.take_of_length_le (by rw [Array.length_toList]; exact Nat.le_refl _)]
theorem repL_size (x : List UInt8) : ∀ w : List UInt8, ((repL w x).length : Int) = w.length - mkN w + mkN w * x.length
  | [] => by simp [repL, mkN]
  | b :: w => by
    have := repL_size x w
    rw [repL_cons, List.length_append, List.length_cons, mkN]
    split
    · rw [Int.natCast_add 1, Int.add_mul]; simp; omega
    · simp; omega
/-- What the law has added up when k matches are counted. -/
def MzInv (p s w : ByteArray) (k : Nat) (n : Int) : Prop := ∃ (o : List UInt8) (a : Nat), MrInv p s w k o a ∧ n = o.length + s.size - a
theorem MzInv.start (p s w : ByteArray) : MzInv p s w 0 s.size := ⟨[], 0, MrInv.start p s w, by simp⟩
theorem MzInv.small {p s w : ByteArray} {k : Nat} {n : Int} (h : MzInv p s w k n) (hk : k ≤ 122) (hs : s.size ≤ 120) : 0 ≤ n ∧ n ≤ 2440120 := by
  obtain ⟨o, a, h1, h2⟩ := h
  have h3 := h1.1
  have h4 : o.length ≤ k * 20000 := h1.2.2.2
  omega
theorem MzInv.step {p s w : ByteArray} {k : Nat} {n : Int} (h : MzInv p s w k n) (hk : k < (maL p s).length) (hw : w.size ≤ 120) :
    ∃ x y : Nat, (maL p s)[k] = ((x : Int), (y : Int)) ∧ x ≤ y ∧ y ≤ s.size ∧ s.size ≤ 120 ∧ MzInv p s w (k + 1) (n + w.size - mkN w.data.toList + ((mkN w.data.toList : Int) - 1) * ((y : Int) - x)) := by
  obtain ⟨o, a, h1, h2⟩ := h
  obtain ⟨x, y, e, g1, g2, g3, g4, g5⟩ := h1.step hk hw
  refine ⟨x, y, e, g2, g3, g4, _, _, g5, ?_⟩
  have hl : s.data.toList.length = s.size := by rw [Array.length_toList]; rfl
  have hwl : w.data.toList.length = w.size := by rw [Array.length_toList]; rfl
  have h3 := repL_size ((s.data.toList.drop x).take (y - x)) w.data.toList
  have h4 : ((s.data.toList.drop x).take (y - x)).length = y - x := by rw [List.length_take, List.length_drop]; omega
  have h5 : ((s.data.toList.drop a).take (x - a)).length = x - a := by rw [List.length_take, List.length_drop]; omega
  have h6 : ((y - x : Nat) : Int) = (y : Int) - x := by omega
  rw [h4, hwl, h6] at h3
  rw [List.length_append, List.length_append, h5, Int.sub_mul, Int.one_mul]
  generalize (mkN w.data.toList : Int) * ((y : Int) - x) = z at *
  omega
theorem MzInv.done {p s w : ByteArray} {n : Int} (h : MzInv p s w (maL p s).length n) : ((mrL p s w).length : Int) = n := by
  obtain ⟨o, a, h1, h2⟩ := h
  have hl : s.data.toList.length = s.size := by rw [Array.length_toList]; rfl
  have h3 := h1.1
  rw [← h1.done (Nat.le_refl _), List.length_append, List.length_drop]
  omega
theorem amp_step (p s : ByteArray) : ∀ k, k ≤ (maL p s).length → ∃ a : Nat, MrInv p s ⟨#[38]⟩ k (s.data.toList.take a) a
  | 0, _ => ⟨0, MrInv.start p s _⟩
  | k + 1, hk => by
    obtain ⟨a, h⟩ := amp_step p s k (by omega)
    obtain ⟨x, y, e, g1, g2, g3, g4, g5⟩ := h.step (by omega) (by decide)
    refine ⟨y, ?_⟩
    have e1 : repL (⟨#[38]⟩ : ByteArray).data.toList ((s.data.toList.drop x).take (y - x)) = (s.data.toList.drop x).take (y - x) := by simp [repL]
    rw [e1] at g5
    have e2 : s.data.toList.take a ++ ((s.data.toList.drop a).take (x - a) ++ (s.data.toList.drop x).take (y - x)) = s.data.toList.take y := by
      have f1 : s.data.toList.take a ++ (s.data.toList.drop a).take (x - a) = s.data.toList.take x := by
        rw [← List.take_add, show a + (x - a) = x by omega]
      rw [← List.append_assoc, f1, ← List.take_add, show x + (y - x) = y by omega]
    rw [e2] at g5
    exact g5
/-- Replacing by & changes nothing. -/
theorem amp_same {p s : ByteArray} (h : mrOk p s = true) : mrS p s ⟨#[38]⟩ = s ∧ mrB p s ⟨#[38]⟩ = true := by
  obtain ⟨a, h1⟩ := amp_step p s _ (Nat.le_refl _)
  have h2 : mrL p s ⟨#[38]⟩ = s.data.toList := by rw [← h1.done (Nat.le_refl _), List.take_append_drop]
  have hv : valid s.data.toList = true := by unfold mrOk at h; rw [Bool.and_eq_true] at h; exact h.2
  unfold mrS mrB
  rw [h2, hv, h]
  exact ⟨by simp, rfl⟩
theorem mr_good {p s w : ByteArray} (h : mrB p s w = true) : mrOk p s = true ∧ w.size ≤ 120 ∧ valid (mrL p s w) = true ∧ mrS p s w = ⟨(mrL p s w).toArray⟩ := by
  have h0 := h
  unfold mrB at h
  rw [Bool.and_eq_true, Bool.and_eq_true] at h
  refine ⟨h.1.1, by simpa using h.1.2, h.2, ?_⟩
  unfold mrS
  rw [if_pos h.1.1, if_pos (by rw [h.1.2, h.2]; rfl)]
theorem mr_bad {p s w : ByteArray} (h : mrB p s w = false) : mrS p s w = ⟨#[]⟩ ∨ mrS p s w = s := by
  unfold mrS
  split
  · rename_i h1
    right
    unfold mrB at h
    rw [h1] at h
    rw [if_neg (by simpa using h)]
  · exact .inl rfl
def putL : Array Value := #[.string ⟨#[]⟩, .string ⟨#[120]⟩, .string ⟨#[38]⟩, .string ⟨#[60, 38, 62]⟩, .string ⟨#[38, 38]⟩, .string ⟨#[9]⟩]
theorem puts (jn : Nat) (hj : jn < 6) : ∃ t : ByteArray, t.size ≤ 8 ∧ putL[jn]? = some (.string t) := by
  rcases (show jn = 0 ∨ jn = 1 ∨ jn = 2 ∨ jn = 3 ∨ jn = 4 ∨ jn = 5 by omega) with rfl | rfl | rfl | rfl | rfl | rfl
  all_goals exact ⟨_, by first | rfl | decide, rfl⟩
def DPut (w : World) (e : Ending) (w' : World) : Prop :=
  ∃ (p s t : ByteArray), e = .returned (.tuple #[.string p, .string s, .string t]) ∧ p.size ≤ 200 ∧ s.size ≤ 200 ∧ t.size ≤ 8 ∧ Below w.heap.size w w'
theorem undrew {R : Nat} {w w' : World} (h : Beside R w.drew w') : Beside R w w' := ⟨h.os, h.tape, h.output, h.size, h.block⟩
set_option maxRecDepth 100000 in
set_option maxHeartbeats 4000000 in
theorem dDrawMatchReplace (A : Option Addr) (n c : Nat) (zs : List Int) (w : World) (h : IsBytes w A n c zs) :
    Calls Tryd.prog 16 #[.slice A n c] w (DPut w) := by
  go_enter Tryd.func16, Tryd.ntmps16
  go_wp2_with fail
  refine (open_any A n c zs _ h).mono ?_
  rintro e W1 ⟨rfl, hR, hb, hsz⟩
  obtain ⟨B, hB⟩ : ∃ B, w.heap.size = B := ⟨_, rfl⟩
  rw [hB] at hR hb hsz ⊢
  have HB := Lib.hid hB
  clear hB
  go_wp2_with fail
  refine (pattern_any B 0 12 _ hR (by omega) (by omega) (by omega)).mono ?_
  rintro e W2 ⟨p, p2, rfl, hp0, hp1, hp2, hR2, hb2⟩
  go_wp2_with fail
  refine (text_any B p2 14 _ hR2 (by omega) (by omega) (by omega)).mono ?_
  rintro e W3 ⟨s, p3, rfl, hs, hp3, hp4, hR3, hb3⟩
  have hb5 := hb.trans ((hb2.trans hb3).below (Nat.le_refl _) (by omega))
  have H5 := Lib.hid hb5
  have hlt3 := hR3.lt
  clear hb hb2 hb3 hb5 hR hR2
  go_wp2_with fail
  go_region_with (go_at_call 36
                  refine (pick_any B p3 6 _ ?h1 ?h2 ?h3).mono ?_
                  case h1 => first | exact hR3 | exact hR3.alloc _
                  case h2 => omega
                  case h3 => omega
                  rintro e W5 ⟨j, hj1, hj2, rfl, hR5, hb5, hs5⟩
                  have hjj := hj2 (by omega)
                  obtain ⟨jn, rfl⟩ := Int.eq_ofNat_of_zero_le hj1
                  obtain ⟨t, ht, e1⟩ := puts jn (by omega)
                  have hb5 := undrew hb5
                  have e1' := e1
                  simp only [putL, List.getElem?_toArray] at e1'
                  have e3 : ([Value.string ⟨#[]⟩, .string ⟨#[120]⟩, .string ⟨#[38]⟩, .string ⟨#[60, 38, 62]⟩, .string ⟨#[38, 38]⟩, .string ⟨#[9]⟩] : List Value)[jn]'(by simp; omega) = .string t := (List.getElem?_eq_some_iff.1 e1').2
                  first
                    | (have q1 : W5.cell? ⟨W3.heap.size, jn, none⟩ = some (.string t) := (hb5.one hlt3 jn).trans e1
                       have q3 : W3.heap.size < W5.heap.size := by (try simp at hs5); omega)
                    | skip
                  have b5 : Below B w W5 := H5.out.trans (Beside.below (R := B) (a := W3) (by first | exact hb5 | exact ((Beside.refl B W3).alloc _).trans hb5) (Nat.le_refl _) (by omega))
                  have h6 : B ≤ W5.heap.size := Nat.le_of_lt hR5.lt
                  have B5 := Lib.hid b5
                  clear hs5 b5 hb5)
  all_goals
    go_wp2_with fail
    go_ret3
    refine ⟨p, s, t, by first | rfl | (show Ending.returned (.tuple #[.string p, .string s, ([Value.string ⟨#[]⟩, .string ⟨#[120]⟩, .string ⟨#[38]⟩, .string ⟨#[60, 38, 62]⟩, .string ⟨#[38, 38]⟩, .string ⟨#[9]⟩] : List Value)[jn]'(by simp; omega)]) = _; rw [e3]), hp0, hs, ht, ?_⟩
    rw [HB.out]
    first
      | exact B5.out
      | exact B5.out.alloc h6 _
end Go.Proofs.YtlnldnenkajcdaaDoor
