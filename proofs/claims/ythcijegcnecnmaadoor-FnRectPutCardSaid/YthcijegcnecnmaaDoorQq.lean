/- The contract of the program's RectPut. -/
import Derived.Test.YthcijegcnecnmaaDoorQp
import Derived.Test.YthcijegcnecnmaaDoorQl
import Derived.Lib.Repeat
set_option linter.unusedVariables false
set_option linter.unusedSimpArgs false
namespace Go.Proofs.YthcijegcnecnmaaDoor
open Go.RowKit
theorem idx_nl : ∀ l : List UInt8, decide (0 ≤ Lib.indexByte l 10) = decide (nls l ≠ 0)
  | [] => by decide
  | b :: l => by
    have ih := idx_nl l
    have hge := Lib.indexByte_ge l 10
    have hn : nls (b :: l) = nls [b] + nls l := by rw [← nls_app]; rfl
    unfold Lib.indexByte
    by_cases hb : b = 10
    · subst hb
      have h1 : nls [10] = 1 := by decide
      rw [if_pos (by decide), hn, h1]
      simp
    · have h1 : nls [b] = 0 := by
        show List.count 10 [b] = 0
        rw [List.count_eq_zero]
        intro h
        exact hb (List.mem_singleton.1 h).symm
      rw [if_neg (by simpa using hb), hn, h1, Nat.zero_add, ← ih]
      by_cases hm : Lib.indexByte l 10 = -1
      · rw [if_pos (by simpa using hm), hm]
      · rw [if_neg (by simpa using hm)]
        rw [Bool.eq_iff_iff, decide_eq_true_eq, decide_eq_true_eq]
        omega
def noNl : List ByteArray → Bool
  | [] => true
  | p :: ps => decide (nls p.data.toList = 0) && noNl ps
theorem noNl_iff : ∀ {ps : List ByteArray}, noNl ps = true ↔ ∀ p ∈ ps, nls p.data.toList = 0
  | [] => by simp [noNl]
  | p :: ps => by simp [noNl, noNl_iff (ps := ps)]
theorem putG_high {c : Nat} : ∀ (ps : List ByteArray) (i : Nat) (L : List ByteArray), i ≤ L.length → ∀ j, i + ps.length ≤ j → (putG c i L ps)[j]? = L[j]?
  | [], i, L, h, j, hj => rfl
  | p :: ps, i, L, h, j, hj => by
    rw [List.length_cons] at hj
    rw [putG, putG_high ps (i + 1) _ (by rw [putS_len h]; omega) j (by omega)]
    unfold putS
    split
    · rw [List.getElem?_set_ne (by omega)]
    · rw [List.getElem?_append_right (by omega), List.getElem?_eq_none (by simp; omega), List.getElem?_eq_none (by omega)]
theorem putLn_size (z p : ByteArray) (c : Nat) : (putLn z p c).size = max z.size c + p.size := by
  have h := padS_size z c
  unfold putLn
  rw [ByteArray.size_append, ByteArray.size_append, ByteArray.size_extract, ByteArray.size_extract]
  omega
theorem getD_le {L : List ByteArray} {b : Nat} (h : ∀ z ∈ L, z.size ≤ b) (j : Nat) : (L.getD j ⟨#[]⟩).size ≤ b := by
  rw [List.getD_eq_getElem?_getD]
  cases hj : L[j]? with
  | none => exact Nat.zero_le _
  | some x => exact h x (List.mem_of_getElem? hj)
theorem putG_small {c i : Nat} {L ps : List ByteArray} (hi : i ≤ L.length) (hc : c ≤ 120) (hL : ∀ z ∈ L, z.size ≤ 120) (hp : ∀ p ∈ ps, p.size ≤ 200) : ∀ z ∈ putG c i L ps, z.size ≤ 320 := by
  intro z hz
  obtain ⟨j, hj⟩ := List.mem_iff_getElem?.1 hz
  rcases Nat.lt_or_ge j i with h1 | h1
  · rw [putG_low ps i L hi j h1] at hj
    have := hL z (List.mem_of_getElem? hj); omega
  · rcases Nat.lt_or_ge j (i + ps.length) with h2 | h2
    · obtain ⟨k, rfl⟩ : ∃ k, j = i + k := ⟨j - i, by omega⟩
      rw [putG_at ps i L hi k (by omega)] at hj
      injection hj with hj
      rw [← hj, putLn_size]
      have h3 := getD_le hL (i + k)
      have h4 := hp (ps[k]'(by omega)) (List.getElem_mem _)
      omega
    · rw [putG_high ps i L hi j h2] at hj
      have := hL z (List.mem_of_getElem? hj); omega
theorem lens_bound {b : Nat} : ∀ l : List ByteArray, (∀ z ∈ l, z.size ≤ b) → lens l ≤ b * l.length
  | [], _ => Nat.zero_le _
  | x :: l, h => by
    have ih := lens_bound l fun z hz => h z (List.mem_cons_of_mem _ hz)
    have hx := h x List.mem_cons_self
    simp only [lens, List.map_cons, List.sum_cons, List.length_cons, Nat.mul_add, Nat.mul_one] at ih ⊢
    omega
/-- The text with a rectangle put, whatever its parts are. -/
def rpO (s : ByteArray) (p : Int) (ps : List ByteArray) : ByteArray := joinN (putG (coI s p).toNat (loI s p).toNat (linesL s) ps)
def rpB (s : ByteArray) (p : Int) (ps : List ByteArray) : Bool := place s p && noNl ps && valid (rpO s p ps).data.toList
def rpS (s : ByteArray) (p : Int) (ps : List ByteArray) : ByteArray := if valid s.data.toList = true then (if rpB s p ps = true then rpO s p ps else s) else ⟨#[]⟩
theorem rep_spaces (d : Nat) : (⟨(Lib.repeatL (⟨#[32]⟩ : ByteArray).data.toList d).toArray⟩ : ByteArray) = spaces d := by
  have h := Lib.repeatL_replicate 32 1 d
  have e : (⟨#[32]⟩ : ByteArray).data.toList = List.replicate 1 32 := rfl
  rw [e, h, Nat.mul_one]; rfl
theorem pad_self {z : ByteArray} {c : Nat} (h : c ≤ z.size) : padS z c = z := by
  unfold padS
  rw [show c - z.size = 0 by omega]
  exact ba_eq (by simp [spaces])
theorem join_own2 {W : World} {B n c g : Nat} {xs : List ByteArray} (h : W.ownsRow B 9 1 (.slice (some ⟨g, 0, none⟩) n c) n (strVals xs)) (hl : xs.length = n) (hc : n ≤ c) (hn : n ≤ 1000) (hs : (joinN xs).size ≤ 1000000) :
    Calls Tryd.prog 41 #[.slice (some ⟨g, 0, none⟩) n c, .string ⟨#[10]⟩] W fun e w' => e = .returned (.string (joinN xs)) ∧ Below W.heap.size W w' := by
  subst hl
  have hsz : (Lib.join (xs.map (·.data.toList)) [10]).length = (joinN xs).size := by rw [← joinN_list]; exact Array.length_toList ..
  refine Tryd.strings_Join g 0 c xs ⟨#[10]⟩ W (fun j x hj => ?_) (h.lt g rfl).2 (by omega) hc ?_
  · have hjl : j < xs.length := (List.getElem?_eq_some_iff.1 hj).1
    rw [Nat.zero_add, h.cellAt j (by omega), strVals, List.getElem?_map, hj]; rfl
  · show (Lib.join (xs.map (·.data.toList)) [10]).length ≤ _
    omega
/-- What the lines are, part by part. -/
theorem put_steps {s : ByteArray} {f col : Nat} {ps : List ByteArray} (hv : valid s.data.toList = true) (hf : f ≤ cntN s s.size) (hcol : col ≤ 120) (hn : ps.length ≤ 121) (hz : ∀ x ∈ ps, x.size ≤ 200) :
    ∃ G : Nat → List ByteArray, G 0 = linesL s ∧ G ps.length = putG col f (linesL s) ps ∧ (∀ k, k ≤ ps.length → 0 < (G k).length ∧ (G k).length ≤ 300) ∧ (joinN (G ps.length)).size ≤ 1000000 ∧
      ∀ k (hk : k < ps.length), (f + k < (G k).length → ∃ z, (G k)[f + k]? = some z ∧ z.size ≤ 120 ∧ (G k).set (f + k) (putLn z ps[k] col) = G (k + 1)) ∧
        (¬ f + k < (G k).length → (G k).length = f + k ∧ (G k ++ [(⟨#[]⟩ : ByteArray)]).set (f + k) (putLn ⟨#[]⟩ ps[k] col) = G (k + 1)) := by
  have hll := linesL_len s
  have hc := cnt_le s s.size
  have h120 := valid_size hv
  have hfl : f ≤ (linesL s).length := by omega
  have hL : ∀ z ∈ linesL s, z.size ≤ 120 := fun z hz => by
    obtain ⟨j, hj, rfl⟩ := List.getElem_of_mem hz
    have hj' : j ≤ cntN s s.size := by omega
    have h := linesL_get s hj'
    rw [List.getElem?_eq_getElem hj] at h
    injection h with h
    rw [h, lineS_size hj']
    have := (eol_spec s (ls_ok hj').1).2.1
    omega
  have hlen : ∀ k, k ≤ ps.length → (putG col f (linesL s) (ps.take k)).length = max (linesL s).length (f + k) := fun k hk => by
    rw [putG_len _ _ _ hfl, List.length_take, Nat.min_eq_left hk]
  refine ⟨fun k => putG col f (linesL s) (ps.take k), rfl, by simp only [List.take_length], fun k hk => ?_, ?_, fun k hk => ?_⟩
  · simp only
    rw [hlen k hk]; omega
  · simp only [List.take_length]
    have hne : putG col f (linesL s) ps ≠ [] := by
      intro e
      have h := hlen ps.length (Nat.le_refl _)
      rw [List.take_length, e] at h
      simp at h
      omega
    have h1 := joinN_size hne
    have h2 := lens_bound _ (putG_small (ps := ps) hfl hcol hL hz)
    have h3 := hlen ps.length (Nat.le_refl _)
    rw [List.take_length] at h3
    omega
  · simp only
    have hl := hlen k (by omega)
    have hhi := putG_high (c := col) (ps.take k) f (linesL s) hfl (f + k) (by rw [List.length_take]; omega)
    have hst : putG col f (linesL s) (ps.take (k + 1)) = putS col (f + k) (putG col f (linesL s) (ps.take k)) ps[k] := by
      rw [List.take_succ_eq_append_getElem hk, putG_snoc, List.length_take, Nat.min_eq_left (by omega)]
    rw [hst]
    generalize putG col f (linesL s) (ps.take k) = M at *
    refine ⟨fun h => ?_, fun h => ⟨by omega, ?_⟩⟩
    · refine ⟨M[f + k], List.getElem?_eq_getElem h, ?_, by unfold putS; rw [dif_pos h]⟩
      rw [List.getElem?_eq_getElem h] at hhi
      exact hL _ (List.mem_of_getElem? hhi.symm)
    · have e : f + k = M.length := by omega
      unfold putS
      rw [dif_neg h, e, List.set_append_right _ _ (Nat.le_refl _), Nat.sub_self]; rfl
end Go.Proofs.YthcijegcnecnmaaDoor
