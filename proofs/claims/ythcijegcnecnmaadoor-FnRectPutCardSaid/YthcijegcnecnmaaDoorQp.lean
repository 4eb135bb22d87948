/- A rectangle that is put, in plain words. -/
import Derived.Test.YthcijegcnecnmaaDoorQm
set_option linter.unusedVariables false
set_option linter.unusedSimpArgs false
namespace Go.Proofs.YthcijegcnecnmaaDoor
open Go.RowKit
def spaces (n : Nat) : ByteArray := ⟨(List.replicate n 32).toArray⟩
theorem spaces_size (n : Nat) : (spaces n).size = n := by simp [spaces, ByteArray.size]
theorem spaces_list (n : Nat) : (spaces n).data.toList = List.replicate n 32 := by simp [spaces]
/-- A line with at least c bytes. -/
def padS (z : ByteArray) (c : Nat) : ByteArray := z ++ spaces (c - z.size)
theorem padS_size (z : ByteArray) (c : Nat) : (padS z c).size = max z.size c := by
  unfold padS; rw [ByteArray.size_append, spaces_size]; omega
/-- A line with a part put in column c. -/
def putLn (z p : ByteArray) (c : Nat) : ByteArray := (padS z c).extract 0 c ++ p ++ (padS z c).extract c (padS z c).size
def putS (c i : Nat) (L : List ByteArray) (p : ByteArray) : List ByteArray := if h : i < L.length then L.set i (putLn L[i] p c) else L ++ [putLn ⟨#[]⟩ p c]
/-- The lines when parts have been put from line i on. -/
def putG (c : Nat) : Nat → List ByteArray → List ByteArray → List ByteArray
  | _, L, [] => L
  | i, L, p :: ps => putG c (i + 1) (putS c i L p) ps
theorem putG_snoc (c : Nat) : ∀ (ps : List ByteArray) (i : Nat) (L : List ByteArray) (p : ByteArray), putG c i L (ps ++ [p]) = putS c (i + ps.length) (putG c i L ps) p
  | [], i, L, p => rfl
  | q :: ps, i, L, p => by
    rw [List.cons_append, putG, putG, putG_snoc c ps, List.length_cons]
    congr 1
    omega
theorem putS_len {c i : Nat} {L : List ByteArray} {p : ByteArray} (h : i ≤ L.length) : (putS c i L p).length = max L.length (i + 1) := by
  unfold putS
  split
  · rw [List.length_set]; omega
  · rw [List.length_append, List.length_singleton]; omega
theorem putG_len {c : Nat} : ∀ (ps : List ByteArray) (i : Nat) (L : List ByteArray), i ≤ L.length → (putG c i L ps).length = max L.length (i + ps.length)
  | [], i, L, h => by simp only [putG, List.length_nil]; omega
  | p :: ps, i, L, h => by
    have h1 := putS_len (c := c) (p := p) h
    rw [putG, putG_len ps (i + 1) _ (by omega), h1, List.length_cons]; omega
theorem okLn_nil : okLn (⟨#[]⟩ : ByteArray).data.toList := ⟨rfl, rfl⟩
theorem okLn_spaces : ∀ n, okLn (spaces n).data.toList := fun n => by
  rw [spaces_list]
  induction n with
  | zero => exact ⟨rfl, rfl⟩
  | succ n ih =>
    rw [List.replicate_succ, show (32 :: List.replicate n (32 : UInt8)) = [32] ++ List.replicate n 32 from rfl]
    exact okLn_app.2 ⟨⟨by decide, by decide⟩, ih⟩
theorem putLn_ok {z p : ByteArray} {c : Nat} (hz : okLn z.data.toList) (hp : okLn p.data.toList) : okLn (putLn z p c).data.toList := by
  have hpad : okLn (padS z c).data.toList := by
    unfold padS
    rw [ByteArray.data_append, Array.toList_append]
    exact okLn_app.2 ⟨hz, okLn_spaces _⟩
  unfold putLn
  rw [ByteArray.data_append, Array.toList_append, ByteArray.data_append, Array.toList_append]
  exact okLn_app.2 ⟨okLn_app.2 ⟨okLn_ex hpad _ _, hp⟩, okLn_ex hpad _ _⟩
theorem putS_ok {c i : Nat} {L : List ByteArray} {p : ByteArray} (hL : ∀ z ∈ L, okLn z.data.toList) (hp : okLn p.data.toList) : ∀ z ∈ putS c i L p, okLn z.data.toList := by
  intro z hz
  unfold putS at hz
  split at hz
  · rename_i h
    rcases List.mem_or_eq_of_mem_set hz with hz | rfl
    · exact hL z hz
    · exact putLn_ok (hL _ (List.getElem_mem h)) hp
  · rcases List.mem_append.1 hz with hz | hz
    · exact hL z hz
    · obtain rfl : z = putLn ⟨#[]⟩ p c := by simpa using hz
      exact putLn_ok okLn_nil hp
theorem putG_ok {c : Nat} : ∀ (ps : List ByteArray) (i : Nat) (L : List ByteArray), (∀ z ∈ L, okLn z.data.toList) → (∀ p ∈ ps, okLn p.data.toList) → ∀ z ∈ putG c i L ps, okLn z.data.toList
  | [], i, L, hL, _ => hL
  | p :: ps, i, L, hL, hp => by
    rw [putG]
    exact putG_ok ps (i + 1) _ (putS_ok hL (hp p List.mem_cons_self)) fun q hq => hp q (List.mem_cons_of_mem _ hq)
/-- What stands in line i + k. -/
theorem putG_low {c : Nat} : ∀ (ps : List ByteArray) (i : Nat) (L : List ByteArray), i ≤ L.length → ∀ j, j < i → (putG c i L ps)[j]? = L[j]?
  | [], i, L, h, j, hj => rfl
  | p :: ps, i, L, h, j, hj => by
    rw [putG, putG_low ps (i + 1) _ (by rw [putS_len h]; omega) j (by omega)]
    unfold putS
    split
    · rw [List.getElem?_set_ne (by omega)]
    · rw [List.getElem?_append_left (by omega)]
theorem putG_at {c : Nat} : ∀ (ps : List ByteArray) (i : Nat) (L : List ByteArray), i ≤ L.length → ∀ k (hk : k < ps.length), (putG c i L ps)[i + k]? = some (putLn (L.getD (i + k) ⟨#[]⟩) ps[k] c)
  | [], i, L, h, k, hk => by simp at hk
  | p :: ps, i, L, h, 0, _ => by
    rw [putG, putG_low ps (i + 1) _ (by rw [putS_len h]; omega) (i + 0) (by omega)]
    unfold putS
    split
    · rename_i h1
      rw [Nat.add_zero, List.getElem?_set_self h1, List.getD_eq_getElem?_getD, List.getElem?_eq_getElem h1]; rfl
    · obtain rfl : i = L.length := by omega
      rw [Nat.add_zero, List.getElem?_concat_length, List.getD_eq_getElem?_getD, List.getElem?_eq_none (Nat.le_refl _)]; rfl
  | p :: ps, i, L, h, k + 1, hk => by
    have hs := putS_len (c := c) (p := p) h
    rw [putG, show i + (k + 1) = (i + 1) + k by omega, putG_at ps (i + 1) _ (by omega) k (by simpa using hk)]
    have e : (putS c i L p).getD (i + 1 + k) ⟨#[]⟩ = L.getD (i + 1 + k) ⟨#[]⟩ := by
      rw [List.getD_eq_getElem?_getD, List.getD_eq_getElem?_getD]
      congr 1
      unfold putS
      split
      · rw [List.getElem?_set_ne (by omega)]
      · rw [List.getElem?_append_right (by omega), List.getElem?_eq_none (by simp; omega), List.getElem?_eq_none (by omega)]
    rw [e]; rfl
theorem putLn_has (z p : ByteArray) (c : Nat) : (putLn z p c).extract c (c + p.size) = p ∧ c + p.size ≤ (putLn z p c).size := by
  have h := padS_size z c
  have l1 : ((padS z c).extract 0 c).size = c := by rw [ByteArray.size_extract]; omega
  refine ⟨?_, by unfold putLn; rw [ByteArray.size_append, ByteArray.size_append, l1]; omega⟩
  apply ba_eq
  unfold putLn
  rw [Lib.extract_data, ByteArray.data_append, Array.toList_append, ByteArray.data_append, Array.toList_append, List.append_assoc]
  have l2 : ((padS z c).extract 0 c).data.toList.length = c := by rw [Array.length_toList]; exact l1
  have l3 : p.data.toList.length = p.size := Array.length_toList ..
  rw [List.drop_append_of_le_length (by omega), List.drop_of_length_le (by omega), List.nil_append, show c + p.size - c = p.size by omega, List.take_append_of_le_length (by omega), List.take_of_length_le (by omega)]
theorem endL_inj : ∀ (l m : List ByteArray), (∀ z ∈ l, okLn z.data.toList) → (∀ z ∈ m, okLn z.data.toList) → endL l = endL m → l = m
  | [], [], _, _, _ => rfl
  | [], y :: m, _, _, h => by
    have := congrArg List.length h
    rw [endL_cons] at this
    simp [endL] at this
  | x :: l, [], _, _, h => by
    have := congrArg List.length h
    rw [endL_cons] at this
    simp [endL] at this
  | x :: l, y :: m, hl, hm, h => by
    rw [endL_cons, endL_cons] at h
    have hx := (hl x List.mem_cons_self).2
    have hy := (hm y List.mem_cons_self).2
    have key : ∀ (a b u v : List UInt8), nls a = 0 → nls b = 0 → a ++ [10] ++ u = b ++ [10] ++ v → a = b ∧ u = v := by
      intro a
      induction a with
      | nil =>
        intro b u v _ hb e
        cases b with
        | nil => exact ⟨rfl, by simpa using e⟩
        | cons c b =>
          simp only [List.nil_append, List.cons_append, List.cons.injEq] at e
          obtain ⟨rfl, _⟩ := e
          have : nls (10 :: b) = nls ([10] ++ b) := rfl
          rw [this, nls_app] at hb
          have h1 : nls [10] = 1 := by decide
          omega
      | cons c a ih =>
        intro b u v ha hb e
        cases b with
        | nil =>
          simp only [List.nil_append, List.cons_append, List.cons.injEq] at e
          obtain ⟨rfl, _⟩ := e
          have : nls (10 :: a) = nls ([10] ++ a) := rfl
          rw [this, nls_app] at ha
          have h1 : nls [10] = 1 := by decide
          omega
        | cons d b =>
          simp only [List.cons_append, List.cons.injEq] at e
          obtain ⟨rfl, e⟩ := e
          have s1 : nls (c :: a) = nls [c] + nls a := by rw [← nls_app]; rfl
          have s2 : nls (c :: b) = nls [c] + nls b := by rw [← nls_app]; rfl
          obtain ⟨r1, r2⟩ := ih b u v (by omega) (by omega) e
          exact ⟨by rw [r1], r2⟩
    obtain ⟨r1, r2⟩ := key _ _ _ _ hx hy h
    rw [ba_eq r1, endL_inj l m (fun z hz => hl z (List.mem_cons_of_mem _ hz)) (fun z hz => hm z (List.mem_cons_of_mem _ hz)) r2]
theorem lines_ok {s : ByteArray} (hv : valid s.data.toList = true) : ∀ z ∈ linesL s, okLn z.data.toList := by
  intro z hz
  obtain ⟨k, hk, rfl⟩ := List.getElem_of_mem hz
  have hk' : k ≤ cntN s s.size := by rw [linesL_len] at hk; omega
  have h := linesL_get s hk'
  rw [List.getElem?_eq_getElem hk] at h
  injection h with h
  rw [h]
  exact okLn_line hv hk'
theorem lines_end (s : ByteArray) : endL (linesL s) = s.data.toList ++ [10] := by
  have := endL_lines s (cntN s s.size) 0 (by omega)
  rw [ls_zero, List.drop_zero] at this
  exact this
/-- The lines of a text of lines are these. -/
theorem lines_join {L : List ByteArray} (h : L ≠ []) (hok : ∀ z ∈ L, okLn z.data.toList) (hs : (joinN L).size ≤ 120) : linesL (joinN L) = L := by
  obtain ⟨hv, _⟩ := joinN_many h hok hs
  refine endL_inj _ _ (lines_ok hv) hok ?_
  rw [lines_end, endL_join h]
/-- The lines of a text make it. -/
theorem join_lines (s : ByteArray) : joinN (linesL s) = s := by
  have hne : linesL s ≠ [] := by intro e; have := linesL_len s; rw [e] at this; simp at this
  apply ba_eq
  have h := endL_join hne
  rw [lines_end] at h
  exact (List.append_cancel_right h).symm
end Go.Proofs.YthcijegcnecnmaaDoor
