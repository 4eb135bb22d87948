/- The contracts of FindPlaces, of the program and of the reference. -/
import Derived.Test.YthcijegcnecnmaaDoorFd
import Derived.Test.YthcijegcnecnmaaDoorMe
set_option linter.unusedVariables false
set_option linter.unusedSimpArgs false
namespace Go.Proofs.YthcijegcnecnmaaDoor
open Go.RowKit

def ints (xs : List Int) : List Value := xs.map (Value.int .i64)
theorem ints_snoc (xs : List Int) (a : Int) : ints (xs ++ [a]) = ints xs ++ [.int .i64 a] := by simp [ints]
theorem ints_len (xs : List Int) : (ints xs).length = xs.length := by simp [ints]
def msrI (n : Nat) (a : Int) : Nat := if a < 0 then 0 else n + 2 - a.toNat
def msr (n : Nat) (v : Value) : Nat := msrI n (intOf v)
theorem own_form {w : World} {base e size n : Nat} {v : Value} {xs : List Value} (h : w.ownsRow base e size v n xs) : ∃ A c, v = .slice A n c := by
  rcases h.2 with ⟨h1, h2⟩ | ⟨g, cap, cur, h1, _⟩
  · exact ⟨none, 0, by rw [h1, h2]⟩
  · exact ⟨_, cap, h1⟩
/-- A new slice of numbers is returned; nothing that was there has turned. -/
def IntsPost (xs : List Int) (w : World) (e : Ending) (w' : World) : Prop :=
  ∃ (A : Option Addr) (c : Nat), e = .returned (.slice A xs.length c) ∧ w'.ownsRow w.heap.size 3 1 (.slice A xs.length c) xs.length (ints xs) ∧ Below w.heap.size w w'
theorem infoInt : (Tryd.prog.info? 3).map (fun i => (i.zero, i.size, i.bytes)) = some (some (.int .i64 0), 1, 8) := by kernel_rfl

def fpRest (s what : ByteArray) : Nat → Int → List Int
  | 0, _ => []
  | n + 1, a => if a < 0 then [] else a :: fpRest s what n (fnI s what (a + what.size))
def fpL (s what : ByteArray) : List Int := fpRest s what (s.size + 2) (fnI s what 0)
theorem fn_range (s what : ByteArray) (p : Int) : (fnI s what p = -1) ∨ (0 ≤ p ∧ p ≤ fnI s what p ∧ fnI s what p ≤ s.size ∧ 0 < what.size ∧ place s p = true ∧ fnI s what p + what.size ≤ s.size) := by
  by_cases h : fnOk s what p = true
  · obtain ⟨hp, hne⟩ := fnOkS h
    obtain ⟨n, rfl, hn⟩ := place_nat hp
    have e : fnI s what n = fnN s what n := by unfold fnI; rw [if_pos h]; rfl
    have hle := index_le (s.data.toList.drop n) what.data.toList
    obtain ⟨h1, h2, h3⟩ := what_ne hne
    rw [e]
    by_cases hall : ∃ j, n ≤ j ∧ j ≤ s.size ∧ occ s what j = true
    · obtain ⟨j, hj1, hj2, hj3⟩ := hall
      have : ∃ k, n ≤ k ∧ k ≤ s.size ∧ occ s what k = true ∧ ∀ i, n ≤ i → i < k → occ s what i = false := by
        have key : ∀ d j, j - n = d → n ≤ j → j ≤ s.size → occ s what j = true → ∃ k, n ≤ k ∧ k ≤ s.size ∧ occ s what k = true ∧ ∀ i, n ≤ i → i < k → occ s what i = false := by
          intro d
          induction d using Nat.strongRecOn with
          | ind d ih =>
            intro j hd h4 h5 h6
            by_cases hex : ∃ i, n ≤ i ∧ i < j ∧ occ s what i = true
            · obtain ⟨i, h7, h8, h9⟩ := hex
              exact ih (i - n) (by omega) i rfl h7 (by omega) h9
            · refine ⟨j, h4, h5, h6, fun i h7 h8 => ?_⟩
              cases ho : occ s what i
              · rfl
              · exact absurd ⟨i, h7, h8, ho⟩ hex
        exact key _ j rfl hj1 hj2 hj3
      obtain ⟨k, hk1, hk2, hk3, hk4⟩ := this
      have hk : fnN s what n = k := fnN_hit hk1 hk2 hk3 hk4
      have hroom : k + what.size ≤ s.size := by
        rcases Nat.lt_or_ge s.size (k + what.size) with h7 | h7
        · rw [occ_room h1 h7] at hk3; cases hk3
        · exact h7
      right
      rw [hk]
      exact ⟨by omega, by omega, by omega, h3, hp, by omega⟩
    · left
      exact fnN_none (fun j h4 h5 => by
        cases ho : occ s what j
        · rfl
        · exact absurd ⟨j, h4, h5, ho⟩ hall) hn
  · left; unfold fnI; rw [if_neg h]

/-- What holds at the head of the loop: xs has been found, a is the next place (or -1). -/
def FpInv (s what : ByteArray) (xs : List Int) (a : Int) (f : Nat) : Prop :=
  xs ++ fpRest s what f a = fpL s what ∧ xs.length + f = s.size + 2 ∧ -1 ≤ a ∧ (0 ≤ a → s.size ≤ 120 ∧ a + what.size ≤ s.size ∧ 0 < what.size ∧ (s.size : Int) + 2 ≤ f + a)
theorem FpInv.start (s what : ByteArray) : FpInv s what [] (fnI s what 0) (s.size + 2) := by
  refine ⟨rfl, by simp, ?_, ?_⟩
  · rcases fn_range s what 0 with h | ⟨h1, h2, h3, h4, h5, h6⟩ <;> omega
  · intro h
    rcases fn_range s what 0 with h0 | ⟨h1, h2, h3, h4, h5, h6⟩
    · omega
    · exact ⟨valid_size (placeS h5).1, by omega, h4, by omega⟩
theorem FpInv.range {s what : ByteArray} {xs : List Int} {a : Int} {f : Nat} (h : FpInv s what xs a f) (ha : 0 ≤ a) : s.size ≤ 120 ∧ a ≤ s.size ∧ a + what.size ≤ s.size ∧ xs.length ≤ 122 ∧ 0 < what.size := by
  obtain ⟨h1, h2, h3, h4⟩ := h
  obtain ⟨h5, h6, h7, h8⟩ := h4 ha
  omega
theorem FpInv.step {s what : ByteArray} {xs : List Int} {a : Int} {f : Nat} (h : FpInv s what xs a f) (ha : 0 ≤ a) : FpInv s what (xs ++ [a]) (fnI s what (a + what.size)) (f - 1) := by
  obtain ⟨h1, h2, h3, h4⟩ := h
  obtain ⟨h5, h6, h7, h8⟩ := h4 ha
  obtain ⟨g, rfl⟩ : ∃ g, f = g + 1 := ⟨f - 1, by omega⟩
  refine ⟨?_, by simp; omega, ?_, ?_⟩
  · rw [← h1]; simp only [fpRest]; rw [if_neg (by omega)]; simp
  · rcases fn_range s what (a + what.size) with h | ⟨g1, g2, g3, g4, g5, g6⟩ <;> omega
  · intro h
    rcases fn_range s what (a + what.size) with h0 | ⟨g1, g2, g3, g4, g5, g6⟩
    · omega
    · exact ⟨h5, by omega, h7, by omega⟩
theorem FpInv.done {s what : ByteArray} {xs : List Int} {a : Int} {f : Nat} (h : FpInv s what xs a f) (ha : ¬ 0 ≤ a) : xs = fpL s what := by
  obtain ⟨h1, h2, h3, h4⟩ := h
  have : fpRest s what f a = [] := by
    cases f
    · rfl
    · simp only [fpRest]; rw [if_pos (by omega)]
  rw [← h1, this, List.append_nil]
theorem fp_measure {s what : ByteArray} {xs : List Int} {a : Int} {f : Nat} (ha : 0 ≤ a) (h : FpInv s what xs (fnI s what (a + what.size)) f) (h7 : 0 < what.size) (h8 : a ≤ s.size) :
    msr s.size (.int .i64 (fnI s what (a + what.size))) < msr s.size (.int .i64 a) := by
  show msrI s.size (fnI s what (a + what.size)) < msrI s.size a
  unfold msrI
  rw [if_neg (show ¬ a < 0 by omega)]
  rcases fn_range s what (a + what.size) with h0 | ⟨g1, g2, g3, g4, g5, g6⟩
  · rw [if_pos (by omega)]; omega
  · rw [if_neg (by omega)]; omega

end Go.Proofs.YthcijegcnecnmaaDoor
