/- The contracts of WrapRows, of the program and of the reference. -/
import Derived.Test.YtglnkcggcgbaiaaDoorWr
import Derived.Test.YtglnkcggcgbaiaaDoorNs
import Derived.Test.YtglnkcggcgbaiaaDoorPw
import Derived.Test.YtglnkcggcgbaiaaDoorSs
import Derived.Deep.Onto
import Derived.Lib.LastIndexByte
set_option linter.unusedVariables false
set_option linter.unusedSimpArgs false
namespace Go.Proofs.YtglnkcggcgbaiaaDoor
open Go.RowKit

theorem iW_any (W : Int) (w : World) : Calls Tryd.prog 39 #[.int .i64 W] w fun e w' => e = .returned (.bool (inI W 4 40)) ∧ w = w' := by
  go_enter Tryd.func39, Tryd.ntmps39
  go_wp2_with fail
  refine (in_any _ _ _ _).mono ?_
  rintro e w' ⟨rfl, rfl⟩
  go_wp2_with fail
  go_ret
  exact ⟨rfl, rfl⟩
/-- The lines of a text are returned in a new slice. -/
def LinesPost (s : ByteArray) (w : World) (e : Ending) (w' : World) : Prop :=
  ∃ A c, e = .returned (.slice A (linesL s).length c) ∧ Row w' w'.heap.size A (strVals (linesL s)) ∧ Below w.heap.size w w'
theorem iLinesOf_any (s : ByteArray) (w : World) (hs : s.size ≤ 200) (hM : ML w) : Calls Tryd.prog 44 #[.string s] w (LinesPost s w) := by
  obtain ⟨m, hm⟩ := hM
  obtain ⟨h1, h2⟩ := split_all s
  have hc := Tryd.strings_Split s ⟨#[10]⟩ m w (by omega) hm (by decide)
  rw [h2, h1] at hc
  have hl := linesL_len s
  rw [← hl] at hc
  have HC := Lib.hid hc
  clear hc hm h1 h2 hl
  go_enter Tryd.func44, Tryd.ntmps44
  go_wp2_with fail
  refine (HC.out).mono ?_
  rintro e w' ⟨rfl, rfl⟩
  have hrow : Row (w.alloc (.cells ((linesL s).map Value.string).toArray 9)) (w.alloc (.cells ((linesL s).map Value.string).toArray 9)).heap.size (some ⟨w.heap.size, 0, none⟩) (strVals (linesL s)) := by
    intro j u hj
    refine ⟨w.heap.size, 0, rfl, by simp, ?_⟩
    rw [Nat.zero_add, cell_of_row _ _ j _ _ _ (heap_alloc_new w _)]
    simpa [strVals] using hj
  have HR := Lib.hid (And.intro hrow ((Below.refl w.heap.size w).alloc (Nat.le_refl _) (.cells ((linesL s).map Value.string).toArray 9)))
  clear hrow
  go_wp2_with fail
  go_ret
  exact ⟨_, _, rfl, HR.out.1, HR.out.2⟩
theorem li_any (s : ByteArray) (c : Int) (hs : s.size < 4611686018427387904) (w : World) : Calls Tryd.prog 45 #[.string s, .int .u8 c] w fun e w' => e = .returned (.int .i64 (Lib.lastIndexByte s c)) ∧ w = w' :=
  (Tryd.strings_LastIndexByte s c hs w).mono fun _ _ h => ⟨h.1, h.2.symm⟩
/-- The last space of a piece, as the library finds it. -/
theorem last_sp {s : ByteArray} {a W : Nat} (h : a + W ≤ s.size) : (Lib.lastIndexByte (s.extract a (a + W)) 32 = -1 ∧ cutAt s a W = a + W) ∨ ∃ j : Nat, Lib.lastIndexByte (s.extract a (a + W)) 32 = j ∧ j < W ∧ cutAt s a W = a + j + 1 := by
  have hz : (s.extract a (a + W)).size = W := by rw [ByteArray.size_extract]; omega
  have hb : ∀ j, j < W → (((s.extract a (a + W)).data[j]!).toNat : Int) = byteI s (a + j) := fun j hj => by
    have h1 : j < (s.extract a (a + W)).size := by omega
    rw [byteI_at (show a + j < s.size by omega)]
    have h2 : (s.extract a (a + W)).data[j]! = (s.extract a (a + W))[j] := by
      rw [getElem!_pos (s.extract a (a + W)).data j h1]; rfl
    rw [h2, ByteArray.getElem_extract]
  rcases Lib.lastIndexByte_spec (s.extract a (a + W)) 32 with ⟨h1, h2⟩ | ⟨i, h1, h2, h3, h4⟩
  · left
    refine ⟨h1, ?_⟩
    rw [hz] at h2
    rcases lastSp_spec s a W with ⟨g1, _⟩ | ⟨j, g1, g2, g3, _⟩
    · unfold cutAt; rw [if_pos g1]
    · exact absurd ((hb j g2).trans g3) (h2 j g2)
  · right
    rw [hz] at h1 h4
    refine ⟨i, h2, h1, ?_⟩
    rw [hb i h1] at h3
    rcases lastSp_spec s a W with ⟨_, g⟩ | ⟨j, g1, g2, g3, g4⟩
    · exact absurd h3 (g i h1)
    · have hij : i = j := by
        rcases Nat.lt_trichotomy i j with h5 | h5 | h5
        · exact absurd ((hb j g2).trans g3) (h4 j h5 g2)
        · exact h5
        · exact absurd h3 (g4 i h5 h1)
      subst hij
      unfold cutAt; rw [if_neg (by omega), g1]; omega
def atOf (s : ByteArray) (n : Nat) : Nat := if n ≤ cntN s s.size then lsN s n else s.size + 1
theorem atOf_next {s : ByteArray} {n : Nat} (h : n ≤ cntN s s.size) : atOf s (n + 1) = eolN s (lsN s n) + 1 := by
  unfold atOf
  by_cases h1 : n + 1 ≤ cntN s s.size
  · rw [if_pos h1, (ls_next h1).1]
  · rw [if_neg h1]
    obtain rfl : n = cntN s s.size := by omega
    rw [eol_last]
/-- One row more, and what that does to the memory. -/
theorem row_add {W1 wr w1 : World} {B T : Nat} {v v' : Value} {xs : List (Int × Int)} {a b : Int} (hb : Below B W1 wr) (hB : B ≤ wr.heap.size)
    (hown : wr.ownsRow B T 2 v xs.length (pairs xs)) (hown' : w1.ownsRow B T 2 v' (xs.length + 1) (pairs xs ++ [.int .i64 a, .int .i64 b])) (hgrow : (wr.alloc (.cells #[.int .i64 a, .int .i64 b] T)).grownBy w1 v.ownBlock) :
    w1.ownsRow B T 2 v' (xs ++ [(a, b)]).length (pairs (xs ++ [(a, b)])) ∧ Below B W1 w1 := by
  refine ⟨?_, (hb.alloc hB _).grown hgrow (by simp; omega) (fun k hk => ((hown.alloc (.cells #[.int .i64 a, .int .i64 b] T)).lt k hk).1)⟩
  rw [pairs_snoc, show (xs ++ [(a, b)]).length = xs.length + 1 by simp]
  exact hown'
end Go.Proofs.YtglnkcggcgbaiaaDoor
