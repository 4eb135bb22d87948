/- The laws' helpers on slices of numbers: eqIntS, markIntS, heldIntS. -/
import Derived.Test.YthcijegcnecnmaaDoorPl
set_option linter.unusedVariables false
set_option linter.unusedSimpArgs false
namespace Go.Proofs.YthcijegcnecnmaaDoor
open Go.RowKit

/-- The n numbers from k on. -/
def iota (k : Int) : Nat → List Int
  | 0 => []
  | n + 1 => k :: iota (k + 1) n
theorem iota_len (k : Int) : ∀ n, (iota k n).length = n
  | 0 => rfl
  | n + 1 => by simp [iota, iota_len (k + 1) n]
theorem iota_get (k : Int) : ∀ (n j : Nat), j < n → (iota k n)[j]? = some (k + j)
  | 0, j, h => absurd h (by omega)
  | n + 1, 0, _ => by simp [iota]
  | n + 1, j + 1, h => by
    simp only [iota, List.getElem?_cons_succ]
    rw [iota_get (k + 1) n j (by omega)]
    congr 1; omega
theorem Row.ints_at {w : World} {B : Nat} {A : Option Addr} {xs : List Int} (h : Row w B A (ints xs)) {j : Nat} (hj : j < xs.length) : ∃ b o, A = some ⟨b, o, none⟩ ∧ b < B ∧ w.cell? ⟨b, o + j, none⟩ = some (.int .i64 xs[j]) :=
  h j (.int .i64 xs[j]) (by simp [ints, hj])

end Go.Proofs.YthcijegcnecnmaaDoor
