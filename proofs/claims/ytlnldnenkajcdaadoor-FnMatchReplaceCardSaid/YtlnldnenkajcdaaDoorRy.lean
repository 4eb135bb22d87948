/- What is drawn: a place, a text with a place. -/
import Derived.Test.YtlnldnenkajcdaaDoorRx
set_option linter.unusedVariables false
set_option linter.unusedSimpArgs false
namespace Go.Proofs.YtlnldnenkajcdaaDoor
open Go.RowKit

/-- A text and a place that are drawn from a code. -/
def DSpot (w : World) (e : Ending) (w' : World) : Prop :=
  ∃ (s : ByteArray) (v : Int), e = .returned (.tuple #[.string s, .int .i64 v]) ∧ s.size ≤ 200 ∧ -1 ≤ v ∧ v ≤ s.size + 1 ∧ Below w.heap.size w w'
end Go.Proofs.YtlnldnenkajcdaaDoor
