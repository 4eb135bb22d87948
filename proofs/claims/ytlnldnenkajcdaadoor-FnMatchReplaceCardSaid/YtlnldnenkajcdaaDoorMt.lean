/- Matching, in plain words: which places a pattern from a byte on can end at. No program here. -/
import Derived.Test.YtlnldnenkajcdaaDoorPv
set_option linter.unusedVariables false
set_option linter.unusedSimpArgs false
namespace Go.Proofs.YtlnldnenkajcdaaDoor

/-- A byte of a pattern is a byte of a text. -/
def fitB (c b : Int) : Bool := decide (b ≠ 10 ∧ (c = 46 ∨ c = b))
/-- A byte with a star: from the places f. -/
def starF (s : ByteArray) (from_ : Nat) (c : Int) (f : Nat → Bool) : Nat → Bool
  | 0 => f 0
  | j + 1 => f (j + 1) || (decide (from_ < j + 1) && starF s from_ c f j && fitB c (byteI s j))
/-- One byte of the pattern, or a byte with its star. -/
def nxF (s : ByteArray) (from_ : Nat) (c : Int) (star : Bool) (f : Nat → Bool) : Nat → Bool :=
  if star = true then starF s from_ c f
  else if c = 94 then fun j => f j && decide (j = 0 ∨ byteI s (j - 1) = 10)
  else if c = 36 then fun j => f j && decide (j = s.size ∨ byteI s j = 10)
  else fun j => decide (from_ < j) && f (j - 1) && fitB c (byteI s (j - 1))
def starAt (p : ByteArray) (i : Nat) : Bool := decide (i + 1 < p.size ∧ byteI p (i + 1) = 42)
/-- From the i-th byte of the pattern on, at most n steps. -/
def endsF (p s : ByteArray) (from_ : Nat) : Nat → Nat → (Nat → Bool) → (Nat → Bool)
  | 0, _, f => f
  | n + 1, i, f => if i < p.size then endsF p s from_ n (if starAt p i = true then i + 2 else i + 1) (nxF s from_ (byteI p i) (starAt p i) f) else f
def startF (from_ : Nat) : Nat → Bool := fun j => decide (j = from_)
/-- The greatest place below n that f holds. -/
def topF (f : Nat → Bool) : Nat → Int
  | 0 => -1
  | n + 1 => if f n = true then n else topF f n
def meN (p s : ByteArray) (n : Nat) : Int := topF (endsF p s n p.size 0 (startF n)) (s.size + 1)
def meOk (p s : ByteArray) (n : Int) : Bool := patV p && place s n
def meI (p s : ByteArray) (n : Int) : Int := if meOk p s n = true then meN p s n.toNat else -1
end Go.Proofs.YtlnldnenkajcdaaDoor
