/-
  No cell of these rows narrows 'for every input' (looked for: loops, veiled, ifaces, maps, wideKeys, modest, calm, conditions, laid).
  DERIVED. THE GIVEN ROWS OF THIS SEAT. 4 by the template 'for every input the law returns true; each argument reads behind the call as it read before'; 0 by the template 'total and deterministic' (their statements: YtlnldnenkajcdaaTotals.lean).
  GIVEN WITH THE SEED: the statements are not yours to turn. If you find one false, say at which input.
  Laid BY PROGRAM, IN A SANDBOX (cutbox-rows.mjs): the forced cells as the released guide's own fill.sh prints them over the translation bee6d92dbba228ac… (all of the seat's roots in one cut). By AI agents, Wed Nov 11 2026. No macro, syntax, notation, axiom, sorry.
-/
import Derived.Test.YtlnldnenkajcdaaChecked
import GoSem.Claim
import GoSem.ClaimJoined
import GoSem.ClaimMapViews
import Derived.JoinedTies
import Derived.KernelRfl
namespace Go.Proofs.Ytlnldnenkajcdaa
/- THE CELL 'sum', in the pinned program and in every row, IS THE sha256 OF THE DUMP (.gsa) THAT YtlnldnenkajcdaaProg.lean LOADS. Nothing in Lean hashes anything: it is a label: what it is worth is what the hold of that sum in a sandbox is worth. -/
noncomputable def Try.pinned : Pinned := { name := "ytlnldnenkajcdaa", sum := "bee6d92dbba228acaa5d33a889b7d4405af7ba3e78bb45a581c8ab3b2b13570c", checked := Try.checked }
namespace Rows
def none {H : Type} : Left H := { results := [], args := [] }

/-- 'laws.FnExactHistoryValid': WHATEVER THE INPUT: true; the input reads as it did. -/
def fnExactHistoryValidSpec : ChangeSpec := { name := "fnExactHistoryValid", fn := fun _ => fun
  | [d1, d2] => { results := [.lit (.bool true)], args := [d1, d2] }
  | _ => none }
def fnExactHistoryValidRow : OpenClaim := { program := "ytlnldnenkajcdaa", sum := "bee6d92dbba228acaa5d33a889b7d4405af7ba3e78bb45a581c8ab3b2b13570c", func := "loop.example/texteditor/laws.FnExactHistoryValid", spec := "fnExactHistoryValid", apart := false }
def FnExactHistoryValidSaid : Prop := fnExactHistoryValidRow.holds Try.pinned (OpenSpec.ofChange fnExactHistoryValidSpec)

/-- ITS FALSE NEIGHBOUR: 'it returns false'. Refute it at one input. -/
def fnExactHistoryValidWrong : ChangeSpec := { name := "fnExactHistoryValid", fn := fun _ => fun
  | [d1, d2] => { results := [.lit (.bool false)], args := [d1, d2] }
  | _ => none }
def FnExactHistoryValidWrongFalsely : Prop := fnExactHistoryValidRow.holds Try.pinned (OpenSpec.ofChange fnExactHistoryValidWrong)

/-- 'laws.FnMoveMarks': WHATEVER THE INPUT: true; the input reads as it did. -/
def fnMoveMarksSpec : ChangeSpec := { name := "fnMoveMarks", fn := fun _ => fun
  | [d] => { results := [.lit (.bool true)], args := [d] }
  | _ => none }
def fnMoveMarksRow : OpenClaim := { program := "ytlnldnenkajcdaa", sum := "bee6d92dbba228acaa5d33a889b7d4405af7ba3e78bb45a581c8ab3b2b13570c", func := "loop.example/texteditor/laws.FnMoveMarks", spec := "fnMoveMarks", inPlace := ["internal/bytealg.CountString", "internal/bytealg.IndexByteString", "internal/bytealg.IndexString"], named := ["internal/bytealg.MaxLen"], apart := false }
def FnMoveMarksSaid : Prop := fnMoveMarksRow.holds Try.pinned (OpenSpec.ofChange fnMoveMarksSpec)

/-- ITS FALSE NEIGHBOUR: 'it returns false'. Refute it at one input. -/
def fnMoveMarksWrong : ChangeSpec := { name := "fnMoveMarks", fn := fun _ => fun
  | [d] => { results := [.lit (.bool false)], args := [d] }
  | _ => none }
def FnMoveMarksWrongFalsely : Prop := fnMoveMarksRow.holds Try.pinned (OpenSpec.ofChange fnMoveMarksWrong)

/-- 'laws.FnMarksBack': WHATEVER THE INPUT: true; the input reads as it did. -/
def fnMarksBackSpec : ChangeSpec := { name := "fnMarksBack", fn := fun _ => fun
  | [d] => { results := [.lit (.bool true)], args := [d] }
  | _ => none }
def fnMarksBackRow : OpenClaim := { program := "ytlnldnenkajcdaa", sum := "bee6d92dbba228acaa5d33a889b7d4405af7ba3e78bb45a581c8ab3b2b13570c", func := "loop.example/texteditor/laws.FnMarksBack", spec := "fnMarksBack", inPlace := ["internal/bytealg.CountString", "internal/bytealg.IndexByteString", "internal/bytealg.IndexString"], named := ["internal/bytealg.MaxLen"], apart := false }
def FnMarksBackSaid : Prop := fnMarksBackRow.holds Try.pinned (OpenSpec.ofChange fnMarksBackSpec)

/-- ITS FALSE NEIGHBOUR: 'it returns false'. Refute it at one input. -/
def fnMarksBackWrong : ChangeSpec := { name := "fnMarksBack", fn := fun _ => fun
  | [d] => { results := [.lit (.bool false)], args := [d] }
  | _ => none }
def FnMarksBackWrongFalsely : Prop := fnMarksBackRow.holds Try.pinned (OpenSpec.ofChange fnMarksBackWrong)

/-- 'laws.FnHistoryValid': WHATEVER THE INPUT: true; the input reads as it did. -/
def fnHistoryValidSpec : ChangeSpec := { name := "fnHistoryValid", fn := fun _ => fun
  | [d] => { results := [.lit (.bool true)], args := [d] }
  | _ => none }
def fnHistoryValidRow : OpenClaim := { program := "ytlnldnenkajcdaa", sum := "bee6d92dbba228acaa5d33a889b7d4405af7ba3e78bb45a581c8ab3b2b13570c", func := "loop.example/texteditor/laws.FnHistoryValid", spec := "fnHistoryValid", inPlace := ["internal/bytealg.CountString", "internal/bytealg.IndexByteString", "internal/bytealg.IndexString"], named := ["internal/bytealg.MaxLen"], apart := false }
def FnHistoryValidSaid : Prop := fnHistoryValidRow.holds Try.pinned (OpenSpec.ofChange fnHistoryValidSpec)

/-- ITS FALSE NEIGHBOUR: 'it returns false'. Refute it at one input. -/
def fnHistoryValidWrong : ChangeSpec := { name := "fnHistoryValid", fn := fun _ => fun
  | [d] => { results := [.lit (.bool false)], args := [d] }
  | _ => none }
def FnHistoryValidWrongFalsely : Prop := fnHistoryValidRow.holds Try.pinned (OpenSpec.ofChange fnHistoryValidWrong)

/- THE SECOND FORM. 'bulk': how many values and letters a reading holds, each counted each time it is reached (what is shared counts as often as it is met; a slice's spare places count too). A statement '..UptoSaid' is the law's where the arguments, and the package variables that the reading takes, are together of bulk at most 1048576: NARROWER than '..Said'. Prove '..Said' where nothing that the law and all that it calls make is longer than what came in: it says more and counts as full. Else prove '..UptoSaid'. A law counts once. -/
mutual
def uptoBulk {H : Type} : DataW H → Nat
  | .lit (.string bytes) => bytes.length + 1
  | .lit _ => 1
  | .nil => 1
  | .ptr d => uptoBulk d + 1
  | .slice elems spare => uptoBulkAll elems + uptoBulkAll spare + 1
  | .agg parts => uptoBulkAll parts + 1
  | .iface _ d => uptoBulk d + 1
  | .map entries => uptoBulkEntries entries + 1
  | .held _ => 1
def uptoBulkAll {H : Type} : List (DataW H) → Nat
  | [] => 0
  | d :: r => uptoBulk d + uptoBulkAll r
def uptoBulkEntries {H : Type} : List (Lit × DataW H) → Nat
  | [] => 0
  | x :: r => uptoBulkEntry x + uptoBulkEntries r
def uptoBulkEntry {H : Type} : Lit × DataW H → Nat
  | (.string bytes, d) => bytes.length + uptoBulk d + 1
  | (_, d) => uptoBulk d + 1
 end
def uptoSmall : (H : Type) → List (DataW H) → Bool := fun _ ds => decide (uptoBulkAll ds ≤ 1048576)
def OpenSpec.upto (s : _root_.Go.ChangeSpec) : _root_.Go.OpenSpec := { _root_.Go.OpenSpec.ofChange s with cond := some uptoSmall }

/-- 'laws.FnExactHistoryValid', WHERE WHAT IT READS IS OF BULK AT MOST 1048576: true; the input reads as it did. -/
def fnExactHistoryValidUptoRow : OpenClaim := { program := "ytlnldnenkajcdaa", sum := "bee6d92dbba228acaa5d33a889b7d4405af7ba3e78bb45a581c8ab3b2b13570c", func := "loop.example/texteditor/laws.FnExactHistoryValid", spec := "fnExactHistoryValid", apart := false, narrowed := true }
def FnExactHistoryValidUptoSaid : Prop := fnExactHistoryValidUptoRow.holds Try.pinned (OpenSpec.upto fnExactHistoryValidSpec)

/-- 'laws.FnMoveMarks', WHERE WHAT IT READS IS OF BULK AT MOST 1048576: true; the input reads as it did. -/
def fnMoveMarksUptoRow : OpenClaim := { program := "ytlnldnenkajcdaa", sum := "bee6d92dbba228acaa5d33a889b7d4405af7ba3e78bb45a581c8ab3b2b13570c", func := "loop.example/texteditor/laws.FnMoveMarks", spec := "fnMoveMarks", inPlace := ["internal/bytealg.CountString", "internal/bytealg.IndexByteString", "internal/bytealg.IndexString"], named := ["internal/bytealg.MaxLen"], apart := false, narrowed := true }
def FnMoveMarksUptoSaid : Prop := fnMoveMarksUptoRow.holds Try.pinned (OpenSpec.upto fnMoveMarksSpec)

/-- 'laws.FnMarksBack', WHERE WHAT IT READS IS OF BULK AT MOST 1048576: true; the input reads as it did. -/
def fnMarksBackUptoRow : OpenClaim := { program := "ytlnldnenkajcdaa", sum := "bee6d92dbba228acaa5d33a889b7d4405af7ba3e78bb45a581c8ab3b2b13570c", func := "loop.example/texteditor/laws.FnMarksBack", spec := "fnMarksBack", inPlace := ["internal/bytealg.CountString", "internal/bytealg.IndexByteString", "internal/bytealg.IndexString"], named := ["internal/bytealg.MaxLen"], apart := false, narrowed := true }
def FnMarksBackUptoSaid : Prop := fnMarksBackUptoRow.holds Try.pinned (OpenSpec.upto fnMarksBackSpec)

/-- 'laws.FnHistoryValid', WHERE WHAT IT READS IS OF BULK AT MOST 1048576: true; the input reads as it did. -/
def fnHistoryValidUptoRow : OpenClaim := { program := "ytlnldnenkajcdaa", sum := "bee6d92dbba228acaa5d33a889b7d4405af7ba3e78bb45a581c8ab3b2b13570c", func := "loop.example/texteditor/laws.FnHistoryValid", spec := "fnHistoryValid", inPlace := ["internal/bytealg.CountString", "internal/bytealg.IndexByteString", "internal/bytealg.IndexString"], named := ["internal/bytealg.MaxLen"], apart := false, narrowed := true }
def FnHistoryValidUptoSaid : Prop := fnHistoryValidUptoRow.holds Try.pinned (OpenSpec.upto fnHistoryValidSpec)

end Rows
end Go.Proofs.Ytlnldnenkajcdaa
