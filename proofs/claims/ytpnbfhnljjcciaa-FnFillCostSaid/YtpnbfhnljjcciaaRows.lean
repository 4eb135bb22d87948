/-
  No cell of these rows narrows 'for every input' (looked for: loops, veiled, ifaces, maps, wideKeys, modest, calm, conditions, laid).
  DERIVED. THE GIVEN ROWS OF THIS SEAT. 10 by the template 'for every input the law returns true; each argument reads behind the call as it read before'; 0 by the template 'total and deterministic' (their statements: YtpnbfhnljjcciaaTotals.lean).
  GIVEN WITH THE SEED: the statements are not yours to turn. If you find one false, say at which input.
  Laid BY PROGRAM, IN A SANDBOX (cutbox-rows.mjs): the forced cells as the released guide's own fill.sh prints them over the translation 9b69067a2bdefcb5… (all of the seat's roots in one cut). By AI agents, Wed Nov 11 2026. No macro, syntax, notation, axiom, sorry.
-/
import Derived.Test.YtpnbfhnljjcciaaChecked
import GoSem.Claim
import GoSem.ClaimJoined
import GoSem.ClaimMapViews
import Derived.JoinedTies
import Derived.KernelRfl
namespace Go.Proofs.Ytpnbfhnljjcciaa
/- THE CELL 'sum', in the pinned program and in every row, IS THE sha256 OF THE DUMP (.gsa) THAT YtpnbfhnljjcciaaProg.lean LOADS. Nothing in Lean hashes anything: it is a label: what it is worth is what the hold of that sum in a sandbox is worth. -/
noncomputable def Try.pinned : Pinned := { name := "ytpnbfhnljjcciaa", sum := "9b69067a2bdefcb56feacf9a62ac24b5cf041637b8b322fc60f7a0edf8516b45", checked := Try.checked }
namespace Rows
def none {H : Type} : Left H := { results := [], args := [] }

/-- 'laws.FnFindNext': WHATEVER THE INPUT: true; the input reads as it did. -/
def fnFindNextSpec : ChangeSpec := { name := "fnFindNext", fn := fun _ => fun
  | [d] => { results := [.lit (.bool true)], args := [d] }
  | _ => none }
def fnFindNextRow : OpenClaim := { program := "ytpnbfhnljjcciaa", sum := "9b69067a2bdefcb56feacf9a62ac24b5cf041637b8b322fc60f7a0edf8516b45", func := "loop.example/texteditor/laws.FnFindNext", spec := "fnFindNext", inPlace := ["internal/bytealg.IndexByteString", "internal/bytealg.IndexString", "internal/bytealg.CountString"], named := ["internal/bytealg.MaxLen"], apart := false }
def FnFindNextSaid : Prop := fnFindNextRow.holds Try.pinned (OpenSpec.ofChange fnFindNextSpec)

/-- ITS FALSE NEIGHBOUR: 'it returns false'. Refute it at one input. -/
def fnFindNextWrong : ChangeSpec := { name := "fnFindNext", fn := fun _ => fun
  | [d] => { results := [.lit (.bool false)], args := [d] }
  | _ => none }
def FnFindNextWrongFalsely : Prop := fnFindNextRow.holds Try.pinned (OpenSpec.ofChange fnFindNextWrong)

/-- 'laws.FnFindPlaces': WHATEVER THE INPUT: true; the input reads as it did. -/
def fnFindPlacesSpec : ChangeSpec := { name := "fnFindPlaces", fn := fun _ => fun
  | [d] => { results := [.lit (.bool true)], args := [d] }
  | _ => none }
def fnFindPlacesRow : OpenClaim := { program := "ytpnbfhnljjcciaa", sum := "9b69067a2bdefcb56feacf9a62ac24b5cf041637b8b322fc60f7a0edf8516b45", func := "loop.example/texteditor/laws.FnFindPlaces", spec := "fnFindPlaces", inPlace := ["internal/bytealg.IndexByteString", "internal/bytealg.IndexString", "internal/bytealg.CountString"], named := ["internal/bytealg.MaxLen"], apart := false }
def FnFindPlacesSaid : Prop := fnFindPlacesRow.holds Try.pinned (OpenSpec.ofChange fnFindPlacesSpec)

/-- ITS FALSE NEIGHBOUR: 'it returns false'. Refute it at one input. -/
def fnFindPlacesWrong : ChangeSpec := { name := "fnFindPlaces", fn := fun _ => fun
  | [d] => { results := [.lit (.bool false)], args := [d] }
  | _ => none }
def FnFindPlacesWrongFalsely : Prop := fnFindPlacesRow.holds Try.pinned (OpenSpec.ofChange fnFindPlacesWrong)

/-- 'laws.FnFindLast': WHATEVER THE INPUT: true; the input reads as it did. -/
def fnFindLastSpec : ChangeSpec := { name := "fnFindLast", fn := fun _ => fun
  | [d] => { results := [.lit (.bool true)], args := [d] }
  | _ => none }
def fnFindLastRow : OpenClaim := { program := "ytpnbfhnljjcciaa", sum := "9b69067a2bdefcb56feacf9a62ac24b5cf041637b8b322fc60f7a0edf8516b45", func := "loop.example/texteditor/laws.FnFindLast", spec := "fnFindLast", inPlace := ["internal/bytealg.CountString", "internal/bytealg.IndexByteString", "internal/bytealg.IndexString"], named := ["internal/bytealg.MaxLen"], apart := false }
def FnFindLastSaid : Prop := fnFindLastRow.holds Try.pinned (OpenSpec.ofChange fnFindLastSpec)

/-- ITS FALSE NEIGHBOUR: 'it returns false'. Refute it at one input. -/
def fnFindLastWrong : ChangeSpec := { name := "fnFindLast", fn := fun _ => fun
  | [d] => { results := [.lit (.bool false)], args := [d] }
  | _ => none }
def FnFindLastWrongFalsely : Prop := fnFindLastRow.holds Try.pinned (OpenSpec.ofChange fnFindLastWrong)

/-- 'laws.FnReplacePlaces': WHATEVER THE INPUT: true; the input reads as it did. -/
def fnReplacePlacesSpec : ChangeSpec := { name := "fnReplacePlaces", fn := fun _ => fun
  | [d] => { results := [.lit (.bool true)], args := [d] }
  | _ => none }
def fnReplacePlacesRow : OpenClaim := { program := "ytpnbfhnljjcciaa", sum := "9b69067a2bdefcb56feacf9a62ac24b5cf041637b8b322fc60f7a0edf8516b45", func := "loop.example/texteditor/laws.FnReplacePlaces", spec := "fnReplacePlaces", inPlace := ["internal/bytealg.IndexByteString", "internal/bytealg.IndexString", "internal/abi.NoEscape", "internal/bytealg.CountString"], named := ["internal/bytealg.MaxLen"], apart := false }
def FnReplacePlacesSaid : Prop := fnReplacePlacesRow.holds Try.pinned (OpenSpec.ofChange fnReplacePlacesSpec)

/-- ITS FALSE NEIGHBOUR: 'it returns false'. Refute it at one input. -/
def fnReplacePlacesWrong : ChangeSpec := { name := "fnReplacePlaces", fn := fun _ => fun
  | [d] => { results := [.lit (.bool false)], args := [d] }
  | _ => none }
def FnReplacePlacesWrongFalsely : Prop := fnReplacePlacesRow.holds Try.pinned (OpenSpec.ofChange fnReplacePlacesWrong)

/-- 'laws.FnFillCost': WHATEVER THE INPUT: true; the input reads as it did. -/
def fnFillCostSpec : ChangeSpec := { name := "fnFillCost", fn := fun _ => fun
  | [d] => { results := [.lit (.bool true)], args := [d] }
  | _ => none }
def fnFillCostRow : OpenClaim := { program := "ytpnbfhnljjcciaa", sum := "9b69067a2bdefcb56feacf9a62ac24b5cf041637b8b322fc60f7a0edf8516b45", func := "loop.example/texteditor/laws.FnFillCost", spec := "fnFillCost", inPlace := ["internal/bytealg.CountString", "internal/bytealg.IndexByteString", "internal/bytealg.IndexString"], named := ["internal/bytealg.MaxLen"], apart := false }
def FnFillCostSaid : Prop := fnFillCostRow.holds Try.pinned (OpenSpec.ofChange fnFillCostSpec)

/-- ITS FALSE NEIGHBOUR: 'it returns false'. Refute it at one input. -/
def fnFillCostWrong : ChangeSpec := { name := "fnFillCost", fn := fun _ => fun
  | [d] => { results := [.lit (.bool false)], args := [d] }
  | _ => none }
def FnFillCostWrongFalsely : Prop := fnFillCostRow.holds Try.pinned (OpenSpec.ofChange fnFillCostWrong)

/-- 'laws.FnExactLineMove': WHATEVER THE INPUT: true; the input reads as it did. -/
def fnExactLineMoveSpec : ChangeSpec := { name := "fnExactLineMove", fn := fun _ => fun
  | [d1, d2, d3, d4] => { results := [.lit (.bool true)], args := [d1, d2, d3, d4] }
  | _ => none }
def fnExactLineMoveRow : OpenClaim := { program := "ytpnbfhnljjcciaa", sum := "9b69067a2bdefcb56feacf9a62ac24b5cf041637b8b322fc60f7a0edf8516b45", func := "loop.example/texteditor/laws.FnExactLineMove", spec := "fnExactLineMove", inPlace := ["internal/bytealg.CountString", "internal/bytealg.IndexByteString", "internal/bytealg.IndexString"], named := ["internal/bytealg.MaxLen"], apart := false }
def FnExactLineMoveSaid : Prop := fnExactLineMoveRow.holds Try.pinned (OpenSpec.ofChange fnExactLineMoveSpec)

/-- ITS FALSE NEIGHBOUR: 'it returns false'. Refute it at one input. -/
def fnExactLineMoveWrong : ChangeSpec := { name := "fnExactLineMove", fn := fun _ => fun
  | [d1, d2, d3, d4] => { results := [.lit (.bool false)], args := [d1, d2, d3, d4] }
  | _ => none }
def FnExactLineMoveWrongFalsely : Prop := fnExactLineMoveRow.holds Try.pinned (OpenSpec.ofChange fnExactLineMoveWrong)

/-- 'laws.FnLineMove': WHATEVER THE INPUT: true; the input reads as it did. -/
def fnLineMoveSpec : ChangeSpec := { name := "fnLineMove", fn := fun _ => fun
  | [d] => { results := [.lit (.bool true)], args := [d] }
  | _ => none }
def fnLineMoveRow : OpenClaim := { program := "ytpnbfhnljjcciaa", sum := "9b69067a2bdefcb56feacf9a62ac24b5cf041637b8b322fc60f7a0edf8516b45", func := "loop.example/texteditor/laws.FnLineMove", spec := "fnLineMove", inPlace := ["internal/bytealg.CountString", "internal/bytealg.IndexByteString", "internal/bytealg.IndexString"], named := ["internal/bytealg.MaxLen"], apart := false }
def FnLineMoveSaid : Prop := fnLineMoveRow.holds Try.pinned (OpenSpec.ofChange fnLineMoveSpec)

/-- ITS FALSE NEIGHBOUR: 'it returns false'. Refute it at one input. -/
def fnLineMoveWrong : ChangeSpec := { name := "fnLineMove", fn := fun _ => fun
  | [d] => { results := [.lit (.bool false)], args := [d] }
  | _ => none }
def FnLineMoveWrongFalsely : Prop := fnLineMoveRow.holds Try.pinned (OpenSpec.ofChange fnLineMoveWrong)

/-- 'laws.FnExactHistoryOf': WHATEVER THE INPUT: true; the input reads as it did. -/
def fnExactHistoryOfSpec : ChangeSpec := { name := "fnExactHistoryOf", fn := fun _ => fun
  | [] => { results := [.lit (.bool true)], args := [] }
  | _ => none }
def fnExactHistoryOfRow : OpenClaim := { program := "ytpnbfhnljjcciaa", sum := "9b69067a2bdefcb56feacf9a62ac24b5cf041637b8b322fc60f7a0edf8516b45", func := "loop.example/texteditor/laws.FnExactHistoryOf", spec := "fnExactHistoryOf", apart := false }
def FnExactHistoryOfSaid : Prop := fnExactHistoryOfRow.holds Try.pinned (OpenSpec.ofChange fnExactHistoryOfSpec)

/-- ITS FALSE NEIGHBOUR: 'it returns false'. Refute it at one input. -/
def fnExactHistoryOfWrong : ChangeSpec := { name := "fnExactHistoryOf", fn := fun _ => fun
  | [] => { results := [.lit (.bool false)], args := [] }
  | _ => none }
def FnExactHistoryOfWrongFalsely : Prop := fnExactHistoryOfRow.holds Try.pinned (OpenSpec.ofChange fnExactHistoryOfWrong)

/-- 'laws.FnMoveMarks': WHATEVER THE INPUT: true; the input reads as it did. -/
def fnMoveMarksSpec : ChangeSpec := { name := "fnMoveMarks", fn := fun _ => fun
  | [d] => { results := [.lit (.bool true)], args := [d] }
  | _ => none }
def fnMoveMarksRow : OpenClaim := { program := "ytpnbfhnljjcciaa", sum := "9b69067a2bdefcb56feacf9a62ac24b5cf041637b8b322fc60f7a0edf8516b45", func := "loop.example/texteditor/laws.FnMoveMarks", spec := "fnMoveMarks", inPlace := ["internal/bytealg.CountString", "internal/bytealg.IndexByteString", "internal/bytealg.IndexString"], named := ["internal/bytealg.MaxLen"], apart := false }
def FnMoveMarksSaid : Prop := fnMoveMarksRow.holds Try.pinned (OpenSpec.ofChange fnMoveMarksSpec)

/-- ITS FALSE NEIGHBOUR: 'it returns false'. Refute it at one input. -/
def fnMoveMarksWrong : ChangeSpec := { name := "fnMoveMarks", fn := fun _ => fun
  | [d] => { results := [.lit (.bool false)], args := [d] }
  | _ => none }
def FnMoveMarksWrongFalsely : Prop := fnMoveMarksRow.holds Try.pinned (OpenSpec.ofChange fnMoveMarksWrong)

/-- 'laws.FnMarksBack': WHATEVER THE INPUT: true; the input reads as it did. -/
def fnMarksBackSpec : ChangeSpec := { name := "fnMarksBack", fn := fun _ => fun
  | [d] => { results := [.lit (.bool true)], args := [d] }
  | _ => none }
def fnMarksBackRow : OpenClaim := { program := "ytpnbfhnljjcciaa", sum := "9b69067a2bdefcb56feacf9a62ac24b5cf041637b8b322fc60f7a0edf8516b45", func := "loop.example/texteditor/laws.FnMarksBack", spec := "fnMarksBack", inPlace := ["internal/bytealg.CountString", "internal/bytealg.IndexByteString", "internal/bytealg.IndexString"], named := ["internal/bytealg.MaxLen"], apart := false }
def FnMarksBackSaid : Prop := fnMarksBackRow.holds Try.pinned (OpenSpec.ofChange fnMarksBackSpec)

/-- ITS FALSE NEIGHBOUR: 'it returns false'. Refute it at one input. -/
def fnMarksBackWrong : ChangeSpec := { name := "fnMarksBack", fn := fun _ => fun
  | [d] => { results := [.lit (.bool false)], args := [d] }
  | _ => none }
def FnMarksBackWrongFalsely : Prop := fnMarksBackRow.holds Try.pinned (OpenSpec.ofChange fnMarksBackWrong)

/- THE SECOND FORM. 'bulk': how many values and letters a reading holds, each counted each time it is reached (what is shared counts as often as it is met; a slice's spare places count too). A statement '..UptoSaid' is the law's where the arguments, and the package variables that the reading takes, are together of bulk at most 1048576: NARROWER than '..Said'. Prove '..Said' where nothing that the law and all that it calls make is longer than what came in: it says more and counts as full. Else prove '..UptoSaid'. A law counts once. -/
mutual
def uptoBulk {H : Type} : DataW H → Nat
  | .lit (.string bytes) => bytes.length + 1
  | .lit _ => 1
  | .nil => 1
  | .ptr d => uptoBulk d + 1
  | .slice elems spare => uptoBulkAll elems + uptoBulkAll spare + 1
  | .agg parts => uptoBulkAll parts + 1
  | .iface _ d => uptoBulk d + 1
  | .map entries => uptoBulkEntries entries + 1
  | .held _ => 1
def uptoBulkAll {H : Type} : List (DataW H) → Nat
  | [] => 0
  | d :: r => uptoBulk d + uptoBulkAll r
def uptoBulkEntries {H : Type} : List (Lit × DataW H) → Nat
  | [] => 0
  | x :: r => uptoBulkEntry x + uptoBulkEntries r
def uptoBulkEntry {H : Type} : Lit × DataW H → Nat
  | (.string bytes, d) => bytes.length + uptoBulk d + 1
  | (_, d) => uptoBulk d + 1
 end
def uptoSmall : (H : Type) → List (DataW H) → Bool := fun _ ds => decide (uptoBulkAll ds ≤ 1048576)
def OpenSpec.upto (s : _root_.Go.ChangeSpec) : _root_.Go.OpenSpec := { _root_.Go.OpenSpec.ofChange s with cond := some uptoSmall }

/-- 'laws.FnFindNext', WHERE WHAT IT READS IS OF BULK AT MOST 1048576: true; the input reads as it did. -/
def fnFindNextUptoRow : OpenClaim := { program := "ytpnbfhnljjcciaa", sum := "9b69067a2bdefcb56feacf9a62ac24b5cf041637b8b322fc60f7a0edf8516b45", func := "loop.example/texteditor/laws.FnFindNext", spec := "fnFindNext", inPlace := ["internal/bytealg.IndexByteString", "internal/bytealg.IndexString", "internal/bytealg.CountString"], named := ["internal/bytealg.MaxLen"], apart := false, narrowed := true }
def FnFindNextUptoSaid : Prop := fnFindNextUptoRow.holds Try.pinned (OpenSpec.upto fnFindNextSpec)

/-- 'laws.FnFindPlaces', WHERE WHAT IT READS IS OF BULK AT MOST 1048576: true; the input reads as it did. -/
def fnFindPlacesUptoRow : OpenClaim := { program := "ytpnbfhnljjcciaa", sum := "9b69067a2bdefcb56feacf9a62ac24b5cf041637b8b322fc60f7a0edf8516b45", func := "loop.example/texteditor/laws.FnFindPlaces", spec := "fnFindPlaces", inPlace := ["internal/bytealg.IndexByteString", "internal/bytealg.IndexString", "internal/bytealg.CountString"], named := ["internal/bytealg.MaxLen"], apart := false, narrowed := true }
def FnFindPlacesUptoSaid : Prop := fnFindPlacesUptoRow.holds Try.pinned (OpenSpec.upto fnFindPlacesSpec)

/-- 'laws.FnFindLast', WHERE WHAT IT READS IS OF BULK AT MOST 1048576: true; the input reads as it did. -/
def fnFindLastUptoRow : OpenClaim := { program := "ytpnbfhnljjcciaa", sum := "9b69067a2bdefcb56feacf9a62ac24b5cf041637b8b322fc60f7a0edf8516b45", func := "loop.example/texteditor/laws.FnFindLast", spec := "fnFindLast", inPlace := ["internal/bytealg.CountString", "internal/bytealg.IndexByteString", "internal/bytealg.IndexString"], named := ["internal/bytealg.MaxLen"], apart := false, narrowed := true }
def FnFindLastUptoSaid : Prop := fnFindLastUptoRow.holds Try.pinned (OpenSpec.upto fnFindLastSpec)

/-- 'laws.FnReplacePlaces', WHERE WHAT IT READS IS OF BULK AT MOST 1048576: true; the input reads as it did. -/
def fnReplacePlacesUptoRow : OpenClaim := { program := "ytpnbfhnljjcciaa", sum := "9b69067a2bdefcb56feacf9a62ac24b5cf041637b8b322fc60f7a0edf8516b45", func := "loop.example/texteditor/laws.FnReplacePlaces", spec := "fnReplacePlaces", inPlace := ["internal/bytealg.IndexByteString", "internal/bytealg.IndexString", "internal/abi.NoEscape", "internal/bytealg.CountString"], named := ["internal/bytealg.MaxLen"], apart := false, narrowed := true }
def FnReplacePlacesUptoSaid : Prop := fnReplacePlacesUptoRow.holds Try.pinned (OpenSpec.upto fnReplacePlacesSpec)

/-- 'laws.FnFillCost', WHERE WHAT IT READS IS OF BULK AT MOST 1048576: true; the input reads as it did. -/
def fnFillCostUptoRow : OpenClaim := { program := "ytpnbfhnljjcciaa", sum := "9b69067a2bdefcb56feacf9a62ac24b5cf041637b8b322fc60f7a0edf8516b45", func := "loop.example/texteditor/laws.FnFillCost", spec := "fnFillCost", inPlace := ["internal/bytealg.CountString", "internal/bytealg.IndexByteString", "internal/bytealg.IndexString"], named := ["internal/bytealg.MaxLen"], apart := false, narrowed := true }
def FnFillCostUptoSaid : Prop := fnFillCostUptoRow.holds Try.pinned (OpenSpec.upto fnFillCostSpec)

/-- 'laws.FnExactLineMove', WHERE WHAT IT READS IS OF BULK AT MOST 1048576: true; the input reads as it did. -/
def fnExactLineMoveUptoRow : OpenClaim := { program := "ytpnbfhnljjcciaa", sum := "9b69067a2bdefcb56feacf9a62ac24b5cf041637b8b322fc60f7a0edf8516b45", func := "loop.example/texteditor/laws.FnExactLineMove", spec := "fnExactLineMove", inPlace := ["internal/bytealg.CountString", "internal/bytealg.IndexByteString", "internal/bytealg.IndexString"], named := ["internal/bytealg.MaxLen"], apart := false, narrowed := true }
def FnExactLineMoveUptoSaid : Prop := fnExactLineMoveUptoRow.holds Try.pinned (OpenSpec.upto fnExactLineMoveSpec)

/-- 'laws.FnLineMove', WHERE WHAT IT READS IS OF BULK AT MOST 1048576: true; the input reads as it did. -/
def fnLineMoveUptoRow : OpenClaim := { program := "ytpnbfhnljjcciaa", sum := "9b69067a2bdefcb56feacf9a62ac24b5cf041637b8b322fc60f7a0edf8516b45", func := "loop.example/texteditor/laws.FnLineMove", spec := "fnLineMove", inPlace := ["internal/bytealg.CountString", "internal/bytealg.IndexByteString", "internal/bytealg.IndexString"], named := ["internal/bytealg.MaxLen"], apart := false, narrowed := true }
def FnLineMoveUptoSaid : Prop := fnLineMoveUptoRow.holds Try.pinned (OpenSpec.upto fnLineMoveSpec)

/-- 'laws.FnExactHistoryOf', WHERE WHAT IT READS IS OF BULK AT MOST 1048576: true; the input reads as it did. -/
def fnExactHistoryOfUptoRow : OpenClaim := { program := "ytpnbfhnljjcciaa", sum := "9b69067a2bdefcb56feacf9a62ac24b5cf041637b8b322fc60f7a0edf8516b45", func := "loop.example/texteditor/laws.FnExactHistoryOf", spec := "fnExactHistoryOf", apart := false, narrowed := true }
def FnExactHistoryOfUptoSaid : Prop := fnExactHistoryOfUptoRow.holds Try.pinned (OpenSpec.upto fnExactHistoryOfSpec)

/-- 'laws.FnMoveMarks', WHERE WHAT IT READS IS OF BULK AT MOST 1048576: true; the input reads as it did. -/
def fnMoveMarksUptoRow : OpenClaim := { program := "ytpnbfhnljjcciaa", sum := "9b69067a2bdefcb56feacf9a62ac24b5cf041637b8b322fc60f7a0edf8516b45", func := "loop.example/texteditor/laws.FnMoveMarks", spec := "fnMoveMarks", inPlace := ["internal/bytealg.CountString", "internal/bytealg.IndexByteString", "internal/bytealg.IndexString"], named := ["internal/bytealg.MaxLen"], apart := false, narrowed := true }
def FnMoveMarksUptoSaid : Prop := fnMoveMarksUptoRow.holds Try.pinned (OpenSpec.upto fnMoveMarksSpec)

/-- 'laws.FnMarksBack', WHERE WHAT IT READS IS OF BULK AT MOST 1048576: true; the input reads as it did. -/
def fnMarksBackUptoRow : OpenClaim := { program := "ytpnbfhnljjcciaa", sum := "9b69067a2bdefcb56feacf9a62ac24b5cf041637b8b322fc60f7a0edf8516b45", func := "loop.example/texteditor/laws.FnMarksBack", spec := "fnMarksBack", inPlace := ["internal/bytealg.CountString", "internal/bytealg.IndexByteString", "internal/bytealg.IndexString"], named := ["internal/bytealg.MaxLen"], apart := false, narrowed := true }
def FnMarksBackUptoSaid : Prop := fnMarksBackUptoRow.holds Try.pinned (OpenSpec.upto fnMarksBackSpec)

end Rows
end Go.Proofs.Ytpnbfhnljjcciaa
