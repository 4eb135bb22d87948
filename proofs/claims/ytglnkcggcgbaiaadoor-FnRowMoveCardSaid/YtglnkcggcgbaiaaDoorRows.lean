/-
  NARROWER THAN 'FOR EVERY INPUT', by the rows' own cells (each row's printed sentence says how): FnExactRowOf: laid · FnExactWrapRows: laid · FnExactRowMove: laid · FnExactRowTexts: laid · FnWrapRows: laid · FnRowTexts: laid · FnWrapWide: laid · FnRowOf: laid · FnRowMove: laid.
  DERIVED. THE GIVEN ROWS OF THIS SEAT. 9 by the template 'for every input the law returns true; each argument reads behind the call as it read before'; 0 by the template 'total and deterministic' (their statements: YtglnkcggcgbaiaaDoorTotals.lean).
  GIVEN WITH THE SEED: the statements are not yours to turn. If you find one false, say at which input.
  Laid BY PROGRAM, IN A SANDBOX (cutbox-rows.mjs): the forced cells as the released guide's own fill.sh prints them over the translation 8c371f559c703f7b… (all of the seat's roots in one cut). By AI agents, Wed Nov 11 2026. No macro, syntax, notation, axiom, sorry.
-/
import Derived.Test.YtglnkcggcgbaiaaDoorChecked
import GoSem.PinnedTables
import GoSem.Claim
import GoSem.ClaimJoined
import GoSem.ClaimMapViews
import Derived.JoinedTies
import Derived.KernelRfl
namespace Go.Proofs.YtglnkcggcgbaiaaDoor
/- THE CELL 'sum', in the pinned program and in every row, IS THE sha256 OF THE DUMP (.gsa) THAT YtglnkcggcgbaiaaDoorProg.lean LOADS. Nothing in Lean hashes anything: it is a label: what it is worth is what the hold of that sum in a sandbox is worth. -/
noncomputable def Tryd.pinned : Pinned := { name := "ytglnkcggcgbaiaadoor", sum := "8c371f559c703f7b2061e755f8a3f6bc792ba37cd3792c2bbc1d825c552f5211", checked := Tryd.checked }
namespace Rows
def none {H : Type} : Left H := { results := [], args := [] }

/- WHAT THE LISTED PACKAGE-LEVEL VARIABLES READ AS WHEN THE CALL BEGINS. Each datum BY PROGRAM (the guide's laid-datum.mjs) off the statement by which the dump's own 'gosem.cut.vars' lays the variable. In a bare row this is a premise. The card (YtglnkcggcgbaiaaDoorCards.lean) ties it to the program's text. -/
def laid_unicode_utf8_acceptRanges {H : Type} : DataW H := .agg [.agg [.lit (.int .u8 128), .lit (.int .u8 191)], .agg [.lit (.int .u8 160), .lit (.int .u8 191)], .agg [.lit (.int .u8 128), .lit (.int .u8 159)], .agg [.lit (.int .u8 144), .lit (.int .u8 191)], .agg [.lit (.int .u8 128), .lit (.int .u8 143)], .agg [.lit (.int .u8 0), .lit (.int .u8 0)], .agg [.lit (.int .u8 0), .lit (.int .u8 0)], .agg [.lit (.int .u8 0), .lit (.int .u8 0)], .agg [.lit (.int .u8 0), .lit (.int .u8 0)], .agg [.lit (.int .u8 0), .lit (.int .u8 0)], .agg [.lit (.int .u8 0), .lit (.int .u8 0)], .agg [.lit (.int .u8 0), .lit (.int .u8 0)], .agg [.lit (.int .u8 0), .lit (.int .u8 0)], .agg [.lit (.int .u8 0), .lit (.int .u8 0)], .agg [.lit (.int .u8 0), .lit (.int .u8 0)], .agg [.lit (.int .u8 0), .lit (.int .u8 0)]]
/-- One of Go's own tables, pinned by name: the form's constant. -/
def laid_unicode_utf8_first : DataW Unit := Go.Pinned.utf8First

/-- 'laws.FnExactRowOf': WHATEVER THE INPUT: true; the input reads as it did. -/
def fnExactRowOfSpec : ChangeSpec := { name := "fnExactRowOf", fn := fun _ => fun
  | [d1, d2, d3] => { results := [.lit (.bool true)], args := [d1, d2, d3] }
  | _ => none }
def fnExactRowOfRow : OpenClaim := { program := "ytglnkcggcgbaiaadoor", sum := "8c371f559c703f7b2061e755f8a3f6bc792ba37cd3792c2bbc1d825c552f5211", func := "loop.example/texteditor/laws.FnExactRowOf", spec := "fnExactRowOf", inPlace := ["internal/bytealg.CountString", "internal/bytealg.IndexByteString", "internal/bytealg.IndexString"], named := ["unicode/utf8.first", "unicode/utf8.acceptRanges", "internal/bytealg.MaxLen"], apart := false, laid := [("unicode/utf8.acceptRanges", laid_unicode_utf8_acceptRanges), ("unicode/utf8.first", laid_unicode_utf8_first)] }
def FnExactRowOfSaid : Prop := fnExactRowOfRow.holds Tryd.pinned (OpenSpec.ofChange fnExactRowOfSpec)

/-- ITS FALSE NEIGHBOUR: 'it returns false'. Refute it at one input. -/
def fnExactRowOfWrong : ChangeSpec := { name := "fnExactRowOf", fn := fun _ => fun
  | [d1, d2, d3] => { results := [.lit (.bool false)], args := [d1, d2, d3] }
  | _ => none }
def FnExactRowOfWrongFalsely : Prop := fnExactRowOfRow.holds Tryd.pinned (OpenSpec.ofChange fnExactRowOfWrong)

/-- 'laws.FnExactWrapRows': WHATEVER THE INPUT: true; the input reads as it did. -/
def fnExactWrapRowsSpec : ChangeSpec := { name := "fnExactWrapRows", fn := fun _ => fun
  | [d1, d2] => { results := [.lit (.bool true)], args := [d1, d2] }
  | _ => none }
def fnExactWrapRowsRow : OpenClaim := { program := "ytglnkcggcgbaiaadoor", sum := "8c371f559c703f7b2061e755f8a3f6bc792ba37cd3792c2bbc1d825c552f5211", func := "loop.example/texteditor/laws.FnExactWrapRows", spec := "fnExactWrapRows", inPlace := ["internal/bytealg.CountString", "internal/bytealg.IndexByteString", "internal/bytealg.IndexString"], named := ["unicode/utf8.first", "unicode/utf8.acceptRanges", "internal/bytealg.MaxLen"], apart := false, laid := [("unicode/utf8.acceptRanges", laid_unicode_utf8_acceptRanges), ("unicode/utf8.first", laid_unicode_utf8_first)] }
def FnExactWrapRowsSaid : Prop := fnExactWrapRowsRow.holds Tryd.pinned (OpenSpec.ofChange fnExactWrapRowsSpec)

/-- ITS FALSE NEIGHBOUR: 'it returns false'. Refute it at one input. -/
def fnExactWrapRowsWrong : ChangeSpec := { name := "fnExactWrapRows", fn := fun _ => fun
  | [d1, d2] => { results := [.lit (.bool false)], args := [d1, d2] }
  | _ => none }
def FnExactWrapRowsWrongFalsely : Prop := fnExactWrapRowsRow.holds Tryd.pinned (OpenSpec.ofChange fnExactWrapRowsWrong)

/-- 'laws.FnExactRowMove': WHATEVER THE INPUT: true; the input reads as it did. -/
def fnExactRowMoveSpec : ChangeSpec := { name := "fnExactRowMove", fn := fun _ => fun
  | [d1, d2, d3, d4] => { results := [.lit (.bool true)], args := [d1, d2, d3, d4] }
  | _ => none }
def fnExactRowMoveRow : OpenClaim := { program := "ytglnkcggcgbaiaadoor", sum := "8c371f559c703f7b2061e755f8a3f6bc792ba37cd3792c2bbc1d825c552f5211", func := "loop.example/texteditor/laws.FnExactRowMove", spec := "fnExactRowMove", inPlace := ["internal/bytealg.CountString", "internal/bytealg.IndexByteString", "internal/bytealg.IndexString"], named := ["unicode/utf8.first", "unicode/utf8.acceptRanges", "internal/bytealg.MaxLen"], apart := false, laid := [("unicode/utf8.acceptRanges", laid_unicode_utf8_acceptRanges), ("unicode/utf8.first", laid_unicode_utf8_first)] }
def FnExactRowMoveSaid : Prop := fnExactRowMoveRow.holds Tryd.pinned (OpenSpec.ofChange fnExactRowMoveSpec)

/-- ITS FALSE NEIGHBOUR: 'it returns false'. Refute it at one input. -/
def fnExactRowMoveWrong : ChangeSpec := { name := "fnExactRowMove", fn := fun _ => fun
  | [d1, d2, d3, d4] => { results := [.lit (.bool false)], args := [d1, d2, d3, d4] }
  | _ => none }
def FnExactRowMoveWrongFalsely : Prop := fnExactRowMoveRow.holds Tryd.pinned (OpenSpec.ofChange fnExactRowMoveWrong)

/-- 'laws.FnExactRowTexts': WHATEVER THE INPUT: true; the input reads as it did. -/
def fnExactRowTextsSpec : ChangeSpec := { name := "fnExactRowTexts", fn := fun _ => fun
  | [d1, d2] => { results := [.lit (.bool true)], args := [d1, d2] }
  | _ => none }
def fnExactRowTextsRow : OpenClaim := { program := "ytglnkcggcgbaiaadoor", sum := "8c371f559c703f7b2061e755f8a3f6bc792ba37cd3792c2bbc1d825c552f5211", func := "loop.example/texteditor/laws.FnExactRowTexts", spec := "fnExactRowTexts", inPlace := ["internal/bytealg.CountString", "internal/bytealg.IndexByteString", "internal/bytealg.IndexString"], named := ["unicode/utf8.first", "unicode/utf8.acceptRanges", "internal/bytealg.MaxLen"], apart := false, laid := [("unicode/utf8.acceptRanges", laid_unicode_utf8_acceptRanges), ("unicode/utf8.first", laid_unicode_utf8_first)] }
def FnExactRowTextsSaid : Prop := fnExactRowTextsRow.holds Tryd.pinned (OpenSpec.ofChange fnExactRowTextsSpec)

/-- ITS FALSE NEIGHBOUR: 'it returns false'. Refute it at one input. -/
def fnExactRowTextsWrong : ChangeSpec := { name := "fnExactRowTexts", fn := fun _ => fun
  | [d1, d2] => { results := [.lit (.bool false)], args := [d1, d2] }
  | _ => none }
def FnExactRowTextsWrongFalsely : Prop := fnExactRowTextsRow.holds Tryd.pinned (OpenSpec.ofChange fnExactRowTextsWrong)

/-- 'laws.FnWrapRows': WHATEVER THE INPUT: true; the input reads as it did. -/
def fnWrapRowsSpec : ChangeSpec := { name := "fnWrapRows", fn := fun _ => fun
  | [d] => { results := [.lit (.bool true)], args := [d] }
  | _ => none }
def fnWrapRowsRow : OpenClaim := { program := "ytglnkcggcgbaiaadoor", sum := "8c371f559c703f7b2061e755f8a3f6bc792ba37cd3792c2bbc1d825c552f5211", func := "loop.example/texteditor/laws.FnWrapRows", spec := "fnWrapRows", inPlace := ["internal/bytealg.CountString", "internal/bytealg.IndexByteString", "internal/bytealg.IndexString"], named := ["unicode/utf8.first", "unicode/utf8.acceptRanges", "internal/bytealg.MaxLen"], apart := false, laid := [("unicode/utf8.acceptRanges", laid_unicode_utf8_acceptRanges), ("unicode/utf8.first", laid_unicode_utf8_first)] }
def FnWrapRowsSaid : Prop := fnWrapRowsRow.holds Tryd.pinned (OpenSpec.ofChange fnWrapRowsSpec)

/-- ITS FALSE NEIGHBOUR: 'it returns false'. Refute it at one input. -/
def fnWrapRowsWrong : ChangeSpec := { name := "fnWrapRows", fn := fun _ => fun
  | [d] => { results := [.lit (.bool false)], args := [d] }
  | _ => none }
def FnWrapRowsWrongFalsely : Prop := fnWrapRowsRow.holds Tryd.pinned (OpenSpec.ofChange fnWrapRowsWrong)

/-- 'laws.FnRowTexts': WHATEVER THE INPUT: true; the input reads as it did. -/
def fnRowTextsSpec : ChangeSpec := { name := "fnRowTexts", fn := fun _ => fun
  | [d] => { results := [.lit (.bool true)], args := [d] }
  | _ => none }
def fnRowTextsRow : OpenClaim := { program := "ytglnkcggcgbaiaadoor", sum := "8c371f559c703f7b2061e755f8a3f6bc792ba37cd3792c2bbc1d825c552f5211", func := "loop.example/texteditor/laws.FnRowTexts", spec := "fnRowTexts", inPlace := ["internal/bytealg.CountString", "internal/bytealg.IndexByteString", "internal/bytealg.IndexString"], named := ["unicode/utf8.first", "unicode/utf8.acceptRanges", "internal/bytealg.MaxLen"], apart := false, laid := [("unicode/utf8.acceptRanges", laid_unicode_utf8_acceptRanges), ("unicode/utf8.first", laid_unicode_utf8_first)] }
def FnRowTextsSaid : Prop := fnRowTextsRow.holds Tryd.pinned (OpenSpec.ofChange fnRowTextsSpec)

/-- ITS FALSE NEIGHBOUR: 'it returns false'. Refute it at one input. -/
def fnRowTextsWrong : ChangeSpec := { name := "fnRowTexts", fn := fun _ => fun
  | [d] => { results := [.lit (.bool false)], args := [d] }
  | _ => none }
def FnRowTextsWrongFalsely : Prop := fnRowTextsRow.holds Tryd.pinned (OpenSpec.ofChange fnRowTextsWrong)

/-- 'laws.FnWrapWide': WHATEVER THE INPUT: true; the input reads as it did. -/
def fnWrapWideSpec : ChangeSpec := { name := "fnWrapWide", fn := fun _ => fun
  | [d] => { results := [.lit (.bool true)], args := [d] }
  | _ => none }
def fnWrapWideRow : OpenClaim := { program := "ytglnkcggcgbaiaadoor", sum := "8c371f559c703f7b2061e755f8a3f6bc792ba37cd3792c2bbc1d825c552f5211", func := "loop.example/texteditor/laws.FnWrapWide", spec := "fnWrapWide", inPlace := ["internal/bytealg.CountString", "internal/bytealg.IndexByteString", "internal/bytealg.IndexString"], named := ["unicode/utf8.first", "unicode/utf8.acceptRanges", "internal/bytealg.MaxLen"], apart := false, laid := [("unicode/utf8.acceptRanges", laid_unicode_utf8_acceptRanges), ("unicode/utf8.first", laid_unicode_utf8_first)] }
def FnWrapWideSaid : Prop := fnWrapWideRow.holds Tryd.pinned (OpenSpec.ofChange fnWrapWideSpec)

/-- ITS FALSE NEIGHBOUR: 'it returns false'. Refute it at one input. -/
def fnWrapWideWrong : ChangeSpec := { name := "fnWrapWide", fn := fun _ => fun
  | [d] => { results := [.lit (.bool false)], args := [d] }
  | _ => none }
def FnWrapWideWrongFalsely : Prop := fnWrapWideRow.holds Tryd.pinned (OpenSpec.ofChange fnWrapWideWrong)

/-- 'laws.FnRowOf': WHATEVER THE INPUT: true; the input reads as it did. -/
def fnRowOfSpec : ChangeSpec := { name := "fnRowOf", fn := fun _ => fun
  | [d] => { results := [.lit (.bool true)], args := [d] }
  | _ => none }
def fnRowOfRow : OpenClaim := { program := "ytglnkcggcgbaiaadoor", sum := "8c371f559c703f7b2061e755f8a3f6bc792ba37cd3792c2bbc1d825c552f5211", func := "loop.example/texteditor/laws.FnRowOf", spec := "fnRowOf", inPlace := ["internal/bytealg.CountString", "internal/bytealg.IndexByteString", "internal/bytealg.IndexString"], named := ["unicode/utf8.first", "unicode/utf8.acceptRanges", "internal/bytealg.MaxLen"], apart := false, laid := [("unicode/utf8.acceptRanges", laid_unicode_utf8_acceptRanges), ("unicode/utf8.first", laid_unicode_utf8_first)] }
def FnRowOfSaid : Prop := fnRowOfRow.holds Tryd.pinned (OpenSpec.ofChange fnRowOfSpec)

/-- ITS FALSE NEIGHBOUR: 'it returns false'. Refute it at one input. -/
def fnRowOfWrong : ChangeSpec := { name := "fnRowOf", fn := fun _ => fun
  | [d] => { results := [.lit (.bool false)], args := [d] }
  | _ => none }
def FnRowOfWrongFalsely : Prop := fnRowOfRow.holds Tryd.pinned (OpenSpec.ofChange fnRowOfWrong)

/-- 'laws.FnRowMove': WHATEVER THE INPUT: true; the input reads as it did. -/
def fnRowMoveSpec : ChangeSpec := { name := "fnRowMove", fn := fun _ => fun
  | [d] => { results := [.lit (.bool true)], args := [d] }
  | _ => none }
def fnRowMoveRow : OpenClaim := { program := "ytglnkcggcgbaiaadoor", sum := "8c371f559c703f7b2061e755f8a3f6bc792ba37cd3792c2bbc1d825c552f5211", func := "loop.example/texteditor/laws.FnRowMove", spec := "fnRowMove", inPlace := ["internal/bytealg.CountString", "internal/bytealg.IndexByteString", "internal/bytealg.IndexString"], named := ["unicode/utf8.first", "unicode/utf8.acceptRanges", "internal/bytealg.MaxLen"], apart := false, laid := [("unicode/utf8.acceptRanges", laid_unicode_utf8_acceptRanges), ("unicode/utf8.first", laid_unicode_utf8_first)] }
def FnRowMoveSaid : Prop := fnRowMoveRow.holds Tryd.pinned (OpenSpec.ofChange fnRowMoveSpec)

/-- ITS FALSE NEIGHBOUR: 'it returns false'. Refute it at one input. -/
def fnRowMoveWrong : ChangeSpec := { name := "fnRowMove", fn := fun _ => fun
  | [d] => { results := [.lit (.bool false)], args := [d] }
  | _ => none }
def FnRowMoveWrongFalsely : Prop := fnRowMoveRow.holds Tryd.pinned (OpenSpec.ofChange fnRowMoveWrong)

/- THE SECOND FORM. 'bulk': how many values and letters a reading holds, each counted each time it is reached (what is shared counts as often as it is met; a slice's spare places count too). A statement '..UptoSaid' is the law's where the arguments, and the package variables that the reading takes, are together of bulk at most 1048576: NARROWER than '..Said'. Prove '..Said' where nothing that the law and all that it calls make is longer than what came in: it says more and counts as full. Else prove '..UptoSaid'. A law counts once. -/
mutual
def uptoBulk {H : Type} : DataW H → Nat
  | .lit (.string bytes) => bytes.length + 1
  | .lit _ => 1
  | .nil => 1
  | .ptr d => uptoBulk d + 1
  | .slice elems spare => uptoBulkAll elems + uptoBulkAll spare + 1
  | .agg parts => uptoBulkAll parts + 1
  | .iface _ d => uptoBulk d + 1
  | .map entries => uptoBulkEntries entries + 1
  | .held _ => 1
def uptoBulkAll {H : Type} : List (DataW H) → Nat
  | [] => 0
  | d :: r => uptoBulk d + uptoBulkAll r
def uptoBulkEntries {H : Type} : List (Lit × DataW H) → Nat
  | [] => 0
  | x :: r => uptoBulkEntry x + uptoBulkEntries r
def uptoBulkEntry {H : Type} : Lit × DataW H → Nat
  | (.string bytes, d) => bytes.length + uptoBulk d + 1
  | (_, d) => uptoBulk d + 1
 end
def uptoSmall : (H : Type) → List (DataW H) → Bool := fun _ ds => decide (uptoBulkAll ds ≤ 1048576)
def OpenSpec.upto (s : _root_.Go.ChangeSpec) : _root_.Go.OpenSpec := { _root_.Go.OpenSpec.ofChange s with cond := some uptoSmall }

/-- 'laws.FnExactRowOf', WHERE WHAT IT READS IS OF BULK AT MOST 1048576: true; the input reads as it did. -/
def fnExactRowOfUptoRow : OpenClaim := { program := "ytglnkcggcgbaiaadoor", sum := "8c371f559c703f7b2061e755f8a3f6bc792ba37cd3792c2bbc1d825c552f5211", func := "loop.example/texteditor/laws.FnExactRowOf", spec := "fnExactRowOf", inPlace := ["internal/bytealg.CountString", "internal/bytealg.IndexByteString", "internal/bytealg.IndexString"], named := ["unicode/utf8.first", "unicode/utf8.acceptRanges", "internal/bytealg.MaxLen"], apart := false, laid := [("unicode/utf8.acceptRanges", laid_unicode_utf8_acceptRanges), ("unicode/utf8.first", laid_unicode_utf8_first)], narrowed := true }
def FnExactRowOfUptoSaid : Prop := fnExactRowOfUptoRow.holds Tryd.pinned (OpenSpec.upto fnExactRowOfSpec)

/-- 'laws.FnExactWrapRows', WHERE WHAT IT READS IS OF BULK AT MOST 1048576: true; the input reads as it did. -/
def fnExactWrapRowsUptoRow : OpenClaim := { program := "ytglnkcggcgbaiaadoor", sum := "8c371f559c703f7b2061e755f8a3f6bc792ba37cd3792c2bbc1d825c552f5211", func := "loop.example/texteditor/laws.FnExactWrapRows", spec := "fnExactWrapRows", inPlace := ["internal/bytealg.CountString", "internal/bytealg.IndexByteString", "internal/bytealg.IndexString"], named := ["unicode/utf8.first", "unicode/utf8.acceptRanges", "internal/bytealg.MaxLen"], apart := false, laid := [("unicode/utf8.acceptRanges", laid_unicode_utf8_acceptRanges), ("unicode/utf8.first", laid_unicode_utf8_first)], narrowed := true }
def FnExactWrapRowsUptoSaid : Prop := fnExactWrapRowsUptoRow.holds Tryd.pinned (OpenSpec.upto fnExactWrapRowsSpec)

/-- 'laws.FnExactRowMove', WHERE WHAT IT READS IS OF BULK AT MOST 1048576: true; the input reads as it did. -/
def fnExactRowMoveUptoRow : OpenClaim := { program := "ytglnkcggcgbaiaadoor", sum := "8c371f559c703f7b2061e755f8a3f6bc792ba37cd3792c2bbc1d825c552f5211", func := "loop.example/texteditor/laws.FnExactRowMove", spec := "fnExactRowMove", inPlace := ["internal/bytealg.CountString", "internal/bytealg.IndexByteString", "internal/bytealg.IndexString"], named := ["unicode/utf8.first", "unicode/utf8.acceptRanges", "internal/bytealg.MaxLen"], apart := false, laid := [("unicode/utf8.acceptRanges", laid_unicode_utf8_acceptRanges), ("unicode/utf8.first", laid_unicode_utf8_first)], narrowed := true }
def FnExactRowMoveUptoSaid : Prop := fnExactRowMoveUptoRow.holds Tryd.pinned (OpenSpec.upto fnExactRowMoveSpec)

/-- 'laws.FnExactRowTexts', WHERE WHAT IT READS IS OF BULK AT MOST 1048576: true; the input reads as it did. -/
def fnExactRowTextsUptoRow : OpenClaim := { program := "ytglnkcggcgbaiaadoor", sum := "8c371f559c703f7b2061e755f8a3f6bc792ba37cd3792c2bbc1d825c552f5211", func := "loop.example/texteditor/laws.FnExactRowTexts", spec := "fnExactRowTexts", inPlace := ["internal/bytealg.CountString", "internal/bytealg.IndexByteString", "internal/bytealg.IndexString"], named := ["unicode/utf8.first", "unicode/utf8.acceptRanges", "internal/bytealg.MaxLen"], apart := false, laid := [("unicode/utf8.acceptRanges", laid_unicode_utf8_acceptRanges), ("unicode/utf8.first", laid_unicode_utf8_first)], narrowed := true }
def FnExactRowTextsUptoSaid : Prop := fnExactRowTextsUptoRow.holds Tryd.pinned (OpenSpec.upto fnExactRowTextsSpec)

/-- 'laws.FnWrapRows', WHERE WHAT IT READS IS OF BULK AT MOST 1048576: true; the input reads as it did. -/
def fnWrapRowsUptoRow : OpenClaim := { program := "ytglnkcggcgbaiaadoor", sum := "8c371f559c703f7b2061e755f8a3f6bc792ba37cd3792c2bbc1d825c552f5211", func := "loop.example/texteditor/laws.FnWrapRows", spec := "fnWrapRows", inPlace := ["internal/bytealg.CountString", "internal/bytealg.IndexByteString", "internal/bytealg.IndexString"], named := ["unicode/utf8.first", "unicode/utf8.acceptRanges", "internal/bytealg.MaxLen"], apart := false, laid := [("unicode/utf8.acceptRanges", laid_unicode_utf8_acceptRanges), ("unicode/utf8.first", laid_unicode_utf8_first)], narrowed := true }
def FnWrapRowsUptoSaid : Prop := fnWrapRowsUptoRow.holds Tryd.pinned (OpenSpec.upto fnWrapRowsSpec)

/-- 'laws.FnRowTexts', WHERE WHAT IT READS IS OF BULK AT MOST 1048576: true; the input reads as it did. -/
def fnRowTextsUptoRow : OpenClaim := { program := "ytglnkcggcgbaiaadoor", sum := "8c371f559c703f7b2061e755f8a3f6bc792ba37cd3792c2bbc1d825c552f5211", func := "loop.example/texteditor/laws.FnRowTexts", spec := "fnRowTexts", inPlace := ["internal/bytealg.CountString", "internal/bytealg.IndexByteString", "internal/bytealg.IndexString"], named := ["unicode/utf8.first", "unicode/utf8.acceptRanges", "internal/bytealg.MaxLen"], apart := false, laid := [("unicode/utf8.acceptRanges", laid_unicode_utf8_acceptRanges), ("unicode/utf8.first", laid_unicode_utf8_first)], narrowed := true }
def FnRowTextsUptoSaid : Prop := fnRowTextsUptoRow.holds Tryd.pinned (OpenSpec.upto fnRowTextsSpec)

/-- 'laws.FnWrapWide', WHERE WHAT IT READS IS OF BULK AT MOST 1048576: true; the input reads as it did. -/
def fnWrapWideUptoRow : OpenClaim := { program := "ytglnkcggcgbaiaadoor", sum := "8c371f559c703f7b2061e755f8a3f6bc792ba37cd3792c2bbc1d825c552f5211", func := "loop.example/texteditor/laws.FnWrapWide", spec := "fnWrapWide", inPlace := ["internal/bytealg.CountString", "internal/bytealg.IndexByteString", "internal/bytealg.IndexString"], named := ["unicode/utf8.first", "unicode/utf8.acceptRanges", "internal/bytealg.MaxLen"], apart := false, laid := [("unicode/utf8.acceptRanges", laid_unicode_utf8_acceptRanges), ("unicode/utf8.first", laid_unicode_utf8_first)], narrowed := true }
def FnWrapWideUptoSaid : Prop := fnWrapWideUptoRow.holds Tryd.pinned (OpenSpec.upto fnWrapWideSpec)

/-- 'laws.FnRowOf', WHERE WHAT IT READS IS OF BULK AT MOST 1048576: true; the input reads as it did. -/
def fnRowOfUptoRow : OpenClaim := { program := "ytglnkcggcgbaiaadoor", sum := "8c371f559c703f7b2061e755f8a3f6bc792ba37cd3792c2bbc1d825c552f5211", func := "loop.example/texteditor/laws.FnRowOf", spec := "fnRowOf", inPlace := ["internal/bytealg.CountString", "internal/bytealg.IndexByteString", "internal/bytealg.IndexString"], named := ["unicode/utf8.first", "unicode/utf8.acceptRanges", "internal/bytealg.MaxLen"], apart := false, laid := [("unicode/utf8.acceptRanges", laid_unicode_utf8_acceptRanges), ("unicode/utf8.first", laid_unicode_utf8_first)], narrowed := true }
def FnRowOfUptoSaid : Prop := fnRowOfUptoRow.holds Tryd.pinned (OpenSpec.upto fnRowOfSpec)

/-- 'laws.FnRowMove', WHERE WHAT IT READS IS OF BULK AT MOST 1048576: true; the input reads as it did. -/
def fnRowMoveUptoRow : OpenClaim := { program := "ytglnkcggcgbaiaadoor", sum := "8c371f559c703f7b2061e755f8a3f6bc792ba37cd3792c2bbc1d825c552f5211", func := "loop.example/texteditor/laws.FnRowMove", spec := "fnRowMove", inPlace := ["internal/bytealg.CountString", "internal/bytealg.IndexByteString", "internal/bytealg.IndexString"], named := ["unicode/utf8.first", "unicode/utf8.acceptRanges", "internal/bytealg.MaxLen"], apart := false, laid := [("unicode/utf8.acceptRanges", laid_unicode_utf8_acceptRanges), ("unicode/utf8.first", laid_unicode_utf8_first)], narrowed := true }
def FnRowMoveUptoSaid : Prop := fnRowMoveUptoRow.holds Tryd.pinned (OpenSpec.upto fnRowMoveSpec)

end Rows
end Go.Proofs.YtglnkcggcgbaiaaDoor
