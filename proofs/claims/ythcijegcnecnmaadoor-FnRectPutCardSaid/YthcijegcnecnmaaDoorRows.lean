/-
  NARROWER THAN 'FOR EVERY INPUT', by the rows' own cells (each row's printed sentence says how): FnExactRectText: laid · FnExactRectCut: laid · FnRectPut: laid · FnRectBack: laid · FnRectText: laid · FnRectCut: laid.
  DERIVED. THE GIVEN ROWS OF THIS SEAT. 6 by the template 'for every input the law returns true; each argument reads behind the call as it read before'; 0 by the template 'total and deterministic' (their statements: YthcijegcnecnmaaDoorTotals.lean).
  GIVEN WITH THE SEED: the statements are not yours to turn. If you find one false, say at which input.
  Laid BY PROGRAM, IN A SANDBOX (cutbox-rows.mjs): the forced cells as the released guide's own fill.sh prints them over the translation 167972573029edc3… (all of the seat's roots in one cut). By AI agents, Wed Nov 11 2026. No macro, syntax, notation, axiom, sorry.
-/
import Derived.Test.YthcijegcnecnmaaDoorChecked
import GoSem.PinnedTables
import GoSem.Claim
import GoSem.ClaimJoined
import GoSem.ClaimMapViews
import Derived.JoinedTies
import Derived.KernelRfl
namespace Go.Proofs.YthcijegcnecnmaaDoor
/- THE CELL 'sum', in the pinned program and in every row, IS THE sha256 OF THE DUMP (.gsa) THAT YthcijegcnecnmaaDoorProg.lean LOADS. Nothing in Lean hashes anything: it is a label: what it is worth is what the hold of that sum in a sandbox is worth. -/
noncomputable def Tryd.pinned : Pinned := { name := "ythcijegcnecnmaadoor", sum := "167972573029edc377adca4a02c9f684d3a7e50afe85cfe6fac03660c432d0c9", checked := Tryd.checked }
namespace Rows
def none {H : Type} : Left H := { results := [], args := [] }

/- WHAT THE LISTED PACKAGE-LEVEL VARIABLES READ AS WHEN THE CALL BEGINS. Each datum BY PROGRAM (the guide's laid-datum.mjs) off the statement by which the dump's own 'gosem.cut.vars' lays the variable. In a bare row this is a premise. The card (YthcijegcnecnmaaDoorCards.lean) ties it to the program's text. -/
def laid_unicode_utf8_acceptRanges {H : Type} : DataW H := .agg [.agg [.lit (.int .u8 128), .lit (.int .u8 191)], .agg [.lit (.int .u8 160), .lit (.int .u8 191)], .agg [.lit (.int .u8 128), .lit (.int .u8 159)], .agg [.lit (.int .u8 144), .lit (.int .u8 191)], .agg [.lit (.int .u8 128), .lit (.int .u8 143)], .agg [.lit (.int .u8 0), .lit (.int .u8 0)], .agg [.lit (.int .u8 0), .lit (.int .u8 0)], .agg [.lit (.int .u8 0), .lit (.int .u8 0)], .agg [.lit (.int .u8 0), .lit (.int .u8 0)], .agg [.lit (.int .u8 0), .lit (.int .u8 0)], .agg [.lit (.int .u8 0), .lit (.int .u8 0)], .agg [.lit (.int .u8 0), .lit (.int .u8 0)], .agg [.lit (.int .u8 0), .lit (.int .u8 0)], .agg [.lit (.int .u8 0), .lit (.int .u8 0)], .agg [.lit (.int .u8 0), .lit (.int .u8 0)], .agg [.lit (.int .u8 0), .lit (.int .u8 0)]]
/-- One of Go's own tables, pinned by name: the form's constant. -/
def laid_unicode_utf8_first : DataW Unit := Go.Pinned.utf8First

/-- 'laws.FnExactRectText': WHATEVER THE INPUT: true; the input reads as it did. -/
def fnExactRectTextSpec : ChangeSpec := { name := "fnExactRectText", fn := fun _ => fun
  | [d1, d2, d3] => { results := [.lit (.bool true)], args := [d1, d2, d3] }
  | _ => none }
def fnExactRectTextRow : OpenClaim := { program := "ythcijegcnecnmaadoor", sum := "167972573029edc377adca4a02c9f684d3a7e50afe85cfe6fac03660c432d0c9", func := "loop.example/texteditor/laws.FnExactRectText", spec := "fnExactRectText", inPlace := ["internal/bytealg.CountString", "internal/bytealg.IndexByteString", "internal/bytealg.IndexString"], named := ["internal/bytealg.MaxLen", "unicode/utf8.first", "unicode/utf8.acceptRanges"], apart := false, laid := [("unicode/utf8.acceptRanges", laid_unicode_utf8_acceptRanges), ("unicode/utf8.first", laid_unicode_utf8_first)] }
def FnExactRectTextSaid : Prop := fnExactRectTextRow.holds Tryd.pinned (OpenSpec.ofChange fnExactRectTextSpec)

/-- ITS FALSE NEIGHBOUR: 'it returns false'. Refute it at one input. -/
def fnExactRectTextWrong : ChangeSpec := { name := "fnExactRectText", fn := fun _ => fun
  | [d1, d2, d3] => { results := [.lit (.bool false)], args := [d1, d2, d3] }
  | _ => none }
def FnExactRectTextWrongFalsely : Prop := fnExactRectTextRow.holds Tryd.pinned (OpenSpec.ofChange fnExactRectTextWrong)

/-- 'laws.FnExactRectCut': WHATEVER THE INPUT: true; the input reads as it did. -/
def fnExactRectCutSpec : ChangeSpec := { name := "fnExactRectCut", fn := fun _ => fun
  | [d1, d2, d3] => { results := [.lit (.bool true)], args := [d1, d2, d3] }
  | _ => none }
def fnExactRectCutRow : OpenClaim := { program := "ythcijegcnecnmaadoor", sum := "167972573029edc377adca4a02c9f684d3a7e50afe85cfe6fac03660c432d0c9", func := "loop.example/texteditor/laws.FnExactRectCut", spec := "fnExactRectCut", inPlace := ["internal/bytealg.CountString", "internal/bytealg.IndexByteString", "internal/bytealg.IndexString", "internal/abi.NoEscape", "internal/bytealg.MakeNoZero"], named := ["internal/bytealg.MaxLen", "unicode/utf8.first", "unicode/utf8.acceptRanges"], apart := false, laid := [("unicode/utf8.acceptRanges", laid_unicode_utf8_acceptRanges), ("unicode/utf8.first", laid_unicode_utf8_first)] }
def FnExactRectCutSaid : Prop := fnExactRectCutRow.holds Tryd.pinned (OpenSpec.ofChange fnExactRectCutSpec)

/-- ITS FALSE NEIGHBOUR: 'it returns false'. Refute it at one input. -/
def fnExactRectCutWrong : ChangeSpec := { name := "fnExactRectCut", fn := fun _ => fun
  | [d1, d2, d3] => { results := [.lit (.bool false)], args := [d1, d2, d3] }
  | _ => none }
def FnExactRectCutWrongFalsely : Prop := fnExactRectCutRow.holds Tryd.pinned (OpenSpec.ofChange fnExactRectCutWrong)

/-- 'laws.FnRectPut': WHATEVER THE INPUT: true; the input reads as it did. -/
def fnRectPutSpec : ChangeSpec := { name := "fnRectPut", fn := fun _ => fun
  | [d] => { results := [.lit (.bool true)], args := [d] }
  | _ => none }
def fnRectPutRow : OpenClaim := { program := "ythcijegcnecnmaadoor", sum := "167972573029edc377adca4a02c9f684d3a7e50afe85cfe6fac03660c432d0c9", func := "loop.example/texteditor/laws.FnRectPut", spec := "fnRectPut", inPlace := ["internal/bytealg.CountString", "internal/bytealg.IndexByteString", "internal/bytealg.IndexString", "internal/abi.NoEscape", "internal/bytealg.MakeNoZero"], named := ["internal/bytealg.MaxLen", "unicode/utf8.first", "unicode/utf8.acceptRanges"], apart := false, laid := [("unicode/utf8.acceptRanges", laid_unicode_utf8_acceptRanges), ("unicode/utf8.first", laid_unicode_utf8_first)] }
def FnRectPutSaid : Prop := fnRectPutRow.holds Tryd.pinned (OpenSpec.ofChange fnRectPutSpec)

/-- ITS FALSE NEIGHBOUR: 'it returns false'. Refute it at one input. -/
def fnRectPutWrong : ChangeSpec := { name := "fnRectPut", fn := fun _ => fun
  | [d] => { results := [.lit (.bool false)], args := [d] }
  | _ => none }
def FnRectPutWrongFalsely : Prop := fnRectPutRow.holds Tryd.pinned (OpenSpec.ofChange fnRectPutWrong)

/-- 'laws.FnRectBack': WHATEVER THE INPUT: true; the input reads as it did. -/
def fnRectBackSpec : ChangeSpec := { name := "fnRectBack", fn := fun _ => fun
  | [d] => { results := [.lit (.bool true)], args := [d] }
  | _ => none }
def fnRectBackRow : OpenClaim := { program := "ythcijegcnecnmaadoor", sum := "167972573029edc377adca4a02c9f684d3a7e50afe85cfe6fac03660c432d0c9", func := "loop.example/texteditor/laws.FnRectBack", spec := "fnRectBack", inPlace := ["internal/bytealg.CountString", "internal/bytealg.IndexByteString", "internal/bytealg.IndexString", "internal/abi.NoEscape", "internal/bytealg.MakeNoZero"], named := ["internal/bytealg.MaxLen", "unicode/utf8.first", "unicode/utf8.acceptRanges"], apart := false, laid := [("unicode/utf8.acceptRanges", laid_unicode_utf8_acceptRanges), ("unicode/utf8.first", laid_unicode_utf8_first)] }
def FnRectBackSaid : Prop := fnRectBackRow.holds Tryd.pinned (OpenSpec.ofChange fnRectBackSpec)

/-- ITS FALSE NEIGHBOUR: 'it returns false'. Refute it at one input. -/
def fnRectBackWrong : ChangeSpec := { name := "fnRectBack", fn := fun _ => fun
  | [d] => { results := [.lit (.bool false)], args := [d] }
  | _ => none }
def FnRectBackWrongFalsely : Prop := fnRectBackRow.holds Tryd.pinned (OpenSpec.ofChange fnRectBackWrong)

/-- 'laws.FnRectText': WHATEVER THE INPUT: true; the input reads as it did. -/
def fnRectTextSpec : ChangeSpec := { name := "fnRectText", fn := fun _ => fun
  | [d] => { results := [.lit (.bool true)], args := [d] }
  | _ => none }
def fnRectTextRow : OpenClaim := { program := "ythcijegcnecnmaadoor", sum := "167972573029edc377adca4a02c9f684d3a7e50afe85cfe6fac03660c432d0c9", func := "loop.example/texteditor/laws.FnRectText", spec := "fnRectText", inPlace := ["internal/bytealg.CountString", "internal/bytealg.IndexByteString", "internal/bytealg.IndexString"], named := ["internal/bytealg.MaxLen", "unicode/utf8.first", "unicode/utf8.acceptRanges"], apart := false, laid := [("unicode/utf8.acceptRanges", laid_unicode_utf8_acceptRanges), ("unicode/utf8.first", laid_unicode_utf8_first)] }
def FnRectTextSaid : Prop := fnRectTextRow.holds Tryd.pinned (OpenSpec.ofChange fnRectTextSpec)

/-- ITS FALSE NEIGHBOUR: 'it returns false'. Refute it at one input. -/
def fnRectTextWrong : ChangeSpec := { name := "fnRectText", fn := fun _ => fun
  | [d] => { results := [.lit (.bool false)], args := [d] }
  | _ => none }
def FnRectTextWrongFalsely : Prop := fnRectTextRow.holds Tryd.pinned (OpenSpec.ofChange fnRectTextWrong)

/-- 'laws.FnRectCut': WHATEVER THE INPUT: true; the input reads as it did. -/
def fnRectCutSpec : ChangeSpec := { name := "fnRectCut", fn := fun _ => fun
  | [d] => { results := [.lit (.bool true)], args := [d] }
  | _ => none }
def fnRectCutRow : OpenClaim := { program := "ythcijegcnecnmaadoor", sum := "167972573029edc377adca4a02c9f684d3a7e50afe85cfe6fac03660c432d0c9", func := "loop.example/texteditor/laws.FnRectCut", spec := "fnRectCut", inPlace := ["internal/bytealg.CountString", "internal/bytealg.IndexByteString", "internal/bytealg.IndexString", "internal/abi.NoEscape", "internal/bytealg.MakeNoZero"], named := ["internal/bytealg.MaxLen", "unicode/utf8.first", "unicode/utf8.acceptRanges"], apart := false, laid := [("unicode/utf8.acceptRanges", laid_unicode_utf8_acceptRanges), ("unicode/utf8.first", laid_unicode_utf8_first)] }
def FnRectCutSaid : Prop := fnRectCutRow.holds Tryd.pinned (OpenSpec.ofChange fnRectCutSpec)

/-- ITS FALSE NEIGHBOUR: 'it returns false'. Refute it at one input. -/
def fnRectCutWrong : ChangeSpec := { name := "fnRectCut", fn := fun _ => fun
  | [d] => { results := [.lit (.bool false)], args := [d] }
  | _ => none }
def FnRectCutWrongFalsely : Prop := fnRectCutRow.holds Tryd.pinned (OpenSpec.ofChange fnRectCutWrong)

/- THE SECOND FORM. 'bulk': how many values and letters a reading holds, each counted each time it is reached (what is shared counts as often as it is met; a slice's spare places count too). A statement '..UptoSaid' is the law's where the arguments, and the package variables that the reading takes, are together of bulk at most 1048576: NARROWER than '..Said'. Prove '..Said' where nothing that the law and all that it calls make is longer than what came in: it says more and counts as full. Else prove '..UptoSaid'. A law counts once. -/
mutual
def uptoBulk {H : Type} : DataW H → Nat
  | .lit (.string bytes) => bytes.length + 1
  | .lit _ => 1
  | .nil => 1
  | .ptr d => uptoBulk d + 1
  | .slice elems spare => uptoBulkAll elems + uptoBulkAll spare + 1
  | .agg parts => uptoBulkAll parts + 1
  | .iface _ d => uptoBulk d + 1
  | .map entries => uptoBulkEntries entries + 1
  | .held _ => 1
def uptoBulkAll {H : Type} : List (DataW H) → Nat
  | [] => 0
  | d :: r => uptoBulk d + uptoBulkAll r
def uptoBulkEntries {H : Type} : List (Lit × DataW H) → Nat
  | [] => 0
  | x :: r => uptoBulkEntry x + uptoBulkEntries r
def uptoBulkEntry {H : Type} : Lit × DataW H → Nat
  | (.string bytes, d) => bytes.length + uptoBulk d + 1
  | (_, d) => uptoBulk d + 1
 end
def uptoSmall : (H : Type) → List (DataW H) → Bool := fun _ ds => decide (uptoBulkAll ds ≤ 1048576)
def OpenSpec.upto (s : _root_.Go.ChangeSpec) : _root_.Go.OpenSpec := { _root_.Go.OpenSpec.ofChange s with cond := some uptoSmall }

/-- 'laws.FnExactRectText', WHERE WHAT IT READS IS OF BULK AT MOST 1048576: true; the input reads as it did. -/
def fnExactRectTextUptoRow : OpenClaim := { program := "ythcijegcnecnmaadoor", sum := "167972573029edc377adca4a02c9f684d3a7e50afe85cfe6fac03660c432d0c9", func := "loop.example/texteditor/laws.FnExactRectText", spec := "fnExactRectText", inPlace := ["internal/bytealg.CountString", "internal/bytealg.IndexByteString", "internal/bytealg.IndexString"], named := ["internal/bytealg.MaxLen", "unicode/utf8.first", "unicode/utf8.acceptRanges"], apart := false, laid := [("unicode/utf8.acceptRanges", laid_unicode_utf8_acceptRanges), ("unicode/utf8.first", laid_unicode_utf8_first)], narrowed := true }
def FnExactRectTextUptoSaid : Prop := fnExactRectTextUptoRow.holds Tryd.pinned (OpenSpec.upto fnExactRectTextSpec)

/-- 'laws.FnExactRectCut', WHERE WHAT IT READS IS OF BULK AT MOST 1048576: true; the input reads as it did. -/
def fnExactRectCutUptoRow : OpenClaim := { program := "ythcijegcnecnmaadoor", sum := "167972573029edc377adca4a02c9f684d3a7e50afe85cfe6fac03660c432d0c9", func := "loop.example/texteditor/laws.FnExactRectCut", spec := "fnExactRectCut", inPlace := ["internal/bytealg.CountString", "internal/bytealg.IndexByteString", "internal/bytealg.IndexString", "internal/abi.NoEscape", "internal/bytealg.MakeNoZero"], named := ["internal/bytealg.MaxLen", "unicode/utf8.first", "unicode/utf8.acceptRanges"], apart := false, laid := [("unicode/utf8.acceptRanges", laid_unicode_utf8_acceptRanges), ("unicode/utf8.first", laid_unicode_utf8_first)], narrowed := true }
def FnExactRectCutUptoSaid : Prop := fnExactRectCutUptoRow.holds Tryd.pinned (OpenSpec.upto fnExactRectCutSpec)

/-- 'laws.FnRectPut', WHERE WHAT IT READS IS OF BULK AT MOST 1048576: true; the input reads as it did. -/
def fnRectPutUptoRow : OpenClaim := { program := "ythcijegcnecnmaadoor", sum := "167972573029edc377adca4a02c9f684d3a7e50afe85cfe6fac03660c432d0c9", func := "loop.example/texteditor/laws.FnRectPut", spec := "fnRectPut", inPlace := ["internal/bytealg.CountString", "internal/bytealg.IndexByteString", "internal/bytealg.IndexString", "internal/abi.NoEscape", "internal/bytealg.MakeNoZero"], named := ["internal/bytealg.MaxLen", "unicode/utf8.first", "unicode/utf8.acceptRanges"], apart := false, laid := [("unicode/utf8.acceptRanges", laid_unicode_utf8_acceptRanges), ("unicode/utf8.first", laid_unicode_utf8_first)], narrowed := true }
def FnRectPutUptoSaid : Prop := fnRectPutUptoRow.holds Tryd.pinned (OpenSpec.upto fnRectPutSpec)

/-- 'laws.FnRectBack', WHERE WHAT IT READS IS OF BULK AT MOST 1048576: true; the input reads as it did. -/
def fnRectBackUptoRow : OpenClaim := { program := "ythcijegcnecnmaadoor", sum := "167972573029edc377adca4a02c9f684d3a7e50afe85cfe6fac03660c432d0c9", func := "loop.example/texteditor/laws.FnRectBack", spec := "fnRectBack", inPlace := ["internal/bytealg.CountString", "internal/bytealg.IndexByteString", "internal/bytealg.IndexString", "internal/abi.NoEscape", "internal/bytealg.MakeNoZero"], named := ["internal/bytealg.MaxLen", "unicode/utf8.first", "unicode/utf8.acceptRanges"], apart := false, laid := [("unicode/utf8.acceptRanges", laid_unicode_utf8_acceptRanges), ("unicode/utf8.first", laid_unicode_utf8_first)], narrowed := true }
def FnRectBackUptoSaid : Prop := fnRectBackUptoRow.holds Tryd.pinned (OpenSpec.upto fnRectBackSpec)

/-- 'laws.FnRectText', WHERE WHAT IT READS IS OF BULK AT MOST 1048576: true; the input reads as it did. -/
def fnRectTextUptoRow : OpenClaim := { program := "ythcijegcnecnmaadoor", sum := "167972573029edc377adca4a02c9f684d3a7e50afe85cfe6fac03660c432d0c9", func := "loop.example/texteditor/laws.FnRectText", spec := "fnRectText", inPlace := ["internal/bytealg.CountString", "internal/bytealg.IndexByteString", "internal/bytealg.IndexString"], named := ["internal/bytealg.MaxLen", "unicode/utf8.first", "unicode/utf8.acceptRanges"], apart := false, laid := [("unicode/utf8.acceptRanges", laid_unicode_utf8_acceptRanges), ("unicode/utf8.first", laid_unicode_utf8_first)], narrowed := true }
def FnRectTextUptoSaid : Prop := fnRectTextUptoRow.holds Tryd.pinned (OpenSpec.upto fnRectTextSpec)

/-- 'laws.FnRectCut', WHERE WHAT IT READS IS OF BULK AT MOST 1048576: true; the input reads as it did. -/
def fnRectCutUptoRow : OpenClaim := { program := "ythcijegcnecnmaadoor", sum := "167972573029edc377adca4a02c9f684d3a7e50afe85cfe6fac03660c432d0c9", func := "loop.example/texteditor/laws.FnRectCut", spec := "fnRectCut", inPlace := ["internal/bytealg.CountString", "internal/bytealg.IndexByteString", "internal/bytealg.IndexString", "internal/abi.NoEscape", "internal/bytealg.MakeNoZero"], named := ["internal/bytealg.MaxLen", "unicode/utf8.first", "unicode/utf8.acceptRanges"], apart := false, laid := [("unicode/utf8.acceptRanges", laid_unicode_utf8_acceptRanges), ("unicode/utf8.first", laid_unicode_utf8_first)], narrowed := true }
def FnRectCutUptoSaid : Prop := fnRectCutUptoRow.holds Tryd.pinned (OpenSpec.upto fnRectCutSpec)

end Rows
end Go.Proofs.YthcijegcnecnmaaDoor
