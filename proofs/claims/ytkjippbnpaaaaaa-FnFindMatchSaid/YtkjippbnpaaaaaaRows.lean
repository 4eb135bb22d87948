/-
  No cell of these rows narrows 'for every input' (looked for: loops, veiled, ifaces, maps, wideKeys, modest, calm, conditions, laid).
  DERIVED. THE GIVEN ROWS OF THIS SEAT. 10 by the template 'for every input the law returns true; each argument reads behind the call as it read before'; 0 by the template 'total and deterministic' (their statements: YtkjippbnpaaaaaaTotals.lean).
  GIVEN WITH THE SEED: the statements are not yours to turn. If you find one false, say at which input.
  Laid BY PROGRAM, IN A SANDBOX (cutbox-rows.mjs): the forced cells as the released guide's own fill.sh prints them over the translation 7a769157c44bdee3… (all of the seat's roots in one cut). By AI agents, Wed Nov 11 2026. No macro, syntax, notation, axiom, sorry.
-/
import Derived.Test.YtkjippbnpaaaaaaChecked
import GoSem.Claim
import GoSem.ClaimJoined
import GoSem.ClaimMapViews
import Derived.JoinedTies
import Derived.KernelRfl
namespace Go.Proofs.Ytkjippbnpaaaaaa
/- THE CELL 'sum', in the pinned program and in every row, IS THE sha256 OF THE DUMP (.gsa) THAT YtkjippbnpaaaaaaProg.lean LOADS. Nothing in Lean hashes anything: it is a label: what it is worth is what the hold of that sum in a sandbox is worth. -/
noncomputable def Try.pinned : Pinned := { name := "ytkjippbnpaaaaaa", sum := "7a769157c44bdee3408cf0b5d13f9f07a7e0126be1f9510b9d7d6423cecfb6ed", checked := Try.checked }
namespace Rows
def none {H : Type} : Left H := { results := [], args := [] }

/-- 'laws.FnExactMatchEnd': WHATEVER THE INPUT: true; the input reads as it did. -/
def fnExactMatchEndSpec : ChangeSpec := { name := "fnExactMatchEnd", fn := fun _ => fun
  | [d1, d2, d3] => { results := [.lit (.bool true)], args := [d1, d2, d3] }
  | _ => none }
def fnExactMatchEndRow : OpenClaim := { program := "ytkjippbnpaaaaaa", sum := "7a769157c44bdee3408cf0b5d13f9f07a7e0126be1f9510b9d7d6423cecfb6ed", func := "loop.example/texteditor/laws.FnExactMatchEnd", spec := "fnExactMatchEnd", apart := false }
def FnExactMatchEndSaid : Prop := fnExactMatchEndRow.holds Try.pinned (OpenSpec.ofChange fnExactMatchEndSpec)

/-- ITS FALSE NEIGHBOUR: 'it returns false'. Refute it at one input. -/
def fnExactMatchEndWrong : ChangeSpec := { name := "fnExactMatchEnd", fn := fun _ => fun
  | [d1, d2, d3] => { results := [.lit (.bool false)], args := [d1, d2, d3] }
  | _ => none }
def FnExactMatchEndWrongFalsely : Prop := fnExactMatchEndRow.holds Try.pinned (OpenSpec.ofChange fnExactMatchEndWrong)

/-- 'laws.FnExactMatchNext': WHATEVER THE INPUT: true; the input reads as it did. -/
def fnExactMatchNextSpec : ChangeSpec := { name := "fnExactMatchNext", fn := fun _ => fun
  | [d1, d2, d3] => { results := [.lit (.bool true)], args := [d1, d2, d3] }
  | _ => none }
def fnExactMatchNextRow : OpenClaim := { program := "ytkjippbnpaaaaaa", sum := "7a769157c44bdee3408cf0b5d13f9f07a7e0126be1f9510b9d7d6423cecfb6ed", func := "loop.example/texteditor/laws.FnExactMatchNext", spec := "fnExactMatchNext", apart := false }
def FnExactMatchNextSaid : Prop := fnExactMatchNextRow.holds Try.pinned (OpenSpec.ofChange fnExactMatchNextSpec)

/-- ITS FALSE NEIGHBOUR: 'it returns false'. Refute it at one input. -/
def fnExactMatchNextWrong : ChangeSpec := { name := "fnExactMatchNext", fn := fun _ => fun
  | [d1, d2, d3] => { results := [.lit (.bool false)], args := [d1, d2, d3] }
  | _ => none }
def FnExactMatchNextWrongFalsely : Prop := fnExactMatchNextRow.holds Try.pinned (OpenSpec.ofChange fnExactMatchNextWrong)

/-- 'laws.FnExactMatchAll': WHATEVER THE INPUT: true; the input reads as it did. -/
def fnExactMatchAllSpec : ChangeSpec := { name := "fnExactMatchAll", fn := fun _ => fun
  | [d1, d2] => { results := [.lit (.bool true)], args := [d1, d2] }
  | _ => none }
def fnExactMatchAllRow : OpenClaim := { program := "ytkjippbnpaaaaaa", sum := "7a769157c44bdee3408cf0b5d13f9f07a7e0126be1f9510b9d7d6423cecfb6ed", func := "loop.example/texteditor/laws.FnExactMatchAll", spec := "fnExactMatchAll", apart := false }
def FnExactMatchAllSaid : Prop := fnExactMatchAllRow.holds Try.pinned (OpenSpec.ofChange fnExactMatchAllSpec)

/-- ITS FALSE NEIGHBOUR: 'it returns false'. Refute it at one input. -/
def fnExactMatchAllWrong : ChangeSpec := { name := "fnExactMatchAll", fn := fun _ => fun
  | [d1, d2] => { results := [.lit (.bool false)], args := [d1, d2] }
  | _ => none }
def FnExactMatchAllWrongFalsely : Prop := fnExactMatchAllRow.holds Try.pinned (OpenSpec.ofChange fnExactMatchAllWrong)

/-- 'laws.FnPatternValid': WHATEVER THE INPUT: true; the input reads as it did. -/
def fnPatternValidSpec : ChangeSpec := { name := "fnPatternValid", fn := fun _ => fun
  | [d] => { results := [.lit (.bool true)], args := [d] }
  | _ => none }
def fnPatternValidRow : OpenClaim := { program := "ytkjippbnpaaaaaa", sum := "7a769157c44bdee3408cf0b5d13f9f07a7e0126be1f9510b9d7d6423cecfb6ed", func := "loop.example/texteditor/laws.FnPatternValid", spec := "fnPatternValid", inPlace := ["internal/bytealg.CountString", "internal/bytealg.IndexByteString", "internal/bytealg.IndexString"], named := ["internal/bytealg.MaxLen"], apart := false }
def FnPatternValidSaid : Prop := fnPatternValidRow.holds Try.pinned (OpenSpec.ofChange fnPatternValidSpec)

/-- ITS FALSE NEIGHBOUR: 'it returns false'. Refute it at one input. -/
def fnPatternValidWrong : ChangeSpec := { name := "fnPatternValid", fn := fun _ => fun
  | [d] => { results := [.lit (.bool false)], args := [d] }
  | _ => none }
def FnPatternValidWrongFalsely : Prop := fnPatternValidRow.holds Try.pinned (OpenSpec.ofChange fnPatternValidWrong)

/-- 'laws.FnMatchEnd': WHATEVER THE INPUT: true; the input reads as it did. -/
def fnMatchEndSpec : ChangeSpec := { name := "fnMatchEnd", fn := fun _ => fun
  | [d] => { results := [.lit (.bool true)], args := [d] }
  | _ => none }
def fnMatchEndRow : OpenClaim := { program := "ytkjippbnpaaaaaa", sum := "7a769157c44bdee3408cf0b5d13f9f07a7e0126be1f9510b9d7d6423cecfb6ed", func := "loop.example/texteditor/laws.FnMatchEnd", spec := "fnMatchEnd", inPlace := ["internal/bytealg.CountString", "internal/bytealg.IndexByteString", "internal/bytealg.IndexString"], named := ["internal/bytealg.MaxLen"], apart := false }
def FnMatchEndSaid : Prop := fnMatchEndRow.holds Try.pinned (OpenSpec.ofChange fnMatchEndSpec)

/-- ITS FALSE NEIGHBOUR: 'it returns false'. Refute it at one input. -/
def fnMatchEndWrong : ChangeSpec := { name := "fnMatchEnd", fn := fun _ => fun
  | [d] => { results := [.lit (.bool false)], args := [d] }
  | _ => none }
def FnMatchEndWrongFalsely : Prop := fnMatchEndRow.holds Try.pinned (OpenSpec.ofChange fnMatchEndWrong)

/-- 'laws.FnMatchNext': WHATEVER THE INPUT: true; the input reads as it did. -/
def fnMatchNextSpec : ChangeSpec := { name := "fnMatchNext", fn := fun _ => fun
  | [d] => { results := [.lit (.bool true)], args := [d] }
  | _ => none }
def fnMatchNextRow : OpenClaim := { program := "ytkjippbnpaaaaaa", sum := "7a769157c44bdee3408cf0b5d13f9f07a7e0126be1f9510b9d7d6423cecfb6ed", func := "loop.example/texteditor/laws.FnMatchNext", spec := "fnMatchNext", inPlace := ["internal/bytealg.CountString", "internal/bytealg.IndexByteString", "internal/bytealg.IndexString"], named := ["internal/bytealg.MaxLen"], apart := false }
def FnMatchNextSaid : Prop := fnMatchNextRow.holds Try.pinned (OpenSpec.ofChange fnMatchNextSpec)

/-- ITS FALSE NEIGHBOUR: 'it returns false'. Refute it at one input. -/
def fnMatchNextWrong : ChangeSpec := { name := "fnMatchNext", fn := fun _ => fun
  | [d] => { results := [.lit (.bool false)], args := [d] }
  | _ => none }
def FnMatchNextWrongFalsely : Prop := fnMatchNextRow.holds Try.pinned (OpenSpec.ofChange fnMatchNextWrong)

/-- 'laws.FnMatchAll': WHATEVER THE INPUT: true; the input reads as it did. -/
def fnMatchAllSpec : ChangeSpec := { name := "fnMatchAll", fn := fun _ => fun
  | [d] => { results := [.lit (.bool true)], args := [d] }
  | _ => none }
def fnMatchAllRow : OpenClaim := { program := "ytkjippbnpaaaaaa", sum := "7a769157c44bdee3408cf0b5d13f9f07a7e0126be1f9510b9d7d6423cecfb6ed", func := "loop.example/texteditor/laws.FnMatchAll", spec := "fnMatchAll", inPlace := ["internal/bytealg.CountString", "internal/bytealg.IndexByteString", "internal/bytealg.IndexString"], named := ["internal/bytealg.MaxLen"], apart := false }
def FnMatchAllSaid : Prop := fnMatchAllRow.holds Try.pinned (OpenSpec.ofChange fnMatchAllSpec)

/-- ITS FALSE NEIGHBOUR: 'it returns false'. Refute it at one input. -/
def fnMatchAllWrong : ChangeSpec := { name := "fnMatchAll", fn := fun _ => fun
  | [d] => { results := [.lit (.bool false)], args := [d] }
  | _ => none }
def FnMatchAllWrongFalsely : Prop := fnMatchAllRow.holds Try.pinned (OpenSpec.ofChange fnMatchAllWrong)

/-- 'laws.FnFindMatch': WHATEVER THE INPUT: true; the input reads as it did. -/
def fnFindMatchSpec : ChangeSpec := { name := "fnFindMatch", fn := fun _ => fun
  | [d] => { results := [.lit (.bool true)], args := [d] }
  | _ => none }
def fnFindMatchRow : OpenClaim := { program := "ytkjippbnpaaaaaa", sum := "7a769157c44bdee3408cf0b5d13f9f07a7e0126be1f9510b9d7d6423cecfb6ed", func := "loop.example/texteditor/laws.FnFindMatch", spec := "fnFindMatch", inPlace := ["internal/bytealg.IndexByteString", "internal/bytealg.IndexString", "internal/bytealg.CountString"], named := ["internal/bytealg.MaxLen"], apart := false }
def FnFindMatchSaid : Prop := fnFindMatchRow.holds Try.pinned (OpenSpec.ofChange fnFindMatchSpec)

/-- ITS FALSE NEIGHBOUR: 'it returns false'. Refute it at one input. -/
def fnFindMatchWrong : ChangeSpec := { name := "fnFindMatch", fn := fun _ => fun
  | [d] => { results := [.lit (.bool false)], args := [d] }
  | _ => none }
def FnFindMatchWrongFalsely : Prop := fnFindMatchRow.holds Try.pinned (OpenSpec.ofChange fnFindMatchWrong)

/-- 'laws.FnExactHistoryValid': WHATEVER THE INPUT: true; the input reads as it did. -/
def fnExactHistoryValidSpec : ChangeSpec := { name := "fnExactHistoryValid", fn := fun _ => fun
  | [d1, d2] => { results := [.lit (.bool true)], args := [d1, d2] }
  | _ => none }
def fnExactHistoryValidRow : OpenClaim := { program := "ytkjippbnpaaaaaa", sum := "7a769157c44bdee3408cf0b5d13f9f07a7e0126be1f9510b9d7d6423cecfb6ed", func := "loop.example/texteditor/laws.FnExactHistoryValid", spec := "fnExactHistoryValid", apart := false }
def FnExactHistoryValidSaid : Prop := fnExactHistoryValidRow.holds Try.pinned (OpenSpec.ofChange fnExactHistoryValidSpec)

/-- ITS FALSE NEIGHBOUR: 'it returns false'. Refute it at one input. -/
def fnExactHistoryValidWrong : ChangeSpec := { name := "fnExactHistoryValid", fn := fun _ => fun
  | [d1, d2] => { results := [.lit (.bool false)], args := [d1, d2] }
  | _ => none }
def FnExactHistoryValidWrongFalsely : Prop := fnExactHistoryValidRow.holds Try.pinned (OpenSpec.ofChange fnExactHistoryValidWrong)

/-- 'laws.FnHistoryValid': WHATEVER THE INPUT: true; the input reads as it did. -/
def fnHistoryValidSpec : ChangeSpec := { name := "fnHistoryValid", fn := fun _ => fun
  | [d] => { results := [.lit (.bool true)], args := [d] }
  | _ => none }
def fnHistoryValidRow : OpenClaim := { program := "ytkjippbnpaaaaaa", sum := "7a769157c44bdee3408cf0b5d13f9f07a7e0126be1f9510b9d7d6423cecfb6ed", func := "loop.example/texteditor/laws.FnHistoryValid", spec := "fnHistoryValid", inPlace := ["internal/bytealg.CountString", "internal/bytealg.IndexByteString", "internal/bytealg.IndexString"], named := ["internal/bytealg.MaxLen"], apart := false }
def FnHistoryValidSaid : Prop := fnHistoryValidRow.holds Try.pinned (OpenSpec.ofChange fnHistoryValidSpec)

/-- ITS FALSE NEIGHBOUR: 'it returns false'. Refute it at one input. -/
def fnHistoryValidWrong : ChangeSpec := { name := "fnHistoryValid", fn := fun _ => fun
  | [d] => { results := [.lit (.bool false)], args := [d] }
  | _ => none }
def FnHistoryValidWrongFalsely : Prop := fnHistoryValidRow.holds Try.pinned (OpenSpec.ofChange fnHistoryValidWrong)

/- THE SECOND FORM. 'bulk': how many values and letters a reading holds, each counted each time it is reached (what is shared counts as often as it is met; a slice's spare places count too). A statement '..UptoSaid' is the law's where the arguments, and the package variables that the reading takes, are together of bulk at most 1048576: NARROWER than '..Said'. Prove '..Said' where nothing that the law and all that it calls make is longer than what came in: it says more and counts as full. Else prove '..UptoSaid'. A law counts once. -/
mutual
def uptoBulk {H : Type} : DataW H → Nat
  | .lit (.string bytes) => bytes.length + 1
  | .lit _ => 1
  | .nil => 1
  | .ptr d => uptoBulk d + 1
  | .slice elems spare => uptoBulkAll elems + uptoBulkAll spare + 1
  | .agg parts => uptoBulkAll parts + 1
  | .iface _ d => uptoBulk d + 1
  | .map entries => uptoBulkEntries entries + 1
  | .held _ => 1
def uptoBulkAll {H : Type} : List (DataW H) → Nat
  | [] => 0
  | d :: r => uptoBulk d + uptoBulkAll r
def uptoBulkEntries {H : Type} : List (Lit × DataW H) → Nat
  | [] => 0
  | x :: r => uptoBulkEntry x + uptoBulkEntries r
def uptoBulkEntry {H : Type} : Lit × DataW H → Nat
  | (.string bytes, d) => bytes.length + uptoBulk d + 1
  | (_, d) => uptoBulk d + 1
 end
def uptoSmall : (H : Type) → List (DataW H) → Bool := fun _ ds => decide (uptoBulkAll ds ≤ 1048576)
def OpenSpec.upto (s : _root_.Go.ChangeSpec) : _root_.Go.OpenSpec := { _root_.Go.OpenSpec.ofChange s with cond := some uptoSmall }

/-- 'laws.FnExactMatchEnd', WHERE WHAT IT READS IS OF BULK AT MOST 1048576: true; the input reads as it did. -/
def fnExactMatchEndUptoRow : OpenClaim := { program := "ytkjippbnpaaaaaa", sum := "7a769157c44bdee3408cf0b5d13f9f07a7e0126be1f9510b9d7d6423cecfb6ed", func := "loop.example/texteditor/laws.FnExactMatchEnd", spec := "fnExactMatchEnd", apart := false, narrowed := true }
def FnExactMatchEndUptoSaid : Prop := fnExactMatchEndUptoRow.holds Try.pinned (OpenSpec.upto fnExactMatchEndSpec)

/-- 'laws.FnExactMatchNext', WHERE WHAT IT READS IS OF BULK AT MOST 1048576: true; the input reads as it did. -/
def fnExactMatchNextUptoRow : OpenClaim := { program := "ytkjippbnpaaaaaa", sum := "7a769157c44bdee3408cf0b5d13f9f07a7e0126be1f9510b9d7d6423cecfb6ed", func := "loop.example/texteditor/laws.FnExactMatchNext", spec := "fnExactMatchNext", apart := false, narrowed := true }
def FnExactMatchNextUptoSaid : Prop := fnExactMatchNextUptoRow.holds Try.pinned (OpenSpec.upto fnExactMatchNextSpec)

/-- 'laws.FnExactMatchAll', WHERE WHAT IT READS IS OF BULK AT MOST 1048576: true; the input reads as it did. -/
def fnExactMatchAllUptoRow : OpenClaim := { program := "ytkjippbnpaaaaaa", sum := "7a769157c44bdee3408cf0b5d13f9f07a7e0126be1f9510b9d7d6423cecfb6ed", func := "loop.example/texteditor/laws.FnExactMatchAll", spec := "fnExactMatchAll", apart := false, narrowed := true }
def FnExactMatchAllUptoSaid : Prop := fnExactMatchAllUptoRow.holds Try.pinned (OpenSpec.upto fnExactMatchAllSpec)

/-- 'laws.FnPatternValid', WHERE WHAT IT READS IS OF BULK AT MOST 1048576: true; the input reads as it did. -/
def fnPatternValidUptoRow : OpenClaim := { program := "ytkjippbnpaaaaaa", sum := "7a769157c44bdee3408cf0b5d13f9f07a7e0126be1f9510b9d7d6423cecfb6ed", func := "loop.example/texteditor/laws.FnPatternValid", spec := "fnPatternValid", inPlace := ["internal/bytealg.CountString", "internal/bytealg.IndexByteString", "internal/bytealg.IndexString"], named := ["internal/bytealg.MaxLen"], apart := false, narrowed := true }
def FnPatternValidUptoSaid : Prop := fnPatternValidUptoRow.holds Try.pinned (OpenSpec.upto fnPatternValidSpec)

/-- 'laws.FnMatchEnd', WHERE WHAT IT READS IS OF BULK AT MOST 1048576: true; the input reads as it did. -/
def fnMatchEndUptoRow : OpenClaim := { program := "ytkjippbnpaaaaaa", sum := "7a769157c44bdee3408cf0b5d13f9f07a7e0126be1f9510b9d7d6423cecfb6ed", func := "loop.example/texteditor/laws.FnMatchEnd", spec := "fnMatchEnd", inPlace := ["internal/bytealg.CountString", "internal/bytealg.IndexByteString", "internal/bytealg.IndexString"], named := ["internal/bytealg.MaxLen"], apart := false, narrowed := true }
def FnMatchEndUptoSaid : Prop := fnMatchEndUptoRow.holds Try.pinned (OpenSpec.upto fnMatchEndSpec)

/-- 'laws.FnMatchNext', WHERE WHAT IT READS IS OF BULK AT MOST 1048576: true; the input reads as it did. -/
def fnMatchNextUptoRow : OpenClaim := { program := "ytkjippbnpaaaaaa", sum := "7a769157c44bdee3408cf0b5d13f9f07a7e0126be1f9510b9d7d6423cecfb6ed", func := "loop.example/texteditor/laws.FnMatchNext", spec := "fnMatchNext", inPlace := ["internal/bytealg.CountString", "internal/bytealg.IndexByteString", "internal/bytealg.IndexString"], named := ["internal/bytealg.MaxLen"], apart := false, narrowed := true }
def FnMatchNextUptoSaid : Prop := fnMatchNextUptoRow.holds Try.pinned (OpenSpec.upto fnMatchNextSpec)

/-- 'laws.FnMatchAll', WHERE WHAT IT READS IS OF BULK AT MOST 1048576: true; the input reads as it did. -/
def fnMatchAllUptoRow : OpenClaim := { program := "ytkjippbnpaaaaaa", sum := "7a769157c44bdee3408cf0b5d13f9f07a7e0126be1f9510b9d7d6423cecfb6ed", func := "loop.example/texteditor/laws.FnMatchAll", spec := "fnMatchAll", inPlace := ["internal/bytealg.CountString", "internal/bytealg.IndexByteString", "internal/bytealg.IndexString"], named := ["internal/bytealg.MaxLen"], apart := false, narrowed := true }
def FnMatchAllUptoSaid : Prop := fnMatchAllUptoRow.holds Try.pinned (OpenSpec.upto fnMatchAllSpec)

/-- 'laws.FnFindMatch', WHERE WHAT IT READS IS OF BULK AT MOST 1048576: true; the input reads as it did. -/
def fnFindMatchUptoRow : OpenClaim := { program := "ytkjippbnpaaaaaa", sum := "7a769157c44bdee3408cf0b5d13f9f07a7e0126be1f9510b9d7d6423cecfb6ed", func := "loop.example/texteditor/laws.FnFindMatch", spec := "fnFindMatch", inPlace := ["internal/bytealg.IndexByteString", "internal/bytealg.IndexString", "internal/bytealg.CountString"], named := ["internal/bytealg.MaxLen"], apart := false, narrowed := true }
def FnFindMatchUptoSaid : Prop := fnFindMatchUptoRow.holds Try.pinned (OpenSpec.upto fnFindMatchSpec)

/-- 'laws.FnExactHistoryValid', WHERE WHAT IT READS IS OF BULK AT MOST 1048576: true; the input reads as it did. -/
def fnExactHistoryValidUptoRow : OpenClaim := { program := "ytkjippbnpaaaaaa", sum := "7a769157c44bdee3408cf0b5d13f9f07a7e0126be1f9510b9d7d6423cecfb6ed", func := "loop.example/texteditor/laws.FnExactHistoryValid", spec := "fnExactHistoryValid", apart := false, narrowed := true }
def FnExactHistoryValidUptoSaid : Prop := fnExactHistoryValidUptoRow.holds Try.pinned (OpenSpec.upto fnExactHistoryValidSpec)

/-- 'laws.FnHistoryValid', WHERE WHAT IT READS IS OF BULK AT MOST 1048576: true; the input reads as it did. -/
def fnHistoryValidUptoRow : OpenClaim := { program := "ytkjippbnpaaaaaa", sum := "7a769157c44bdee3408cf0b5d13f9f07a7e0126be1f9510b9d7d6423cecfb6ed", func := "loop.example/texteditor/laws.FnHistoryValid", spec := "fnHistoryValid", inPlace := ["internal/bytealg.CountString", "internal/bytealg.IndexByteString", "internal/bytealg.IndexString"], named := ["internal/bytealg.MaxLen"], apart := false, narrowed := true }
def FnHistoryValidUptoSaid : Prop := fnHistoryValidUptoRow.holds Try.pinned (OpenSpec.upto fnHistoryValidSpec)

end Rows
end Go.Proofs.Ytkjippbnpaaaaaa
