/-
  No cell of these rows narrows 'for every input' (looked for: loops, veiled, ifaces, maps, wideKeys, modest, calm, conditions, laid).
  DERIVED. THE GIVEN ROWS OF THIS SEAT. 12 by the template 'for every input the law returns true; each argument reads behind the call as it read before'; 0 by the template 'total and deterministic' (their statements: YtibkcocaipbffaaTotals.lean).
  GIVEN WITH THE SEED: the statements are not yours to turn. If you find one false, say at which input.
  Laid BY PROGRAM, IN A SANDBOX (cutbox-rows.mjs): the forced cells as the released guide's own fill.sh prints them over the translation 78d0bf763997e199… (all of the seat's roots in one cut). By AI agents, Wed Nov 11 2026. No macro, syntax, notation, axiom, sorry.
-/
import Derived.Test.YtibkcocaipbffaaChecked
import GoSem.Claim
import GoSem.ClaimJoined
import GoSem.ClaimMapViews
import Derived.JoinedTies
import Derived.KernelRfl
namespace Go.Proofs.Ytibkcocaipbffaa
/- THE CELL 'sum', in the pinned program and in every row, IS THE sha256 OF THE DUMP (.gsa) THAT YtibkcocaipbffaaProg.lean LOADS. Nothing in Lean hashes anything: it is a label: what it is worth is what the hold of that sum in a sandbox is worth. -/
noncomputable def Try.pinned : Pinned := { name := "ytibkcocaipbffaa", sum := "78d0bf763997e19972942cfacdbf249b565bdbf29f34364fd3d01de78531d63c", checked := Try.checked }
namespace Rows
def none {H : Type} : Left H := { results := [], args := [] }

/-- 'laws.FnExactPatternValid': WHATEVER THE INPUT: true; the input reads as it did. -/
def fnExactPatternValidSpec : ChangeSpec := { name := "fnExactPatternValid", fn := fun _ => fun
  | [d] => { results := [.lit (.bool true)], args := [d] }
  | _ => none }
def fnExactPatternValidRow : OpenClaim := { program := "ytibkcocaipbffaa", sum := "78d0bf763997e19972942cfacdbf249b565bdbf29f34364fd3d01de78531d63c", func := "loop.example/texteditor/laws.FnExactPatternValid", spec := "fnExactPatternValid", apart := false }
def FnExactPatternValidSaid : Prop := fnExactPatternValidRow.holds Try.pinned (OpenSpec.ofChange fnExactPatternValidSpec)

/-- ITS FALSE NEIGHBOUR: 'it returns false'. Refute it at one input. -/
def fnExactPatternValidWrong : ChangeSpec := { name := "fnExactPatternValid", fn := fun _ => fun
  | [d] => { results := [.lit (.bool false)], args := [d] }
  | _ => none }
def FnExactPatternValidWrongFalsely : Prop := fnExactPatternValidRow.holds Try.pinned (OpenSpec.ofChange fnExactPatternValidWrong)

/-- 'laws.FnExactFindLast': WHATEVER THE INPUT: true; the input reads as it did. -/
def fnExactFindLastSpec : ChangeSpec := { name := "fnExactFindLast", fn := fun _ => fun
  | [d1, d2, d3] => { results := [.lit (.bool true)], args := [d1, d2, d3] }
  | _ => none }
def fnExactFindLastRow : OpenClaim := { program := "ytibkcocaipbffaa", sum := "78d0bf763997e19972942cfacdbf249b565bdbf29f34364fd3d01de78531d63c", func := "loop.example/texteditor/laws.FnExactFindLast", spec := "fnExactFindLast", apart := false }
def FnExactFindLastSaid : Prop := fnExactFindLastRow.holds Try.pinned (OpenSpec.ofChange fnExactFindLastSpec)

/-- ITS FALSE NEIGHBOUR: 'it returns false'. Refute it at one input. -/
def fnExactFindLastWrong : ChangeSpec := { name := "fnExactFindLast", fn := fun _ => fun
  | [d1, d2, d3] => { results := [.lit (.bool false)], args := [d1, d2, d3] }
  | _ => none }
def FnExactFindLastWrongFalsely : Prop := fnExactFindLastRow.holds Try.pinned (OpenSpec.ofChange fnExactFindLastWrong)

/-- 'laws.FnExactWordRight': WHATEVER THE INPUT: true; the input reads as it did. -/
def fnExactWordRightSpec : ChangeSpec := { name := "fnExactWordRight", fn := fun _ => fun
  | [d1, d2] => { results := [.lit (.bool true)], args := [d1, d2] }
  | _ => none }
def fnExactWordRightRow : OpenClaim := { program := "ytibkcocaipbffaa", sum := "78d0bf763997e19972942cfacdbf249b565bdbf29f34364fd3d01de78531d63c", func := "loop.example/texteditor/laws.FnExactWordRight", spec := "fnExactWordRight", apart := false }
def FnExactWordRightSaid : Prop := fnExactWordRightRow.holds Try.pinned (OpenSpec.ofChange fnExactWordRightSpec)

/-- ITS FALSE NEIGHBOUR: 'it returns false'. Refute it at one input. -/
def fnExactWordRightWrong : ChangeSpec := { name := "fnExactWordRight", fn := fun _ => fun
  | [d1, d2] => { results := [.lit (.bool false)], args := [d1, d2] }
  | _ => none }
def FnExactWordRightWrongFalsely : Prop := fnExactWordRightRow.holds Try.pinned (OpenSpec.ofChange fnExactWordRightWrong)

/-- 'laws.FnExactWordLeft': WHATEVER THE INPUT: true; the input reads as it did. -/
def fnExactWordLeftSpec : ChangeSpec := { name := "fnExactWordLeft", fn := fun _ => fun
  | [d1, d2] => { results := [.lit (.bool true)], args := [d1, d2] }
  | _ => none }
def fnExactWordLeftRow : OpenClaim := { program := "ytibkcocaipbffaa", sum := "78d0bf763997e19972942cfacdbf249b565bdbf29f34364fd3d01de78531d63c", func := "loop.example/texteditor/laws.FnExactWordLeft", spec := "fnExactWordLeft", apart := false }
def FnExactWordLeftSaid : Prop := fnExactWordLeftRow.holds Try.pinned (OpenSpec.ofChange fnExactWordLeftSpec)

/-- ITS FALSE NEIGHBOUR: 'it returns false'. Refute it at one input. -/
def fnExactWordLeftWrong : ChangeSpec := { name := "fnExactWordLeft", fn := fun _ => fun
  | [d1, d2] => { results := [.lit (.bool false)], args := [d1, d2] }
  | _ => none }
def FnExactWordLeftWrongFalsely : Prop := fnExactWordLeftRow.holds Try.pinned (OpenSpec.ofChange fnExactWordLeftWrong)

/-- 'laws.FnExactFillCost': WHATEVER THE INPUT: true; the input reads as it did. -/
def fnExactFillCostSpec : ChangeSpec := { name := "fnExactFillCost", fn := fun _ => fun
  | [d1, d2] => { results := [.lit (.bool true)], args := [d1, d2] }
  | _ => none }
def fnExactFillCostRow : OpenClaim := { program := "ytibkcocaipbffaa", sum := "78d0bf763997e19972942cfacdbf249b565bdbf29f34364fd3d01de78531d63c", func := "loop.example/texteditor/laws.FnExactFillCost", spec := "fnExactFillCost", apart := false }
def FnExactFillCostSaid : Prop := fnExactFillCostRow.holds Try.pinned (OpenSpec.ofChange fnExactFillCostSpec)

/-- ITS FALSE NEIGHBOUR: 'it returns false'. Refute it at one input. -/
def fnExactFillCostWrong : ChangeSpec := { name := "fnExactFillCost", fn := fun _ => fun
  | [d1, d2] => { results := [.lit (.bool false)], args := [d1, d2] }
  | _ => none }
def FnExactFillCostWrongFalsely : Prop := fnExactFillCostRow.holds Try.pinned (OpenSpec.ofChange fnExactFillCostWrong)

/-- 'laws.FnExactWordAround': WHATEVER THE INPUT: true; the input reads as it did. -/
def fnExactWordAroundSpec : ChangeSpec := { name := "fnExactWordAround", fn := fun _ => fun
  | [d1, d2] => { results := [.lit (.bool true)], args := [d1, d2] }
  | _ => none }
def fnExactWordAroundRow : OpenClaim := { program := "ytibkcocaipbffaa", sum := "78d0bf763997e19972942cfacdbf249b565bdbf29f34364fd3d01de78531d63c", func := "loop.example/texteditor/laws.FnExactWordAround", spec := "fnExactWordAround", apart := false }
def FnExactWordAroundSaid : Prop := fnExactWordAroundRow.holds Try.pinned (OpenSpec.ofChange fnExactWordAroundSpec)

/-- ITS FALSE NEIGHBOUR: 'it returns false'. Refute it at one input. -/
def fnExactWordAroundWrong : ChangeSpec := { name := "fnExactWordAround", fn := fun _ => fun
  | [d1, d2] => { results := [.lit (.bool false)], args := [d1, d2] }
  | _ => none }
def FnExactWordAroundWrongFalsely : Prop := fnExactWordAroundRow.holds Try.pinned (OpenSpec.ofChange fnExactWordAroundWrong)

/-- 'laws.FnExactFindNext': WHATEVER THE INPUT: true; the input reads as it did. -/
def fnExactFindNextSpec : ChangeSpec := { name := "fnExactFindNext", fn := fun _ => fun
  | [d1, d2, d3] => { results := [.lit (.bool true)], args := [d1, d2, d3] }
  | _ => none }
def fnExactFindNextRow : OpenClaim := { program := "ytibkcocaipbffaa", sum := "78d0bf763997e19972942cfacdbf249b565bdbf29f34364fd3d01de78531d63c", func := "loop.example/texteditor/laws.FnExactFindNext", spec := "fnExactFindNext", inPlace := ["internal/bytealg.IndexByteString", "internal/bytealg.IndexString"], named := ["internal/bytealg.MaxLen"], apart := false }
def FnExactFindNextSaid : Prop := fnExactFindNextRow.holds Try.pinned (OpenSpec.ofChange fnExactFindNextSpec)

/-- ITS FALSE NEIGHBOUR: 'it returns false'. Refute it at one input. -/
def fnExactFindNextWrong : ChangeSpec := { name := "fnExactFindNext", fn := fun _ => fun
  | [d1, d2, d3] => { results := [.lit (.bool false)], args := [d1, d2, d3] }
  | _ => none }
def FnExactFindNextWrongFalsely : Prop := fnExactFindNextRow.holds Try.pinned (OpenSpec.ofChange fnExactFindNextWrong)

/-- 'laws.FnExactFindPlaces': WHATEVER THE INPUT: true; the input reads as it did. -/
def fnExactFindPlacesSpec : ChangeSpec := { name := "fnExactFindPlaces", fn := fun _ => fun
  | [d1, d2] => { results := [.lit (.bool true)], args := [d1, d2] }
  | _ => none }
def fnExactFindPlacesRow : OpenClaim := { program := "ytibkcocaipbffaa", sum := "78d0bf763997e19972942cfacdbf249b565bdbf29f34364fd3d01de78531d63c", func := "loop.example/texteditor/laws.FnExactFindPlaces", spec := "fnExactFindPlaces", inPlace := ["internal/bytealg.IndexByteString", "internal/bytealg.IndexString"], named := ["internal/bytealg.MaxLen"], apart := false }
def FnExactFindPlacesSaid : Prop := fnExactFindPlacesRow.holds Try.pinned (OpenSpec.ofChange fnExactFindPlacesSpec)

/-- ITS FALSE NEIGHBOUR: 'it returns false'. Refute it at one input. -/
def fnExactFindPlacesWrong : ChangeSpec := { name := "fnExactFindPlaces", fn := fun _ => fun
  | [d1, d2] => { results := [.lit (.bool false)], args := [d1, d2] }
  | _ => none }
def FnExactFindPlacesWrongFalsely : Prop := fnExactFindPlacesRow.holds Try.pinned (OpenSpec.ofChange fnExactFindPlacesWrong)

/-- 'laws.FnExactReplacePlaces': WHATEVER THE INPUT: true; the input reads as it did. -/
def fnExactReplacePlacesSpec : ChangeSpec := { name := "fnExactReplacePlaces", fn := fun _ => fun
  | [d1, d2, d3] => { results := [.lit (.bool true)], args := [d1, d2, d3] }
  | _ => none }
def fnExactReplacePlacesRow : OpenClaim := { program := "ytibkcocaipbffaa", sum := "78d0bf763997e19972942cfacdbf249b565bdbf29f34364fd3d01de78531d63c", func := "loop.example/texteditor/laws.FnExactReplacePlaces", spec := "fnExactReplacePlaces", inPlace := ["internal/bytealg.IndexByteString", "internal/bytealg.IndexString", "internal/abi.NoEscape"], named := ["internal/bytealg.MaxLen"], apart := false }
def FnExactReplacePlacesSaid : Prop := fnExactReplacePlacesRow.holds Try.pinned (OpenSpec.ofChange fnExactReplacePlacesSpec)

/-- ITS FALSE NEIGHBOUR: 'it returns false'. Refute it at one input. -/
def fnExactReplacePlacesWrong : ChangeSpec := { name := "fnExactReplacePlaces", fn := fun _ => fun
  | [d1, d2, d3] => { results := [.lit (.bool false)], args := [d1, d2, d3] }
  | _ => none }
def FnExactReplacePlacesWrongFalsely : Prop := fnExactReplacePlacesRow.holds Try.pinned (OpenSpec.ofChange fnExactReplacePlacesWrong)

/-- 'laws.FnWordAround': WHATEVER THE INPUT: true; the input reads as it did. -/
def fnWordAroundSpec : ChangeSpec := { name := "fnWordAround", fn := fun _ => fun
  | [d] => { results := [.lit (.bool true)], args := [d] }
  | _ => none }
def fnWordAroundRow : OpenClaim := { program := "ytibkcocaipbffaa", sum := "78d0bf763997e19972942cfacdbf249b565bdbf29f34364fd3d01de78531d63c", func := "loop.example/texteditor/laws.FnWordAround", spec := "fnWordAround", inPlace := ["internal/bytealg.CountString", "internal/bytealg.IndexByteString", "internal/bytealg.IndexString"], named := ["internal/bytealg.MaxLen"], apart := false }
def FnWordAroundSaid : Prop := fnWordAroundRow.holds Try.pinned (OpenSpec.ofChange fnWordAroundSpec)

/-- ITS FALSE NEIGHBOUR: 'it returns false'. Refute it at one input. -/
def fnWordAroundWrong : ChangeSpec := { name := "fnWordAround", fn := fun _ => fun
  | [d] => { results := [.lit (.bool false)], args := [d] }
  | _ => none }
def FnWordAroundWrongFalsely : Prop := fnWordAroundRow.holds Try.pinned (OpenSpec.ofChange fnWordAroundWrong)

/-- 'laws.FnWordLeft': WHATEVER THE INPUT: true; the input reads as it did. -/
def fnWordLeftSpec : ChangeSpec := { name := "fnWordLeft", fn := fun _ => fun
  | [d] => { results := [.lit (.bool true)], args := [d] }
  | _ => none }
def fnWordLeftRow : OpenClaim := { program := "ytibkcocaipbffaa", sum := "78d0bf763997e19972942cfacdbf249b565bdbf29f34364fd3d01de78531d63c", func := "loop.example/texteditor/laws.FnWordLeft", spec := "fnWordLeft", inPlace := ["internal/bytealg.CountString", "internal/bytealg.IndexByteString", "internal/bytealg.IndexString"], named := ["internal/bytealg.MaxLen"], apart := false }
def FnWordLeftSaid : Prop := fnWordLeftRow.holds Try.pinned (OpenSpec.ofChange fnWordLeftSpec)

/-- ITS FALSE NEIGHBOUR: 'it returns false'. Refute it at one input. -/
def fnWordLeftWrong : ChangeSpec := { name := "fnWordLeft", fn := fun _ => fun
  | [d] => { results := [.lit (.bool false)], args := [d] }
  | _ => none }
def FnWordLeftWrongFalsely : Prop := fnWordLeftRow.holds Try.pinned (OpenSpec.ofChange fnWordLeftWrong)

/-- 'laws.FnWordRight': WHATEVER THE INPUT: true; the input reads as it did. -/
def fnWordRightSpec : ChangeSpec := { name := "fnWordRight", fn := fun _ => fun
  | [d] => { results := [.lit (.bool true)], args := [d] }
  | _ => none }
def fnWordRightRow : OpenClaim := { program := "ytibkcocaipbffaa", sum := "78d0bf763997e19972942cfacdbf249b565bdbf29f34364fd3d01de78531d63c", func := "loop.example/texteditor/laws.FnWordRight", spec := "fnWordRight", inPlace := ["internal/bytealg.CountString", "internal/bytealg.IndexByteString", "internal/bytealg.IndexString"], named := ["internal/bytealg.MaxLen"], apart := false }
def FnWordRightSaid : Prop := fnWordRightRow.holds Try.pinned (OpenSpec.ofChange fnWordRightSpec)

/-- ITS FALSE NEIGHBOUR: 'it returns false'. Refute it at one input. -/
def fnWordRightWrong : ChangeSpec := { name := "fnWordRight", fn := fun _ => fun
  | [d] => { results := [.lit (.bool false)], args := [d] }
  | _ => none }
def FnWordRightWrongFalsely : Prop := fnWordRightRow.holds Try.pinned (OpenSpec.ofChange fnWordRightWrong)

/- THE SECOND FORM. 'bulk': how many values and letters a reading holds, each counted each time it is reached (what is shared counts as often as it is met; a slice's spare places count too). A statement '..UptoSaid' is the law's where the arguments, and the package variables that the reading takes, are together of bulk at most 1048576: NARROWER than '..Said'. Prove '..Said' where nothing that the law and all that it calls make is longer than what came in: it says more and counts as full. Else prove '..UptoSaid'. A law counts once. -/
mutual
def uptoBulk {H : Type} : DataW H → Nat
  | .lit (.string bytes) => bytes.length + 1
  | .lit _ => 1
  | .nil => 1
  | .ptr d => uptoBulk d + 1
  | .slice elems spare => uptoBulkAll elems + uptoBulkAll spare + 1
  | .agg parts => uptoBulkAll parts + 1
  | .iface _ d => uptoBulk d + 1
  | .map entries => uptoBulkEntries entries + 1
  | .held _ => 1
def uptoBulkAll {H : Type} : List (DataW H) → Nat
  | [] => 0
  | d :: r => uptoBulk d + uptoBulkAll r
def uptoBulkEntries {H : Type} : List (Lit × DataW H) → Nat
  | [] => 0
  | x :: r => uptoBulkEntry x + uptoBulkEntries r
def uptoBulkEntry {H : Type} : Lit × DataW H → Nat
  | (.string bytes, d) => bytes.length + uptoBulk d + 1
  | (_, d) => uptoBulk d + 1
 end
def uptoSmall : (H : Type) → List (DataW H) → Bool := fun _ ds => decide (uptoBulkAll ds ≤ 1048576)
def OpenSpec.upto (s : _root_.Go.ChangeSpec) : _root_.Go.OpenSpec := { _root_.Go.OpenSpec.ofChange s with cond := some uptoSmall }

/-- 'laws.FnExactPatternValid', WHERE WHAT IT READS IS OF BULK AT MOST 1048576: true; the input reads as it did. -/
def fnExactPatternValidUptoRow : OpenClaim := { program := "ytibkcocaipbffaa", sum := "78d0bf763997e19972942cfacdbf249b565bdbf29f34364fd3d01de78531d63c", func := "loop.example/texteditor/laws.FnExactPatternValid", spec := "fnExactPatternValid", apart := false, narrowed := true }
def FnExactPatternValidUptoSaid : Prop := fnExactPatternValidUptoRow.holds Try.pinned (OpenSpec.upto fnExactPatternValidSpec)

/-- 'laws.FnExactFindLast', WHERE WHAT IT READS IS OF BULK AT MOST 1048576: true; the input reads as it did. -/
def fnExactFindLastUptoRow : OpenClaim := { program := "ytibkcocaipbffaa", sum := "78d0bf763997e19972942cfacdbf249b565bdbf29f34364fd3d01de78531d63c", func := "loop.example/texteditor/laws.FnExactFindLast", spec := "fnExactFindLast", apart := false, narrowed := true }
def FnExactFindLastUptoSaid : Prop := fnExactFindLastUptoRow.holds Try.pinned (OpenSpec.upto fnExactFindLastSpec)

/-- 'laws.FnExactWordRight', WHERE WHAT IT READS IS OF BULK AT MOST 1048576: true; the input reads as it did. -/
def fnExactWordRightUptoRow : OpenClaim := { program := "ytibkcocaipbffaa", sum := "78d0bf763997e19972942cfacdbf249b565bdbf29f34364fd3d01de78531d63c", func := "loop.example/texteditor/laws.FnExactWordRight", spec := "fnExactWordRight", apart := false, narrowed := true }
def FnExactWordRightUptoSaid : Prop := fnExactWordRightUptoRow.holds Try.pinned (OpenSpec.upto fnExactWordRightSpec)

/-- 'laws.FnExactWordLeft', WHERE WHAT IT READS IS OF BULK AT MOST 1048576: true; the input reads as it did. -/
def fnExactWordLeftUptoRow : OpenClaim := { program := "ytibkcocaipbffaa", sum := "78d0bf763997e19972942cfacdbf249b565bdbf29f34364fd3d01de78531d63c", func := "loop.example/texteditor/laws.FnExactWordLeft", spec := "fnExactWordLeft", apart := false, narrowed := true }
def FnExactWordLeftUptoSaid : Prop := fnExactWordLeftUptoRow.holds Try.pinned (OpenSpec.upto fnExactWordLeftSpec)

/-- 'laws.FnExactFillCost', WHERE WHAT IT READS IS OF BULK AT MOST 1048576: true; the input reads as it did. -/
def fnExactFillCostUptoRow : OpenClaim := { program := "ytibkcocaipbffaa", sum := "78d0bf763997e19972942cfacdbf249b565bdbf29f34364fd3d01de78531d63c", func := "loop.example/texteditor/laws.FnExactFillCost", spec := "fnExactFillCost", apart := false, narrowed := true }
def FnExactFillCostUptoSaid : Prop := fnExactFillCostUptoRow.holds Try.pinned (OpenSpec.upto fnExactFillCostSpec)

/-- 'laws.FnExactWordAround', WHERE WHAT IT READS IS OF BULK AT MOST 1048576: true; the input reads as it did. -/
def fnExactWordAroundUptoRow : OpenClaim := { program := "ytibkcocaipbffaa", sum := "78d0bf763997e19972942cfacdbf249b565bdbf29f34364fd3d01de78531d63c", func := "loop.example/texteditor/laws.FnExactWordAround", spec := "fnExactWordAround", apart := false, narrowed := true }
def FnExactWordAroundUptoSaid : Prop := fnExactWordAroundUptoRow.holds Try.pinned (OpenSpec.upto fnExactWordAroundSpec)

/-- 'laws.FnExactFindNext', WHERE WHAT IT READS IS OF BULK AT MOST 1048576: true; the input reads as it did. -/
def fnExactFindNextUptoRow : OpenClaim := { program := "ytibkcocaipbffaa", sum := "78d0bf763997e19972942cfacdbf249b565bdbf29f34364fd3d01de78531d63c", func := "loop.example/texteditor/laws.FnExactFindNext", spec := "fnExactFindNext", inPlace := ["internal/bytealg.IndexByteString", "internal/bytealg.IndexString"], named := ["internal/bytealg.MaxLen"], apart := false, narrowed := true }
def FnExactFindNextUptoSaid : Prop := fnExactFindNextUptoRow.holds Try.pinned (OpenSpec.upto fnExactFindNextSpec)

/-- 'laws.FnExactFindPlaces', WHERE WHAT IT READS IS OF BULK AT MOST 1048576: true; the input reads as it did. -/
def fnExactFindPlacesUptoRow : OpenClaim := { program := "ytibkcocaipbffaa", sum := "78d0bf763997e19972942cfacdbf249b565bdbf29f34364fd3d01de78531d63c", func := "loop.example/texteditor/laws.FnExactFindPlaces", spec := "fnExactFindPlaces", inPlace := ["internal/bytealg.IndexByteString", "internal/bytealg.IndexString"], named := ["internal/bytealg.MaxLen"], apart := false, narrowed := true }
def FnExactFindPlacesUptoSaid : Prop := fnExactFindPlacesUptoRow.holds Try.pinned (OpenSpec.upto fnExactFindPlacesSpec)

/-- 'laws.FnExactReplacePlaces', WHERE WHAT IT READS IS OF BULK AT MOST 1048576: true; the input reads as it did. -/
def fnExactReplacePlacesUptoRow : OpenClaim := { program := "ytibkcocaipbffaa", sum := "78d0bf763997e19972942cfacdbf249b565bdbf29f34364fd3d01de78531d63c", func := "loop.example/texteditor/laws.FnExactReplacePlaces", spec := "fnExactReplacePlaces", inPlace := ["internal/bytealg.IndexByteString", "internal/bytealg.IndexString", "internal/abi.NoEscape"], named := ["internal/bytealg.MaxLen"], apart := false, narrowed := true }
def FnExactReplacePlacesUptoSaid : Prop := fnExactReplacePlacesUptoRow.holds Try.pinned (OpenSpec.upto fnExactReplacePlacesSpec)

/-- 'laws.FnWordAround', WHERE WHAT IT READS IS OF BULK AT MOST 1048576: true; the input reads as it did. -/
def fnWordAroundUptoRow : OpenClaim := { program := "ytibkcocaipbffaa", sum := "78d0bf763997e19972942cfacdbf249b565bdbf29f34364fd3d01de78531d63c", func := "loop.example/texteditor/laws.FnWordAround", spec := "fnWordAround", inPlace := ["internal/bytealg.CountString", "internal/bytealg.IndexByteString", "internal/bytealg.IndexString"], named := ["internal/bytealg.MaxLen"], apart := false, narrowed := true }
def FnWordAroundUptoSaid : Prop := fnWordAroundUptoRow.holds Try.pinned (OpenSpec.upto fnWordAroundSpec)

/-- 'laws.FnWordLeft', WHERE WHAT IT READS IS OF BULK AT MOST 1048576: true; the input reads as it did. -/
def fnWordLeftUptoRow : OpenClaim := { program := "ytibkcocaipbffaa", sum := "78d0bf763997e19972942cfacdbf249b565bdbf29f34364fd3d01de78531d63c", func := "loop.example/texteditor/laws.FnWordLeft", spec := "fnWordLeft", inPlace := ["internal/bytealg.CountString", "internal/bytealg.IndexByteString", "internal/bytealg.IndexString"], named := ["internal/bytealg.MaxLen"], apart := false, narrowed := true }
def FnWordLeftUptoSaid : Prop := fnWordLeftUptoRow.holds Try.pinned (OpenSpec.upto fnWordLeftSpec)

/-- 'laws.FnWordRight', WHERE WHAT IT READS IS OF BULK AT MOST 1048576: true; the input reads as it did. -/
def fnWordRightUptoRow : OpenClaim := { program := "ytibkcocaipbffaa", sum := "78d0bf763997e19972942cfacdbf249b565bdbf29f34364fd3d01de78531d63c", func := "loop.example/texteditor/laws.FnWordRight", spec := "fnWordRight", inPlace := ["internal/bytealg.CountString", "internal/bytealg.IndexByteString", "internal/bytealg.IndexString"], named := ["internal/bytealg.MaxLen"], apart := false, narrowed := true }
def FnWordRightUptoSaid : Prop := fnWordRightUptoRow.holds Try.pinned (OpenSpec.upto fnWordRightSpec)

end Rows
end Go.Proofs.Ytibkcocaipbffaa
