/-
  No cell of these rows narrows 'for every input' (looked for: loops, veiled, ifaces, maps, wideKeys, modest, calm, conditions, laid).
  DERIVED. THE GIVEN ROWS OF THIS SEAT. 11 by the template 'for every input the law returns true; each argument reads behind the call as it read before'; 0 by the template 'total and deterministic' (their statements: YtmdjmaijennmkaaTotals.lean).
  GIVEN WITH THE SEED: the statements are not yours to turn. If you find one false, say at which input.
  Laid BY PROGRAM, IN A SANDBOX (cutbox-rows.mjs): the forced cells as the released guide's own fill.sh prints them over the translation f5aa3f5c38c9f166… (all of the seat's roots in one cut). By AI agents, Wed Nov 11 2026. No macro, syntax, notation, axiom, sorry.
-/
import Derived.Test.YtmdjmaijennmkaaChecked
import GoSem.Claim
import GoSem.ClaimJoined
import GoSem.ClaimMapViews
import Derived.JoinedTies
import Derived.KernelRfl
namespace Go.Proofs.Ytmdjmaijennmkaa
/- THE CELL 'sum', in the pinned program and in every row, IS THE sha256 OF THE DUMP (.gsa) THAT YtmdjmaijennmkaaProg.lean LOADS. Nothing in Lean hashes anything: it is a label: what it is worth is what the hold of that sum in a sandbox is worth. -/
noncomputable def Try.pinned : Pinned := { name := "ytmdjmaijennmkaa", sum := "f5aa3f5c38c9f166830bc17fa015decbbc905dba87cc9f2d775365600d6c443f", checked := Try.checked }
namespace Rows
def none {H : Type} : Left H := { results := [], args := [] }

/-- 'laws.FnExactCursorsValid': WHATEVER THE INPUT: true; the input reads as it did. -/
def fnExactCursorsValidSpec : ChangeSpec := { name := "fnExactCursorsValid", fn := fun _ => fun
  | [d1, d2] => { results := [.lit (.bool true)], args := [d1, d2] }
  | _ => none }
def fnExactCursorsValidRow : OpenClaim := { program := "ytmdjmaijennmkaa", sum := "f5aa3f5c38c9f166830bc17fa015decbbc905dba87cc9f2d775365600d6c443f", func := "loop.example/texteditor/laws.FnExactCursorsValid", spec := "fnExactCursorsValid", apart := false }
def FnExactCursorsValidSaid : Prop := fnExactCursorsValidRow.holds Try.pinned (OpenSpec.ofChange fnExactCursorsValidSpec)

/-- ITS FALSE NEIGHBOUR: 'it returns false'. Refute it at one input. -/
def fnExactCursorsValidWrong : ChangeSpec := { name := "fnExactCursorsValid", fn := fun _ => fun
  | [d1, d2] => { results := [.lit (.bool false)], args := [d1, d2] }
  | _ => none }
def FnExactCursorsValidWrongFalsely : Prop := fnExactCursorsValidRow.holds Try.pinned (OpenSpec.ofChange fnExactCursorsValidWrong)

/-- 'laws.FnExactSelected': WHATEVER THE INPUT: true; the input reads as it did. -/
def fnExactSelectedSpec : ChangeSpec := { name := "fnExactSelected", fn := fun _ => fun
  | [d1, d2] => { results := [.lit (.bool true)], args := [d1, d2] }
  | _ => none }
def fnExactSelectedRow : OpenClaim := { program := "ytmdjmaijennmkaa", sum := "f5aa3f5c38c9f166830bc17fa015decbbc905dba87cc9f2d775365600d6c443f", func := "loop.example/texteditor/laws.FnExactSelected", spec := "fnExactSelected", apart := false }
def FnExactSelectedSaid : Prop := fnExactSelectedRow.holds Try.pinned (OpenSpec.ofChange fnExactSelectedSpec)

/-- ITS FALSE NEIGHBOUR: 'it returns false'. Refute it at one input. -/
def fnExactSelectedWrong : ChangeSpec := { name := "fnExactSelected", fn := fun _ => fun
  | [d1, d2] => { results := [.lit (.bool false)], args := [d1, d2] }
  | _ => none }
def FnExactSelectedWrongFalsely : Prop := fnExactSelectedRow.holds Try.pinned (OpenSpec.ofChange fnExactSelectedWrong)

/-- 'laws.FnExactJoinCursors': WHATEVER THE INPUT: true; the input reads as it did. -/
def fnExactJoinCursorsSpec : ChangeSpec := { name := "fnExactJoinCursors", fn := fun _ => fun
  | [d1, d2] => { results := [.lit (.bool true)], args := [d1, d2] }
  | _ => none }
def fnExactJoinCursorsRow : OpenClaim := { program := "ytmdjmaijennmkaa", sum := "f5aa3f5c38c9f166830bc17fa015decbbc905dba87cc9f2d775365600d6c443f", func := "loop.example/texteditor/laws.FnExactJoinCursors", spec := "fnExactJoinCursors", unfollowed := true, recurses := true, apart := false }
def FnExactJoinCursorsSaid : Prop := fnExactJoinCursorsRow.holds Try.pinned (OpenSpec.ofChange fnExactJoinCursorsSpec)

/-- ITS FALSE NEIGHBOUR: 'it returns false'. Refute it at one input. -/
def fnExactJoinCursorsWrong : ChangeSpec := { name := "fnExactJoinCursors", fn := fun _ => fun
  | [d1, d2] => { results := [.lit (.bool false)], args := [d1, d2] }
  | _ => none }
def FnExactJoinCursorsWrongFalsely : Prop := fnExactJoinCursorsRow.holds Try.pinned (OpenSpec.ofChange fnExactJoinCursorsWrong)

/-- 'laws.FnExactTypeAll': WHATEVER THE INPUT: true; the input reads as it did. -/
def fnExactTypeAllSpec : ChangeSpec := { name := "fnExactTypeAll", fn := fun _ => fun
  | [d1, d2, d3] => { results := [.lit (.bool true)], args := [d1, d2, d3] }
  | _ => none }
def fnExactTypeAllRow : OpenClaim := { program := "ytmdjmaijennmkaa", sum := "f5aa3f5c38c9f166830bc17fa015decbbc905dba87cc9f2d775365600d6c443f", func := "loop.example/texteditor/laws.FnExactTypeAll", spec := "fnExactTypeAll", inPlace := ["internal/abi.NoEscape"], unfollowed := true, recurses := true, apart := false }
def FnExactTypeAllSaid : Prop := fnExactTypeAllRow.holds Try.pinned (OpenSpec.ofChange fnExactTypeAllSpec)

/-- ITS FALSE NEIGHBOUR: 'it returns false'. Refute it at one input. -/
def fnExactTypeAllWrong : ChangeSpec := { name := "fnExactTypeAll", fn := fun _ => fun
  | [d1, d2, d3] => { results := [.lit (.bool false)], args := [d1, d2, d3] }
  | _ => none }
def FnExactTypeAllWrongFalsely : Prop := fnExactTypeAllRow.holds Try.pinned (OpenSpec.ofChange fnExactTypeAllWrong)

/-- 'laws.FnExactEraseAll': WHATEVER THE INPUT: true; the input reads as it did. -/
def fnExactEraseAllSpec : ChangeSpec := { name := "fnExactEraseAll", fn := fun _ => fun
  | [d1, d2] => { results := [.lit (.bool true)], args := [d1, d2] }
  | _ => none }
def fnExactEraseAllRow : OpenClaim := { program := "ytmdjmaijennmkaa", sum := "f5aa3f5c38c9f166830bc17fa015decbbc905dba87cc9f2d775365600d6c443f", func := "loop.example/texteditor/laws.FnExactEraseAll", spec := "fnExactEraseAll", inPlace := ["internal/abi.NoEscape"], unfollowed := true, recurses := true, apart := false }
def FnExactEraseAllSaid : Prop := fnExactEraseAllRow.holds Try.pinned (OpenSpec.ofChange fnExactEraseAllSpec)

/-- ITS FALSE NEIGHBOUR: 'it returns false'. Refute it at one input. -/
def fnExactEraseAllWrong : ChangeSpec := { name := "fnExactEraseAll", fn := fun _ => fun
  | [d1, d2] => { results := [.lit (.bool false)], args := [d1, d2] }
  | _ => none }
def FnExactEraseAllWrongFalsely : Prop := fnExactEraseAllRow.holds Try.pinned (OpenSpec.ofChange fnExactEraseAllWrong)

/-- 'laws.FnCursorsValid': WHATEVER THE INPUT: true; the input reads as it did. -/
def fnCursorsValidSpec : ChangeSpec := { name := "fnCursorsValid", fn := fun _ => fun
  | [d] => { results := [.lit (.bool true)], args := [d] }
  | _ => none }
def fnCursorsValidRow : OpenClaim := { program := "ytmdjmaijennmkaa", sum := "f5aa3f5c38c9f166830bc17fa015decbbc905dba87cc9f2d775365600d6c443f", func := "loop.example/texteditor/laws.FnCursorsValid", spec := "fnCursorsValid", inPlace := ["internal/bytealg.CountString", "internal/bytealg.IndexByteString", "internal/bytealg.IndexString"], named := ["internal/bytealg.MaxLen"], apart := false }
def FnCursorsValidSaid : Prop := fnCursorsValidRow.holds Try.pinned (OpenSpec.ofChange fnCursorsValidSpec)

/-- ITS FALSE NEIGHBOUR: 'it returns false'. Refute it at one input. -/
def fnCursorsValidWrong : ChangeSpec := { name := "fnCursorsValid", fn := fun _ => fun
  | [d] => { results := [.lit (.bool false)], args := [d] }
  | _ => none }
def FnCursorsValidWrongFalsely : Prop := fnCursorsValidRow.holds Try.pinned (OpenSpec.ofChange fnCursorsValidWrong)

/-- 'laws.FnSelected': WHATEVER THE INPUT: true; the input reads as it did. -/
def fnSelectedSpec : ChangeSpec := { name := "fnSelected", fn := fun _ => fun
  | [d] => { results := [.lit (.bool true)], args := [d] }
  | _ => none }
def fnSelectedRow : OpenClaim := { program := "ytmdjmaijennmkaa", sum := "f5aa3f5c38c9f166830bc17fa015decbbc905dba87cc9f2d775365600d6c443f", func := "loop.example/texteditor/laws.FnSelected", spec := "fnSelected", inPlace := ["internal/bytealg.CountString", "internal/bytealg.IndexByteString", "internal/bytealg.IndexString"], named := ["internal/bytealg.MaxLen"], apart := false }
def FnSelectedSaid : Prop := fnSelectedRow.holds Try.pinned (OpenSpec.ofChange fnSelectedSpec)

/-- ITS FALSE NEIGHBOUR: 'it returns false'. Refute it at one input. -/
def fnSelectedWrong : ChangeSpec := { name := "fnSelected", fn := fun _ => fun
  | [d] => { results := [.lit (.bool false)], args := [d] }
  | _ => none }
def FnSelectedWrongFalsely : Prop := fnSelectedRow.holds Try.pinned (OpenSpec.ofChange fnSelectedWrong)

/-- 'laws.FnJoinCursors': WHATEVER THE INPUT: true; the input reads as it did. -/
def fnJoinCursorsSpec : ChangeSpec := { name := "fnJoinCursors", fn := fun _ => fun
  | [d] => { results := [.lit (.bool true)], args := [d] }
  | _ => none }
def fnJoinCursorsRow : OpenClaim := { program := "ytmdjmaijennmkaa", sum := "f5aa3f5c38c9f166830bc17fa015decbbc905dba87cc9f2d775365600d6c443f", func := "loop.example/texteditor/laws.FnJoinCursors", spec := "fnJoinCursors", inPlace := ["internal/bytealg.CountString", "internal/bytealg.IndexByteString", "internal/bytealg.IndexString"], unfollowed := true, recurses := true, named := ["internal/bytealg.MaxLen"], apart := false }
def FnJoinCursorsSaid : Prop := fnJoinCursorsRow.holds Try.pinned (OpenSpec.ofChange fnJoinCursorsSpec)

/-- ITS FALSE NEIGHBOUR: 'it returns false'. Refute it at one input. -/
def fnJoinCursorsWrong : ChangeSpec := { name := "fnJoinCursors", fn := fun _ => fun
  | [d] => { results := [.lit (.bool false)], args := [d] }
  | _ => none }
def FnJoinCursorsWrongFalsely : Prop := fnJoinCursorsRow.holds Try.pinned (OpenSpec.ofChange fnJoinCursorsWrong)

/-- 'laws.FnCursorErase': WHATEVER THE INPUT: true; the input reads as it did. -/
def fnCursorEraseSpec : ChangeSpec := { name := "fnCursorErase", fn := fun _ => fun
  | [d] => { results := [.lit (.bool true)], args := [d] }
  | _ => none }
def fnCursorEraseRow : OpenClaim := { program := "ytmdjmaijennmkaa", sum := "f5aa3f5c38c9f166830bc17fa015decbbc905dba87cc9f2d775365600d6c443f", func := "loop.example/texteditor/laws.FnCursorErase", spec := "fnCursorErase", inPlace := ["internal/abi.NoEscape", "internal/bytealg.CountString", "internal/bytealg.IndexByteString", "internal/bytealg.IndexString"], unfollowed := true, recurses := true, named := ["internal/bytealg.MaxLen"], apart := false }
def FnCursorEraseSaid : Prop := fnCursorEraseRow.holds Try.pinned (OpenSpec.ofChange fnCursorEraseSpec)

/-- ITS FALSE NEIGHBOUR: 'it returns false'. Refute it at one input. -/
def fnCursorEraseWrong : ChangeSpec := { name := "fnCursorErase", fn := fun _ => fun
  | [d] => { results := [.lit (.bool false)], args := [d] }
  | _ => none }
def FnCursorEraseWrongFalsely : Prop := fnCursorEraseRow.holds Try.pinned (OpenSpec.ofChange fnCursorEraseWrong)

/-- 'laws.FnEraseAll': WHATEVER THE INPUT: true; the input reads as it did. -/
def fnEraseAllSpec : ChangeSpec := { name := "fnEraseAll", fn := fun _ => fun
  | [d] => { results := [.lit (.bool true)], args := [d] }
  | _ => none }
def fnEraseAllRow : OpenClaim := { program := "ytmdjmaijennmkaa", sum := "f5aa3f5c38c9f166830bc17fa015decbbc905dba87cc9f2d775365600d6c443f", func := "loop.example/texteditor/laws.FnEraseAll", spec := "fnEraseAll", inPlace := ["internal/abi.NoEscape", "internal/bytealg.CountString", "internal/bytealg.IndexByteString", "internal/bytealg.IndexString"], unfollowed := true, recurses := true, named := ["internal/bytealg.MaxLen"], apart := false }
def FnEraseAllSaid : Prop := fnEraseAllRow.holds Try.pinned (OpenSpec.ofChange fnEraseAllSpec)

/-- ITS FALSE NEIGHBOUR: 'it returns false'. Refute it at one input. -/
def fnEraseAllWrong : ChangeSpec := { name := "fnEraseAll", fn := fun _ => fun
  | [d] => { results := [.lit (.bool false)], args := [d] }
  | _ => none }
def FnEraseAllWrongFalsely : Prop := fnEraseAllRow.holds Try.pinned (OpenSpec.ofChange fnEraseAllWrong)

/-- 'laws.FnTypeAll': WHATEVER THE INPUT: true; the input reads as it did. -/
def fnTypeAllSpec : ChangeSpec := { name := "fnTypeAll", fn := fun _ => fun
  | [d] => { results := [.lit (.bool true)], args := [d] }
  | _ => none }
def fnTypeAllRow : OpenClaim := { program := "ytmdjmaijennmkaa", sum := "f5aa3f5c38c9f166830bc17fa015decbbc905dba87cc9f2d775365600d6c443f", func := "loop.example/texteditor/laws.FnTypeAll", spec := "fnTypeAll", inPlace := ["internal/abi.NoEscape", "internal/bytealg.CountString", "internal/bytealg.IndexByteString", "internal/bytealg.IndexString"], unfollowed := true, recurses := true, named := ["internal/bytealg.MaxLen"], apart := false }
def FnTypeAllSaid : Prop := fnTypeAllRow.holds Try.pinned (OpenSpec.ofChange fnTypeAllSpec)

/-- ITS FALSE NEIGHBOUR: 'it returns false'. Refute it at one input. -/
def fnTypeAllWrong : ChangeSpec := { name := "fnTypeAll", fn := fun _ => fun
  | [d] => { results := [.lit (.bool false)], args := [d] }
  | _ => none }
def FnTypeAllWrongFalsely : Prop := fnTypeAllRow.holds Try.pinned (OpenSpec.ofChange fnTypeAllWrong)

/- THE SECOND FORM. 'bulk': how many values and letters a reading holds, each counted each time it is reached (what is shared counts as often as it is met; a slice's spare places count too). A statement '..UptoSaid' is the law's where the arguments, and the package variables that the reading takes, are together of bulk at most 1048576: NARROWER than '..Said'. Prove '..Said' where nothing that the law and all that it calls make is longer than what came in: it says more and counts as full. Else prove '..UptoSaid'. A law counts once. -/
mutual
def uptoBulk {H : Type} : DataW H → Nat
  | .lit (.string bytes) => bytes.length + 1
  | .lit _ => 1
  | .nil => 1
  | .ptr d => uptoBulk d + 1
  | .slice elems spare => uptoBulkAll elems + uptoBulkAll spare + 1
  | .agg parts => uptoBulkAll parts + 1
  | .iface _ d => uptoBulk d + 1
  | .map entries => uptoBulkEntries entries + 1
  | .held _ => 1
def uptoBulkAll {H : Type} : List (DataW H) → Nat
  | [] => 0
  | d :: r => uptoBulk d + uptoBulkAll r
def uptoBulkEntries {H : Type} : List (Lit × DataW H) → Nat
  | [] => 0
  | x :: r => uptoBulkEntry x + uptoBulkEntries r
def uptoBulkEntry {H : Type} : Lit × DataW H → Nat
  | (.string bytes, d) => bytes.length + uptoBulk d + 1
  | (_, d) => uptoBulk d + 1
 end
def uptoSmall : (H : Type) → List (DataW H) → Bool := fun _ ds => decide (uptoBulkAll ds ≤ 1048576)
def OpenSpec.upto (s : _root_.Go.ChangeSpec) : _root_.Go.OpenSpec := { _root_.Go.OpenSpec.ofChange s with cond := some uptoSmall }

/-- 'laws.FnExactCursorsValid', WHERE WHAT IT READS IS OF BULK AT MOST 1048576: true; the input reads as it did. -/
def fnExactCursorsValidUptoRow : OpenClaim := { program := "ytmdjmaijennmkaa", sum := "f5aa3f5c38c9f166830bc17fa015decbbc905dba87cc9f2d775365600d6c443f", func := "loop.example/texteditor/laws.FnExactCursorsValid", spec := "fnExactCursorsValid", apart := false, narrowed := true }
def FnExactCursorsValidUptoSaid : Prop := fnExactCursorsValidUptoRow.holds Try.pinned (OpenSpec.upto fnExactCursorsValidSpec)

/-- 'laws.FnExactSelected', WHERE WHAT IT READS IS OF BULK AT MOST 1048576: true; the input reads as it did. -/
def fnExactSelectedUptoRow : OpenClaim := { program := "ytmdjmaijennmkaa", sum := "f5aa3f5c38c9f166830bc17fa015decbbc905dba87cc9f2d775365600d6c443f", func := "loop.example/texteditor/laws.FnExactSelected", spec := "fnExactSelected", apart := false, narrowed := true }
def FnExactSelectedUptoSaid : Prop := fnExactSelectedUptoRow.holds Try.pinned (OpenSpec.upto fnExactSelectedSpec)

/-- 'laws.FnExactJoinCursors', WHERE WHAT IT READS IS OF BULK AT MOST 1048576: true; the input reads as it did. -/
def fnExactJoinCursorsUptoRow : OpenClaim := { program := "ytmdjmaijennmkaa", sum := "f5aa3f5c38c9f166830bc17fa015decbbc905dba87cc9f2d775365600d6c443f", func := "loop.example/texteditor/laws.FnExactJoinCursors", spec := "fnExactJoinCursors", unfollowed := true, recurses := true, apart := false, narrowed := true }
def FnExactJoinCursorsUptoSaid : Prop := fnExactJoinCursorsUptoRow.holds Try.pinned (OpenSpec.upto fnExactJoinCursorsSpec)

/-- 'laws.FnExactTypeAll', WHERE WHAT IT READS IS OF BULK AT MOST 1048576: true; the input reads as it did. -/
def fnExactTypeAllUptoRow : OpenClaim := { program := "ytmdjmaijennmkaa", sum := "f5aa3f5c38c9f166830bc17fa015decbbc905dba87cc9f2d775365600d6c443f", func := "loop.example/texteditor/laws.FnExactTypeAll", spec := "fnExactTypeAll", inPlace := ["internal/abi.NoEscape"], unfollowed := true, recurses := true, apart := false, narrowed := true }
def FnExactTypeAllUptoSaid : Prop := fnExactTypeAllUptoRow.holds Try.pinned (OpenSpec.upto fnExactTypeAllSpec)

/-- 'laws.FnExactEraseAll', WHERE WHAT IT READS IS OF BULK AT MOST 1048576: true; the input reads as it did. -/
def fnExactEraseAllUptoRow : OpenClaim := { program := "ytmdjmaijennmkaa", sum := "f5aa3f5c38c9f166830bc17fa015decbbc905dba87cc9f2d775365600d6c443f", func := "loop.example/texteditor/laws.FnExactEraseAll", spec := "fnExactEraseAll", inPlace := ["internal/abi.NoEscape"], unfollowed := true, recurses := true, apart := false, narrowed := true }
def FnExactEraseAllUptoSaid : Prop := fnExactEraseAllUptoRow.holds Try.pinned (OpenSpec.upto fnExactEraseAllSpec)

/-- 'laws.FnCursorsValid', WHERE WHAT IT READS IS OF BULK AT MOST 1048576: true; the input reads as it did. -/
def fnCursorsValidUptoRow : OpenClaim := { program := "ytmdjmaijennmkaa", sum := "f5aa3f5c38c9f166830bc17fa015decbbc905dba87cc9f2d775365600d6c443f", func := "loop.example/texteditor/laws.FnCursorsValid", spec := "fnCursorsValid", inPlace := ["internal/bytealg.CountString", "internal/bytealg.IndexByteString", "internal/bytealg.IndexString"], named := ["internal/bytealg.MaxLen"], apart := false, narrowed := true }
def FnCursorsValidUptoSaid : Prop := fnCursorsValidUptoRow.holds Try.pinned (OpenSpec.upto fnCursorsValidSpec)

/-- 'laws.FnSelected', WHERE WHAT IT READS IS OF BULK AT MOST 1048576: true; the input reads as it did. -/
def fnSelectedUptoRow : OpenClaim := { program := "ytmdjmaijennmkaa", sum := "f5aa3f5c38c9f166830bc17fa015decbbc905dba87cc9f2d775365600d6c443f", func := "loop.example/texteditor/laws.FnSelected", spec := "fnSelected", inPlace := ["internal/bytealg.CountString", "internal/bytealg.IndexByteString", "internal/bytealg.IndexString"], named := ["internal/bytealg.MaxLen"], apart := false, narrowed := true }
def FnSelectedUptoSaid : Prop := fnSelectedUptoRow.holds Try.pinned (OpenSpec.upto fnSelectedSpec)

/-- 'laws.FnJoinCursors', WHERE WHAT IT READS IS OF BULK AT MOST 1048576: true; the input reads as it did. -/
def fnJoinCursorsUptoRow : OpenClaim := { program := "ytmdjmaijennmkaa", sum := "f5aa3f5c38c9f166830bc17fa015decbbc905dba87cc9f2d775365600d6c443f", func := "loop.example/texteditor/laws.FnJoinCursors", spec := "fnJoinCursors", inPlace := ["internal/bytealg.CountString", "internal/bytealg.IndexByteString", "internal/bytealg.IndexString"], unfollowed := true, recurses := true, named := ["internal/bytealg.MaxLen"], apart := false, narrowed := true }
def FnJoinCursorsUptoSaid : Prop := fnJoinCursorsUptoRow.holds Try.pinned (OpenSpec.upto fnJoinCursorsSpec)

/-- 'laws.FnCursorErase', WHERE WHAT IT READS IS OF BULK AT MOST 1048576: true; the input reads as it did. -/
def fnCursorEraseUptoRow : OpenClaim := { program := "ytmdjmaijennmkaa", sum := "f5aa3f5c38c9f166830bc17fa015decbbc905dba87cc9f2d775365600d6c443f", func := "loop.example/texteditor/laws.FnCursorErase", spec := "fnCursorErase", inPlace := ["internal/abi.NoEscape", "internal/bytealg.CountString", "internal/bytealg.IndexByteString", "internal/bytealg.IndexString"], unfollowed := true, recurses := true, named := ["internal/bytealg.MaxLen"], apart := false, narrowed := true }
def FnCursorEraseUptoSaid : Prop := fnCursorEraseUptoRow.holds Try.pinned (OpenSpec.upto fnCursorEraseSpec)

/-- 'laws.FnEraseAll', WHERE WHAT IT READS IS OF BULK AT MOST 1048576: true; the input reads as it did. -/
def fnEraseAllUptoRow : OpenClaim := { program := "ytmdjmaijennmkaa", sum := "f5aa3f5c38c9f166830bc17fa015decbbc905dba87cc9f2d775365600d6c443f", func := "loop.example/texteditor/laws.FnEraseAll", spec := "fnEraseAll", inPlace := ["internal/abi.NoEscape", "internal/bytealg.CountString", "internal/bytealg.IndexByteString", "internal/bytealg.IndexString"], unfollowed := true, recurses := true, named := ["internal/bytealg.MaxLen"], apart := false, narrowed := true }
def FnEraseAllUptoSaid : Prop := fnEraseAllUptoRow.holds Try.pinned (OpenSpec.upto fnEraseAllSpec)

/-- 'laws.FnTypeAll', WHERE WHAT IT READS IS OF BULK AT MOST 1048576: true; the input reads as it did. -/
def fnTypeAllUptoRow : OpenClaim := { program := "ytmdjmaijennmkaa", sum := "f5aa3f5c38c9f166830bc17fa015decbbc905dba87cc9f2d775365600d6c443f", func := "loop.example/texteditor/laws.FnTypeAll", spec := "fnTypeAll", inPlace := ["internal/abi.NoEscape", "internal/bytealg.CountString", "internal/bytealg.IndexByteString", "internal/bytealg.IndexString"], unfollowed := true, recurses := true, named := ["internal/bytealg.MaxLen"], apart := false, narrowed := true }
def FnTypeAllUptoSaid : Prop := fnTypeAllUptoRow.holds Try.pinned (OpenSpec.upto fnTypeAllSpec)

end Rows
end Go.Proofs.Ytmdjmaijennmkaa
