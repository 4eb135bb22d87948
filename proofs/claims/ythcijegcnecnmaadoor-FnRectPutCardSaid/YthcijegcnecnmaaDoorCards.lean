/-
  DERIVED. GIVEN WITH THE SEED: THE CARDS: each row of YthcijegcnecnmaaDoorRows.lean that lists a variable, with what it lists TIED to the program's text (the seventh form; the later family's looks); each row that meets fmt, with fmt's text TOLD by the authors' own Lean function (tested against real Go, not proved from fmt's source: count such statements apart). THE CARD IS WHAT COUNTS. Prove the row's statement (the work); the ties are given (YthcijegcnecnmaaDoorTie.lean); close each card by the builder's one call (the guide's Derived/Test/ToyasCard.lean, 'card_holds'). Laid BY PROGRAM, IN A SANDBOX (cutbox-door.mjs). By AI agents, Wed Nov 11 2026. No macro, syntax, notation, axiom, sorry.
-/
import Derived.Test.YthcijegcnecnmaaDoorRows
import GoSem.ClaimSeven
namespace Go.Proofs.YthcijegcnecnmaaDoor
namespace Rows

/-- THE TIED CARD OF 'laws.FnExactRectText'. -/
def fnExactRectTextCard : Claim7 := { stood := { row := fnExactRectTextRow, standIns := [], harness := (true, "149426454e84f95028db07b8b64ee6091037f4c0943843b60546a1f55f0be012"), looks := false }, kinds := [], alts := [], laidByText := true, laidKinds := [.data, .pinned], laidTests := true, laidLooks := .later }
def FnExactRectTextCardSaid : Prop := Claim7.holds Tryd.pinned (.plain (OpenSpec.ofChange fnExactRectTextSpec)) fnExactRectTextCard

/-- THE TIED CARD OF 'laws.FnExactRectCut'. -/
def fnExactRectCutCard : Claim7 := { stood := { row := fnExactRectCutRow, standIns := [], harness := (true, "149426454e84f95028db07b8b64ee6091037f4c0943843b60546a1f55f0be012"), looks := false }, kinds := [], alts := [], laidByText := true, laidKinds := [.data, .pinned], laidTests := true, laidLooks := .later }
def FnExactRectCutCardSaid : Prop := Claim7.holds Tryd.pinned (.plain (OpenSpec.ofChange fnExactRectCutSpec)) fnExactRectCutCard

/-- THE TIED CARD OF 'laws.FnRectPut'. -/
def fnRectPutCard : Claim7 := { stood := { row := fnRectPutRow, standIns := [], harness := (true, "149426454e84f95028db07b8b64ee6091037f4c0943843b60546a1f55f0be012"), looks := false }, kinds := [], alts := [], laidByText := true, laidKinds := [.data, .pinned], laidTests := true, laidLooks := .later }
def FnRectPutCardSaid : Prop := Claim7.holds Tryd.pinned (.plain (OpenSpec.ofChange fnRectPutSpec)) fnRectPutCard

/-- THE TIED CARD OF 'laws.FnRectBack'. -/
def fnRectBackCard : Claim7 := { stood := { row := fnRectBackRow, standIns := [], harness := (true, "149426454e84f95028db07b8b64ee6091037f4c0943843b60546a1f55f0be012"), looks := false }, kinds := [], alts := [], laidByText := true, laidKinds := [.data, .pinned], laidTests := true, laidLooks := .later }
def FnRectBackCardSaid : Prop := Claim7.holds Tryd.pinned (.plain (OpenSpec.ofChange fnRectBackSpec)) fnRectBackCard

/-- THE TIED CARD OF 'laws.FnRectText'. -/
def fnRectTextCard : Claim7 := { stood := { row := fnRectTextRow, standIns := [], harness := (true, "149426454e84f95028db07b8b64ee6091037f4c0943843b60546a1f55f0be012"), looks := false }, kinds := [], alts := [], laidByText := true, laidKinds := [.data, .pinned], laidTests := true, laidLooks := .later }
def FnRectTextCardSaid : Prop := Claim7.holds Tryd.pinned (.plain (OpenSpec.ofChange fnRectTextSpec)) fnRectTextCard

/-- THE TIED CARD OF 'laws.FnRectCut'. -/
def fnRectCutCard : Claim7 := { stood := { row := fnRectCutRow, standIns := [], harness := (true, "149426454e84f95028db07b8b64ee6091037f4c0943843b60546a1f55f0be012"), looks := false }, kinds := [], alts := [], laidByText := true, laidKinds := [.data, .pinned], laidTests := true, laidLooks := .later }
def FnRectCutCardSaid : Prop := Claim7.holds Tryd.pinned (.plain (OpenSpec.ofChange fnRectCutSpec)) fnRectCutCard

/-- THE SECOND FORM's CARD OF 'laws.FnExactRectText'. -/
def fnExactRectTextUptoCard : Claim7 := { stood := { row := fnExactRectTextUptoRow, standIns := [], harness := (true, "149426454e84f95028db07b8b64ee6091037f4c0943843b60546a1f55f0be012"), looks := false }, kinds := [], alts := [], laidByText := true, laidKinds := [.data, .pinned], laidTests := true, laidLooks := .later }
def FnExactRectTextUptoCardSaid : Prop := Claim7.holds Tryd.pinned (.plain (OpenSpec.upto fnExactRectTextSpec)) fnExactRectTextUptoCard

/-- THE SECOND FORM's CARD OF 'laws.FnExactRectCut'. -/
def fnExactRectCutUptoCard : Claim7 := { stood := { row := fnExactRectCutUptoRow, standIns := [], harness := (true, "149426454e84f95028db07b8b64ee6091037f4c0943843b60546a1f55f0be012"), looks := false }, kinds := [], alts := [], laidByText := true, laidKinds := [.data, .pinned], laidTests := true, laidLooks := .later }
def FnExactRectCutUptoCardSaid : Prop := Claim7.holds Tryd.pinned (.plain (OpenSpec.upto fnExactRectCutSpec)) fnExactRectCutUptoCard

/-- THE SECOND FORM's CARD OF 'laws.FnRectPut'. -/
def fnRectPutUptoCard : Claim7 := { stood := { row := fnRectPutUptoRow, standIns := [], harness := (true, "149426454e84f95028db07b8b64ee6091037f4c0943843b60546a1f55f0be012"), looks := false }, kinds := [], alts := [], laidByText := true, laidKinds := [.data, .pinned], laidTests := true, laidLooks := .later }
def FnRectPutUptoCardSaid : Prop := Claim7.holds Tryd.pinned (.plain (OpenSpec.upto fnRectPutSpec)) fnRectPutUptoCard

/-- THE SECOND FORM's CARD OF 'laws.FnRectBack'. -/
def fnRectBackUptoCard : Claim7 := { stood := { row := fnRectBackUptoRow, standIns := [], harness := (true, "149426454e84f95028db07b8b64ee6091037f4c0943843b60546a1f55f0be012"), looks := false }, kinds := [], alts := [], laidByText := true, laidKinds := [.data, .pinned], laidTests := true, laidLooks := .later }
def FnRectBackUptoCardSaid : Prop := Claim7.holds Tryd.pinned (.plain (OpenSpec.upto fnRectBackSpec)) fnRectBackUptoCard

/-- THE SECOND FORM's CARD OF 'laws.FnRectText'. -/
def fnRectTextUptoCard : Claim7 := { stood := { row := fnRectTextUptoRow, standIns := [], harness := (true, "149426454e84f95028db07b8b64ee6091037f4c0943843b60546a1f55f0be012"), looks := false }, kinds := [], alts := [], laidByText := true, laidKinds := [.data, .pinned], laidTests := true, laidLooks := .later }
def FnRectTextUptoCardSaid : Prop := Claim7.holds Tryd.pinned (.plain (OpenSpec.upto fnRectTextSpec)) fnRectTextUptoCard

/-- THE SECOND FORM's CARD OF 'laws.FnRectCut'. -/
def fnRectCutUptoCard : Claim7 := { stood := { row := fnRectCutUptoRow, standIns := [], harness := (true, "149426454e84f95028db07b8b64ee6091037f4c0943843b60546a1f55f0be012"), looks := false }, kinds := [], alts := [], laidByText := true, laidKinds := [.data, .pinned], laidTests := true, laidLooks := .later }
def FnRectCutUptoCardSaid : Prop := Claim7.holds Tryd.pinned (.plain (OpenSpec.upto fnRectCutSpec)) fnRectCutUptoCard
end Rows
end Go.Proofs.YthcijegcnecnmaaDoor
