/-
  DERIVED. GIVEN WITH THE SEED: THE CARDS: each row of YtglnkcggcgbaiaaDoorRows.lean that lists a variable, with what it lists TIED to the program's text (the seventh form; the later family's looks); each row that meets fmt, with fmt's text TOLD by the authors' own Lean function (tested against real Go, not proved from fmt's source: count such statements apart). THE CARD IS WHAT COUNTS. Prove the row's statement (the work); the ties are given (YtglnkcggcgbaiaaDoorTie.lean); close each card by the builder's one call (the guide's Derived/Test/ToyasCard.lean, 'card_holds'). Laid BY PROGRAM, IN A SANDBOX (cutbox-door.mjs). By AI agents, Wed Nov 11 2026. No macro, syntax, notation, axiom, sorry.
-/
import Derived.Test.YtglnkcggcgbaiaaDoorRows
import GoSem.ClaimSeven
namespace Go.Proofs.YtglnkcggcgbaiaaDoor
namespace Rows

/-- THE TIED CARD OF 'laws.FnExactRowOf'. -/
def fnExactRowOfCard : Claim7 := { stood := { row := fnExactRowOfRow, standIns := [], harness := (true, "0e483c2eb57f1ce6af30ef32f05277e1a24ddfc227191dff1495c875495cf5e9"), looks := false }, kinds := [], alts := [], laidByText := true, laidKinds := [.data, .pinned], laidTests := true, laidLooks := .later }
def FnExactRowOfCardSaid : Prop := Claim7.holds Tryd.pinned (.plain (OpenSpec.ofChange fnExactRowOfSpec)) fnExactRowOfCard

/-- THE TIED CARD OF 'laws.FnExactWrapRows'. -/
def fnExactWrapRowsCard : Claim7 := { stood := { row := fnExactWrapRowsRow, standIns := [], harness := (true, "0e483c2eb57f1ce6af30ef32f05277e1a24ddfc227191dff1495c875495cf5e9"), looks := false }, kinds := [], alts := [], laidByText := true, laidKinds := [.data, .pinned], laidTests := true, laidLooks := .later }
def FnExactWrapRowsCardSaid : Prop := Claim7.holds Tryd.pinned (.plain (OpenSpec.ofChange fnExactWrapRowsSpec)) fnExactWrapRowsCard

/-- THE TIED CARD OF 'laws.FnExactRowMove'. -/
def fnExactRowMoveCard : Claim7 := { stood := { row := fnExactRowMoveRow, standIns := [], harness := (true, "0e483c2eb57f1ce6af30ef32f05277e1a24ddfc227191dff1495c875495cf5e9"), looks := false }, kinds := [], alts := [], laidByText := true, laidKinds := [.data, .pinned], laidTests := true, laidLooks := .later }
def FnExactRowMoveCardSaid : Prop := Claim7.holds Tryd.pinned (.plain (OpenSpec.ofChange fnExactRowMoveSpec)) fnExactRowMoveCard

/-- THE TIED CARD OF 'laws.FnExactRowTexts'. -/
def fnExactRowTextsCard : Claim7 := { stood := { row := fnExactRowTextsRow, standIns := [], harness := (true, "0e483c2eb57f1ce6af30ef32f05277e1a24ddfc227191dff1495c875495cf5e9"), looks := false }, kinds := [], alts := [], laidByText := true, laidKinds := [.data, .pinned], laidTests := true, laidLooks := .later }
def FnExactRowTextsCardSaid : Prop := Claim7.holds Tryd.pinned (.plain (OpenSpec.ofChange fnExactRowTextsSpec)) fnExactRowTextsCard

/-- THE TIED CARD OF 'laws.FnWrapRows'. -/
def fnWrapRowsCard : Claim7 := { stood := { row := fnWrapRowsRow, standIns := [], harness := (true, "0e483c2eb57f1ce6af30ef32f05277e1a24ddfc227191dff1495c875495cf5e9"), looks := false }, kinds := [], alts := [], laidByText := true, laidKinds := [.data, .pinned], laidTests := true, laidLooks := .later }
def FnWrapRowsCardSaid : Prop := Claim7.holds Tryd.pinned (.plain (OpenSpec.ofChange fnWrapRowsSpec)) fnWrapRowsCard

/-- THE TIED CARD OF 'laws.FnRowTexts'. -/
def fnRowTextsCard : Claim7 := { stood := { row := fnRowTextsRow, standIns := [], harness := (true, "0e483c2eb57f1ce6af30ef32f05277e1a24ddfc227191dff1495c875495cf5e9"), looks := false }, kinds := [], alts := [], laidByText := true, laidKinds := [.data, .pinned], laidTests := true, laidLooks := .later }
def FnRowTextsCardSaid : Prop := Claim7.holds Tryd.pinned (.plain (OpenSpec.ofChange fnRowTextsSpec)) fnRowTextsCard

/-- THE TIED CARD OF 'laws.FnWrapWide'. -/
def fnWrapWideCard : Claim7 := { stood := { row := fnWrapWideRow, standIns := [], harness := (true, "0e483c2eb57f1ce6af30ef32f05277e1a24ddfc227191dff1495c875495cf5e9"), looks := false }, kinds := [], alts := [], laidByText := true, laidKinds := [.data, .pinned], laidTests := true, laidLooks := .later }
def FnWrapWideCardSaid : Prop := Claim7.holds Tryd.pinned (.plain (OpenSpec.ofChange fnWrapWideSpec)) fnWrapWideCard

/-- THE TIED CARD OF 'laws.FnRowOf'. -/
def fnRowOfCard : Claim7 := { stood := { row := fnRowOfRow, standIns := [], harness := (true, "0e483c2eb57f1ce6af30ef32f05277e1a24ddfc227191dff1495c875495cf5e9"), looks := false }, kinds := [], alts := [], laidByText := true, laidKinds := [.data, .pinned], laidTests := true, laidLooks := .later }
def FnRowOfCardSaid : Prop := Claim7.holds Tryd.pinned (.plain (OpenSpec.ofChange fnRowOfSpec)) fnRowOfCard

/-- THE TIED CARD OF 'laws.FnRowMove'. -/
def fnRowMoveCard : Claim7 := { stood := { row := fnRowMoveRow, standIns := [], harness := (true, "0e483c2eb57f1ce6af30ef32f05277e1a24ddfc227191dff1495c875495cf5e9"), looks := false }, kinds := [], alts := [], laidByText := true, laidKinds := [.data, .pinned], laidTests := true, laidLooks := .later }
def FnRowMoveCardSaid : Prop := Claim7.holds Tryd.pinned (.plain (OpenSpec.ofChange fnRowMoveSpec)) fnRowMoveCard

/-- THE SECOND FORM's CARD OF 'laws.FnExactRowOf'. -/
def fnExactRowOfUptoCard : Claim7 := { stood := { row := fnExactRowOfUptoRow, standIns := [], harness := (true, "0e483c2eb57f1ce6af30ef32f05277e1a24ddfc227191dff1495c875495cf5e9"), looks := false }, kinds := [], alts := [], laidByText := true, laidKinds := [.data, .pinned], laidTests := true, laidLooks := .later }
def FnExactRowOfUptoCardSaid : Prop := Claim7.holds Tryd.pinned (.plain (OpenSpec.upto fnExactRowOfSpec)) fnExactRowOfUptoCard

/-- THE SECOND FORM's CARD OF 'laws.FnExactWrapRows'. -/
def fnExactWrapRowsUptoCard : Claim7 := { stood := { row := fnExactWrapRowsUptoRow, standIns := [], harness := (true, "0e483c2eb57f1ce6af30ef32f05277e1a24ddfc227191dff1495c875495cf5e9"), looks := false }, kinds := [], alts := [], laidByText := true, laidKinds := [.data, .pinned], laidTests := true, laidLooks := .later }
def FnExactWrapRowsUptoCardSaid : Prop := Claim7.holds Tryd.pinned (.plain (OpenSpec.upto fnExactWrapRowsSpec)) fnExactWrapRowsUptoCard

/-- THE SECOND FORM's CARD OF 'laws.FnExactRowMove'. -/
def fnExactRowMoveUptoCard : Claim7 := { stood := { row := fnExactRowMoveUptoRow, standIns := [], harness := (true, "0e483c2eb57f1ce6af30ef32f05277e1a24ddfc227191dff1495c875495cf5e9"), looks := false }, kinds := [], alts := [], laidByText := true, laidKinds := [.data, .pinned], laidTests := true, laidLooks := .later }
def FnExactRowMoveUptoCardSaid : Prop := Claim7.holds Tryd.pinned (.plain (OpenSpec.upto fnExactRowMoveSpec)) fnExactRowMoveUptoCard

/-- THE SECOND FORM's CARD OF 'laws.FnExactRowTexts'. -/
def fnExactRowTextsUptoCard : Claim7 := { stood := { row := fnExactRowTextsUptoRow, standIns := [], harness := (true, "0e483c2eb57f1ce6af30ef32f05277e1a24ddfc227191dff1495c875495cf5e9"), looks := false }, kinds := [], alts := [], laidByText := true, laidKinds := [.data, .pinned], laidTests := true, laidLooks := .later }
def FnExactRowTextsUptoCardSaid : Prop := Claim7.holds Tryd.pinned (.plain (OpenSpec.upto fnExactRowTextsSpec)) fnExactRowTextsUptoCard

/-- THE SECOND FORM's CARD OF 'laws.FnWrapRows'. -/
def fnWrapRowsUptoCard : Claim7 := { stood := { row := fnWrapRowsUptoRow, standIns := [], harness := (true, "0e483c2eb57f1ce6af30ef32f05277e1a24ddfc227191dff1495c875495cf5e9"), looks := false }, kinds := [], alts := [], laidByText := true, laidKinds := [.data, .pinned], laidTests := true, laidLooks := .later }
def FnWrapRowsUptoCardSaid : Prop := Claim7.holds Tryd.pinned (.plain (OpenSpec.upto fnWrapRowsSpec)) fnWrapRowsUptoCard

/-- THE SECOND FORM's CARD OF 'laws.FnRowTexts'. -/
def fnRowTextsUptoCard : Claim7 := { stood := { row := fnRowTextsUptoRow, standIns := [], harness := (true, "0e483c2eb57f1ce6af30ef32f05277e1a24ddfc227191dff1495c875495cf5e9"), looks := false }, kinds := [], alts := [], laidByText := true, laidKinds := [.data, .pinned], laidTests := true, laidLooks := .later }
def FnRowTextsUptoCardSaid : Prop := Claim7.holds Tryd.pinned (.plain (OpenSpec.upto fnRowTextsSpec)) fnRowTextsUptoCard

/-- THE SECOND FORM's CARD OF 'laws.FnWrapWide'. -/
def fnWrapWideUptoCard : Claim7 := { stood := { row := fnWrapWideUptoRow, standIns := [], harness := (true, "0e483c2eb57f1ce6af30ef32f05277e1a24ddfc227191dff1495c875495cf5e9"), looks := false }, kinds := [], alts := [], laidByText := true, laidKinds := [.data, .pinned], laidTests := true, laidLooks := .later }
def FnWrapWideUptoCardSaid : Prop := Claim7.holds Tryd.pinned (.plain (OpenSpec.upto fnWrapWideSpec)) fnWrapWideUptoCard

/-- THE SECOND FORM's CARD OF 'laws.FnRowOf'. -/
def fnRowOfUptoCard : Claim7 := { stood := { row := fnRowOfUptoRow, standIns := [], harness := (true, "0e483c2eb57f1ce6af30ef32f05277e1a24ddfc227191dff1495c875495cf5e9"), looks := false }, kinds := [], alts := [], laidByText := true, laidKinds := [.data, .pinned], laidTests := true, laidLooks := .later }
def FnRowOfUptoCardSaid : Prop := Claim7.holds Tryd.pinned (.plain (OpenSpec.upto fnRowOfSpec)) fnRowOfUptoCard

/-- THE SECOND FORM's CARD OF 'laws.FnRowMove'. -/
def fnRowMoveUptoCard : Claim7 := { stood := { row := fnRowMoveUptoRow, standIns := [], harness := (true, "0e483c2eb57f1ce6af30ef32f05277e1a24ddfc227191dff1495c875495cf5e9"), looks := false }, kinds := [], alts := [], laidByText := true, laidKinds := [.data, .pinned], laidTests := true, laidLooks := .later }
def FnRowMoveUptoCardSaid : Prop := Claim7.holds Tryd.pinned (.plain (OpenSpec.upto fnRowMoveSpec)) fnRowMoveUptoCard
end Rows
end Go.Proofs.YtglnkcggcgbaiaaDoor
