/-
  DERIVED. GIVEN WITH THE SEED: THE CARDS: each row of YtlnldnenkajcdaaDoorRows.lean that lists a variable, with what it lists TIED to the program's text (the seventh form; the later family's looks); each row that meets fmt, with fmt's text TOLD by the authors' own Lean function (tested against real Go, not proved from fmt's source: count such statements apart). THE CARD IS WHAT COUNTS. Prove the row's statement (the work); the ties are given (YtlnldnenkajcdaaDoorTie.lean); close each card by the builder's one call (the guide's Derived/Test/ToyasCard.lean, 'card_holds'). Laid BY PROGRAM, IN A SANDBOX (cutbox-door.mjs). By AI agents, Wed Nov 11 2026. No macro, syntax, notation, axiom, sorry.
-/
import Derived.Test.YtlnldnenkajcdaaDoorRows
import GoSem.ClaimSeven
namespace Go.Proofs.YtlnldnenkajcdaaDoor
namespace Rows

/-- THE TIED CARD OF 'laws.FnExactWordsOf'. -/
def fnExactWordsOfCard : Claim7 := { stood := { row := fnExactWordsOfRow, standIns := [], harness := (true, "8c8a12d99107b04623f924582c986ff5905f5a95c2941f460a6a6e7052395fe4"), looks := false }, kinds := [], alts := [], laidByText := true, laidKinds := [.listed, .data], laidTests := true, laidLooks := .later }
def FnExactWordsOfCardSaid : Prop := Claim7.holds Tryd.pinned (.plain (OpenSpec.ofChange fnExactWordsOfSpec)) fnExactWordsOfCard

/-- THE TIED CARD OF 'laws.FnExactFillGreedy'. -/
def fnExactFillGreedyCard : Claim7 := { stood := { row := fnExactFillGreedyRow, standIns := [], harness := (true, "8c8a12d99107b04623f924582c986ff5905f5a95c2941f460a6a6e7052395fe4"), looks := false }, kinds := [], alts := [], laidByText := true, laidKinds := [.listed, .data], laidTests := true, laidLooks := .later }
def FnExactFillGreedyCardSaid : Prop := Claim7.holds Tryd.pinned (.plain (OpenSpec.ofChange fnExactFillGreedySpec)) fnExactFillGreedyCard

/-- THE TIED CARD OF 'laws.FnExactMatchReplace'. -/
def fnExactMatchReplaceCard : Claim7 := { stood := { row := fnExactMatchReplaceRow, standIns := [], harness := (true, "8c8a12d99107b04623f924582c986ff5905f5a95c2941f460a6a6e7052395fe4"), looks := false }, kinds := [], alts := [], laidByText := true, laidKinds := [.data, .pinned], laidTests := true, laidLooks := .later }
def FnExactMatchReplaceCardSaid : Prop := Claim7.holds Tryd.pinned (.plain (OpenSpec.ofChange fnExactMatchReplaceSpec)) fnExactMatchReplaceCard

/-- THE TIED CARD OF 'laws.FnMatchReplace'. -/
def fnMatchReplaceCard : Claim7 := { stood := { row := fnMatchReplaceRow, standIns := [], harness := (true, "8c8a12d99107b04623f924582c986ff5905f5a95c2941f460a6a6e7052395fe4"), looks := false }, kinds := [], alts := [], laidByText := true, laidKinds := [.data, .pinned], laidTests := true, laidLooks := .later }
def FnMatchReplaceCardSaid : Prop := Claim7.holds Tryd.pinned (.plain (OpenSpec.ofChange fnMatchReplaceSpec)) fnMatchReplaceCard

/-- THE SECOND FORM's CARD OF 'laws.FnExactWordsOf'. -/
def fnExactWordsOfUptoCard : Claim7 := { stood := { row := fnExactWordsOfUptoRow, standIns := [], harness := (true, "8c8a12d99107b04623f924582c986ff5905f5a95c2941f460a6a6e7052395fe4"), looks := false }, kinds := [], alts := [], laidByText := true, laidKinds := [.listed, .data], laidTests := true, laidLooks := .later }
def FnExactWordsOfUptoCardSaid : Prop := Claim7.holds Tryd.pinned (.plain (OpenSpec.upto fnExactWordsOfSpec)) fnExactWordsOfUptoCard

/-- THE SECOND FORM's CARD OF 'laws.FnExactFillGreedy'. -/
def fnExactFillGreedyUptoCard : Claim7 := { stood := { row := fnExactFillGreedyUptoRow, standIns := [], harness := (true, "8c8a12d99107b04623f924582c986ff5905f5a95c2941f460a6a6e7052395fe4"), looks := false }, kinds := [], alts := [], laidByText := true, laidKinds := [.listed, .data], laidTests := true, laidLooks := .later }
def FnExactFillGreedyUptoCardSaid : Prop := Claim7.holds Tryd.pinned (.plain (OpenSpec.upto fnExactFillGreedySpec)) fnExactFillGreedyUptoCard

/-- THE SECOND FORM's CARD OF 'laws.FnExactMatchReplace'. -/
def fnExactMatchReplaceUptoCard : Claim7 := { stood := { row := fnExactMatchReplaceUptoRow, standIns := [], harness := (true, "8c8a12d99107b04623f924582c986ff5905f5a95c2941f460a6a6e7052395fe4"), looks := false }, kinds := [], alts := [], laidByText := true, laidKinds := [.data, .pinned], laidTests := true, laidLooks := .later }
def FnExactMatchReplaceUptoCardSaid : Prop := Claim7.holds Tryd.pinned (.plain (OpenSpec.upto fnExactMatchReplaceSpec)) fnExactMatchReplaceUptoCard

/-- THE SECOND FORM's CARD OF 'laws.FnMatchReplace'. -/
def fnMatchReplaceUptoCard : Claim7 := { stood := { row := fnMatchReplaceUptoRow, standIns := [], harness := (true, "8c8a12d99107b04623f924582c986ff5905f5a95c2941f460a6a6e7052395fe4"), looks := false }, kinds := [], alts := [], laidByText := true, laidKinds := [.data, .pinned], laidTests := true, laidLooks := .later }
def FnMatchReplaceUptoCardSaid : Prop := Claim7.holds Tryd.pinned (.plain (OpenSpec.upto fnMatchReplaceSpec)) fnMatchReplaceUptoCard
end Rows
end Go.Proofs.YtlnldnenkajcdaaDoor
