/-
  DERIVED. GIVEN WITH THE SEED: THE CARDS: each row of YtonojcpjdhbhoaaGreatDoorRows.lean that lists a variable, with what it lists TIED to the program's text (the seventh form; the later family's looks); each row that meets fmt, with fmt's text TOLD by the authors' own Lean function (tested against real Go, not proved from fmt's source: count such statements apart). THE CARD IS WHAT COUNTS. Prove the row's statement (the work); the ties are given (YtonojcpjdhbhoaaGreatDoorTie.lean); close each card by the builder's one call (the guide's Derived/Test/ToyasCard.lean, 'card_holds'). Laid BY PROGRAM, IN A SANDBOX (cutbox-door.mjs). By AI agents, Wed Nov 11 2026. No macro, syntax, notation, axiom, sorry.
-/
import Derived.Test.YtonojcpjdhbhoaaGreatDoorRows
import GoSem.ClaimSeven
namespace Go.Proofs.YtonojcpjdhbhoaaGreatDoor
namespace Rows

/-- THE TIED CARD OF 'hemiolalaw19.ParserKeywords'. -/
def parserKeywordsCard : Claim7 := { stood := { row := parserKeywordsRow, standIns := [], harness := (true, "72cd1f82366dd5e74b243dd60c38dc2150aca21e77a01c5003053104e44dff77"), looks := true }, kinds := [], alts := [], laidByText := true, laidKinds := [.data, .data, .data, .data, .sentinel, .sentinel, .pinned], laidTests := true, laidLooks := .later }
def ParserKeywordsCardSaid : Prop := Claim7.holds Tryz.pinned (.plain (OpenSpec.ofChange parserKeywordsSpec)) parserKeywordsCard

/-- THE SECOND FORM's CARD OF 'hemiolalaw19.ParserKeywords'. -/
def parserKeywordsUptoCard : Claim7 := { stood := { row := parserKeywordsUptoRow, standIns := [], harness := (true, "72cd1f82366dd5e74b243dd60c38dc2150aca21e77a01c5003053104e44dff77"), looks := true }, kinds := [], alts := [], laidByText := true, laidKinds := [.data, .data, .data, .data, .sentinel, .sentinel, .pinned], laidTests := true, laidLooks := .later }
def ParserKeywordsUptoCardSaid : Prop := Claim7.holds Tryz.pinned (.plain (OpenSpec.upto parserKeywordsSpec)) parserKeywordsUptoCard
end Rows
end Go.Proofs.YtonojcpjdhbhoaaGreatDoor
