/-
  DERIVED. GIVEN WITH THE SEED: THE CARDS: each row of YtjnkppneilmpbaaGreatDoorRows.lean that lists a variable, with what it lists TIED to the program's text (the seventh form; the later family's looks); each row that meets fmt, with fmt's text TOLD by the authors' own Lean function (tested against real Go, not proved from fmt's source: count such statements apart). THE CARD IS WHAT COUNTS. Prove the row's statement (the work); the ties are given (YtjnkppneilmpbaaGreatDoorTie.lean); close each card by the builder's one call (the guide's Derived/Test/ToyasCard.lean, 'card_holds'). Laid BY PROGRAM, IN A SANDBOX (cutbox-door.mjs). By AI agents, Wed Nov 11 2026. No macro, syntax, notation, axiom, sorry.
-/
import Derived.Test.YtjnkppneilmpbaaGreatDoorRows
import GoSem.ClaimSeven
namespace Go.Proofs.YtjnkppneilmpbaaGreatDoor
namespace Rows

/-- THE TIED CARD OF 'hemiolalaw19.ParserSheets'. -/
def parserSheetsCard : Claim7 := { stood := { row := parserSheetsRow, standIns := [], harness := (true, "a1d3833d8010f31b2d4ddf10b09590ee20f3e455debd572979f572e8b9afadc6"), looks := true }, kinds := [], alts := [], laidByText := true, laidKinds := [.data, .data, .data, .data, .sentinel, .sentinel, .pinned], laidTests := true, laidLooks := .later }
def ParserSheetsCardSaid : Prop := Claim7.holds Tryz.pinned (.plain (OpenSpec.ofChange parserSheetsSpec)) parserSheetsCard

/-- THE SECOND FORM's CARD OF 'hemiolalaw19.ParserSheets'. -/
def parserSheetsUptoCard : Claim7 := { stood := { row := parserSheetsUptoRow, standIns := [], harness := (true, "a1d3833d8010f31b2d4ddf10b09590ee20f3e455debd572979f572e8b9afadc6"), looks := true }, kinds := [], alts := [], laidByText := true, laidKinds := [.data, .data, .data, .data, .sentinel, .sentinel, .pinned], laidTests := true, laidLooks := .later }
def ParserSheetsUptoCardSaid : Prop := Claim7.holds Tryz.pinned (.plain (OpenSpec.upto parserSheetsSpec)) parserSheetsUptoCard
end Rows
end Go.Proofs.YtjnkppneilmpbaaGreatDoor
