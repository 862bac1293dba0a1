/-
  DERIVED. GIVEN WITH THE SEED: THE CARDS: each row of YtaimdnddmddbnaaGreatDoorRows.lean that lists a variable, with what it lists TIED to the program's text (the seventh form; the later family's looks); each row that meets fmt, with fmt's text TOLD by the authors' own Lean function (tested against real Go, not proved from fmt's source: count such statements apart). THE CARD IS WHAT COUNTS. Prove the row's statement (the work); the ties are given (YtaimdnddmddbnaaGreatDoorTie.lean); close each card by the builder's one call (the guide's Derived/Test/ToyasCard.lean, 'card_holds'). Laid BY PROGRAM, IN A SANDBOX (cutbox-door.mjs). By AI agents, Wed Nov 11 2026. No macro, syntax, notation, axiom, sorry.
-/
import Derived.Test.YtaimdnddmddbnaaGreatDoorRows
import GoSem.ClaimSeven
namespace Go.Proofs.YtaimdnddmddbnaaGreatDoor
namespace Rows

/-- THE TIED CARD OF 'hemiolalaw19.ParserIds'. -/
def parserIdsCard : Claim7 := { stood := { row := parserIdsRow, standIns := [], harness := (true, "31bf325ed6fc05a00d6f410b0b3b38ba3570ae4b1c4d82fa65b9ae2437ae5ee1"), looks := true }, kinds := [], alts := [], laidByText := true, laidKinds := [.data, .data, .data, .data, .sentinel, .sentinel, .pinned], laidTests := true, laidLooks := .later }
def ParserIdsCardSaid : Prop := Claim7.holds Tryz.pinned (.plain (OpenSpec.ofChange parserIdsSpec)) parserIdsCard

/-- THE SECOND FORM's CARD OF 'hemiolalaw19.ParserIds'. -/
def parserIdsUptoCard : Claim7 := { stood := { row := parserIdsUptoRow, standIns := [], harness := (true, "31bf325ed6fc05a00d6f410b0b3b38ba3570ae4b1c4d82fa65b9ae2437ae5ee1"), looks := true }, kinds := [], alts := [], laidByText := true, laidKinds := [.data, .data, .data, .data, .sentinel, .sentinel, .pinned], laidTests := true, laidLooks := .later }
def ParserIdsUptoCardSaid : Prop := Claim7.holds Tryz.pinned (.plain (OpenSpec.upto parserIdsSpec)) parserIdsUptoCard
end Rows
end Go.Proofs.YtaimdnddmddbnaaGreatDoor
