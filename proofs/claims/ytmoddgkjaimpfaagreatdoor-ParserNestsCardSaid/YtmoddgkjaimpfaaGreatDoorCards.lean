/-
  DERIVED. GIVEN WITH THE SEED: THE CARDS: each row of YtmoddgkjaimpfaaGreatDoorRows.lean that lists a variable, with what it lists TIED to the program's text (the seventh form; the later family's looks); each row that meets fmt, with fmt's text TOLD by the authors' own Lean function (tested against real Go, not proved from fmt's source: count such statements apart). THE CARD IS WHAT COUNTS. Prove the row's statement (the work); the ties are given (YtmoddgkjaimpfaaGreatDoorTie.lean); close each card by the builder's one call (the guide's Derived/Test/ToyasCard.lean, 'card_holds'). Laid BY PROGRAM, IN A SANDBOX (cutbox-door.mjs). By AI agents, Wed Nov 11 2026. No macro, syntax, notation, axiom, sorry.
-/
import Derived.Test.YtmoddgkjaimpfaaGreatDoorRows
import GoSem.ClaimSeven
namespace Go.Proofs.YtmoddgkjaimpfaaGreatDoor
namespace Rows

/-- THE TIED CARD OF 'hemiolalaw19.ParserNests'. -/
def parserNestsCard : Claim7 := { stood := { row := parserNestsRow, standIns := [], harness := (true, "178405cb2a0d5e02644ef3ae13ee5d6d763069a06c8d938acaa780031d1479d8"), looks := true }, kinds := [], alts := [], laidByText := true, laidKinds := [.data, .data, .data, .data, .sentinel, .sentinel, .pinned], laidTests := true, laidLooks := .later }
def ParserNestsCardSaid : Prop := Claim7.holds Tryz.pinned (.plain (OpenSpec.ofChange parserNestsSpec)) parserNestsCard

/-- THE SECOND FORM's CARD OF 'hemiolalaw19.ParserNests'. -/
def parserNestsUptoCard : Claim7 := { stood := { row := parserNestsUptoRow, standIns := [], harness := (true, "178405cb2a0d5e02644ef3ae13ee5d6d763069a06c8d938acaa780031d1479d8"), looks := true }, kinds := [], alts := [], laidByText := true, laidKinds := [.data, .data, .data, .data, .sentinel, .sentinel, .pinned], laidTests := true, laidLooks := .later }
def ParserNestsUptoCardSaid : Prop := Claim7.holds Tryz.pinned (.plain (OpenSpec.upto parserNestsSpec)) parserNestsUptoCard
end Rows
end Go.Proofs.YtmoddgkjaimpfaaGreatDoor
