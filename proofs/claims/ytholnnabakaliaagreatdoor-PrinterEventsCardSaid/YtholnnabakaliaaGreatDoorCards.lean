/-
  DERIVED. GIVEN WITH THE SEED: THE CARDS: each row of YtholnnabakaliaaGreatDoorRows.lean that lists a variable, with what it lists TIED to the program's text (the seventh form; the later family's looks); each row that meets fmt, with fmt's text TOLD by the authors' own Lean function (tested against real Go, not proved from fmt's source: count such statements apart). THE CARD IS WHAT COUNTS. Prove the row's statement (the work); the ties are given (YtholnnabakaliaaGreatDoorTie.lean); close each card by the builder's one call (the guide's Derived/Test/ToyasCard.lean, 'card_holds'). Laid BY PROGRAM, IN A SANDBOX (cutbox-door.mjs). By AI agents, Wed Nov 11 2026. No macro, syntax, notation, axiom, sorry.
-/
import Derived.Test.YtholnnabakaliaaGreatDoorRows
import GoSem.ClaimSeven
namespace Go.Proofs.YtholnnabakaliaaGreatDoor
namespace Rows

/-- THE TIED CARD OF 'hemiolalaw20.PrinterEvents'. -/
def printerEventsCard : Claim7 := { stood := { row := printerEventsRow, standIns := [], harness := (true, "9c1a4729a94597ce6ab84576bf3c6a18a095697bf55c337b9d810e6aba468e90"), looks := true }, kinds := [], alts := [], laidByText := true, laidKinds := [.data, .data, .data, .sentinel, .sentinel, .listed, .data], laidTests := true, laidLooks := .later }
def PrinterEventsCardSaid : Prop := Claim7.holds Tryz.pinned (.plain (OpenSpec.ofChange printerEventsSpec)) printerEventsCard

/-- THE SECOND FORM's CARD OF 'hemiolalaw20.PrinterEvents'. -/
def printerEventsUptoCard : Claim7 := { stood := { row := printerEventsUptoRow, standIns := [], harness := (true, "9c1a4729a94597ce6ab84576bf3c6a18a095697bf55c337b9d810e6aba468e90"), looks := true }, kinds := [], alts := [], laidByText := true, laidKinds := [.data, .data, .data, .sentinel, .sentinel, .listed, .data], laidTests := true, laidLooks := .later }
def PrinterEventsUptoCardSaid : Prop := Claim7.holds Tryz.pinned (.plain (OpenSpec.upto printerEventsSpec)) printerEventsUptoCard
end Rows
end Go.Proofs.YtholnnabakaliaaGreatDoor
