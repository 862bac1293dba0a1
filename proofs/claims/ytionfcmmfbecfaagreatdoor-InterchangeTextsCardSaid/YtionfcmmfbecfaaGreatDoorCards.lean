/-
  DERIVED. GIVEN WITH THE SEED: THE CARDS: each row of YtionfcmmfbecfaaGreatDoorRows.lean that lists a variable, with what it lists TIED to the program's text (the seventh form; the later family's looks); each row that meets fmt, with fmt's text TOLD by the authors' own Lean function (tested against real Go, not proved from fmt's source: count such statements apart). THE CARD IS WHAT COUNTS. Prove the row's statement (the work); the ties are given (YtionfcmmfbecfaaGreatDoorTie.lean); close each card by the builder's one call (the guide's Derived/Test/ToyasCard.lean, 'card_holds'). Laid BY PROGRAM, IN A SANDBOX (cutbox-door.mjs). By AI agents, Wed Nov 11 2026. No macro, syntax, notation, axiom, sorry.
-/
import Derived.Test.YtionfcmmfbecfaaGreatDoorRows
import GoSem.ClaimSeven
namespace Go.Proofs.YtionfcmmfbecfaaGreatDoor
namespace Rows

/-- THE TIED CARD OF 'hemiolalaw22.InterchangeTexts'. -/
def interchangeTextsCard : Claim7 := { stood := { row := interchangeTextsRow, standIns := [], harness := (true, "8fb6cdddc4cd01df4c4d7aca550eea0b59cd2a674935d52787f5fb18711808f9"), looks := true }, kinds := [], alts := [], laidByText := true, laidKinds := [.data, .data, .data, .sentinel, .sentinel], laidTests := true, laidLooks := .later }
def InterchangeTextsCardSaid : Prop := Claim7.holds Tryz.pinned (.plain (OpenSpec.ofChange interchangeTextsSpec)) interchangeTextsCard

/-- THE SECOND FORM's CARD OF 'hemiolalaw22.InterchangeTexts'. -/
def interchangeTextsUptoCard : Claim7 := { stood := { row := interchangeTextsUptoRow, standIns := [], harness := (true, "8fb6cdddc4cd01df4c4d7aca550eea0b59cd2a674935d52787f5fb18711808f9"), looks := true }, kinds := [], alts := [], laidByText := true, laidKinds := [.data, .data, .data, .sentinel, .sentinel], laidTests := true, laidLooks := .later }
def InterchangeTextsUptoCardSaid : Prop := Claim7.holds Tryz.pinned (.plain (OpenSpec.upto interchangeTextsSpec)) interchangeTextsUptoCard
end Rows
end Go.Proofs.YtionfcmmfbecfaaGreatDoor
