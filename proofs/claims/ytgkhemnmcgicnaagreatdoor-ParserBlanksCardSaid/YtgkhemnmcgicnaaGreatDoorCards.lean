/-
  DERIVED. GIVEN WITH THE SEED: THE CARDS: each row of YtgkhemnmcgicnaaGreatDoorRows.lean that lists a variable, with what it lists TIED to the program's text (the seventh form; the later family's looks); each row that meets fmt, with fmt's text TOLD by the authors' own Lean function (tested against real Go, not proved from fmt's source: count such statements apart). THE CARD IS WHAT COUNTS. Prove the row's statement (the work); the ties are given (YtgkhemnmcgicnaaGreatDoorTie.lean); close each card by the builder's one call (the guide's Derived/Test/ToyasCard.lean, 'card_holds'). Laid BY PROGRAM, IN A SANDBOX (cutbox-door.mjs). By AI agents, Wed Nov 11 2026. No macro, syntax, notation, axiom, sorry.
-/
import Derived.Test.YtgkhemnmcgicnaaGreatDoorRows
import GoSem.ClaimSeven
namespace Go.Proofs.YtgkhemnmcgicnaaGreatDoor
namespace Rows

/-- THE TIED CARD OF 'hemiolalaw19.ParserEvents'. -/
def parserEventsCard : Claim7 := { stood := { row := parserEventsRow, standIns := [], harness := (true, "dc206058420312ddc476874c9d6182e91b680184a6c56802f0c40dee65e486e5"), looks := true }, kinds := [], alts := [], laidByText := true, laidKinds := [.data, .data, .data, .data, .sentinel, .sentinel, .pinned], laidTests := true, laidLooks := .later }
def ParserEventsCardSaid : Prop := Claim7.holds Tryz.pinned (.plain (OpenSpec.ofChange parserEventsSpec)) parserEventsCard

/-- THE TIED CARD OF 'hemiolalaw19.ParserVoices'. -/
def parserVoicesCard : Claim7 := { stood := { row := parserVoicesRow, standIns := [], harness := (true, "dc206058420312ddc476874c9d6182e91b680184a6c56802f0c40dee65e486e5"), looks := true }, kinds := [], alts := [], laidByText := true, laidKinds := [.data, .data, .data, .data, .sentinel, .sentinel, .pinned], laidTests := true, laidLooks := .later }
def ParserVoicesCardSaid : Prop := Claim7.holds Tryz.pinned (.plain (OpenSpec.ofChange parserVoicesSpec)) parserVoicesCard

/-- THE TIED CARD OF 'hemiolalaw19.ParserBlanks'. -/
def parserBlanksCard : Claim7 := { stood := { row := parserBlanksRow, standIns := [], harness := (true, "dc206058420312ddc476874c9d6182e91b680184a6c56802f0c40dee65e486e5"), looks := true }, kinds := [], alts := [], laidByText := true, laidKinds := [.data, .data, .data, .data, .sentinel, .sentinel, .pinned], laidTests := true, laidLooks := .later }
def ParserBlanksCardSaid : Prop := Claim7.holds Tryz.pinned (.plain (OpenSpec.ofChange parserBlanksSpec)) parserBlanksCard

/-- THE SECOND FORM's CARD OF 'hemiolalaw19.ParserEvents'. -/
def parserEventsUptoCard : Claim7 := { stood := { row := parserEventsUptoRow, standIns := [], harness := (true, "dc206058420312ddc476874c9d6182e91b680184a6c56802f0c40dee65e486e5"), looks := true }, kinds := [], alts := [], laidByText := true, laidKinds := [.data, .data, .data, .data, .sentinel, .sentinel, .pinned], laidTests := true, laidLooks := .later }
def ParserEventsUptoCardSaid : Prop := Claim7.holds Tryz.pinned (.plain (OpenSpec.upto parserEventsSpec)) parserEventsUptoCard

/-- THE SECOND FORM's CARD OF 'hemiolalaw19.ParserVoices'. -/
def parserVoicesUptoCard : Claim7 := { stood := { row := parserVoicesUptoRow, standIns := [], harness := (true, "dc206058420312ddc476874c9d6182e91b680184a6c56802f0c40dee65e486e5"), looks := true }, kinds := [], alts := [], laidByText := true, laidKinds := [.data, .data, .data, .data, .sentinel, .sentinel, .pinned], laidTests := true, laidLooks := .later }
def ParserVoicesUptoCardSaid : Prop := Claim7.holds Tryz.pinned (.plain (OpenSpec.upto parserVoicesSpec)) parserVoicesUptoCard

/-- THE SECOND FORM's CARD OF 'hemiolalaw19.ParserBlanks'. -/
def parserBlanksUptoCard : Claim7 := { stood := { row := parserBlanksUptoRow, standIns := [], harness := (true, "dc206058420312ddc476874c9d6182e91b680184a6c56802f0c40dee65e486e5"), looks := true }, kinds := [], alts := [], laidByText := true, laidKinds := [.data, .data, .data, .data, .sentinel, .sentinel, .pinned], laidTests := true, laidLooks := .later }
def ParserBlanksUptoCardSaid : Prop := Claim7.holds Tryz.pinned (.plain (OpenSpec.upto parserBlanksSpec)) parserBlanksUptoCard
end Rows
end Go.Proofs.YtgkhemnmcgicnaaGreatDoor
