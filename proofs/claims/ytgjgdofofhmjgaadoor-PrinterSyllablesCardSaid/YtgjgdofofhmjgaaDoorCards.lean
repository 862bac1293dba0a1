/-
  DERIVED. GIVEN WITH THE SEED: THE CARDS: each row of YtgjgdofofhmjgaaDoorRows.lean that lists a variable, with what it lists TIED to the program's text (the seventh form; the later family's looks); each row that meets fmt, with fmt's text TOLD by the authors' own Lean function (tested against real Go, not proved from fmt's source: count such statements apart). THE CARD IS WHAT COUNTS. Prove the row's statement (the work); the ties are given (YtgjgdofofhmjgaaDoorTie.lean); close each card by the builder's one call (the guide's Derived/Test/ToyasCard.lean, 'card_holds'). Laid BY PROGRAM, IN A SANDBOX (cutbox-door.mjs). By AI agents, Wed Nov 11 2026. No macro, syntax, notation, axiom, sorry.
-/
import Derived.Test.YtgjgdofofhmjgaaDoorRows
import GoSem.ClaimSeven
namespace Go.Proofs.YtgjgdofofhmjgaaDoor
namespace Rows

/-- THE TIED CARD OF 'hemiolalaw20.PrinterSyllables'. -/
def printerSyllablesCard : Claim7 := { stood := { row := printerSyllablesRow, standIns := [], harness := (true, "5ea56463badccd983d389a450352038ca30251cd6b6a90ac0c7686a27f2a1832"), looks := false }, kinds := [], alts := [], laidByText := true, laidKinds := [.data, .data, .data, .listed, .data], laidTests := true, laidLooks := .later }
def PrinterSyllablesCardSaid : Prop := Claim7.holds Tryd.pinned (.plain (OpenSpec.ofChange printerSyllablesSpec)) printerSyllablesCard

/-- THE SECOND FORM's CARD OF 'hemiolalaw20.PrinterSyllables'. -/
def printerSyllablesUptoCard : Claim7 := { stood := { row := printerSyllablesUptoRow, standIns := [], harness := (true, "5ea56463badccd983d389a450352038ca30251cd6b6a90ac0c7686a27f2a1832"), looks := false }, kinds := [], alts := [], laidByText := true, laidKinds := [.data, .data, .data, .listed, .data], laidTests := true, laidLooks := .later }
def PrinterSyllablesUptoCardSaid : Prop := Claim7.holds Tryd.pinned (.plain (OpenSpec.upto printerSyllablesSpec)) printerSyllablesUptoCard
end Rows
end Go.Proofs.YtgjgdofofhmjgaaDoor
