/-
  A part of the proof that the law ParserKeywords (chapter 19) returns true for every index: runs of the program's functions in the kernel, by the own evaluator, and walks.
-/
import Derived.Test.YtonojcpjdhbhoaaGreatDoorTol
namespace Go.Proofs.YtonojcpjdhbhoaaGreatDoor
open Go.RowKit Go.Dam

noncomputable def scanT : Laid := ⟨62, [.string scanText], 106, scanV, scanF.heap, scanF.next⟩
noncomputable def isTrue (r : Option (Value × St)) : Bool := match r with | some (.bool true, _) => true | _ => false
set_option maxRecDepth 1000000 in
theorem known_run : isTrue (evCall (toldOrc2 dTab [scanT] [told870x87, told1960x87]) Tryz.prog fsO 3000 40 (.func 9) [] ⟨[], 100⟩) = true := by kernel_rfl

end Go.Proofs.YtonojcpjdhbhoaaGreatDoor
