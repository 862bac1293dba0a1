/-
  A part of the proof that the law ParserIds (chapter 19) returns true for every site, number and count: walks of the program's functions, and runs of them in the kernel by the own evaluator.
-/
import Derived.Test.YtaimdnddmddbnaaGreatDoorTol
namespace Go.Proofs.YtaimdnddmddbnaaGreatDoor
open Go.RowKit Go.Dam

noncomputable def scanT : Laid := ⟨12, [.string scanText], 106, scanV, scanF.heap, scanF.next⟩
noncomputable def isTrue (r : Option (Value × St)) : Bool := match r with | some (.bool true, _) => true | _ => false
set_option maxRecDepth 1000000 in
theorem known_run : isTrue (evCall (toldOrc2 dTab [scanT] [told870x33, told1960x33]) Tryz.prog fsO 3000 40 (.func 7) [] ⟨[], 100⟩) = true := by kernel_rfl

end Go.Proofs.YtaimdnddmddbnaaGreatDoor
