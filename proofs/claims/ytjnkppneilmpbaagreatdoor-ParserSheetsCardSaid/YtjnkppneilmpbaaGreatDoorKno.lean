/-
  A part of the proof that the law ParserSheets (chapter 19) returns true for every sheet: walks of the program's functions, and runs of them in the kernel by the own evaluator.
-/
import Derived.Test.YtjnkppneilmpbaaGreatDoorTol
namespace Go.Proofs.YtjnkppneilmpbaaGreatDoor
open Go.RowKit Go.Dam

noncomputable def scanT : Laid := ⟨24, [.string scanText], 106, scanV, scanF.heap, scanF.next⟩
noncomputable def isTrue (r : Option (Value × St)) : Bool := match r with | some (.bool true, _) => true | _ => false
set_option maxRecDepth 1000000 in
theorem known_run : isTrue (evCall (toldOrc2 dTab [scanT] [told870x54, told1960x54]) Tryz.prog fsO 3000 40 (.func 8) [] ⟨[], 100⟩) = true := by kernel_rfl

end Go.Proofs.YtjnkppneilmpbaaGreatDoor
