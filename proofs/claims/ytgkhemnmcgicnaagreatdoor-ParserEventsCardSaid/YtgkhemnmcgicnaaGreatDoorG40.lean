/- Towards the law ParserEvents, true for every text (no condition): one part of the proof. -/
import Derived.Test.YtgkhemnmcgicnaaGreatDoorG38
namespace Go.Proofs.YtgkhemnmcgicnaaGreatDoor
set_option maxRecDepth 1000000
open Go.RowKit Go.Dam
noncomputable def scanT : Laid := ⟨16, [.string scanText], 106, scanV, scanF.heap, scanF.next⟩
noncomputable def isTrue (r : Option (Value × St)) : Bool := match r with | some (.bool true, _) => true | _ => false
theorem known_run : isTrue (evCall (toldOrc2 dTab [scanT] [told870x136, told1960x136]) Tryz.prog fsO 3000 40 (.func 11) [] ⟨[], 100⟩) = true := by kernel_rfl
end Go.Proofs.YtgkhemnmcgicnaaGreatDoor
