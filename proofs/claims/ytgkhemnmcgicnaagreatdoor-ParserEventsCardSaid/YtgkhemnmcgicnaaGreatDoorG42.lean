/- Towards the law ParserEvents, true for every text (no condition): one part of the proof. -/
import Derived.Test.YtgkhemnmcgicnaaGreatDoorG38
namespace Go.Proofs.YtgkhemnmcgicnaaGreatDoor
set_option maxRecDepth 1000000
open Go.RowKit Go.Dam
theorem run_told940x20 : runsTo (toldOrc2 dTab [] []) fsE told940x20 = true := by kernel_rfl
theorem run_told1098x20 : runsTo (toldOrc2 dTab [] []) fsE told1098x20 = true := by kernel_rfl
theorem run_told2004x20 : runsTo (toldOrc2 dTab [] []) fsE told2004x20 = true := by kernel_rfl
end Go.Proofs.YtgkhemnmcgicnaaGreatDoor
