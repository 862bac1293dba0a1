/- Towards the law ParserEvents, true for every text (no condition): one part of the proof. -/
import Derived.Test.YtgkhemnmcgicnaaGreatDoorG38
namespace Go.Proofs.YtgkhemnmcgicnaaGreatDoor
set_option maxRecDepth 1000000
open Go.RowKit Go.Dam
theorem run_told1436x20 : runsTo (toldOrc2 dTab [] []) fsE told1436x20 = true := by kernel_rfl
theorem run_told870x136 : runsTo (toldOrc2 dTab [] [told940x20, told1098x20, told1256x20, told1436x20, told1722x20, told2004x20]) fsC told870x136 = true := by kernel_rfl
end Go.Proofs.YtgkhemnmcgicnaaGreatDoor
