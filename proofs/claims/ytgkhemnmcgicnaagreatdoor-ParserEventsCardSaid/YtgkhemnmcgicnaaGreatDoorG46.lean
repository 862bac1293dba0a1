/- Towards the law ParserEvents, true for every text (no condition): one part of the proof. -/
import Derived.Test.YtgkhemnmcgicnaaGreatDoorG38
namespace Go.Proofs.YtgkhemnmcgicnaaGreatDoor
set_option maxRecDepth 1000000
open Go.RowKit Go.Dam
theorem chunk2 : chunk CF Tryz.prog 400 (loopIn (bodyOf 41)) 10 loopL1 loopL2 = true := by kernel_rfl
end Go.Proofs.YtgkhemnmcgicnaaGreatDoor
