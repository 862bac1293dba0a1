/- Towards the law ParserEvents, true for every text (no condition): one part of the proof. -/
import Derived.Test.YtgkhemnmcgicnaaGreatDoorG38
namespace Go.Proofs.YtgkhemnmcgicnaaGreatDoor
set_option maxRecDepth 1000000
open Go.RowKit Go.Dam
theorem chunk1 : chunk CF Tryz.prog 400 (loopIn (bodyOf 41)) 10 loopL0 loopL1 = true := by kernel_rfl
end Go.Proofs.YtgkhemnmcgicnaaGreatDoor
