/- Towards the law ParserEvents, true for every text (no condition): one part of the proof. -/
import Derived.Test.YtgkhemnmcgicnaaGreatDoorG38
namespace Go.Proofs.YtgkhemnmcgicnaaGreatDoor
set_option maxRecDepth 1000000
open Go.RowKit Go.Dam
theorem chunk3 : chunk CF Tryz.prog 400 (loopIn (bodyOf 41)) 10 loopL2 loopL3 = true := by kernel_rfl
theorem chunk6 : chunk CF Tryz.prog 400 (loopIn (bodyOf 41)) 1 loopL5 loopL6 = true := by kernel_rfl
end Go.Proofs.YtgkhemnmcgicnaaGreatDoor
