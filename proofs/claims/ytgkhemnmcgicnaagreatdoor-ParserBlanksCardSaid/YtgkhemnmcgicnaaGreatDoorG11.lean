/- Towards the law ParserBlanks, true for every text and all blanks (no condition): one part of the proof. -/
import Derived.Test.YtgkhemnmcgicnaaGreatDoorG06
namespace Go.Proofs.YtgkhemnmcgicnaaGreatDoor
set_option maxRecDepth 1000000
open Go.RowKit Go.Dam
theorem aG8:wG CF Tryz.prog 400 (sY (uJ 41)) 10 wQ NS=true:=by kernel_rfl
end Go.Proofs.YtgkhemnmcgicnaaGreatDoor
