/- Towards the law ParserBlanks, true for every text and all blanks (no condition): one part of the proof. -/
import Derived.Test.YtgkhemnmcgicnaaGreatDoorG06
namespace Go.Proofs.YtgkhemnmcgicnaaGreatDoor
set_option maxRecDepth 1000000
open Go.RowKit Go.Dam
theorem E8:uN (kB JY [] [uP,sD,sE,sG,sH,sJ]) fsC xG=true:=by kernel_rfl
theorem FD:uN (kB JY [] []) fsE sJ=true:=by kernel_rfl
theorem JX:uN (kB JY [] []) fsE uP=true:=by kernel_rfl
theorem E9:uN (kB JY [] []) fsE sD=true:=by kernel_rfl
theorem FA:uN (kB JY [] []) fsE sE=true:=by kernel_rfl
end Go.Proofs.YtgkhemnmcgicnaaGreatDoor
