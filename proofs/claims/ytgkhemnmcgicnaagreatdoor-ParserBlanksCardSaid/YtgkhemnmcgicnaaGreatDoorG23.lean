/- Towards the law ParserBlanks, true for every text and all blanks (no condition): one part of the proof. -/
import Derived.Test.YtgkhemnmcgicnaaGreatDoorG22
namespace Go.Proofs.YtgkhemnmcgicnaaGreatDoor
open Go.RowKit
section
variable{T:List aX}{X:Nat}{free:Bool}{lv iv:Value}{w:World}
end
end Go.Proofs.YtgkhemnmcgicnaaGreatDoor
