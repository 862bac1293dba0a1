/- Towards the law ParserBlanks, true for every text and all blanks (no condition): one part of the proof. -/
import Derived.Test.YtgkhemnmcgicnaaGreatDoorG33
import Derived.Deep.Cut
import Derived.Deep.CutBlock
namespace Go.Proofs.YtgkhemnmcgicnaaGreatDoor
open Go.RowKit
section
variable{W0:World}{T:List aX}{X:Nat}{lv iv:Value}{st:aD}{w:World}
end
end Go.Proofs.YtgkhemnmcgicnaaGreatDoor
