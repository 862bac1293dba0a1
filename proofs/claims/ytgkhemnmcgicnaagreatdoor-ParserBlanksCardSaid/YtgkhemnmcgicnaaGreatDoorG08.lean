/- Towards the law ParserBlanks, true for every text and all blanks (no condition): one part of the proof. -/
import Derived.Test.YtgkhemnmcgicnaaGreatDoorG06
namespace Go.Proofs.YtgkhemnmcgicnaaGreatDoor
set_option maxRecDepth 1000000
open Go.RowKit Go.Dam
noncomputable def XH:GM:=⟨16,[.string dC],106,aB2,rB.heap,rB.next⟩
noncomputable def isTrue(r:Option (Value×St)):Bool:=match r with|some (.bool true,_)=>true | _=>false
theorem Y2:isTrue (j5 (kB JY [XH] [xG,uQ]) Tryz.prog fsO 3000 40 (.func 11) [] ⟨[],100⟩)=true:=by kernel_rfl
theorem FB:uN (kB JY [] []) fsE sG=true:=by kernel_rfl
end Go.Proofs.YtgkhemnmcgicnaaGreatDoor
