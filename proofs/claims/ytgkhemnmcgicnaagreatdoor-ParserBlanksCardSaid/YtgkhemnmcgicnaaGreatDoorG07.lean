/- Towards the law ParserBlanks, true for every text and all blanks (no condition): one part of the proof. -/
import Derived.Test.YtgkhemnmcgicnaaGreatDoorG01
import Derived.Test.YtgkhemnmcgicnaaGreatDoorG06
namespace Go.Proofs.YtgkhemnmcgicnaaGreatDoor
set_option maxRecDepth 1000000
open Go.RowKit Go.Dam
noncomputable def vJ(s:ByteArray)(v:Value):Bool:=match j5 XF Tryz.prog SC 400 12 (.func 67) [.string s] ⟨[],100⟩with
 |some (u,_)=>veq v u
 |none=>false
theorem aHG:vJ ⟨#[56]⟩ (.tuple #[.agg #[Z 3,Z 0],Z 0])=true:=by kernel_rfl
theorem aHH:vJ ⟨#[52]⟩ (.tuple #[.agg #[Z 2,Z 0],Z 0])=true:=by kernel_rfl
theorem aHJ:vJ ⟨#[50,46]⟩ (.tuple #[.agg #[Z 1,Z 1],Z 0])=true:=by kernel_rfl
end Go.Proofs.YtgkhemnmcgicnaaGreatDoor
