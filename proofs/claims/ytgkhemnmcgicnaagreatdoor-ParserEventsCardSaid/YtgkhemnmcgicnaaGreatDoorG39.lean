/- Towards the law ParserEvents, true for every text (no condition): one part of the proof. -/
import Derived.Test.YtgkhemnmcgicnaaGreatDoorG01
import Derived.Test.YtgkhemnmcgicnaaGreatDoorG38
namespace Go.Proofs.YtgkhemnmcgicnaaGreatDoor
set_option maxRecDepth 1000000
open Go.RowKit Go.Dam
noncomputable def parsesTo (s : ByteArray) (v : Value) : Bool := match evCall noOrc Tryz.prog fsBig 400 12 (.func 67) [.string s] ⟨[], 100⟩ with
 | some (u, _) => veq v u
 | none => false
theorem parse8 : parsesTo ⟨#[56]⟩ (.tuple #[.agg #[I 3, I 0], I 0]) = true := by kernel_rfl
theorem parse4 : parsesTo ⟨#[52]⟩ (.tuple #[.agg #[I 2, I 0], I 0]) = true := by kernel_rfl
theorem parse2 : parsesTo ⟨#[50, 46]⟩ (.tuple #[.agg #[I 1, I 1], I 0]) = true := by kernel_rfl
end Go.Proofs.YtgkhemnmcgicnaaGreatDoor
