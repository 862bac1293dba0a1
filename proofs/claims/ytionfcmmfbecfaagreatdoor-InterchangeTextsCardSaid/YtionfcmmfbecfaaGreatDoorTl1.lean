/-
  A part of the proof that the law InterchangeTexts (chapter 22) returns true for every loss: runs of the program's functions in the kernel, by the own evaluator, and walks.
-/
import Derived.Test.YtionfcmmfbecfaaGreatDoorEsc
namespace Go.Proofs.YtionfcmmfbecfaaGreatDoor
open Go.RowKit Go.Dam

set_option maxRecDepth 1000000 in
theorem run_told1458x13 : runsTo escOrc fsP told1458x13 = true := by kernel_rfl
theorem ok_told1458x13 : Told2 Tryz.prog told1458x13 := told_run escOrc_ok run_told1458x13

end Go.Proofs.YtionfcmmfbecfaaGreatDoor
