/-
  A part of the proof that the law InterchangeTexts (chapter 22) returns true for every loss: runs of the program's functions in the kernel, by the own evaluator, and walks.
-/
import Derived.Test.YtionfcmmfbecfaaGreatDoorTol
namespace Go.Proofs.YtionfcmmfbecfaaGreatDoor
open Go.RowKit Go.Dam

set_option maxRecDepth 1000000 in
theorem run_told124x16 : runsTo noOrc fsAll told124x16 = true := by kernel_rfl
theorem ok_told124x16 : Told2 Tryz.prog told124x16 := told_run noOrc_ok run_told124x16

end Go.Proofs.YtionfcmmfbecfaaGreatDoor
