/-
  A part of the proof that the law ParserIds (chapter 19) returns true for every site, number and count: walks of the program's functions, and runs of them in the kernel by the own evaluator.
-/
import Derived.Test.YtaimdnddmddbnaaGreatDoorLit
namespace Go.Proofs.YtaimdnddmddbnaaGreatDoor
open Go.RowKit Go.Dam

set_option maxRecDepth 1000000 in
theorem chunk2 : chunk CF Tryz.prog 400 (loopIn (bodyOf 26)) 10 loopL1 loopL2 = true := by kernel_rfl

end Go.Proofs.YtaimdnddmddbnaaGreatDoor
