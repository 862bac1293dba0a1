/-
  A part of the proof that the law ParserSheets (chapter 19) returns true for every sheet: walks of the program's functions, and runs of them in the kernel by the own evaluator.
-/
import Derived.Test.YtjnkppneilmpbaaGreatDoorLit
namespace Go.Proofs.YtjnkppneilmpbaaGreatDoor
open Go.RowKit Go.Dam

set_option maxRecDepth 1000000 in
theorem chunk2 : chunk CF Tryz.prog 400 (loopIn (bodyOf 47)) 10 loopL1 loopL2 = true := by kernel_rfl

end Go.Proofs.YtjnkppneilmpbaaGreatDoor
