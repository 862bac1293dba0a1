/-
  A part of the proof that the law ParserKeywords (chapter 19) returns true for every index: runs of the program's functions in the kernel, by the own evaluator, and walks.
-/
import Derived.Test.YtonojcpjdhbhoaaGreatDoorLit
namespace Go.Proofs.YtonojcpjdhbhoaaGreatDoor
open Go.RowKit Go.Dam

set_option maxRecDepth 1000000 in
theorem chunk4 : chunk CF Tryz.prog 400 (loopIn (bodyOf 84)) 10 loopL3 loopL4 = true := by kernel_rfl

end Go.Proofs.YtonojcpjdhbhoaaGreatDoor
