/-
  A part of the proof that the law ParserKeywords (chapter 19) returns true for every index: runs of the program's functions in the kernel, by the own evaluator, and walks.
-/
import Derived.Test.YtonojcpjdhbhoaaGreatDoorTol
namespace Go.Proofs.YtonojcpjdhbhoaaGreatDoor
open Go.RowKit Go.Dam

set_option maxRecDepth 1000000 in
theorem run_told2004x145 : runsTo (toldOrc2 dTab [] []) fsE told2004x145 = true := by kernel_rfl

end Go.Proofs.YtonojcpjdhbhoaaGreatDoor
