/-
  A part of the proof that the law ParserSheets (chapter 19) returns true for every sheet: walks of the program's functions, and runs of them in the kernel by the own evaluator.
-/
import Derived.Test.YtjnkppneilmpbaaGreatDoorTol
namespace Go.Proofs.YtjnkppneilmpbaaGreatDoor
open Go.RowKit Go.Dam

set_option maxRecDepth 1000000 in
theorem run_told1436x117 : runsTo (toldOrc2 dTab [] []) fsE told1436x117 = true := by kernel_rfl

end Go.Proofs.YtjnkppneilmpbaaGreatDoor

namespace Go.Proofs.YtjnkppneilmpbaaGreatDoor
open Go.RowKit Go.Dam

set_option maxRecDepth 1000000 in
theorem run_told1722x117 : runsTo (toldOrc2 dTab [] []) fsE told1722x117 = true := by kernel_rfl

end Go.Proofs.YtjnkppneilmpbaaGreatDoor

namespace Go.Proofs.YtjnkppneilmpbaaGreatDoor
open Go.RowKit Go.Dam

set_option maxRecDepth 1000000 in
theorem run_told2004x117 : runsTo (toldOrc2 dTab [] []) fsE told2004x117 = true := by kernel_rfl

end Go.Proofs.YtjnkppneilmpbaaGreatDoor
