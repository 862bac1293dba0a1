/-
  A part of the proof that the law ParserSheets (chapter 19) returns true for every sheet: walks of the program's functions, and runs of them in the kernel by the own evaluator.
-/
import Derived.Test.YtjnkppneilmpbaaGreatDoorTol
namespace Go.Proofs.YtjnkppneilmpbaaGreatDoor
open Go.RowKit Go.Dam

set_option maxRecDepth 1000000 in
theorem run_told870x54 : runsTo (toldOrc2 dTab [] [told940x117, told1098x117, told1256x117, told1436x117, told1722x117, told2004x117]) fsC told870x54 = true := by kernel_rfl

end Go.Proofs.YtjnkppneilmpbaaGreatDoor

namespace Go.Proofs.YtjnkppneilmpbaaGreatDoor
open Go.RowKit Go.Dam

set_option maxRecDepth 1000000 in
theorem run_told1960x54 : runsTo (toldOrc2 dTab [] [told940x117, told1098x117, told1256x117, told1436x117, told1722x117, told2004x117]) fsC told1960x54 = true := by kernel_rfl

end Go.Proofs.YtjnkppneilmpbaaGreatDoor
