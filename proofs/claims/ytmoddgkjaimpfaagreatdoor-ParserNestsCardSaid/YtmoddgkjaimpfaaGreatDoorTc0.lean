/-
  A part of the proof that the law ParserNests (chapter 19) returns true for every depth and every list of notes: walks of the program's functions, and runs of them in the kernel by the own evaluator.
-/
import Derived.Test.YtmoddgkjaimpfaaGreatDoorTol
namespace Go.Proofs.YtmoddgkjaimpfaaGreatDoor
open Go.RowKit Go.Dam

set_option maxRecDepth 1000000 in
theorem run_told870x67 : runsTo (toldOrc2 dTab [] [told940x16, told1098x16, told1256x16, told1436x16, told1722x16, told2004x16]) fsC told870x67 = true := by kernel_rfl

end Go.Proofs.YtmoddgkjaimpfaaGreatDoor

namespace Go.Proofs.YtmoddgkjaimpfaaGreatDoor
open Go.RowKit Go.Dam

set_option maxRecDepth 1000000 in
theorem run_told1960x67 : runsTo (toldOrc2 dTab [] [told940x16, told1098x16, told1256x16, told1436x16, told1722x16, told2004x16]) fsC told1960x67 = true := by kernel_rfl

end Go.Proofs.YtmoddgkjaimpfaaGreatDoor
