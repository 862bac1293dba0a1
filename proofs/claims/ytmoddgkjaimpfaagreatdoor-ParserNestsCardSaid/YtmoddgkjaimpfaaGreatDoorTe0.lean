/-
  A part of the proof that the law ParserNests (chapter 19) returns true for every depth and every list of notes: walks of the program's functions, and runs of them in the kernel by the own evaluator.
-/
import Derived.Test.YtmoddgkjaimpfaaGreatDoorTol
namespace Go.Proofs.YtmoddgkjaimpfaaGreatDoor
open Go.RowKit Go.Dam

set_option maxRecDepth 1000000 in
theorem run_told940x16 : runsTo (toldOrc2 dTab [] []) fsE told940x16 = true := by kernel_rfl

end Go.Proofs.YtmoddgkjaimpfaaGreatDoor

namespace Go.Proofs.YtmoddgkjaimpfaaGreatDoor
open Go.RowKit Go.Dam

set_option maxRecDepth 1000000 in
theorem run_told1098x16 : runsTo (toldOrc2 dTab [] []) fsE told1098x16 = true := by kernel_rfl

end Go.Proofs.YtmoddgkjaimpfaaGreatDoor

namespace Go.Proofs.YtmoddgkjaimpfaaGreatDoor
open Go.RowKit Go.Dam

set_option maxRecDepth 1000000 in
theorem run_told1256x16 : runsTo (toldOrc2 dTab [] []) fsE told1256x16 = true := by kernel_rfl

end Go.Proofs.YtmoddgkjaimpfaaGreatDoor
