/-
  A part of the proof that the law ParserIds (chapter 19) returns true for every site, number and count: walks of the program's functions, and runs of them in the kernel by the own evaluator.
-/
import Derived.Test.YtaimdnddmddbnaaGreatDoorTol
namespace Go.Proofs.YtaimdnddmddbnaaGreatDoor
open Go.RowKit Go.Dam

set_option maxRecDepth 1000000 in
theorem run_told870x33 : runsTo (toldOrc2 dTab [] [told940x90, told1098x90, told1256x90, told1436x90, told1722x90, told2004x90]) fsC told870x33 = true := by kernel_rfl

end Go.Proofs.YtaimdnddmddbnaaGreatDoor

namespace Go.Proofs.YtaimdnddmddbnaaGreatDoor
open Go.RowKit Go.Dam

set_option maxRecDepth 1000000 in
theorem run_told1960x33 : runsTo (toldOrc2 dTab [] [told940x90, told1098x90, told1256x90, told1436x90, told1722x90, told2004x90]) fsC told1960x33 = true := by kernel_rfl

end Go.Proofs.YtaimdnddmddbnaaGreatDoor
