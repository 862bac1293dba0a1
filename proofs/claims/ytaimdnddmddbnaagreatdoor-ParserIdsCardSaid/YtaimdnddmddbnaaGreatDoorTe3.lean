/-
  A part of the proof that the law ParserIds (chapter 19) returns true for every site, number and count: walks of the program's functions, and runs of them in the kernel by the own evaluator.
-/
import Derived.Test.YtaimdnddmddbnaaGreatDoorTol
namespace Go.Proofs.YtaimdnddmddbnaaGreatDoor
open Go.RowKit Go.Dam

set_option maxRecDepth 1000000 in
theorem run_told1436x90 : runsTo (toldOrc2 dTab [] []) fsE told1436x90 = true := by kernel_rfl

end Go.Proofs.YtaimdnddmddbnaaGreatDoor

namespace Go.Proofs.YtaimdnddmddbnaaGreatDoor
open Go.RowKit Go.Dam

set_option maxRecDepth 1000000 in
theorem run_told1722x90 : runsTo (toldOrc2 dTab [] []) fsE told1722x90 = true := by kernel_rfl

end Go.Proofs.YtaimdnddmddbnaaGreatDoor

namespace Go.Proofs.YtaimdnddmddbnaaGreatDoor
open Go.RowKit Go.Dam

set_option maxRecDepth 1000000 in
theorem run_told2004x90 : runsTo (toldOrc2 dTab [] []) fsE told2004x90 = true := by kernel_rfl

end Go.Proofs.YtaimdnddmddbnaaGreatDoor
