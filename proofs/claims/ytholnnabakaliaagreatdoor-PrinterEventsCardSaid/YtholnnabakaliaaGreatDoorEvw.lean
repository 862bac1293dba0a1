/-
  A part of the proof that the law PrinterEvents (chapter 20) returns true for every event: walks of the program's functions, and runs of them in the kernel by the own evaluator.
-/
import Derived.Test.YtholnnabakaliaaGreatDoorEvv
namespace Go.Proofs.YtholnnabakaliaaGreatDoor
set_option maxRecDepth 1000000 in
theorem read6a : (vals6.take 16).all readRun = true := by kernel_rfl
set_option maxRecDepth 1000000 in
theorem read6b : (vals6.drop 16).all readRun = true := by kernel_rfl
end Go.Proofs.YtholnnabakaliaaGreatDoor
