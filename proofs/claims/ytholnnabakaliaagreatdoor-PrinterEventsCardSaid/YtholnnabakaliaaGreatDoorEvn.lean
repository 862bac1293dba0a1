/-
  A part of the proof that the law PrinterEvents (chapter 20) returns true for every event: walks of the program's functions, and runs of them in the kernel by the own evaluator.
-/
import Derived.Test.YtholnnabakaliaaGreatDoorCkl
namespace Go.Proofs.YtholnnabakaliaaGreatDoor
open Go.RowKit Go.Dam
set_option maxRecDepth 1000000 in
theorem names0 : (List.range 55).all (nameRuns 0) = true := by kernel_rfl
set_option maxRecDepth 1000000 in
theorem names1 : (List.range 55).all (nameRuns 1) = true := by kernel_rfl
set_option maxRecDepth 1000000 in
theorem names2 : (List.range 55).all (nameRuns 2) = true := by kernel_rfl
set_option maxRecDepth 1000000 in
theorem names3 : (List.range 55).all (nameRuns 3) = true := by kernel_rfl
set_option maxRecDepth 1000000 in
theorem names4 : (List.range 55).all (nameRuns 4) = true := by kernel_rfl
set_option maxRecDepth 1000000 in
theorem names5 : (List.range 55).all (nameRuns 5) = true := by kernel_rfl
set_option maxRecDepth 1000000 in
theorem names6 : (List.range 55).all (nameRuns 6) = true := by kernel_rfl
end Go.Proofs.YtholnnabakaliaaGreatDoor
