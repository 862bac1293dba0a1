/-
  A part of the proof that the law PrinterEvents (chapter 20) returns true for every event: walks of the program's functions, and runs of them in the kernel by the own evaluator.
-/
import Derived.Test.YtholnnabakaliaaGreatDoorCkl
namespace Go.Proofs.YtholnnabakaliaaGreatDoor
open Go.RowKit Go.Dam
set_option maxRecDepth 1000000 in
theorem atois : octs.all (fun o => runsV 128 [.string (mkB (octL o))] (.tuple #[.int .i64 o, .nilIface])) = true := by kernel_rfl
set_option maxRecDepth 1000000 in
theorem itoao : octs.all (fun o => runsR (rowsFor o) 31 [.int .i64 o] (.string (mkB (octL o)))) = true := by kernel_rfl
set_option maxRecDepth 1000000 in
theorem bads : octs.all (fun o => runsR [] 128 [.string (mkB (98 :: octL o))] errV && (runsR [] 128 [.string (mkB (35 :: octL o))] errV && runsR [] 128 [.string (mkB (35 :: 35 :: octL o))] errV)) = true := by kernel_rfl
end Go.Proofs.YtholnnabakaliaaGreatDoor
