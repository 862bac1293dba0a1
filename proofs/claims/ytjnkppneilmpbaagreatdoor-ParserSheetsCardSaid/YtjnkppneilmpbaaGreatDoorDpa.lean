/-
  A part of the proof that the law ParserSheets (chapter 19) returns true for every sheet: walks of the program's functions, and runs of them in the kernel by the own evaluator.
-/
import Derived.Test.YtjnkppneilmpbaaGreatDoorTol
namespace Go.Proofs.YtjnkppneilmpbaaGreatDoor
open Go.RowKit Go.Dam

noncomputable def parsesTo (s : ByteArray) (v : Value) : Bool := match evCall noOrc Tryz.prog fsAll 400 12 (.func 171) [.string s] ⟨[], 100⟩ with
  | some (u, _) => veq v u
  | none => false
set_option maxRecDepth 1000000 in
theorem parse8 : parsesTo ⟨#[56]⟩ (.tuple #[.agg #[.int .i64 3, .int .i64 0], .int .i64 0]) = true := by kernel_rfl
set_option maxRecDepth 1000000 in
theorem parse4 : parsesTo ⟨#[52]⟩ (.tuple #[.agg #[.int .i64 2, .int .i64 0], .int .i64 0]) = true := by kernel_rfl
set_option maxRecDepth 1000000 in
theorem parse2 : parsesTo ⟨#[50, 46]⟩ (.tuple #[.agg #[.int .i64 1, .int .i64 1], .int .i64 0]) = true := by kernel_rfl

end Go.Proofs.YtjnkppneilmpbaaGreatDoor
