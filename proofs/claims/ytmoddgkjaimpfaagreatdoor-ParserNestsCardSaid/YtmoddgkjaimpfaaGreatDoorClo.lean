/-
  A part of the proof that the law ParserNests (chapter 19) returns true for every depth and every list of notes: walks of the program's functions, and runs of them in the kernel by the own evaluator.
-/
import Derived.Test.YtmoddgkjaimpfaaGreatDoorRows
import Derived.ProofKit
import Derived.Stop.Joined
namespace Go.Proofs.YtmoddgkjaimpfaaGreatDoor
set_option maxRecDepth 1000000
set_option maxHeartbeats 100000000
/-- The row's closed facts, each by a run of the kernel of its own. -/
theorem closed_ok : joinedFacts Tryz.prog 3 Tryz.f3 Rows.parserNestsSpec Rows.parserNestsRow = true := by
  unfold joinedFacts
  simp only [Bool.and_eq_true]
  repeat' apply And.intro
  all_goals (as_aux_lemma => kernel_rfl)
end Go.Proofs.YtmoddgkjaimpfaaGreatDoor
