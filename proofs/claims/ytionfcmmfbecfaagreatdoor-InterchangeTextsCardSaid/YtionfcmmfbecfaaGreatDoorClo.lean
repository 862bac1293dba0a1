/-
  A part of the proof that the law InterchangeTexts (chapter 22) returns true for every loss: runs of the program's functions in the kernel, by the own evaluator, and walks.
-/
import Derived.Test.YtionfcmmfbecfaaGreatDoorRows
import Derived.ProofKit
import Derived.Stop.Joined
namespace Go.Proofs.YtionfcmmfbecfaaGreatDoor
set_option maxRecDepth 1000000
set_option maxHeartbeats 100000000
/-- The row's closed facts, each by a run of the kernel of its own. -/
theorem closed_ok : joinedFacts Tryz.prog 3 Tryz.f3 Rows.interchangeTextsSpec Rows.interchangeTextsRow = true := by
  unfold joinedFacts
  simp only [Bool.and_eq_true]
  repeat' apply And.intro
  all_goals (as_aux_lemma => kernel_rfl)
end Go.Proofs.YtionfcmmfbecfaaGreatDoor
