/-
  A part of the proof that the law PrinterEvents (chapter 20) returns true for every event: walks of the program's functions, and runs of them in the kernel by the own evaluator.
-/
import Derived.Test.YtholnnabakaliaaGreatDoorRows
import Derived.ProofKit
import Derived.Stop.Joined
namespace Go.Proofs.YtholnnabakaliaaGreatDoor
set_option maxRecDepth 1000000
set_option maxHeartbeats 100000000
/-- The row's closed facts, each by a run of the kernel of its own. -/
theorem closed_ok : joinedFacts Tryz.prog 3 Tryz.f3 Rows.printerEventsSpec Rows.printerEventsRow = true := by
  unfold joinedFacts
  simp only [Bool.and_eq_true]
  repeat' apply And.intro
  all_goals (as_aux_lemma => kernel_rfl)
end Go.Proofs.YtholnnabakaliaaGreatDoor
