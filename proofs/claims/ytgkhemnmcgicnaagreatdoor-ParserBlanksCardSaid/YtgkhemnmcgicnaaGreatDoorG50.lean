/- Towards the law ParserBlanks, true for every text and all blanks (no condition): one part of the proof. -/
import Derived.Test.YtgkhemnmcgicnaaGreatDoorRows
import Derived.ProofKit
import Derived.Stop.Joined
namespace Go.Proofs.YtgkhemnmcgicnaaGreatDoor
set_option maxRecDepth 1000000
set_option maxHeartbeats 100000000
theorem aBB:joinedFacts Tryz.prog 5 Tryz.f5 Rows.parserBlanksSpec Rows.parserBlanksRow=true:=by
 unfold joinedFacts;simp only[Bool.and_eq_true];repeat' apply And.intro
 all_goals(as_aux_lemma=>kernel_rfl)
end Go.Proofs.YtgkhemnmcgicnaaGreatDoor
