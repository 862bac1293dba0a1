/- Towards the law ParserVoices, true for every text (no condition): one part of the proof. -/
import Derived.Test.YtgkhemnmcgicnaaGreatDoorG01
import Derived.Test.YtgkhemnmcgicnaaGreatDoorRows
import Derived.ProofKit
import Derived.Stop.Joined
namespace Go.Proofs.YtgkhemnmcgicnaaGreatDoor
set_option maxRecDepth 1000000
set_option maxHeartbeats 100000000
theorem SS : joinedFacts Tryz.prog 4 Tryz.f4 Rows.parserVoicesSpec Rows.parserVoicesRow = true := by
 unfold joinedFacts
 simp only [qqx]
 repeat' apply And.intro
 all_goals (as_aux_lemma => kernel_rfl)
end Go.Proofs.YtgkhemnmcgicnaaGreatDoor
