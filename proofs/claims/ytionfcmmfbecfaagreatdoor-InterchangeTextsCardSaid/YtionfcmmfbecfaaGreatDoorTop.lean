/-
  A part of the proof that the law InterchangeTexts (chapter 22) returns true for every loss: runs of the program's functions in the kernel, by the own evaluator, and walks.
-/
import Derived.Test.YtionfcmmfbecfaaGreatDoorTpa
import Derived.Test.YtionfcmmfbecfaaGreatDoorTpd
import Derived.Test.YtionfcmmfbecfaaGreatDoorTpe
namespace Go.Proofs.YtionfcmmfbecfaaGreatDoor
open Go.RowKit Go.Dam

/-- hemiolalaw22.InterchangeTexts, WHATEVER THE LOSS: true; the world below is as it was. -/
theorem top_walk (k a b : Int) (f : ByteArray) (ha1 : a ≤ 9223372036854775807) (hb1 : b ≤ 9223372036854775807) (w : World) (ht : TabW w) :
    Calls Tryz.prog 3 #[.agg #[.int .i64 k, .int .i64 a, .int .i64 b, .string f]] w fun e w' => e = .returned (.bool true) ∧ Below w.heap.size w w' := by
  by_cases h1 : a < 0
  · exact top_a k a b f h1 w
  by_cases h2 : b < 0
  · exact top_b k a b f (by omega) h2 w
  by_cases h3 : (100 : Int) < f.size
  · exact top_c k a b f (by omega) (by omega) h3 w
  by_cases h4 : k < 1 ∨ 8 < k
  · exact top_d k a b f (by omega) (by omega) (by omega) h4 w
  exact top_e k a b f (by omega) ha1 (by omega) hb1 (by omega) (by omega) (by omega) w ht

end Go.Proofs.YtionfcmmfbecfaaGreatDoor
