/-
  A part of the proof that the law PrinterSyllables (chapter 20) returns true for every syllable: the walk of functions of the program, for every string.
-/
import Derived.Test.YtgjgdofofhmjgaaDoorQuo
import Derived.Deep.RegionHeld3
namespace Go.Proofs.YtgjgdofofhmjgaaDoor
open Go.RowKit

/-- What Quote gives of any string. -/
def quoteOf (s : ByteArray) : ByteArray := if s.size ≤ 4096 then ⟨(done s s.size ++ [34]).toArray⟩ else ⟨#[]⟩

set_option maxHeartbeats 1000000 in
theorem quote_long (s : ByteArray) (w : World) (hs : ¬ s.size ≤ 4096) : Calls Tryd.prog 12 #[.string s] w fun e w' => e = .returned (.tuple #[.string ⟨#[]⟩, .int .i64 5]) ∧ w' = w := by
  have h : (4096 : Int) < s.size := by omega
  go_enter Tryd.func12, Tryd.ntmps12
  go_wp2
  go_ret2
  exact ⟨rfl, rfl⟩

set_option maxHeartbeats 1000000 in
theorem quoted_walk (s : ByteArray) (w : World) : Calls Tryd.prog 8 #[.string s] w fun e w' => e = .returned (.string (quoteOf s)) ∧ Below w.heap.size w w' := by
  unfold quoteOf
  by_cases hs : s.size ≤ 4096
  · rw [if_pos hs]
    go_enter Tryd.func8, Tryd.ntmps8
    go_wp2_with (first | (go_at_call 12; refine (quote_walk _ _ hs).mono ?_))
    rintro e w1 ⟨rfl, b1⟩
    go_wp2
    go_ret
    exact ⟨rfl, b1⟩
  · rw [if_neg hs]
    go_enter Tryd.func8, Tryd.ntmps8
    go_wp2_with (first | (go_at_call 12; refine (quote_long _ _ hs).mono ?_; rintro e w1 ⟨rfl, rfl⟩))
    go_ret
    exact ⟨rfl, Below.refl _ _⟩

set_option maxHeartbeats 1000000 in
theorem lawQuote_walk (s : ByteArray) (w : World) : Calls Tryd.prog 9 #[.string s] w fun e w' => e = .returned (.string (quoteOf s)) ∧ Below w.heap.size w w' := by
  unfold quoteOf
  by_cases hs : s.size ≤ 4096
  · rw [if_pos hs]
    go_enter Tryd.func9, Tryd.ntmps9
    go_wp2_with (first | (go_at_call 12; refine (quote_walk _ _ hs).mono ?_))
    rintro e w1 ⟨rfl, b1⟩
    go_wp2
    go_ret
    exact ⟨rfl, b1⟩
  · rw [if_neg hs]
    go_enter Tryd.func9, Tryd.ntmps9
    go_wp2_with (first | (go_at_call 12; refine (quote_long _ _ hs).mono ?_; rintro e w1 ⟨rfl, rfl⟩))
    go_ret
    exact ⟨rfl, Below.refl _ _⟩

end Go.Proofs.YtgjgdofofhmjgaaDoor
