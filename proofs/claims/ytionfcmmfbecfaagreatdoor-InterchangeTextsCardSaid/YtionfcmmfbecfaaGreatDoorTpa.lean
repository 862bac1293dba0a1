/-
  A part of the proof that the law InterchangeTexts (chapter 22) returns true for every loss: runs of the program's functions in the kernel, by the own evaluator, and walks.
-/
import Derived.Test.YtionfcmmfbecfaaGreatDoorTxt
import Derived.Test.YtionfcmmfbecfaaGreatDoorKnw
namespace Go.Proofs.YtionfcmmfbecfaaGreatDoor
open Go.RowKit Go.Dam

set_option maxHeartbeats 4000000 in
set_option maxRecDepth 1000000 in
theorem top_a (k a b : Int) (f : ByteArray) (ha : a < 0) (w : World) :
    Calls Tryz.prog 3 #[.agg #[.int .i64 k, .int .i64 a, .int .i64 b, .string f]] w fun e w' => e = .returned (.bool true) ∧ Below w.heap.size w w' := by
  go_enter Tryz.func3, Tryz.ntmps3
  go_wp2_with (go_at_call 4; refine (known_walk _).mono ?_)
  rintro e w1 ⟨rfl, b1⟩
  have bb : Below w.heap.size w w1 := (((Below.refl _ w).alloc (Nat.le_refl _) _).alloc (by simp) _).trans (b1.mono (by simp; omega))
  have k1 : w1.cell? ⟨w.heap.size, 1, none⟩ = some (.int .i64 a) := by rw [b1.cell (by first | (simp; done) | (simp; omega))]; simp
  go_wp2_with (go_at_call 4; refine (known_walk _).mono ?_)
  rintro e w2 ⟨rfl, b2⟩
  go_wp2
  go_ret
  exact ⟨rfl, bb.trans (b2.mono bb.size)⟩

set_option maxHeartbeats 4000000 in
set_option maxRecDepth 1000000 in
theorem top_b (k a b : Int) (f : ByteArray) (ha : 0 ≤ a) (hb : b < 0) (w : World) :
    Calls Tryz.prog 3 #[.agg #[.int .i64 k, .int .i64 a, .int .i64 b, .string f]] w fun e w' => e = .returned (.bool true) ∧ Below w.heap.size w w' := by
  go_enter Tryz.func3, Tryz.ntmps3
  go_wp2_with (go_at_call 4; refine (known_walk _).mono ?_)
  rintro e w1 ⟨rfl, b1⟩
  have bb : Below w.heap.size w w1 := (((Below.refl _ w).alloc (Nat.le_refl _) _).alloc (by simp) _).trans (b1.mono (by simp; omega))
  have k1 : w1.cell? ⟨w.heap.size, 1, none⟩ = some (.int .i64 a) := by rw [b1.cell (by first | (simp; done) | (simp; omega))]; simp
  have k2 : w1.cell? ⟨w.heap.size, 2, none⟩ = some (.int .i64 b) := by rw [b1.cell (by first | (simp; done) | (simp; omega))]; simp
  go_wp2_with (go_at_call 4; refine (known_walk _).mono ?_)
  rintro e w2 ⟨rfl, b2⟩
  go_wp2
  go_ret
  exact ⟨rfl, bb.trans (b2.mono bb.size)⟩

set_option maxHeartbeats 4000000 in
set_option maxRecDepth 1000000 in
theorem top_c (k a b : Int) (f : ByteArray) (ha : 0 ≤ a) (hb : 0 ≤ b) (hf : (100 : Int) < f.size) (w : World) :
    Calls Tryz.prog 3 #[.agg #[.int .i64 k, .int .i64 a, .int .i64 b, .string f]] w fun e w' => e = .returned (.bool true) ∧ Below w.heap.size w w' := by
  go_enter Tryz.func3, Tryz.ntmps3
  go_wp2_with (go_at_call 4; refine (known_walk _).mono ?_)
  rintro e w1 ⟨rfl, b1⟩
  have bb : Below w.heap.size w w1 := (((Below.refl _ w).alloc (Nat.le_refl _) _).alloc (by simp) _).trans (b1.mono (by simp; omega))
  have k1 : w1.cell? ⟨w.heap.size, 1, none⟩ = some (.int .i64 a) := by rw [b1.cell (by first | (simp; done) | (simp; omega))]; simp
  have k2 : w1.cell? ⟨w.heap.size, 2, none⟩ = some (.int .i64 b) := by rw [b1.cell (by first | (simp; done) | (simp; omega))]; simp
  have k3 : w1.cell? ⟨w.heap.size, 3, none⟩ = some (.string f) := by rw [b1.cell (by first | (simp; done) | (simp; omega))]; simp
  go_wp2_with (go_at_call 4; refine (known_walk _).mono ?_)
  rintro e w2 ⟨rfl, b2⟩
  go_wp2
  go_ret
  exact ⟨rfl, bb.trans (b2.mono bb.size)⟩

end Go.Proofs.YtionfcmmfbecfaaGreatDoor
