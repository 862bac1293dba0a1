/-
  A part of the proof that the law PrinterSyllables (chapter 20) returns true for every syllable: the walk of functions of the program, for every string.
-/
import Derived.Test.YtgjgdofofhmjgaaDoorSyt
import Derived.Test.YtgjgdofofhmjgaaDoorKno
import Derived.Deep.RegionWith
import Derived.Deep.RegionHeld
namespace Go.Proofs.YtgjgdofofhmjgaaDoor
open Go.RowKit
set_option maxHeartbeats 4000000 in
set_option maxRecDepth 1000000 in
theorem top_walk (s : ByteArray) (l : Int) (w : World) (h0 : w.heap[0]? = some spaceBlock) : Calls Tryd.prog 3 #[.agg #[.string s, .int .i64 l]] w fun e w' => e = .returned (.bool true) ∧ Below w.heap.size w w' := by
  have hm : min (s.size : Int) 300 ≤ s.size := by omega
  have hpos : 0 < w.heap.size := by
    rcases Nat.eq_zero_or_pos w.heap.size with h | h
    · rw [Array.getElem?_eq_none (by omega)] at h0; cases h0
    · exact h
  go_enter Tryd.func3, Tryd.ntmps3
  go_wp2
  generalize s.extract 0 (min (s.size : Int) 300).toNat = t
  have hb : ∀ o : Obj, (w.alloc o).drew.heap[0]? = some spaceBlock := fun o => by show (w.heap.push o)[0]? = _; rw [Array.getElem?_push, if_neg (by omega)]; exact h0
  go_region_with (first
    | (go_at_call 4
       refine (known_walk _ (hb _)).mono ?_
       rintro e w1 ⟨rfl, b1⟩
       have g1 : w.heap.size < w1.heap.size := by have := b1.size; simp at this; omega
       have k0 : w1.cell? ⟨w.heap.size, 0, none⟩ = some (.string t) := by rw [b1.cell (by first | (simp; done) | (simp; omega))]; simp
       have k1 : w1.cell? ⟨w.heap.size, 1, none⟩ = some (.int .i64 l) := by rw [b1.cell (by first | (simp; done) | (simp; omega))]; simp)
    | (go_at_call 5
       refine (syl5_walk t l _).mono ?_
       rintro e w2 ⟨rfl, b2⟩
       have g2 : w.heap.size < w2.heap.size := by have := b2.size; omega
       have q0 : w2.cell? ⟨w.heap.size, 0, none⟩ = some (.string t) := by rw [b2.cell (by first | (simp; done) | (simp; omega))]; exact k0
       have q1 : w2.cell? ⟨w.heap.size, 1, none⟩ = some (.int .i64 l) := by rw [b2.cell (by first | (simp; done) | (simp; omega))]; exact k1)
    | (go_at_call 6
       refine (syl6_walk t l _).mono ?_
       rintro e w3 ⟨rfl, b3⟩))
  all_goals go_wp2
  all_goals go_ret
  all_goals exact ⟨by first | rfl | simp, (((((Below.refl _ w).alloc (Nat.le_refl _) _).drew).trans (b1.mono (by simp))).trans (b2.mono (by omega))).trans (b3.mono (by omega))⟩
end Go.Proofs.YtgjgdofofhmjgaaDoor
