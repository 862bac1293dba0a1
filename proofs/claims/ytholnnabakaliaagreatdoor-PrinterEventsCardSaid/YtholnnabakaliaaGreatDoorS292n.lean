/-
  A part of the proof that the law PrinterEvents (chapter 20) returns true for every event: walks of the program's functions, and runs of them in the kernel by the own evaluator.
-/
import Derived.Test.YtholnnabakaliaaGreatDoorLxt
namespace Go.Proofs.YtholnnabakaliaaGreatDoor
open Go.RowKit

set_option maxHeartbeats 8000000 in
set_option maxRecDepth 1000000 in
theorem syl29_2_n (s : ByteArray) (w : World) (hs : s.size ≤ 256) (hne : s.toList.isEmpty = false) : Calls Tryz.prog 29 #[.agg #[.string s, .int .i64 2]] w fun e w' => e = .returned (.string (quoteB s ++ ⟨#[95]⟩)) ∧ Below w.heap.size w w' := by
  have h1 : ¬ (256 : Int) < s.size := by omega
  go_enter Tryz.func29, Tryz.ntmps29
  go_wp2
  have hne2 : w.heap.size ≠ w.heap.size + 1 := by omega
  go_region_with (first
    | (go_at_call 62
       (with_reducible refine (lawQuote_walk _ _ hs).mono ?_)
       rintro e w' ⟨rfl, b1⟩
       have k0 : w'.cell? ⟨w.heap.size, 0, none⟩ = some (.string s) := by rw [b1.cell (by first | (simp; done) | (simp; omega))]; simp
       have k1 : w'.cell? ⟨w.heap.size, 1, none⟩ = some (.int .i64 2) := by rw [b1.cell (by first | (simp; done) | (simp; omega))]; simp
       try have k2 : w'.cell? ⟨w.heap.size + 1, 2, none⟩ = some (.string ⟨#[95]⟩) := by rw [b1.cell (by first | (simp; done) | (simp; omega))]; simp
       have m1 : ∀ o, (w'.alloc o).cell? ⟨w.heap.size, 1, none⟩ = some (.int .i64 2) := fun o => (World.cell?_alloc_some w' _ o (by rw [k1]; rfl)).trans k1
       have a3 : ∀ ww, (Op.stringOp .add (quoteB s) ⟨#[95]⟩).run Tryz.prog ww = .ok (.string (quoteB s ++ ⟨#[95]⟩)) ww := fun ww => add_link s hs _ (by decide) ww))
  all_goals go_wp2
  all_goals go_ret
  all_goals first
    | exact ⟨rfl, (((Below.refl _ w).alloc (Nat.le_refl _) _).drew).trans (b1.mono (by simp))⟩
    | exact ⟨rfl, ((((Below.refl _ w).alloc (Nat.le_refl _) _).drew).trans (b1.mono (by simp))).alloc (by have := b1.size; simp at this; omega) _⟩
    | exact ⟨rfl, ((((Below.refl _ w).alloc (Nat.le_refl _) _).alloc (by simp) _).drew).trans (b1.mono (by simp; omega))⟩
end Go.Proofs.YtholnnabakaliaaGreatDoor
