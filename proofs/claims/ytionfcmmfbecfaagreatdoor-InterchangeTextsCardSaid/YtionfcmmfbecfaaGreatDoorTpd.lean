/-
  A part of the proof that the law InterchangeTexts (chapter 22) returns true for every loss: runs of the program's functions in the kernel, by the own evaluator, and walks.
-/
import Derived.Test.YtionfcmmfbecfaaGreatDoorTxt
import Derived.Test.YtionfcmmfbecfaaGreatDoorKnw
namespace Go.Proofs.YtionfcmmfbecfaaGreatDoor
open Go.RowKit Go.Dam

theorem wordK_out {k : Int} (h : k < 1 ∨ 8 < k) : wordK k = ByteArray.empty := by
  unfold wordK
  rw [if_neg (by omega)]

theorem word_out (k : Int) (h : k < 1 ∨ 8 < k) (w : World) : Calls Tryz.prog 6 #[.int .i64 k] w fun e w' => e = .returned (.string ⟨#[]⟩) ∧ Below w.heap.size w w' := by
  have := word_walk k w
  rw [wordK_out h] at this
  exact this

set_option maxHeartbeats 4000000 in
set_option maxRecDepth 1000000 in
theorem top_d (k a b : Int) (f : ByteArray) (ha : 0 ≤ a) (hb : 0 ≤ b) (hf : (f.size : Int) ≤ 100) (hk : k < 1 ∨ 8 < k) (w : World) :
    Calls Tryz.prog 3 #[.agg #[.int .i64 k, .int .i64 a, .int .i64 b, .string f]] w fun e w' => e = .returned (.bool true) ∧ Below w.heap.size w w' := by
  go_enter Tryz.func3, Tryz.ntmps3
  go_wp2_with (go_at_call 4; refine (known_walk _).mono ?_)
  (intro e w1; first | (intro he b1; subst he) | rintro ⟨rfl, b1⟩)
  have bb : Below w.heap.size w w1 := (((Below.refl _ w).alloc (Nat.le_refl _) _).alloc (by simp) _).trans (b1.mono (by simp; omega))
  have hw1 : w.heap.size < w1.heap.size := by have := b1.size; simp at this; omega
  have k0 : w1.cell? ⟨w.heap.size, 0, none⟩ = some (.int .i64 k) := by rw [b1.cell (by first | (simp; done) | (simp; omega))]; simp
  have k1 : w1.cell? ⟨w.heap.size, 1, none⟩ = some (.int .i64 a) := by rw [b1.cell (by first | (simp; done) | (simp; omega))]; simp
  have k2 : w1.cell? ⟨w.heap.size, 2, none⟩ = some (.int .i64 b) := by rw [b1.cell (by first | (simp; done) | (simp; omega))]; simp
  have k3 : w1.cell? ⟨w.heap.size, 3, none⟩ = some (.string f) := by rw [b1.cell (by first | (simp; done) | (simp; omega))]; simp
  rcases hk with hk | hk
  · go_wp2_with (go_at_call 6; refine (word_out _ (Or.inl hk) _).mono ?_)
    (intro e w2; first | (intro he b2; subst he) | rintro ⟨rfl, b2⟩)
    have k0 := (b2.cell (p := ⟨w.heap.size, 0, none⟩) hw1).trans k0
    have k1 := (b2.cell (p := ⟨w.heap.size, 1, none⟩) hw1).trans k1
    have k2 := (b2.cell (p := ⟨w.heap.size, 2, none⟩) hw1).trans k2
    have k3 := (b2.cell (p := ⟨w.heap.size, 3, none⟩) hw1).trans k3
    have bb := bb.trans (b2.mono bb.size)
    go_wp2_with (go_at_call 7; refine (text_none _ _ _ _ (wordK_out (Or.inl hk)) _).mono ?_)
    (intro e w3; first | (intro he b3; subst he) | rintro ⟨rfl, b3⟩)
    go_wp2
    go_ret
    exact ⟨rfl, bb.trans (b3.mono bb.size)⟩
  · go_wp2_with (go_at_call 6; refine (word_out _ (Or.inr hk) _).mono ?_)
    (intro e w2; first | (intro he b2; subst he) | rintro ⟨rfl, b2⟩)
    have k0 := (b2.cell (p := ⟨w.heap.size, 0, none⟩) hw1).trans k0
    have k1 := (b2.cell (p := ⟨w.heap.size, 1, none⟩) hw1).trans k1
    have k2 := (b2.cell (p := ⟨w.heap.size, 2, none⟩) hw1).trans k2
    have k3 := (b2.cell (p := ⟨w.heap.size, 3, none⟩) hw1).trans k3
    have bb := bb.trans (b2.mono bb.size)
    go_wp2_with (go_at_call 7; refine (text_none _ _ _ _ (wordK_out (Or.inr hk)) _).mono ?_)
    (intro e w3; first | (intro he b3; subst he) | rintro ⟨rfl, b3⟩)
    go_wp2
    go_ret
    exact ⟨rfl, bb.trans (b3.mono bb.size)⟩

end Go.Proofs.YtionfcmmfbecfaaGreatDoor
