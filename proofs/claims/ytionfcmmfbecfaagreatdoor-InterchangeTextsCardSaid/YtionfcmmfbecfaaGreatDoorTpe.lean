/-
  A part of the proof that the law InterchangeTexts (chapter 22) returns true for every loss: runs of the program's functions in the kernel, by the own evaluator, and walks.
-/
import Derived.Test.YtionfcmmfbecfaaGreatDoorTxt
import Derived.Test.YtionfcmmfbecfaaGreatDoorKnw
namespace Go.Proofs.YtionfcmmfbecfaaGreatDoor
open Go.RowKit Go.Dam

set_option maxHeartbeats 4000000 in
set_option maxRecDepth 1000000 in
theorem top_e (k a b : Int) (f : ByteArray) (ha : 0 ≤ a) (ha1 : a ≤ 9223372036854775807) (hb : 0 ≤ b) (hb1 : b ≤ 9223372036854775807) (hf : (f.size : Int) ≤ 100) (hk1 : 1 ≤ k) (hk2 : k ≤ 8) (w : World) (ht : TabW w) :
    Calls Tryz.prog 3 #[.agg #[.int .i64 k, .int .i64 a, .int .i64 b, .string f]] w fun e w' => e = .returned (.bool true) ∧ Below w.heap.size w w' := by
  have hkl := wordK_le k
  obtain ⟨-, -, hil⟩ := idS_adds a b ha ha1 hb hb1
  have z1 : (⟨#[32, 64]⟩ : ByteArray).size = 2 := by decide
  have z2 : (⟨#[32]⟩ : ByteArray).size = 1 := by decide
  have a1 : ∀ ww : World, (Op.stringOp .add (wordK k) ⟨#[32, 64]⟩).run Tryz.prog ww = .ok (.string (wordK k ++ ⟨#[32, 64]⟩)) ww := fun ww => add_run _ _ (by omega) (by omega) ww
  have a2 : ∀ ww : World, (Op.stringOp .add (wordK k ++ ⟨#[32, 64]⟩) (idS a b)).run Tryz.prog ww = .ok (.string (wordK k ++ ⟨#[32, 64]⟩ ++ idS a b)) ww := fun ww => add_run _ _ (by rw [ByteArray.size_append]; omega) (by omega) ww
  have a3 : ∀ ww : World, (Op.stringOp .add (wordK k ++ ⟨#[32, 64]⟩ ++ idS a b) ⟨#[32]⟩).run Tryz.prog ww = .ok (.string (wordK k ++ ⟨#[32, 64]⟩ ++ idS a b ++ ⟨#[32]⟩)) ww := fun ww => add_run _ _ (by rw [ByteArray.size_append, ByteArray.size_append]; omega) (by omega) ww
  have a4 : ∀ ww : World, (Op.stringOp .add (wordK k ++ ⟨#[32, 64]⟩ ++ idS a b ++ ⟨#[32]⟩) f).run Tryz.prog ww = .ok (.string (textS k a b f)) ww := fun ww => add_run _ _ (by rw [ByteArray.size_append, ByteArray.size_append, ByteArray.size_append]; omega) (by omega) ww
  have e1 : IntKind.i64.wrap (k - 1) = k - 1 := IntWalk.i64_in _ (by omega)
  have i0 : 0 ≤ k - 1 := by omega
  have i1 : k - 1 < 8 := by omega
  go_enter Tryz.func3, Tryz.ntmps3
  go_wp2_with (go_at_call 4; refine (known_walk _).mono ?_)
  (intro e w1; first | (intro he b1; subst he) | rintro ⟨rfl, b1⟩)
  have bb : Below w.heap.size w w1 := (((Below.refl _ w).alloc (Nat.le_refl _) _).alloc (by simp) _).trans (b1.mono (by simp; omega))
  have hw1 : w.heap.size < w1.heap.size := by have := b1.size; simp at this; omega
  have k0 : w1.cell? ⟨w.heap.size, 0, none⟩ = some (.int .i64 k) := by rw [b1.cell (by first | (simp; done) | (simp; omega))]; simp
  have k1 : w1.cell? ⟨w.heap.size, 1, none⟩ = some (.int .i64 a) := by rw [b1.cell (by first | (simp; done) | (simp; omega))]; simp
  have k2 : w1.cell? ⟨w.heap.size, 2, none⟩ = some (.int .i64 b) := by rw [b1.cell (by first | (simp; done) | (simp; omega))]; simp
  have k3 : w1.cell? ⟨w.heap.size, 3, none⟩ = some (.string f) := by rw [b1.cell (by first | (simp; done) | (simp; omega))]; simp
  have kw : w1.cell? ⟨w.heap.size + 1, k.toNat - 1, none⟩ = some (.string (wordK k)) := by
    rw [b1.cell (by first | (simp; done) | (simp; omega))]
    unfold wordK
    rw [if_pos ⟨hk1, hk2⟩]
    have : k = 1 ∨ k = 2 ∨ k = 3 ∨ k = 4 ∨ k = 5 ∨ k = 6 ∨ k = 7 ∨ k = 8 := by omega
    rcases this with h | h | h | h | h | h | h | h <;> subst h
    · rw [show (1 : Int).toNat = 1 from rfl, word_1]; simp
    · rw [show (2 : Int).toNat = 2 from rfl, word_2]; simp
    · rw [show (3 : Int).toNat = 3 from rfl, word_3]; simp
    · rw [show (4 : Int).toNat = 4 from rfl, word_4]; simp
    · rw [show (5 : Int).toNat = 5 from rfl, word_5]; simp
    · rw [show (6 : Int).toNat = 6 from rfl, word_6]; simp
    · rw [show (7 : Int).toNat = 7 from rfl, word_7]; simp
    · rw [show (8 : Int).toNat = 8 from rfl, word_8]; simp
  clear b1
  go_wp2
  go_region_with (first
    | (go_at_call 5
       ((with_reducible refine (name_walk _ _ (by assumption) (by assumption) (by assumption) (by assumption) _).mono ?_)
        (intro e w2; first | (intro he b1; subst he) | rintro ⟨rfl, b1⟩)
        have k0 := (b1.cell (p := ⟨w.heap.size, 0, none⟩) (by first | (simp; done) | (simp; omega))).trans k0
        have k1 := (b1.cell (p := ⟨w.heap.size, 1, none⟩) (by first | (simp; done) | (simp; omega))).trans k1
        have k2 := (b1.cell (p := ⟨w.heap.size, 2, none⟩) (by first | (simp; done) | (simp; omega))).trans k2
        have k3 := (b1.cell (p := ⟨w.heap.size, 3, none⟩) (by first | (simp; done) | (simp; omega))).trans k3
        have bb : Below w.heap.size w w2 := bb.drew.trans (b1.mono (by first | (simp; done) | (simp; omega)))
        have hw2 : w.heap.size < w2.heap.size := by have := b1.size; simp at this; omega)))
  all_goals go_wp2_with (go_at_call 6; refine (word_walk _ _).mono ?_)
  all_goals (intro e w3; first | (intro he b3; subst he) | rintro ⟨rfl, b3⟩)
  all_goals have k0 := (b3.cell (p := ⟨w.heap.size, 0, none⟩) hw2).trans k0
  all_goals have k1 := (b3.cell (p := ⟨w.heap.size, 1, none⟩) hw2).trans k1
  all_goals have k2 := (b3.cell (p := ⟨w.heap.size, 2, none⟩) hw2).trans k2
  all_goals have k3 := (b3.cell (p := ⟨w.heap.size, 3, none⟩) hw2).trans k3
  all_goals have bb := bb.trans (b3.mono bb.size)
  all_goals go_wp2_with (go_at_call 7; refine (text_walk _ _ _ _ (by assumption) (by assumption) (by assumption) (by assumption) (by assumption) (by assumption) (by omega) _ (ht.stays bb)).mono ?_)
  all_goals (intro e w4; first | (intro he b4; subst he) | rintro ⟨rfl, b4⟩)
  all_goals go_wp2
  all_goals go_ret
  all_goals exact ⟨rfl, bb.trans (b4.mono bb.size)⟩

end Go.Proofs.YtionfcmmfbecfaaGreatDoor
