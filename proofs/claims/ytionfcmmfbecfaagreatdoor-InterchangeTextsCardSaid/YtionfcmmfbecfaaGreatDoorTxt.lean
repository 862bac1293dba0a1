/-
  A part of the proof that the law InterchangeTexts (chapter 22) returns true for every loss: runs of the program's functions in the kernel, by the own evaluator, and walks.
-/
import Derived.Test.YtionfcmmfbecfaaGreatDoorWrd
namespace Go.Proofs.YtionfcmmfbecfaaGreatDoor
open Go.RowKit Go.Dam

set_option maxHeartbeats 4000000 in
set_option maxRecDepth 1000000 in
theorem text_none (k a b : Int) (f : ByteArray) (hk : wordK k = ByteArray.empty) (w : World) :
    Calls Tryz.prog 7 #[.agg #[.int .i64 k, .int .i64 a, .int .i64 b, .string f]] w fun e w' => e = .returned (.string ByteArray.empty) ∧ Below w.heap.size w w' := by
  go_enter Tryz.func7, Tryz.ntmps7
  go_wp2_with (go_at_call 6; refine (word_walk _ _).mono ?_)
  rintro e w' ⟨rfl, b1⟩
  rw [hk]
  go_wp2
  go_ret
  exact ⟨rfl, ((Below.refl _ w).alloc (Nat.le_refl _) _).trans (b1.mono (by simp))⟩

theorem wordK_list (k : Int) (h1 : 1 ≤ k) (h2 : k ≤ 8) : (wordK k).toList.isEmpty = false := by
  unfold wordK
  rw [if_pos ⟨h1, h2⟩]
  have : k.toNat = 1 ∨ k.toNat = 2 ∨ k.toNat = 3 ∨ k.toNat = 4 ∨ k.toNat = 5 ∨ k.toNat = 6 ∨ k.toNat = 7 ∨ k.toNat = 8 := by omega
  rcases this with h | h | h | h | h | h | h | h <;> rw [h]
  · exact (congrArg (fun s : ByteArray => s.toList.isEmpty) word_1).trans (by kernel_rfl)
  · exact (congrArg (fun s : ByteArray => s.toList.isEmpty) word_2).trans (by kernel_rfl)
  · exact (congrArg (fun s : ByteArray => s.toList.isEmpty) word_3).trans (by kernel_rfl)
  · exact (congrArg (fun s : ByteArray => s.toList.isEmpty) word_4).trans (by kernel_rfl)
  · exact (congrArg (fun s : ByteArray => s.toList.isEmpty) word_5).trans (by kernel_rfl)
  · exact (congrArg (fun s : ByteArray => s.toList.isEmpty) word_6).trans (by kernel_rfl)
  · exact (congrArg (fun s : ByteArray => s.toList.isEmpty) word_7).trans (by kernel_rfl)
  · exact (congrArg (fun s : ByteArray => s.toList.isEmpty) word_8).trans (by kernel_rfl)

def spAt : ByteArray := ⟨#[32, 64]⟩
def sp : ByteArray := ⟨#[32]⟩
noncomputable def textS (k a b : Int) (f : ByteArray) : ByteArray := wordK k ++ spAt ++ idS a b ++ sp ++ f

set_option maxHeartbeats 4000000 in
set_option maxRecDepth 1000000 in
theorem text_walk (k a b : Int) (f : ByteArray) (hk1 : 1 ≤ k) (hk2 : k ≤ 8) (ha : 0 ≤ a) (ha1 : a ≤ 9223372036854775807) (hb : 0 ≤ b) (hb1 : b ≤ 9223372036854775807) (hf : f.size ≤ 100) (w : World) (ht : TabW w) :
    Calls Tryz.prog 7 #[.agg #[.int .i64 k, .int .i64 a, .int .i64 b, .string f]] w fun e w' => e = .returned (.string (textS k a b f)) ∧ Below w.heap.size w w' := by
  have hk := wordK_pos k hk1 hk2
  have hkl := wordK_le k
  have hke := wordK_list k hk1 hk2
  obtain ⟨-, -, hil⟩ := idS_adds a b ha ha1 hb hb1
  have z1 : (⟨#[32, 64]⟩ : ByteArray).size = 2 := by decide
  have z2 : (⟨#[32]⟩ : ByteArray).size = 1 := by decide
  have a1 : ∀ ww : World, (Op.stringOp .add (wordK k) ⟨#[32, 64]⟩).run Tryz.prog ww = .ok (.string (wordK k ++ ⟨#[32, 64]⟩)) ww := fun ww => add_run _ _ (by omega) (by omega) ww
  have a2 : ∀ ww : World, (Op.stringOp .add (wordK k ++ ⟨#[32, 64]⟩) (idS a b)).run Tryz.prog ww = .ok (.string (wordK k ++ ⟨#[32, 64]⟩ ++ idS a b)) ww := fun ww => add_run _ _ (by rw [ByteArray.size_append]; omega) (by omega) ww
  have a3 : ∀ ww : World, (Op.stringOp .add (wordK k ++ ⟨#[32, 64]⟩ ++ idS a b) ⟨#[32]⟩).run Tryz.prog ww = .ok (.string (wordK k ++ ⟨#[32, 64]⟩ ++ idS a b ++ ⟨#[32]⟩)) ww := fun ww => add_run _ _ (by rw [ByteArray.size_append, ByteArray.size_append]; omega) (by omega) ww
  have a4 : ∀ ww : World, (Op.stringOp .add (wordK k ++ ⟨#[32, 64]⟩ ++ idS a b ++ ⟨#[32]⟩) f).run Tryz.prog ww = .ok (.string (textS k a b f)) ww := fun ww => add_run _ _ (by rw [ByteArray.size_append, ByteArray.size_append, ByteArray.size_append]; omega) (by omega) ww
  go_enter Tryz.func7, Tryz.ntmps7
  go_wp2_with (go_at_call 6; refine (word_walk _ _).mono ?_)
  rintro e w' ⟨rfl, b0⟩
  have k0 : w'.cell? ⟨w.heap.size, 0, none⟩ = some (.int .i64 k) := by rw [b0.cell (by first | (simp; done) | (simp; omega))]; simp
  have k1 : w'.cell? ⟨w.heap.size, 1, none⟩ = some (.int .i64 a) := by rw [b0.cell (by first | (simp; done) | (simp; omega))]; simp
  have k2 : w'.cell? ⟨w.heap.size, 2, none⟩ = some (.int .i64 b) := by rw [b0.cell (by first | (simp; done) | (simp; omega))]; simp
  have k3 : w'.cell? ⟨w.heap.size, 3, none⟩ = some (.string f) := by rw [b0.cell (by first | (simp; done) | (simp; omega))]; simp
  have hw1 : w.heap.size < w'.heap.size := by have := b0.size; simp at this; omega
  have bb : Below w.heap.size w w' := ((Below.refl _ w).alloc (Nat.le_refl _) _).trans (b0.mono (by simp))
  go_wp2
  clear b0
  go_region_with (first
    | (go_at_call 6
       ((with_reducible refine (word_walk _ _).mono ?_)
        rintro e w1 ⟨rfl, b1⟩
        have k1 := (b1.cell (p := ⟨w.heap.size, 1, none⟩) (by first | (simp; done) | (simp; omega))).trans k1
        have k2 := (b1.cell (p := ⟨w.heap.size, 2, none⟩) (by first | (simp; done) | (simp; omega))).trans k2
        have k3 := (b1.cell (p := ⟨w.heap.size, 3, none⟩) (by first | (simp; done) | (simp; omega))).trans k3
        have bb : Below w.heap.size w w1 := bb.drew.trans (b1.mono (by simp; omega))
        have hw1 : w.heap.size < w1.heap.size := by have := b1.size; simp at this; omega))
    | (go_at_call 11
       ((with_reducible refine (idText_walk _ _ (by assumption) (by assumption) (by assumption) (by assumption) _ (ht.stays bb)).mono ?_)
        rintro e w2 ⟨rfl, b1⟩
        have k3 := (b1.cell (p := ⟨w.heap.size, 3, none⟩) (by first | (simp; done) | (simp; omega))).trans k3
        have bb : Below w.heap.size w w2 := bb.trans (b1.mono (by first | omega | (simp; omega))))))
  all_goals go_wp2
  all_goals go_ret
  all_goals exact ⟨rfl, bb⟩

end Go.Proofs.YtionfcmmfbecfaaGreatDoor
