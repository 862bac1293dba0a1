/-
  A part of the proof that the law PrinterEvents (chapter 20) returns true for every event: walks of the program's functions, and runs of them in the kernel by the own evaluator.
-/
import Derived.Test.YtholnnabakaliaaGreatDoorPev
namespace Go.Proofs.YtholnnabakaliaaGreatDoor
open Go.RowKit

def knX : EvV := ⟨0, 0, 1, 2, 0, [⟨⟨0, 0, 5⟩, true, 0⟩, ⟨⟨2, 0, 5⟩, false, 0⟩], [], 4, 0, 5, [⟨⟨#[108, 97]⟩, 0⟩], 0, 0⟩
set_option maxRecDepth 100000 in
theorem kn_check : (0 : Int) = checkE knX := by decide +kernel
set_option maxRecDepth 100000 in
theorem kn_text : mkB (textL knX) = ⟨#[60, 67, 53, 126, 32, 69, 53, 62, 58, 52, 32, 91, 97, 99, 99, 101, 110, 116, 32, 109, 102, 93, 32, 34, 108, 97, 34]⟩ := by decide +kernel
set_option maxRecDepth 100000 in
theorem kn_syll : mkB (syllL ⟨⟨#[97]⟩, 1⟩) = ⟨#[34, 97, 34, 45]⟩ := by decide +kernel

set_option maxHeartbeats 8000000 in
set_option maxRecDepth 100000 in
theorem known_walk {b : Nat} (w : World) (T : Tabs b w) : Calls Tryz.prog 4 #[] w fun r w' => r = .returned (.bool true) ∧ Below w.heap.size w w' := by
  have b1 := (Below.refl w.heap.size w).alloc (Nat.le_refl _) (.cells #[.string ⟨#[108, 97]⟩, .int .i64 0] 33)
  have b2 := b1.alloc b1.size (.cells #[.int .i64 0, .int .i64 0, .int .i64 1, .int .i64 2, .int .i64 0, .slice (some ⟨w.heap.size + 1 + 1, 0, none⟩) 2 2, .slice none 0 0, .int .i64 4, .int .i64 0, .int .i64 5, .slice (some ⟨w.heap.size, 0, none⟩) 1 1, .int .i64 0, .int .i64 0] 30)
  have b3 := b2.alloc b2.size (.cells #[.int .i64 0, .int .i64 0, .int .i64 5, .bool true, .int .i64 0, .int .i64 2, .int .i64 0, .int .i64 5, .bool false, .int .i64 0] 46)
  have e1 : (w.alloc (.cells #[.string ⟨#[108, 97]⟩, .int .i64 0] 33)).heap.size = w.heap.size + 1 := by simp
  have e2 : ((w.alloc (.cells #[.string ⟨#[108, 97]⟩, .int .i64 0] 33)).alloc (.cells #[.int .i64 0, .int .i64 0, .int .i64 1, .int .i64 2, .int .i64 0, .slice (some ⟨w.heap.size + 1 + 1, 0, none⟩) 2 2, .slice none 0 0, .int .i64 4, .int .i64 0, .int .i64 5, .slice (some ⟨w.heap.size, 0, none⟩) 1 1, .int .i64 0, .int .i64 0] 30)).heap.size = w.heap.size + 1 + 1 := by simp
  have oL : (w.alloc (.cells #[.string ⟨#[108, 97]⟩, .int .i64 0] 33)).ownsRow 0 33 2 (.slice (some ⟨w.heap.size, 0, none⟩) 1 1) 1 [.string ⟨#[108, 97]⟩, .int .i64 0] := World.ownsRow_lit (size := 2) w #[.string ⟨#[108, 97]⟩, .int .i64 0] 1 (Nat.zero_le _) (by decide) rfl
  have eL : Els (w.alloc (.cells #[.string ⟨#[108, 97]⟩, .int .i64 0] 33)) 2 (.slice (some ⟨w.heap.size, 0, none⟩) 1 1) (knX.lyr.map SyllV.cells) := Els.of_own (rows := knX.lyr.map SyllV.cells) oL rfl (by decide +kernel)
  have oH : (((w.alloc (.cells #[.string ⟨#[108, 97]⟩, .int .i64 0] 33)).alloc (.cells #[.int .i64 0, .int .i64 0, .int .i64 1, .int .i64 2, .int .i64 0, .slice (some ⟨w.heap.size + 1 + 1, 0, none⟩) 2 2, .slice none 0 0, .int .i64 4, .int .i64 0, .int .i64 5, .slice (some ⟨w.heap.size, 0, none⟩) 1 1, .int .i64 0, .int .i64 0] 30)).alloc (.cells #[.int .i64 0, .int .i64 0, .int .i64 5, .bool true, .int .i64 0, .int .i64 2, .int .i64 0, .int .i64 5, .bool false, .int .i64 0] 46)).ownsRow 0 46 5 (.slice (some ⟨((w.alloc (.cells #[.string ⟨#[108, 97]⟩, .int .i64 0] 33)).alloc (.cells #[.int .i64 0, .int .i64 0, .int .i64 1, .int .i64 2, .int .i64 0, .slice (some ⟨w.heap.size + 1 + 1, 0, none⟩) 2 2, .slice none 0 0, .int .i64 4, .int .i64 0, .int .i64 5, .slice (some ⟨w.heap.size, 0, none⟩) 1 1, .int .i64 0, .int .i64 0] 30)).heap.size, 0, none⟩) 2 2) 2 #[.int .i64 0, .int .i64 0, .int .i64 5, .bool true, .int .i64 0, .int .i64 2, .int .i64 0, .int .i64 5, .bool false, .int .i64 0].toList := World.ownsRow_lit (size := 5) ((w.alloc (.cells #[.string ⟨#[108, 97]⟩, .int .i64 0] 33)).alloc (.cells #[.int .i64 0, .int .i64 0, .int .i64 1, .int .i64 2, .int .i64 0, .slice (some ⟨w.heap.size + 1 + 1, 0, none⟩) 2 2, .slice none 0 0, .int .i64 4, .int .i64 0, .int .i64 5, .slice (some ⟨w.heap.size, 0, none⟩) 1 1, .int .i64 0, .int .i64 0] 30)) #[.int .i64 0, .int .i64 0, .int .i64 5, .bool true, .int .i64 0, .int .i64 2, .int .i64 0, .int .i64 5, .bool false, .int .i64 0] 2 (Nat.zero_le _) (by decide) rfl
  rw [e2] at oH
  have eH : Els (((w.alloc (.cells #[.string ⟨#[108, 97]⟩, .int .i64 0] 33)).alloc (.cells #[.int .i64 0, .int .i64 0, .int .i64 1, .int .i64 2, .int .i64 0, .slice (some ⟨w.heap.size + 1 + 1, 0, none⟩) 2 2, .slice none 0 0, .int .i64 4, .int .i64 0, .int .i64 5, .slice (some ⟨w.heap.size, 0, none⟩) 1 1, .int .i64 0, .int .i64 0] 30)).alloc (.cells #[.int .i64 0, .int .i64 0, .int .i64 5, .bool true, .int .i64 0, .int .i64 2, .int .i64 0, .int .i64 5, .bool false, .int .i64 0] 46)) 5 (.slice (some ⟨w.heap.size + 1 + 1, 0, none⟩) 2 2) (knX.heads.map HeadV.cells) := Els.of_own (rows := knX.heads.map HeadV.cells) oH rfl (by decide +kernel)
  have bL : Below (w.alloc (.cells #[.string ⟨#[108, 97]⟩, .int .i64 0] 33)).heap.size (w.alloc (.cells #[.string ⟨#[108, 97]⟩, .int .i64 0] 33)) (((w.alloc (.cells #[.string ⟨#[108, 97]⟩, .int .i64 0] 33)).alloc (.cells #[.int .i64 0, .int .i64 0, .int .i64 1, .int .i64 2, .int .i64 0, .slice (some ⟨w.heap.size + 1 + 1, 0, none⟩) 2 2, .slice none 0 0, .int .i64 4, .int .i64 0, .int .i64 5, .slice (some ⟨w.heap.size, 0, none⟩) 1 1, .int .i64 0, .int .i64 0] 30)).alloc (.cells #[.int .i64 0, .int .i64 0, .int .i64 5, .bool true, .int .i64 0, .int .i64 2, .int .i64 0, .int .i64 5, .bool false, .int .i64 0] 46)) := ((Below.refl _ (w.alloc (.cells #[.string ⟨#[108, 97]⟩, .int .i64 0] 33))).alloc (Nat.le_refl _) (.cells #[.int .i64 0, .int .i64 0, .int .i64 1, .int .i64 2, .int .i64 0, .slice (some ⟨w.heap.size + 1 + 1, 0, none⟩) 2 2, .slice none 0 0, .int .i64 4, .int .i64 0, .int .i64 5, .slice (some ⟨w.heap.size, 0, none⟩) 1 1, .int .i64 0, .int .i64 0] 30)).alloc (by simp) (.cells #[.int .i64 0, .int .i64 0, .int .i64 5, .bool true, .int .i64 0, .int .i64 2, .int .i64 0, .int .i64 5, .bool false, .int .i64 0] 46)
  have hE := heap_alloc_new (w.alloc (.cells #[.string ⟨#[108, 97]⟩, .int .i64 0] 33)) (.cells #[.int .i64 0, .int .i64 0, .int .i64 1, .int .i64 2, .int .i64 0, .slice (some ⟨w.heap.size + 1 + 1, 0, none⟩) 2 2, .slice none 0 0, .int .i64 4, .int .i64 0, .int .i64 5, .slice (some ⟨w.heap.size, 0, none⟩) 1 1, .int .i64 0, .int .i64 0] 30)
  rw [e1] at hE
  have hE3 := (Lib.alloc_old _ (.cells #[.int .i64 0, .int .i64 0, .int .i64 5, .bool true, .int .i64 0, .int .i64 2, .int .i64 0, .int .i64 5, .bool false, .int .i64 0] 46) _ (Array.getElem?_eq_some_iff.1 hE).1).trans hE
  have xe := pevent_walk 0 0 1 2 0 4 0 5 0 0 (some ⟨w.heap.size + 1 + 1, 0, none⟩) none (some ⟨w.heap.size, 0, none⟩) 2 2 0 0 1 1 knX.heads knX.graces knX.lyr (((w.alloc (.cells #[.string ⟨#[108, 97]⟩, .int .i64 0] 33)).alloc (.cells #[.int .i64 0, .int .i64 0, .int .i64 1, .int .i64 2, .int .i64 0, .slice (some ⟨w.heap.size + 1 + 1, 0, none⟩) 2 2, .slice none 0 0, .int .i64 4, .int .i64 0, .int .i64 5, .slice (some ⟨w.heap.size, 0, none⟩) 1 1, .int .i64 0, .int .i64 0] 30)).alloc (.cells #[.int .i64 0, .int .i64 0, .int .i64 5, .bool true, .int .i64 0, .int .i64 2, .int .i64 0, .int .i64 5, .bool false, .int .i64 0] 46)) (T.step b3) ⟨eH, .inl ⟨rfl, rfl⟩, eL.step bL, by decide, by decide, by decide⟩ _ 0 kn_check (kn_text.symm.trans (if_pos rfl).symm)
  clear e1 e2 oL eL oH eH bL hE b1 b2
  go_enter Tryz.func4, Tryz.ntmps4
  go_upto_region 3 with (fail)
  generalize (((w.alloc (.cells #[.string ⟨#[108, 97]⟩, .int .i64 0] 33)).alloc (.cells #[.int .i64 0, .int .i64 0, .int .i64 1, .int .i64 2, .int .i64 0, .slice (some ⟨w.heap.size + 1 + 1, 0, none⟩) 2 2, .slice none 0 0, .int .i64 4, .int .i64 0, .int .i64 5, .slice (some ⟨w.heap.size, 0, none⟩) 1 1, .int .i64 0, .int .i64 0] 30)).alloc (.cells #[.int .i64 0, .int .i64 0, .int .i64 5, .bool true, .int .i64 0, .int .i64 2, .int .i64 0, .int .i64 5, .bool false, .int .i64 0] 46)) = w3 at xe hE3 b3 ⊢
  generalize w.heap.size + 1 + 1 = H at xe hE3 ⊢
  obtain ⟨z0, z1, z2, z3, z4, z5, z6, z7, z8, z9, z10, z11, z12⟩ := box13 hE3
  go_wp2_with (go_at_call 5; (with_reducible refine xe.mono ?_))
  intro r w4; first | (intro he4 b4; subst he4) | rintro ⟨rfl, b4⟩
  have xs := syl10_walk ⟨⟨#[97]⟩, 1⟩ w4 (by decide) (by decide) (by decide)
  rw [kn_syll] at xs
  simp only [SyllV.cells] at xs
  clear xe hE3 z0 z1 z2 z3 z4 z5 z6 z7 z8 z9 z10 z11 z12
  go_wp2_with (go_at_call 10; (with_reducible refine xs.mono ?_))
  intro r w5; first | (intro he5 b5; subst he5) | rintro ⟨rfl, b5⟩
  go_wp2
  go_ret
  exact ⟨rfl, (b3.trans (b4.mono b3.size)).trans (b5.mono (Nat.le_trans b3.size b4.size))⟩
end Go.Proofs.YtholnnabakaliaaGreatDoor
