/-
  A part of the proof that the law InterchangeTexts (chapter 22) returns true for every loss: runs of the program's functions in the kernel, by the own evaluator, and walks.
-/
import Derived.Test.YtionfcmmfbecfaaGreatDoorIdt
namespace Go.Proofs.YtionfcmmfbecfaaGreatDoor
open Go.RowKit Go.Dam

def wordsL : List ByteArray := ["", "skip", "groups", "rehearsal", "swing", "ramp", "parentheses", "slash", "beam"].map String.toUTF8
noncomputable def wordAt (n : Nat) : ByteArray := match evCall noOrc Tryz.prog fsAll 100 5 (.func 6) [.int .i64 (n : Int)] ⟨[], 100⟩ with
  | some (.string s, _) => s
  | _ => ByteArray.empty
noncomputable def wordOk (n : Nat) : Bool := match evCall noOrc Tryz.prog fsAll 100 5 (.func 6) [.int .i64 (n : Int)] ⟨[], 100⟩ with
  | some (.string s, _) => n < 9 && Nat.ble s.size 20
  | _ => false
set_option maxRecDepth 1000000 in
theorem words_all : ((List.range 9).all wordOk) = true := by kernel_rfl

theorem word_small (n : Nat) (hn : n < 9) (w : World) : Calls Tryz.prog 6 #[.int .i64 (n : Int)] w fun e w' => e = .returned (.string (wordAt n)) ∧ Below w.heap.size w w' := by
  have h := List.all_eq_true.1 words_all n (List.mem_range.2 hn)
  unfold wordOk at h
  split at h
  · rename_i v S he
    have : wordAt n = v := by unfold wordAt; rw [he]
    rw [this]
    refine closed (args := [.int .i64 (n : Int)]) noOrc_ok mixed_ok (namesOk_of names_ok) (ok_any _) (h := []) (nx := 100) rfl (by decide) (Nat.le_of_ble_eq_true (by kernel_rfl)) ?_ rfl he rfl ?_
    · intro x hx; obtain rfl := List.mem_singleton.1 hx; rfl
    · intro n o hn; cases hn
  · cases h

theorem wordAt_le (n : Nat) (hn : n < 9) : (wordAt n).size ≤ 20 := by
  have h := List.all_eq_true.1 words_all n (List.mem_range.2 hn)
  unfold wordOk at h
  split at h
  · rename_i v S he
    have : wordAt n = v := by unfold wordAt; rw [he]
    rw [this]
    simp only [Bool.and_eq_true] at h
    exact Nat.le_of_ble_eq_true h.2
  · cases h

set_option maxHeartbeats 4000000 in
set_option maxRecDepth 1000000 in
theorem word_low (k : Int) (h : k < 1) (w : World) : Calls Tryz.prog 6 #[.int .i64 k] w fun e w' => e = .returned (.string ByteArray.empty) ∧ Below w.heap.size w w' := by
  go_enter Tryz.func6, Tryz.ntmps6
  go_wp2
  go_ret
  exact ⟨rfl, (Below.refl _ w).alloc (Nat.le_refl _) _⟩

set_option maxHeartbeats 4000000 in
set_option maxRecDepth 1000000 in
theorem word_high (k : Int) (h : 8 < k) (w : World) : Calls Tryz.prog 6 #[.int .i64 k] w fun e w' => e = .returned (.string ByteArray.empty) ∧ Below w.heap.size w w' := by
  have h1 : ¬ k < 1 := by omega
  go_enter Tryz.func6, Tryz.ntmps6
  go_wp2
  go_ret
  exact ⟨rfl, (Below.refl _ w).alloc (Nat.le_refl _) _⟩

noncomputable def wordK (k : Int) : ByteArray := if 1 ≤ k ∧ k ≤ 8 then wordAt k.toNat else ByteArray.empty

theorem word_walk (k : Int) (w : World) : Calls Tryz.prog 6 #[.int .i64 k] w fun e w' => e = .returned (.string (wordK k)) ∧ Below w.heap.size w w' := by
  unfold wordK
  by_cases h1 : k < 1
  · rw [if_neg (by omega)]; exact word_low k h1 w
  by_cases h2 : 8 < k
  · rw [if_neg (by omega)]; exact word_high k h2 w
  rw [if_pos (by omega)]
  have := word_small k.toNat (by omega) w
  rwa [Int.toNat_of_nonneg (by omega)] at this

theorem wordK_le (k : Int) : (wordK k).size ≤ 20 := by
  unfold wordK
  split
  · exact wordAt_le _ (by omega)
  · decide

set_option maxRecDepth 1000000 in
theorem word_1 : wordAt 1 = ⟨#[115, 107, 105, 112]⟩ := by kernel_rfl
set_option maxRecDepth 1000000 in
theorem word_2 : wordAt 2 = ⟨#[103, 114, 111, 117, 112, 115]⟩ := by kernel_rfl
set_option maxRecDepth 1000000 in
theorem word_3 : wordAt 3 = ⟨#[114, 101, 104, 101, 97, 114, 115, 97, 108]⟩ := by kernel_rfl
set_option maxRecDepth 1000000 in
theorem word_4 : wordAt 4 = ⟨#[115, 119, 105, 110, 103]⟩ := by kernel_rfl
set_option maxRecDepth 1000000 in
theorem word_5 : wordAt 5 = ⟨#[114, 97, 109, 112]⟩ := by kernel_rfl
set_option maxRecDepth 1000000 in
theorem word_6 : wordAt 6 = ⟨#[112, 97, 114, 101, 110, 116, 104, 101, 115, 101, 115]⟩ := by kernel_rfl
set_option maxRecDepth 1000000 in
theorem word_7 : wordAt 7 = ⟨#[115, 108, 97, 115, 104]⟩ := by kernel_rfl
set_option maxRecDepth 1000000 in
theorem word_8 : wordAt 8 = ⟨#[98, 101, 97, 109]⟩ := by kernel_rfl

theorem wordK_pos (k : Int) (h1 : 1 ≤ k) (h2 : k ≤ 8) : (wordK k).size ≠ 0 := by
  unfold wordK
  rw [if_pos ⟨h1, h2⟩]
  have : k.toNat = 1 ∨ k.toNat = 2 ∨ k.toNat = 3 ∨ k.toNat = 4 ∨ k.toNat = 5 ∨ k.toNat = 6 ∨ k.toNat = 7 ∨ k.toNat = 8 := by omega
  rcases this with h | h | h | h | h | h | h | h <;> rw [h]
  · rw [word_1]; decide
  · rw [word_2]; decide
  · rw [word_3]; decide
  · rw [word_4]; decide
  · rw [word_5]; decide
  · rw [word_6]; decide
  · rw [word_7]; decide
  · rw [word_8]; decide
end Go.Proofs.YtionfcmmfbecfaaGreatDoor
