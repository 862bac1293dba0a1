/-
  A part of the proof that the law PrinterSyllables (chapter 20) returns true for every syllable: the walk of functions of the program, for every string.
-/
import Derived.Test.YtgjgdofofhmjgaaDoorSy50n
import Derived.Test.YtgjgdofofhmjgaaDoorSy50e
import Derived.Test.YtgjgdofofhmjgaaDoorSy51n
import Derived.Test.YtgjgdofofhmjgaaDoorSy51e
import Derived.Test.YtgjgdofofhmjgaaDoorSy52n
import Derived.Test.YtgjgdofofhmjgaaDoorSy60n
import Derived.Test.YtgjgdofofhmjgaaDoorSy60e
import Derived.Test.YtgjgdofofhmjgaaDoorSy61n
import Derived.Test.YtgjgdofofhmjgaaDoorSy61e
import Derived.Test.YtgjgdofofhmjgaaDoorSy62n
namespace Go.Proofs.YtgjgdofofhmjgaaDoor
open Go.RowKit

def link (l : Int) : ByteArray := if l = 0 then ⟨#[]⟩ else if l = 1 then ⟨#[45]⟩ else ⟨#[95]⟩
def sylOf (s : ByteArray) (l : Int) : ByteArray :=
  if l < 0 ∨ 2 < l ∨ 256 < s.size then ⟨#[]⟩ else if s.toList.isEmpty = true ∧ l = 2 then ⟨#[95]⟩ else quoteOf s ++ link l

set_option maxHeartbeats 2000000 in
theorem syl5_walk (s : ByteArray) (l : Int) (w : World) : Calls Tryd.prog 5 #[.agg #[.string s, .int .i64 l]] w fun e w' => e = .returned (.string (sylOf s l)) ∧ Below w.heap.size w w' := by
  unfold sylOf
  by_cases h0 : l < 0
  · rw [if_pos (.inl h0)]
    go_enter Tryd.func5, Tryd.ntmps5
    go_wp2
    go_ret
    exact ⟨rfl, (Below.refl _ w).alloc (Nat.le_refl _) _⟩
  by_cases h2 : 2 < l
  · rw [if_pos (.inr (.inl h2))]
    go_enter Tryd.func5, Tryd.ntmps5
    go_wp2
    go_ret
    exact ⟨rfl, (Below.refl _ w).alloc (Nat.le_refl _) _⟩
  by_cases hs : 256 < s.size
  · rw [if_pos (.inr (.inr hs))]
    have hs' : (256 : Int) < s.size := by omega
    go_enter Tryd.func5, Tryd.ntmps5
    go_wp2
    go_ret
    exact ⟨rfl, (Below.refl _ w).alloc (Nat.le_refl _) _⟩
  rw [if_neg (by omega)]
  have hs' : ¬ (256 : Int) < s.size := by omega
  rcases (by omega : l = 0 ∨ l = 1 ∨ l = 2) with rfl | rfl | rfl
  · rw [if_neg (by omega)]
    cases he : s.toList.isEmpty with
    | false => exact syl5_0_n s w (by omega) he
    | true => exact syl5_0_e s w (by omega) he
  · rw [if_neg (by omega)]
    cases he : s.toList.isEmpty with
    | false => exact syl5_1_n s w (by omega) he
    | true => exact syl5_1_e s w (by omega) he
  · cases he : s.toList.isEmpty with
    | false => rw [if_neg (by simp)]; exact syl5_2_n s w (by omega) he
    | true =>
      rw [if_pos ⟨rfl, rfl⟩]
      clear h0 h2
      go_enter Tryd.func5, Tryd.ntmps5
      go_wp2
      go_ret
      exact ⟨rfl, (Below.refl _ w).alloc (Nat.le_refl _) _⟩

set_option maxHeartbeats 2000000 in
theorem syl6_walk (s : ByteArray) (l : Int) (w : World) : Calls Tryd.prog 6 #[.agg #[.string s, .int .i64 l]] w fun e w' => e = .returned (.string (sylOf s l)) ∧ Below w.heap.size w w' := by
  unfold sylOf
  by_cases h0 : l < 0
  · rw [if_pos (.inl h0)]
    go_enter Tryd.func6, Tryd.ntmps6
    go_wp2
    go_ret
    exact ⟨rfl, (Below.refl _ w).alloc (Nat.le_refl _) _⟩
  by_cases h2 : 2 < l
  · rw [if_pos (.inr (.inl h2))]
    go_enter Tryd.func6, Tryd.ntmps6
    go_wp2
    go_ret
    exact ⟨rfl, (Below.refl _ w).alloc (Nat.le_refl _) _⟩
  by_cases hs : 256 < s.size
  · rw [if_pos (.inr (.inr hs))]
    have hs' : (256 : Int) < s.size := by omega
    go_enter Tryd.func6, Tryd.ntmps6
    go_wp2
    go_ret
    exact ⟨rfl, (Below.refl _ w).alloc (Nat.le_refl _) _⟩
  rw [if_neg (by omega)]
  have hs' : ¬ (256 : Int) < s.size := by omega
  rcases (by omega : l = 0 ∨ l = 1 ∨ l = 2) with rfl | rfl | rfl
  · rw [if_neg (by omega)]
    cases he : s.toList.isEmpty with
    | false => exact syl6_0_n s w (by omega) he
    | true => exact syl6_0_e s w (by omega) he
  · rw [if_neg (by omega)]
    cases he : s.toList.isEmpty with
    | false => exact syl6_1_n s w (by omega) he
    | true => exact syl6_1_e s w (by omega) he
  · cases he : s.toList.isEmpty with
    | false => rw [if_neg (by simp)]; exact syl6_2_n s w (by omega) he
    | true =>
      rw [if_pos ⟨rfl, rfl⟩]
      clear h0 h2
      go_enter Tryd.func6, Tryd.ntmps6
      go_wp2
      go_ret
      exact ⟨rfl, (Below.refl _ w).alloc (Nat.le_refl _) _⟩

end Go.Proofs.YtgjgdofofhmjgaaDoor
