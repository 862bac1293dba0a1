/- Towards the law ParserEvents, true for every text (no condition): one part of the proof. -/
import Derived.Test.YtgkhemnmcgicnaaGreatDoorG01
import Derived.Test.YtgkhemnmcgicnaaGreatDoorG07
import Derived.Deep.RegionHeld3
import Derived.Deep.QuietTactic
import Derived.Test.YtgkhemnmcgicnaaGreatDoorG19
import Derived.Shelf.Strings.Builder1
import Derived.Shelf.Strings.Builder2
import Derived.Shelf.Strings.OnBuilder
import Derived.Shelf.Small.Strs
import Derived.Shelf.Strings.BuilderF
import Derived.Shelf.Strings.Builder2Cap
import Derived.Shelf.Strconv.Atoi
import Derived.Shelf.Strconv.Itoa0
import Derived.Shelf.Strconv.Itoa1
import Derived.Shelf.LaysM
import Derived.Shelf.Strconv.Itoa2
import Derived.Shelf.Strconv.Itoa3
import Derived.Shelf.Strconv.AtoiErrFast
import Derived.Shelf.Strconv.ParseIntEmpty
import Derived.Shelf.Strconv.AtoiFail
import Derived.Shelf.Strconv.Clone
import Derived.Shelf.Strconv.SyntaxError
import Derived.Shelf.LaysC
import Derived.Shelf.Strconv.ToError
import Derived.Shelf.Strconv.Lower
import Derived.Shelf.Strconv.ParseUint10
import Derived.Shelf.Strconv.ParseUint10Empty
import Derived.Shelf.Strconv.ParseUint10Any
import Derived.Shelf.Strconv.ParseInt10
import Derived.Shelf.Strconv.AtoiLong
import Derived.Shelf.Strconv.AtoiInnerAll
import Derived.Shelf.Strconv.RangeError
import Derived.Shelf.Strconv.ToErrorRange
import Derived.Shelf.Strconv.AtoiAll
import Derived.Shelf.Strings.Search1
import Derived.Shelf.Strings.Search2
import Derived.Shelf.Strings.Search3
import Derived.Shelf.Strings.Cut
import Derived.Shelf.Strings.Count
import Derived.Shelf.Strings.Shaped
import Derived.Shelf.Strings.Prefix
import Derived.Shelf.Strings.Split
import Derived.Shelf.Strings.SplitShaped
import Derived.Shelf.Bits.Mul64
import Derived.Shelf.Unicode.DecodeSlow
import Derived.Ground.Names2Prog
import Derived.Shelf.Slices.SearchI
import Derived.Shelf.Slices.Empties
import Derived.Test.YtgkhemnmcgicnaaGreatDoorProg
namespace Go.Proofs.YtgkhemnmcgicnaaGreatDoor
set_option maxHeartbeats 8000000
set_option maxRecDepth 1000000
open Go.RowKit
def semis : Value := .agg #[I 0, I 2, I 4, I 5, I 7, I 9, I 11]
theorem semis_run : runsV 210 [] semis = true := by kernel_rfl
theorem semitones_walk (w : World) : Calls Tryz.prog 210 #[] w fun e w' => e = .returned semis /\ Below w.heap.size w w' := runsV_says (args := []) rfl rfl semis_run w
theorem number85_0 (a o : Int) (w : World) (h1 : IntKind.i64.wrap (o + 1) = o + 1) (h2 : IntKind.i64.wrap (12 * (o + 1)) = 12 * (o + 1)) (h4 : IntKind.i64.wrap (12 * (o + 1) + a) = 12 * (o + 1) + a) :
  Calls Tryz.prog 181 #[.agg #[I 0, I a, I o]] w fun e w' => e = .returned (I (12 * (o + 1) + a)) /\ Below w.heap.size w w' := by
 have hsm := semitones_walk
 unfold semis at hsm
 have hix : ∀ w' : World, (Instr.index 279 (.agg #[I 0, I 2, I 4, I 5, I 7, I 9, I 11]) (I 0)).run Tryz.prog w' = .ok (I 0) w' := fun w' => by kernel_rfl
 go_enter Tryz.func181, Tryz.ntmps181
 go_wp2
 go_region_held3 (fun w' => w'.cell? ⟨w.heap.size, 0, none⟩ = some (I 0) /\ w'.cell? ⟨w.heap.size, 1, none⟩ = some (I a) /\ w'.cell? ⟨w.heap.size, 2, none⟩ = some (I o)) (go_keep)
  ((go_at_call 210; refine (hsm _).mono ?_; rintro e w1 ⟨rfl, b1⟩; have k0 : w1.cell? ⟨w.heap.size, 0, none⟩ = some (I 0) := (b1.cell (by simp)).trans (by simp); have k1 : w1.cell? ⟨w.heap.size, 1, none⟩ = some (I a) := (b1.cell (by simp)).trans (by simp); have k2 : w1.cell? ⟨w.heap.size, 2, none⟩ = some (I o) := (b1.cell (by simp)).trans (by simp)))
 go_wp2
 go_ret
 exact ⟨rfl, (((Below.refl _ w).alloc (Nat.le_refl _) _).drew).trans (b1.mono (by simp))⟩
theorem number85_1 (a o : Int) (w : World) (h1 : IntKind.i64.wrap (o + 1) = o + 1) (h2 : IntKind.i64.wrap (12 * (o + 1)) = 12 * (o + 1)) (h3 : IntKind.i64.wrap (12 * (o + 1) + 2) = 12 * (o + 1) + 2) (h4 : IntKind.i64.wrap (12 * (o + 1) + 2 + a) = 12 * (o + 1) + 2 + a) :
  Calls Tryz.prog 181 #[.agg #[I 1, I a, I o]] w fun e w' => e = .returned (I (12 * (o + 1) + 2 + a)) /\ Below w.heap.size w w' := by
 have hsm := semitones_walk
 unfold semis at hsm
 have hix : ∀ w' : World, (Instr.index 279 (.agg #[I 0, I 2, I 4, I 5, I 7, I 9, I 11]) (I 1)).run Tryz.prog w' = .ok (I 2) w' := fun w' => by kernel_rfl
 go_enter Tryz.func181, Tryz.ntmps181
 go_wp2
 go_region_held3 (fun w' => w'.cell? ⟨w.heap.size, 0, none⟩ = some (I 1) /\ w'.cell? ⟨w.heap.size, 1, none⟩ = some (I a) /\ w'.cell? ⟨w.heap.size, 2, none⟩ = some (I o)) (go_keep)
  ((go_at_call 210; refine (hsm _).mono ?_; rintro e w1 ⟨rfl, b1⟩; have k0 : w1.cell? ⟨w.heap.size, 0, none⟩ = some (I 1) := (b1.cell (by simp)).trans (by simp); have k1 : w1.cell? ⟨w.heap.size, 1, none⟩ = some (I a) := (b1.cell (by simp)).trans (by simp); have k2 : w1.cell? ⟨w.heap.size, 2, none⟩ = some (I o) := (b1.cell (by simp)).trans (by simp)))
 go_wp2
 go_ret
 exact ⟨rfl, (((Below.refl _ w).alloc (Nat.le_refl _) _).drew).trans (b1.mono (by simp))⟩
theorem number85_2 (a o : Int) (w : World) (h1 : IntKind.i64.wrap (o + 1) = o + 1) (h2 : IntKind.i64.wrap (12 * (o + 1)) = 12 * (o + 1)) (h3 : IntKind.i64.wrap (12 * (o + 1) + 4) = 12 * (o + 1) + 4) (h4 : IntKind.i64.wrap (12 * (o + 1) + 4 + a) = 12 * (o + 1) + 4 + a) :
  Calls Tryz.prog 181 #[.agg #[I 2, I a, I o]] w fun e w' => e = .returned (I (12 * (o + 1) + 4 + a)) /\ Below w.heap.size w w' := by
 have hsm := semitones_walk
 unfold semis at hsm
 have hix : ∀ w' : World, (Instr.index 279 (.agg #[I 0, I 2, I 4, I 5, I 7, I 9, I 11]) (I 2)).run Tryz.prog w' = .ok (I 4) w' := fun w' => by kernel_rfl
 go_enter Tryz.func181, Tryz.ntmps181
 go_wp2
 go_region_held3 (fun w' => w'.cell? ⟨w.heap.size, 0, none⟩ = some (I 2) /\ w'.cell? ⟨w.heap.size, 1, none⟩ = some (I a) /\ w'.cell? ⟨w.heap.size, 2, none⟩ = some (I o)) (go_keep)
  ((go_at_call 210; refine (hsm _).mono ?_; rintro e w1 ⟨rfl, b1⟩; have k0 : w1.cell? ⟨w.heap.size, 0, none⟩ = some (I 2) := (b1.cell (by simp)).trans (by simp); have k1 : w1.cell? ⟨w.heap.size, 1, none⟩ = some (I a) := (b1.cell (by simp)).trans (by simp); have k2 : w1.cell? ⟨w.heap.size, 2, none⟩ = some (I o) := (b1.cell (by simp)).trans (by simp)))
 go_wp2
 go_ret
 exact ⟨rfl, (((Below.refl _ w).alloc (Nat.le_refl _) _).drew).trans (b1.mono (by simp))⟩
theorem number85_3 (a o : Int) (w : World) (h1 : IntKind.i64.wrap (o + 1) = o + 1) (h2 : IntKind.i64.wrap (12 * (o + 1)) = 12 * (o + 1)) (h3 : IntKind.i64.wrap (12 * (o + 1) + 5) = 12 * (o + 1) + 5) (h4 : IntKind.i64.wrap (12 * (o + 1) + 5 + a) = 12 * (o + 1) + 5 + a) :
  Calls Tryz.prog 181 #[.agg #[I 3, I a, I o]] w fun e w' => e = .returned (I (12 * (o + 1) + 5 + a)) /\ Below w.heap.size w w' := by
 have hsm := semitones_walk
 unfold semis at hsm
 have hix : ∀ w' : World, (Instr.index 279 (.agg #[I 0, I 2, I 4, I 5, I 7, I 9, I 11]) (I 3)).run Tryz.prog w' = .ok (I 5) w' := fun w' => by kernel_rfl
 go_enter Tryz.func181, Tryz.ntmps181
 go_wp2
 go_region_held3 (fun w' => w'.cell? ⟨w.heap.size, 0, none⟩ = some (I 3) /\ w'.cell? ⟨w.heap.size, 1, none⟩ = some (I a) /\ w'.cell? ⟨w.heap.size, 2, none⟩ = some (I o)) (go_keep)
  ((go_at_call 210; refine (hsm _).mono ?_; rintro e w1 ⟨rfl, b1⟩; have k0 : w1.cell? ⟨w.heap.size, 0, none⟩ = some (I 3) := (b1.cell (by simp)).trans (by simp); have k1 : w1.cell? ⟨w.heap.size, 1, none⟩ = some (I a) := (b1.cell (by simp)).trans (by simp); have k2 : w1.cell? ⟨w.heap.size, 2, none⟩ = some (I o) := (b1.cell (by simp)).trans (by simp)))
 go_wp2
 go_ret
 exact ⟨rfl, (((Below.refl _ w).alloc (Nat.le_refl _) _).drew).trans (b1.mono (by simp))⟩
theorem number85_4 (a o : Int) (w : World) (h1 : IntKind.i64.wrap (o + 1) = o + 1) (h2 : IntKind.i64.wrap (12 * (o + 1)) = 12 * (o + 1)) (h3 : IntKind.i64.wrap (12 * (o + 1) + 7) = 12 * (o + 1) + 7) (h4 : IntKind.i64.wrap (12 * (o + 1) + 7 + a) = 12 * (o + 1) + 7 + a) :
  Calls Tryz.prog 181 #[.agg #[I 4, I a, I o]] w fun e w' => e = .returned (I (12 * (o + 1) + 7 + a)) /\ Below w.heap.size w w' := by
 have hsm := semitones_walk
 unfold semis at hsm
 have hix : ∀ w' : World, (Instr.index 279 (.agg #[I 0, I 2, I 4, I 5, I 7, I 9, I 11]) (I 4)).run Tryz.prog w' = .ok (I 7) w' := fun w' => by kernel_rfl
 go_enter Tryz.func181, Tryz.ntmps181
 go_wp2
 go_region_held3 (fun w' => w'.cell? ⟨w.heap.size, 0, none⟩ = some (I 4) /\ w'.cell? ⟨w.heap.size, 1, none⟩ = some (I a) /\ w'.cell? ⟨w.heap.size, 2, none⟩ = some (I o)) (go_keep)
  ((go_at_call 210; refine (hsm _).mono ?_; rintro e w1 ⟨rfl, b1⟩; have k0 : w1.cell? ⟨w.heap.size, 0, none⟩ = some (I 4) := (b1.cell (by simp)).trans (by simp); have k1 : w1.cell? ⟨w.heap.size, 1, none⟩ = some (I a) := (b1.cell (by simp)).trans (by simp); have k2 : w1.cell? ⟨w.heap.size, 2, none⟩ = some (I o) := (b1.cell (by simp)).trans (by simp)))
 go_wp2
 go_ret
 exact ⟨rfl, (((Below.refl _ w).alloc (Nat.le_refl _) _).drew).trans (b1.mono (by simp))⟩
theorem number85_5 (a o : Int) (w : World) (h1 : IntKind.i64.wrap (o + 1) = o + 1) (h2 : IntKind.i64.wrap (12 * (o + 1)) = 12 * (o + 1)) (h3 : IntKind.i64.wrap (12 * (o + 1) + 9) = 12 * (o + 1) + 9) (h4 : IntKind.i64.wrap (12 * (o + 1) + 9 + a) = 12 * (o + 1) + 9 + a) :
  Calls Tryz.prog 181 #[.agg #[I 5, I a, I o]] w fun e w' => e = .returned (I (12 * (o + 1) + 9 + a)) /\ Below w.heap.size w w' := by
 have hsm := semitones_walk
 unfold semis at hsm
 have hix : ∀ w' : World, (Instr.index 279 (.agg #[I 0, I 2, I 4, I 5, I 7, I 9, I 11]) (I 5)).run Tryz.prog w' = .ok (I 9) w' := fun w' => by kernel_rfl
 go_enter Tryz.func181, Tryz.ntmps181
 go_wp2
 go_region_held3 (fun w' => w'.cell? ⟨w.heap.size, 0, none⟩ = some (I 5) /\ w'.cell? ⟨w.heap.size, 1, none⟩ = some (I a) /\ w'.cell? ⟨w.heap.size, 2, none⟩ = some (I o)) (go_keep)
  ((go_at_call 210; refine (hsm _).mono ?_; rintro e w1 ⟨rfl, b1⟩; have k0 : w1.cell? ⟨w.heap.size, 0, none⟩ = some (I 5) := (b1.cell (by simp)).trans (by simp); have k1 : w1.cell? ⟨w.heap.size, 1, none⟩ = some (I a) := (b1.cell (by simp)).trans (by simp); have k2 : w1.cell? ⟨w.heap.size, 2, none⟩ = some (I o) := (b1.cell (by simp)).trans (by simp)))
 go_wp2
 go_ret
 exact ⟨rfl, (((Below.refl _ w).alloc (Nat.le_refl _) _).drew).trans (b1.mono (by simp))⟩
theorem number85_6 (a o : Int) (w : World) (h1 : IntKind.i64.wrap (o + 1) = o + 1) (h2 : IntKind.i64.wrap (12 * (o + 1)) = 12 * (o + 1)) (h3 : IntKind.i64.wrap (12 * (o + 1) + 11) = 12 * (o + 1) + 11) (h4 : IntKind.i64.wrap (12 * (o + 1) + 11 + a) = 12 * (o + 1) + 11 + a) :
  Calls Tryz.prog 181 #[.agg #[I 6, I a, I o]] w fun e w' => e = .returned (I (12 * (o + 1) + 11 + a)) /\ Below w.heap.size w w' := by
 have hsm := semitones_walk
 unfold semis at hsm
 have hix : ∀ w' : World, (Instr.index 279 (.agg #[I 0, I 2, I 4, I 5, I 7, I 9, I 11]) (I 6)).run Tryz.prog w' = .ok (I 11) w' := fun w' => by kernel_rfl
 go_enter Tryz.func181, Tryz.ntmps181
 go_wp2
 go_region_held3 (fun w' => w'.cell? ⟨w.heap.size, 0, none⟩ = some (I 6) /\ w'.cell? ⟨w.heap.size, 1, none⟩ = some (I a) /\ w'.cell? ⟨w.heap.size, 2, none⟩ = some (I o)) (go_keep)
  ((go_at_call 210; refine (hsm _).mono ?_; rintro e w1 ⟨rfl, b1⟩; have k0 : w1.cell? ⟨w.heap.size, 0, none⟩ = some (I 6) := (b1.cell (by simp)).trans (by simp); have k1 : w1.cell? ⟨w.heap.size, 1, none⟩ = some (I a) := (b1.cell (by simp)).trans (by simp); have k2 : w1.cell? ⟨w.heap.size, 2, none⟩ = some (I o) := (b1.cell (by simp)).trans (by simp)))
 go_wp2
 go_ret
 exact ⟨rfl, (((Below.refl _ w).alloc (Nat.le_refl _) _).drew).trans (b1.mono (by simp))⟩
theorem number85 (s a o : Int) (h : ¬ pitchOut ⟨s, a, o⟩) (w : World) : Calls Tryz.prog 181 #[.agg #[I s, I a, I o]] w fun e w' => e = .returned (I (numOf ⟨s, a, o⟩)) /\ Below w.heap.size w w' := by
 simp only [pitchOut] at h
 have h1 : IntKind.i64.wrap (o + 1) = o + 1 := IntWalk.i64_in _ (by omega)
 have h2 : IntKind.i64.wrap (12 * (o + 1)) = 12 * (o + 1) := IntWalk.i64_in _ (by omega)
 have h3 : ∀ m : Int, 0 <= m -> m <= 11 -> IntKind.i64.wrap (12 * (o + 1) + m) = 12 * (o + 1) + m := fun m _ _ => IntWalk.i64_in _ (by omega)
 have h4 : ∀ m : Int, 0 <= m -> m <= 11 -> IntKind.i64.wrap (12 * (o + 1) + m + a) = 12 * (o + 1) + m + a := fun m _ _ => IntWalk.i64_in _ (by omega)
 have hc : s = 0 \/ s = 1 \/ s = 2 \/ s = 3 \/ s = 4 \/ s = 5 \/ s = 6 := by omega
 rcases hc with rfl | rfl | rfl | rfl | rfl | rfl | rfl
 ·have := h4 0 (by decide) (by decide)
  rw [Int.add_zero] at this
  have e : numOf ⟨0, a, o⟩ = 12 * (o + 1) + a := by simp [numOf, semi]
  rw [e]
  exact number85_0 a o w h1 h2 this
 ·exact number85_1 a o w h1 h2 (h3 2 (by decide) (by decide)) (h4 2 (by decide) (by decide))
 ·exact number85_2 a o w h1 h2 (h3 4 (by decide) (by decide)) (h4 4 (by decide) (by decide))
 ·exact number85_3 a o w h1 h2 (h3 5 (by decide) (by decide)) (h4 5 (by decide) (by decide))
 ·exact number85_4 a o w h1 h2 (h3 7 (by decide) (by decide)) (h4 7 (by decide) (by decide))
 ·exact number85_5 a o w h1 h2 (h3 9 (by decide) (by decide)) (h4 9 (by decide) (by decide))
 ·exact number85_6 a o w h1 h2 (h3 11 (by decide) (by decide)) (h4 11 (by decide) (by decide))
theorem check58 (s a o : Int) (w : World) : Calls Tryz.prog 148 #[.agg #[I s, I a, I o]] w fun e w' => e = .returned (I (pitchE ⟨s, a, o⟩)) /\ Below w.heap.size w w' := by
 unfold pitchE
 have b0 := (Below.refl w.heap.size w).alloc (Nat.le_refl _) (.cells #[I s, I a, I o] 75)
 by_cases h1 : s < 0
 ·rw [if_pos (by simp only [pitchOut]; omega)]
  go_enter Tryz.func148, Tryz.ntmps148
  go_wp2
  go_ret
  exact ⟨rfl, b0⟩
 by_cases h2 : 6 < s
 ·rw [if_pos (by simp only [pitchOut]; omega)]
  go_enter Tryz.func148, Tryz.ntmps148
  go_wp2
  go_ret
  exact ⟨rfl, b0⟩
 by_cases h3 : a < -2
 ·rw [if_pos (by simp only [pitchOut]; omega)]
  go_enter Tryz.func148, Tryz.ntmps148
  go_wp2
  go_ret
  exact ⟨rfl, b0⟩
 by_cases h4 : 2 < a
 ·rw [if_pos (by simp only [pitchOut]; omega)]
  go_enter Tryz.func148, Tryz.ntmps148
  go_wp2
  go_ret
  exact ⟨rfl, b0⟩
 by_cases h5 : o < -1
 ·rw [if_pos (by simp only [pitchOut]; omega)]
  go_enter Tryz.func148, Tryz.ntmps148
  go_wp2
  go_ret
  exact ⟨rfl, b0⟩
 by_cases h6 : 9 < o
 ·rw [if_pos (by simp only [pitchOut]; omega)]
  go_enter Tryz.func148, Tryz.ntmps148
  go_wp2
  go_ret
  exact ⟨rfl, b0⟩
 have hno : ¬ pitchOut ⟨s, a, o⟩ := by simp only [pitchOut]; omega
 rw [if_neg hno]
 have hnm := number85 s a o hno
 generalize numOf ⟨s, a, o⟩ = n at hnm ⊢
 clear hno
 by_cases h7 : n < 0
 ·rw [if_pos (.inl h7)]
  go_enter Tryz.func148, Tryz.ntmps148
  go_wp2_with (go_at_call 181; refine (hnm _).mono ?_)
  intro e w1; first | (intro he b1; subst he) | rintro ⟨rfl, b1⟩
  go_wp2
  go_ret
  exact ⟨rfl, b0.trans (b1.mono (by first | omega | simp))⟩
 by_cases h8 : 127 < n
 ·rw [if_pos (.inr h8)]
  go_enter Tryz.func148, Tryz.ntmps148
  go_wp2_with (go_at_call 181; refine (hnm _).mono ?_)
  intro e w1; first | (intro he b1; subst he) | rintro ⟨rfl, b1⟩
  go_wp2
  go_ret
  exact ⟨rfl, b0.trans (b1.mono (by first | omega | simp))⟩
 ·rw [if_neg (by omega)]
  go_enter Tryz.func148, Tryz.ntmps148
  go_wp2_with (go_at_call 181; refine (hnm _).mono ?_)
  intro e w1; first | (intro he b1; subst he) | rintro ⟨rfl, b1⟩
  go_wp2
  go_ret
  exact ⟨rfl, b0.trans (b1.mono (by first | omega | simp))⟩
end Go.Proofs.YtgkhemnmcgicnaaGreatDoor
namespace Go.Proofs
open Go.Shelf
def Tryz.lays206_ren : Go.Shelf.Ren := ⟨fun | 206 => 208 | n => n, fun | 9 => 9 | 4 => 4 | 3 => 3 | n => n, fun | n => n⟩
theorem Tryz.lays206 : Go.Proofs.Lays.n206 Tryz.prog Tryz.lays206_ren := {
 mixed := by kernel_rfl
 f206 := Tryz.func208.trans (congrArg some (by kernel_rfl))
 t3 := Tryz.underlying3
 a3 := Tryz.isAgg3
 z3 := Tryz.sizeOf3
 v3 := Tryz.zeroValue3
 t4 := Tryz.underlying4
 a4 := Tryz.isAgg4
 z4 := Tryz.sizeOf4
 v4 := Tryz.zeroValue4
 t9 := Tryz.underlying9
 a9 := Tryz.isAgg9
 z9 := Tryz.sizeOf9
 v9 := Tryz.zeroValue9 }
open Go.RowKit Go.Lib in
theorem Tryz.stringslite_HasPrefix (s p : ByteArray) (w : World) :
  Calls Tryz.prog 208 #[.string s, .string p] w fun e w' => e = .returned (.bool (Lib.hasPrefix s.data.toList p.data.toList)) /\ w' = w := Any.stringslite_HasPrefix Tryz.lays206 s p w
end Go.Proofs
