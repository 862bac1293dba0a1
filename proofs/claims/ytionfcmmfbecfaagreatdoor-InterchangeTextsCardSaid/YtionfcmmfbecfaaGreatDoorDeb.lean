/-
  A part of the proof that the law InterchangeTexts (chapter 22) returns true for every loss: runs of the program's functions in the kernel, by the own evaluator, and walks.
-/
import Derived.Test.YtionfcmmfbecfaaGreatDoorDec
import Derived.Deep.RegionHeld3
import Derived.IntWalk
import Derived.Laws.BytesArg
import Derived.Laws.IdiomStrings
namespace Go.Proofs.YtionfcmmfbecfaaGreatDoor
open Go.RowKit Go.Dam

theorem conv_byte (c : Int) (h0 : 0 ≤ c) (h1 : c < 256) (w : World) (b : Nat) (h : w.cell? ⟨b, 0, none⟩ = some (.int .u8 c)) :
    (convert 83 9 (.slice (some ⟨b, 0, none⟩) 1 1)).run Tryz.prog w = .ok (.string ⟨#[UInt8.ofNat c.toNat]⟩) w := by
  have := run_convert_bytes_back (P := Tryz.prog) w 83 9 5 ⟨b, 0, none⟩ 1 [UInt8.ofNat c.toNat] (by kernel_rfl) (by kernel_rfl) (by kernel_rfl) (fun j hj => by
    have hj0 : j = 0 := by simpa using hj
    subst hj0
    show w.cell? ⟨b, 0, none⟩ = _
    rw [h]
    simp
    omega)
  simpa using this

set_option maxHeartbeats 2000000 in
set_option maxRecDepth 1000000 in
theorem decimal_big (i : Int) (h10 : 10 ≤ i) (h1 : i ≤ 9223372036854775807) (ih : ∀ w : World, Calls Tryz.prog 10 #[.int .i64 (i / 10)] w fun e w' => e = .returned (.string (decS (i / 10).toNat)) ∧ Below w.heap.size w w') (w : World) :
    Calls Tryz.prog 10 #[.int .i64 i] w fun e w' => e = .returned (.string (decS i.toNat)) ∧ Below w.heap.size w w' := by
  have h0 : 0 ≤ i := by omega
  have g1 : ¬ i < 0 := by omega
  have g2 : ¬ i < 10 := by omega
  have q0 : 0 ≤ i / 10 := by omega
  have q1 : 0 ≤ i % 10 := by omega
  have q2 : i % 10 < 10 := by omega
  go_enter Tryz.func10, Tryz.ntmps10
  go_wp2
  have e1 : i.tdiv 10 = i / 10 := by rw [Int.tdiv_eq_ediv_of_nonneg h0]
  have e2 : i.tmod 10 = i % 10 := by rw [Int.tmod_eq_emod_of_nonneg h0]
  have e3 : IntKind.i64.wrap (i / 10) = i / 10 := IntWalk.i64_in _ (by omega)
  have e4 : IntKind.i64.wrap (i % 10) = i % 10 := IntWalk.i64_in _ (by omega)
  have e5 : IntKind.u8.wrap (i % 10) = i % 10 := IntWalk.u8_in _ (by omega)
  have e6 : IntKind.u8.wrap (48 + i % 10) = 48 + i % 10 := IntWalk.u8_in _ (by omega)
  have c0 := conv_byte (48 + i % 10) (by omega) (by omega)
  have a0 : ∀ ww : World, (Op.stringOp .add (decS (i / 10).toNat) ⟨#[UInt8.ofNat (48 + i % 10).toNat]⟩).run Tryz.prog ww = .ok (.string (decS i.toNat)) ww := fun ww => by
    rw [add_run _ _ (by have := decS_le (i / 10).toNat (by omega); omega) (by show 1 ≤ 1000; omega)]
    have x1 : (i / 10).toNat = i.toNat / 10 := by omega
    have x2 : (48 + i % 10).toNat = 48 + i.toNat % 10 := by omega
    rw [x1, x2, decS_step (by omega)]
  go_region_with (first
    | (go_at_call 10
       ((with_reducible refine (ih _).mono ?_)
        rintro e w' ⟨rfl, b1⟩
        try have k0 : w'.cell? ⟨w.heap.size, 0, none⟩ = some (.int .u8 (48 + i % 10)) := by rw [b1.cell (by first | (simp; done) | (simp; omega))]; simp
        )))
  all_goals go_wp2
  all_goals go_ret
  all_goals first
    | exact ⟨rfl, (((Below.refl _ w).alloc (Nat.le_refl _) _).drew).trans (b1.mono (by simp))⟩
    | exact ⟨rfl, (((Below.refl _ w).drew).trans (b1.mono (by simp))).alloc (by have := b1.size; simp at this; omega) _⟩
    | exact ⟨rfl, ((((Below.refl _ w).drew).alloc (by simp) _)).trans (b1.mono (by simp))⟩

theorem decimal_walk : ∀ (n : Nat), n ≤ 9223372036854775807 → ∀ w : World, Calls Tryz.prog 10 #[.int .i64 (n : Int)] w fun e w' => e = .returned (.string (decS n)) ∧ Below w.heap.size w w' := by
  intro n
  induction n using Nat.strongRecOn with
  | _ n ih =>
    intro hn w
    by_cases h : n < 10
    · exact decimal_small n h w
    · have e1 : ((n : Int) / 10) = ((n / 10 : Nat) : Int) := by omega
      have := decimal_big (n : Int) (by omega) (by omega) (fun w => by
        rw [e1, Int.toNat_natCast]
        exact ih (n / 10) (by omega) (by omega) w) w
      simpa using this

theorem decimal_int (i : Int) (h0 : 0 ≤ i) (h1 : i ≤ 9223372036854775807) (w : World) : Calls Tryz.prog 10 #[.int .i64 i] w fun e w' => e = .returned (.string (decS i.toNat)) ∧ Below w.heap.size w w' := by
  have := decimal_walk i.toNat (by omega) w
  rwa [Int.toNat_of_nonneg h0] at this

end Go.Proofs.YtionfcmmfbecfaaGreatDoor
