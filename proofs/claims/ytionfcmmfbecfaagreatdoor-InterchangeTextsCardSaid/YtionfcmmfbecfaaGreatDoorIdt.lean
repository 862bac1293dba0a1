/-
  A part of the proof that the law InterchangeTexts (chapter 22) returns true for every loss: runs of the program's functions in the kernel, by the own evaluator, and walks.
-/
import Derived.Test.YtionfcmmfbecfaaGreatDoorDeb
import Derived.Lib.SmallJoins
import Derived.Lib.AppendIntMem
namespace Go.Proofs.YtionfcmmfbecfaaGreatDoor
open Go.RowKit Go.Dam

def TabW (w : World) : Prop := Lib.TabIs Tryz.prog w "internal/strconv.uint64pow10" .u64 Lib.pow10Tab
theorem TabW.stays {w w' : World} (h : TabW w) (hb : Below w.heap.size w w') : TabW w' := by
  have := Lib.tabBelow_of_tabIs h
  exact this w' hb

theorem itoa_walk (w0 : World) (n : Int) (h0 : 0 ≤ n) (h1 : n ≤ 9223372036854775807) (w : World) (ht : TabW w0) (hb : Below w0.heap.size w0 w) :
    Calls Tryz.prog 15 #[.int .i64 n] w fun e w' => e = .returned (.string (decS n.toNat)) ∧ Below w.heap.size w w' := by
  refine (Tryz.strconv_Itoa n (by omega) h1 w (ht.stays hb)).mono ?_
  rintro e w' ⟨rfl, k, os, rfl⟩
  refine ⟨?_, Lib.below_grow _ _ (Nat.le_refl _) _ _⟩
  have : Lib.itoa n = Lib.decDigits n.toNat := by
    unfold Lib.itoa
    rw [if_neg (by omega)]
  unfold decS
  rw [← this]

def idS (a b : Int) : ByteArray := decS a.toNat ++ ⟨#[46]⟩ ++ decS b.toNat

theorem idS_adds (a b : Int) (ha : 0 ≤ a) (ha1 : a ≤ 9223372036854775807) (hb : 0 ≤ b) (hb1 : b ≤ 9223372036854775807) :
    (∀ ww : World, (Op.stringOp .add (decS a.toNat) ⟨#[46]⟩).run Tryz.prog ww = .ok (.string (decS a.toNat ++ ⟨#[46]⟩)) ww)
    ∧ (∀ ww : World, (Op.stringOp .add (decS a.toNat ++ ⟨#[46]⟩) (decS b.toNat)).run Tryz.prog ww = .ok (.string (idS a b)) ww) ∧ (idS a b).size ≤ 40 := by
  have s1 := decS_le a.toNat (by omega)
  have s2 := decS_le b.toNat (by omega)
  have s3 : (⟨#[46]⟩ : ByteArray).size = 1 := by decide
  refine ⟨fun ww => add_run _ _ (by omega) (by omega) ww, fun ww => add_run _ _ (by rw [ByteArray.size_append]; omega) (by omega) ww, ?_⟩
  unfold idS
  rw [ByteArray.size_append, ByteArray.size_append]
  omega

set_option maxHeartbeats 4000000 in
set_option maxRecDepth 1000000 in
theorem name_walk (a b : Int) (ha : 0 ≤ a) (ha1 : a ≤ 9223372036854775807) (hb : 0 ≤ b) (hb1 : b ≤ 9223372036854775807) (w : World) :
    Calls Tryz.prog 5 #[.agg #[.int .i64 a, .int .i64 b]] w fun e w' => e = .returned (.string (idS a b)) ∧ Below w.heap.size w w' := by
  obtain ⟨a1, a2, -⟩ := idS_adds a b ha ha1 hb hb1
  go_enter Tryz.func5, Tryz.ntmps5
  go_wp2
  go_region_with (first
    | (go_at_call 10
       ((with_reducible refine (decimal_int _ (by assumption) (by assumption) _).mono ?_)
        rintro e w' ⟨rfl, b1⟩
        first
          | have bb : Below w.heap.size w w' := bb.trans (b1.mono bb.size)
          | have bb : Below w.heap.size w w' := (((Below.refl _ w).alloc (Nat.le_refl _) _).drew).trans (b1.mono (by simp))
        try have k1 : w'.cell? ⟨w.heap.size, 1, none⟩ = some (.int .i64 b) := by rw [b1.cell (by first | (simp; done) | (simp; omega))]; simp)))
  all_goals go_wp2
  all_goals go_ret
  all_goals exact ⟨rfl, bb⟩

set_option maxHeartbeats 4000000 in
set_option maxRecDepth 1000000 in
theorem idText_walk (a b : Int) (ha : 0 ≤ a) (ha1 : a ≤ 9223372036854775807) (hb : 0 ≤ b) (hb1 : b ≤ 9223372036854775807) (w : World) (ht : TabW w) :
    Calls Tryz.prog 11 #[.agg #[.int .i64 a, .int .i64 b]] w fun e w' => e = .returned (.string (idS a b)) ∧ Below w.heap.size w w' := by
  obtain ⟨a1, a2, -⟩ := idS_adds a b ha ha1 hb hb1
  go_enter Tryz.func11, Tryz.ntmps11
  go_wp2
  go_region_with (first
    | (go_at_call 15
       ((with_reducible refine (itoa_walk w _ (by assumption) (by assumption) _ ht (by first | exact bb | exact (((Below.refl _ w).alloc (Nat.le_refl _) _).drew))).mono ?_)
        rintro e w' ⟨rfl, b1⟩
        first
          | have bb : Below w.heap.size w w' := bb.trans (b1.mono bb.size)
          | have bb : Below w.heap.size w w' := (((Below.refl _ w).alloc (Nat.le_refl _) _).drew).trans (b1.mono (by simp))
        try have k1 : w'.cell? ⟨w.heap.size, 1, none⟩ = some (.int .i64 b) := by rw [b1.cell (by first | (simp; done) | (simp; omega))]; simp)))
  all_goals go_wp2
  all_goals go_ret
  all_goals exact ⟨rfl, bb⟩

end Go.Proofs.YtionfcmmfbecfaaGreatDoor
