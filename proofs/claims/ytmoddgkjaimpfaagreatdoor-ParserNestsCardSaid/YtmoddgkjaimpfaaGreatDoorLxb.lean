/-
  A part of the proof that the law ParserNests (chapter 19) returns true for every depth and every list of notes: walks of the program's functions, and runs of them in the kernel by the own evaluator.
-/
import Derived.Test.YtmoddgkjaimpfaaGreatDoorLxs
import Derived.Test.YtmoddgkjaimpfaaGreatDoorShf
import Derived.Deep.RegionWith
import Derived.Deep.RegionHeld3
import Derived.Deep.AppendLies
import Derived.Deep.LoopGhost
import Derived.StillTail
import Derived.WalkMore
import Derived.Deep.QuietTactic
import Derived.BigQuiet
import Derived.StillTailTactics
import Derived.Lib.Slices
import Derived.Lib.Strings
namespace Go.Proofs.YtmoddgkjaimpfaaGreatDoor
open Go.RowKit

section
variable {B X : Nat} {ks : List (Nat × Obj)} {s : ByteArray} {lines : Value} {lv : Value} {n : Nat} {xs : List Value} {wr : Int} {w0 w : World}

theorem not_percent {c : Nat} (h : isBlank c = true) : ((c : Nat) : Int) ≠ 37 := by
  intro e
  have : c = 37 := by omega
  subst this
  simp [isBlank] at h

set_option maxHeartbeats 4000000 in
set_option maxRecDepth 100000 in
theorem skip_walk {a : Nat} (h : Scn B X ks s lines a lv n xs 0 wr w0 w) (hsz : s.size ≤ 1048576) (b : Nat) (hu : Upto isBlank s a b) (hnp : ∀ h : b < s.size, ((s[b].toNat : Nat) : Int) ≠ 37) :
    Calls Tryz.prog 47 #[.pointer (some ⟨X, 0, none⟩)] w fun e w' => e = .returned (.bool (decide (a < b))) ∧ Scn B X ks s lines b lv n xs 0 wr w0 w' := by
  obtain ⟨hab, hbs, hin, hout⟩ := hu
  have c1 := h.c1
  go_enter Tryz.func47, Tryz.ntmps47
  go_wp2
  go_step3
  go_wp2
  go_step3
  go_wp2
  go_loopg [4] (b - a) (fun g v wr' => ∃ k : Nat, a ≤ k ∧ k ≤ b ∧ b - k ≤ g ∧ Scn B X ks s lines k lv n xs 0 wr w0 wr')
  case atStart => exact ⟨a, Nat.le_refl _, hab, Nat.le_refl _, h⟩
  case round =>
    obtain ⟨k, hk1, hk2, hg, hS⟩ := hrel
    have d0 := hS.c0
    have d1 := hS.c1
    have f1 := hS.fz 1
    have e1 : ((k + 1 : Nat) : Int) = (k : Int) + 1 := by omega
    by_cases hkb : k < b
    · have hlt : k < s.size := by omega
      have hd := hin k hlt hk1 hkb
      have hne := not_percent hd
      have hlt' : (k : Int) < s.size := by omega
      go_wp2
      go_quiet (fail)
      go_wp2
      go_quiet (fail)
      go_wp2_with (go_at_call 83; refine (blank_is _ _ hd).mono ?_; rintro e w2 ⟨rfl, rfl⟩)
      go_roundg (b - (k + 1))
      case measure => omega
      case rel =>
        refine ⟨k + 1, by omega, by omega, Nat.le_refl _, ?_⟩
        rw [e1]
        exact (hS.step (below_drewN (Below.refl _ _) _)).at _
    · obtain rfl : k = b := by omega
      clear e1
      by_cases hlt : k < s.size
      · have hd := hout hlt
        have hne := hnp hlt
        have hlt' : (k : Int) < s.size := by omega
        go_wp2
        go_quiet (fail)
        go_wp2
        go_quiet (fail)
        go_wp2_with (go_at_call 83; refine (blank_is _ _ hd).mono ?_; rintro e w2 ⟨rfl, rfl⟩)
        rw [Exit.noGoto_ret]
        go_ret
        refine ⟨?_, hS.step (below_drewN (Below.refl _ _) _)⟩
        first | rfl | simp
      · have hlt' : ¬ (k : Int) < s.size := by omega
        go_wp2
        go_quiet (fail)
        go_wp2
        rw [Exit.noGoto_ret]
        go_ret
        refine ⟨?_, hS.step (below_drewN (Below.refl _ _) _)⟩
        first | rfl | simp

def lineRow : Obj := .cells #[.int .i64 0] 3 (0, 0)

set_option maxHeartbeats 4000000 in
set_option maxRecDepth 100000 in
theorem place_walk {L : Nat} {pos e : Int} (h : Scn B X ks s (.slice (some ⟨L, 0, none⟩) 1 1) pos lv n xs e wr w0 w) (hL : (L, lineRow) ∈ ks) (a : Nat) (ha : a ≤ 1048576) :
    Calls Tryz.prog 22 #[.pointer (some ⟨X, 0, none⟩), .int .i64 a] w fun r w' => r = .returned (.tuple #[.int .i64 1, .int .i64 ((a : Int) + 1)]) ∧ Below w.heap.size w w' := by
  have c2 := h.c2
  have l0 : w.cell? ⟨L, 0, none⟩ = some (.int .i64 0) := by rw [Lib.cell_of_heap (h.keep _ hL).1]; rfl
  clear h
  have hb := Tryz.slices_BinarySearch_int L 0 1 1 [0] (a : Int) w (by simp) (by decide) (fun j hj => by
    have : j = 0 := by simpa using hj
    subst this; simpa using l0) (by simp)
  rcases Nat.eq_zero_or_pos a with rfl | hp
  · have e1 : (([0] : List Int).take 1).countP (· < ((0 : Nat) : Int)) = 0 := by decide
    have e2 : (([0] : List Int).take 1).contains ((0 : Nat) : Int) = true := by decide
    rw [e1, e2] at hb
    go_enter Tryz.func22, Tryz.ntmps22
    go_wp2_with (go_at_call 52; refine hb.mono ?_; rintro e w' ⟨rfl, q, rfl⟩)
    go_quiet (fail)
    go_wp2
    go_ret2
    exact ⟨by simp, below_drewN (below_drewN (Below.refl _ _) _) _⟩
  · have e1 : (([0] : List Int).take 1).countP (· < (a : Int)) = 1 := by
      have : ((0 : Int) < (a : Int)) := by omega
      simp; try omega
    have e2 : (([0] : List Int).take 1).contains (a : Int) = false := by
      have : ((a : Int) ≠ 0) := by omega
      simp; try omega
    rw [e1, e2] at hb
    go_enter Tryz.func22, Tryz.ntmps22
    go_wp2_with (go_at_call 52; refine hb.mono ?_; rintro e w' ⟨rfl, q, rfl⟩)
    go_quiet (fail)
    go_wp2
    go_ret2
    exact ⟨by simp, below_drewN (below_drewN (Below.refl _ _) _) _⟩

theorem Tryz.infoTok : (Tryz.prog.info? 85).map (fun i => (i.zero, i.size, i.bytes)) = some (some (.agg #[.int .i64 0, .string ByteArray.empty, .int .i64 0, .string ByteArray.empty, .int .i64 0, .int .i64 0, .bool false]), 7, 72) := by kernel_rfl
end
end Go.Proofs.YtmoddgkjaimpfaaGreatDoor

namespace Go.Proofs.YtmoddgkjaimpfaaGreatDoor
open Go.RowKit

section
variable {B X : Nat} {ks : List (Nat × Obj)} {s : ByteArray} {lines : Value} {lv : Value} {n : Nat} {xs : List Value} {wr : Int} {w0 w : World}

set_option maxHeartbeats 8000000 in
set_option maxRecDepth 100000 in
theorem add_walk {L : Nat} {a : Nat} (h : Scn B X ks s (.slice (some ⟨L, 0, none⟩) 1 1) a lv n xs 0 wr w0 w) (hL : (L, lineRow) ∈ ks) (hsz : s.size ≤ 1048576) (hn : n ≤ 1048576) (b : Nat) (hab : a ≤ b) (hb : b ≤ s.size) (kd v : Int) (tx : ByteArray) (j : Bool) :
    Calls Tryz.prog 48 #[.pointer (some ⟨X, 0, none⟩), .agg #[.int .i64 kd, .string ByteArray.empty, .int .i64 v, .string tx, .int .i64 0, .int .i64 0, .bool false], .int .i64 b, .bool j] w fun r w' =>
      r = .returned (.tuple #[]) ∧ ∃ lv', Scn B X ks s (.slice (some ⟨L, 0, none⟩) 1 1) b lv' (n + 1) (xs ++ Tok.cells ⟨kd, s.extract a b, v, tx, (a : Int) + 1, j && decide (0 < n)⟩) 0 wr w0 w' := by
  obtain ⟨i0, hi, hz0, hz1, hz2⟩ := info_parts Tryz.infoTok
  obtain ⟨ao, cp, rfl⟩ := h.lvIs
  have c0 := h.c0
  have c1 := h.c1
  have c3 := h.c3
  have hXlt := h.lt
  have ne0 := World.new_ne w _ c0
  have ne1 := World.new_ne w _ c1
  have ne3 := World.new_ne w _ c3
  have hXne : X ≠ w.heap.size := by omega
  have ha0 : (0 : Int) ≤ (a : Int) := by omega
  have hb0 : (0 : Int) ≤ (b : Int) := by omega
  have hab' : (a : Int) ≤ (b : Int) := by omega
  have hbs' : (b : Int) ≤ (s.size : Int) := by omega
  cases j
  · have hlow : Below w.heap.size w ((w.alloc (.cells #[.int .i64 kd, .string (s.extract a b), .int .i64 v, .string tx, .int .i64 0, .int .i64 0, .bool false] 85)).drew) := ((Below.refl _ w).alloc (Nat.le_refl _) _).drew
    have hT : ((w.alloc (.cells #[.int .i64 kd, .string (s.extract a b), .int .i64 v, .string tx, .int .i64 0, .int .i64 0, .bool false] 85)).drew).heap[w.heap.size]? = some (.cells #[.int .i64 kd, .string (s.extract a b), .int .i64 v, .string tx, .int .i64 0, .int .i64 0, .bool false] 85 (0, 0)) := heap_alloc_new w _
    go_enter Tryz.func48, Tryz.ntmps48
    go_wp2
    go_region
    generalize hW : (w.alloc (.cells #[.int .i64 kd, .string (s.extract a b), .int .i64 v, .string tx, .int .i64 0, .int .i64 0, .bool false] 85)).drew = W at hlow hT ⊢
    have hm := h.step hlow
    have d1 := hm.c1
    go_wp2_with (go_at_call 22; refine (place_walk hm hL a (by omega)).mono ?_)
    rintro e w2 ⟨rfl, b2⟩
    have hTl := (Array.getElem?_eq_some_iff.1 hT).1
    have hT2 := (b2.block _ hTl).trans hT
    have k4 : w2.cell? ⟨w.heap.size, 4, none⟩ = some (.int .i64 0) := by rw [Lib.cell_of_heap hT2]; rfl
    have k5 : w2.cell? ⟨w.heap.size, 5, none⟩ = some (.int .i64 0) := by rw [Lib.cell_of_heap hT2]; rfl
    have f4 : w2.frozen? ⟨w.heap.size, 4, none⟩ = false := Lib.frozen_of_heap hT2 4
    have f5 : w2.frozen? ⟨w.heap.size, 5, none⟩ = false := Lib.frozen_of_heap hT2 5
    have hl3 : Below w.heap.size w ((w2.setCell ⟨w.heap.size, 4, none⟩ (.int .i64 1)).setCell ⟨w.heap.size, 5, none⟩ (.int .i64 ((a : Int) + 1))) := ((hlow.trans (b2.mono (by omega))).setCell (p := ⟨w.heap.size, 4, none⟩) (Nat.le_refl _) _).setCell (p := ⟨w.heap.size, 5, none⟩) (Nat.le_refl _) _
    have hT3 := Lib.heap_setCell_same (i := 5) (Lib.heap_setCell_same (i := 4) hT2 (.int .i64 1)) (.int .i64 ((a : Int) + 1))
    clear d1 ne0 ne1 ne3 c0 c1 c3
    go_wp2
    generalize hW3 : (w2.setCell ⟨w.heap.size, 4, none⟩ (.int .i64 1)).setCell ⟨w.heap.size, 5, none⟩ (.int .i64 ((a : Int) + 1)) = W3 at hl3 hT3 ⊢
    clear k4 k5 f4 f5 hT2 hW3 hT hTl hm hW
    simp only [List.setIfInBounds_toArray, List.set_cons_succ, List.set_cons_zero] at hT3
    have hm3 := h.step hl3
    have d3 := hm3.c3
    have d1 := hm3.c1
    have g1 := hm3.fz 1
    have g3 := hm3.fz 3
    have t0 : W3.cell? ⟨w.heap.size, 0, none⟩ = some (.int .i64 kd) := by rw [Lib.cell_of_heap hT3]; rfl
    have t1 : W3.cell? ⟨w.heap.size, 1, none⟩ = some (.string (s.extract a b)) := by rw [Lib.cell_of_heap hT3]; rfl
    have t2 : W3.cell? ⟨w.heap.size, 2, none⟩ = some (.int .i64 v) := by rw [Lib.cell_of_heap hT3]; rfl
    have t3 : W3.cell? ⟨w.heap.size, 3, none⟩ = some (.string tx) := by rw [Lib.cell_of_heap hT3]; rfl
    have t4 : W3.cell? ⟨w.heap.size, 4, none⟩ = some (.int .i64 1) := by rw [Lib.cell_of_heap hT3]; rfl
    have t5 : W3.cell? ⟨w.heap.size, 5, none⟩ = some (.int .i64 ((a : Int) + 1)) := by rw [Lib.cell_of_heap hT3]; rfl
    have t6 : W3.cell? ⟨w.heap.size, 6, none⟩ = some (.bool false) := by rw [Lib.cell_of_heap hT3]; rfl
    have hB3 := hm3.hB
    have hpush := fun (w5 : World) (g cap : Nat) (hown1 : w5.ownsRow B 85 7 (.slice (some ⟨g, 0, none⟩) (n + 1) cap) (n + 1) (xs ++ Tok.cells ⟨kd, s.extract a b, v, tx, (a : Int) + 1, false⟩)) (hgr : ((W3.drew).alloc (.cells #[.int .i64 kd, .string (s.extract a b), .int .i64 v, .string tx, .int .i64 1, .int .i64 ((a : Int) + 1), .bool false] 85)).grownBy w5 (Value.slice ao n cp).ownBlock) => ((hm3.step (((Below.refl _ _).drew).alloc (Nat.le_refl _) _)).push hgr hown1).at b
    have ownX : (Value.slice ao n cp).ownBlock ≠ some X := own_ne hm3.own hm3.blk (by intro cs fr hc; injection hc with _ h2 _; exact absurd h2 (by decide))
    have hm4 := hm3.step (((Below.refl _ _).drew).alloc (Nat.le_refl _) (.cells #[.int .i64 kd, .string (s.extract a b), .int .i64 v, .string tx, .int .i64 1, .int .i64 ((a : Int) + 1), .bool false] 85))
    have hX5 : ∀ w5 : World, ((W3.drew).alloc (.cells #[.int .i64 kd, .string (s.extract a b), .int .i64 v, .string tx, .int .i64 1, .int .i64 ((a : Int) + 1), .bool false] 85)).grownBy w5 (Value.slice ao n cp).ownBlock → w5.heap[X]? = some _ := fun w5 hgr => (hgr.block X hm4.lt (fun e => ownX e.symm)).trans hm4.blk
    have hXl3 := hm3.lt
    have neX := World.new_ne W3 _ d3
    have neT := World.new_ne W3 _ t0
    have own3 := hm3.own
    clear hm3 hl3 hT3 h hm4
    go_region_law ((refine step_append_lies _ (by rfl) _ _ _ (by rfl) B 85 i0 _ 7 72 Tryz.underlying73 hi hz0 hz1 hz2 rfl (by omega) (.slice ao n cp) n xs (by rfl) (World.ownsRow.alloc (w := W3.drew) own3 _) ⟨W3.heap.size, 0, none⟩ 1 1 (Tok.cells ⟨kd, s.extract a b, v, tx, (a : Int) + 1, false⟩) (by rfl) (by rfl) (World.news_of_block (cs := (Tok.cells ⟨kd, s.extract a b, v, tx, (a : Int) + 1, false⟩).toArray) (t := 85) (fr := (0, 0)) (heap_alloc_new _ _)) (by simp [Value.oneCell', Tok.cells]) (by omega) (by simp only [maxLen]; omega) (by omega) (by simp; omega) (W3.heap.size + 1) (by simp) ?_; intro gg cap w5 hown1 hgrow hat hlt; have hx5 := hX5 _ hgrow; have q3 := Lib.cell_of_heap hx5 3; have q1 := Lib.cell_of_heap hx5 1; have r3 := Lib.frozen_of_heap hx5 3; have r1 := Lib.frozen_of_heap hx5 1; simp only [List.getElem?_toArray, List.getElem?_cons_succ, List.getElem?_cons_zero] at q3 q1; have hfin := hpush w5 gg cap hown1 hgrow; clear hx5 hgrow hown1 hat hlt))
    all_goals go_end0
    all_goals exact ⟨rfl, _, hfin⟩
  · have hlow : Below w.heap.size w ((w.alloc (.cells #[.int .i64 kd, .string (s.extract a b), .int .i64 v, .string tx, .int .i64 0, .int .i64 0, .bool (decide (0 < n))] 85)).drew) := ((Below.refl _ w).alloc (Nat.le_refl _) _).drew
    have hT : ((w.alloc (.cells #[.int .i64 kd, .string (s.extract a b), .int .i64 v, .string tx, .int .i64 0, .int .i64 0, .bool (decide (0 < n))] 85)).drew).heap[w.heap.size]? = some (.cells #[.int .i64 kd, .string (s.extract a b), .int .i64 v, .string tx, .int .i64 0, .int .i64 0, .bool (decide (0 < n))] 85 (0, 0)) := heap_alloc_new w _
    go_enter Tryz.func48, Tryz.ntmps48
    go_wp2
    go_region_held3 (fun w' => w'.cell? ⟨X, 0, none⟩ = some (.string s) ∧ w'.cell? ⟨X, 1, none⟩ = some (.int .i64 a) ∧ w'.cell? ⟨X, 3, none⟩ = some (.slice ao n cp)) (go_keep) (fail)
    generalize hW : (w.alloc (.cells #[.int .i64 kd, .string (s.extract a b), .int .i64 v, .string tx, .int .i64 0, .int .i64 0, .bool (decide (0 < n))] 85)).drew = W at hlow hT ⊢
    have hm := h.step hlow
    have d1 := hm.c1
    go_wp2_with (go_at_call 22; refine (place_walk hm hL a (by omega)).mono ?_)
    rintro e w2 ⟨rfl, b2⟩
    have hTl := (Array.getElem?_eq_some_iff.1 hT).1
    have hT2 := (b2.block _ hTl).trans hT
    have k4 : w2.cell? ⟨w.heap.size, 4, none⟩ = some (.int .i64 0) := by rw [Lib.cell_of_heap hT2]; rfl
    have k5 : w2.cell? ⟨w.heap.size, 5, none⟩ = some (.int .i64 0) := by rw [Lib.cell_of_heap hT2]; rfl
    have f4 : w2.frozen? ⟨w.heap.size, 4, none⟩ = false := Lib.frozen_of_heap hT2 4
    have f5 : w2.frozen? ⟨w.heap.size, 5, none⟩ = false := Lib.frozen_of_heap hT2 5
    have hl3 : Below w.heap.size w ((w2.setCell ⟨w.heap.size, 4, none⟩ (.int .i64 1)).setCell ⟨w.heap.size, 5, none⟩ (.int .i64 ((a : Int) + 1))) := ((hlow.trans (b2.mono (by omega))).setCell (p := ⟨w.heap.size, 4, none⟩) (Nat.le_refl _) _).setCell (p := ⟨w.heap.size, 5, none⟩) (Nat.le_refl _) _
    have hT3 := Lib.heap_setCell_same (i := 5) (Lib.heap_setCell_same (i := 4) hT2 (.int .i64 1)) (.int .i64 ((a : Int) + 1))
    clear d1 ne0 ne1 ne3 c0 c1 c3
    go_wp2
    generalize hW3 : (w2.setCell ⟨w.heap.size, 4, none⟩ (.int .i64 1)).setCell ⟨w.heap.size, 5, none⟩ (.int .i64 ((a : Int) + 1)) = W3 at hl3 hT3 ⊢
    clear k4 k5 f4 f5 hT2 hW3 hT hTl hm hW
    simp only [List.setIfInBounds_toArray, List.set_cons_succ, List.set_cons_zero] at hT3
    have hm3 := h.step hl3
    have d3 := hm3.c3
    have d1 := hm3.c1
    have g1 := hm3.fz 1
    have g3 := hm3.fz 3
    have t0 : W3.cell? ⟨w.heap.size, 0, none⟩ = some (.int .i64 kd) := by rw [Lib.cell_of_heap hT3]; rfl
    have t1 : W3.cell? ⟨w.heap.size, 1, none⟩ = some (.string (s.extract a b)) := by rw [Lib.cell_of_heap hT3]; rfl
    have t2 : W3.cell? ⟨w.heap.size, 2, none⟩ = some (.int .i64 v) := by rw [Lib.cell_of_heap hT3]; rfl
    have t3 : W3.cell? ⟨w.heap.size, 3, none⟩ = some (.string tx) := by rw [Lib.cell_of_heap hT3]; rfl
    have t4 : W3.cell? ⟨w.heap.size, 4, none⟩ = some (.int .i64 1) := by rw [Lib.cell_of_heap hT3]; rfl
    have t5 : W3.cell? ⟨w.heap.size, 5, none⟩ = some (.int .i64 ((a : Int) + 1)) := by rw [Lib.cell_of_heap hT3]; rfl
    have t6 : W3.cell? ⟨w.heap.size, 6, none⟩ = some (.bool (decide (0 < n))) := by rw [Lib.cell_of_heap hT3]; rfl
    have hB3 := hm3.hB
    have hpush := fun (w5 : World) (g cap : Nat) (hown1 : w5.ownsRow B 85 7 (.slice (some ⟨g, 0, none⟩) (n + 1) cap) (n + 1) (xs ++ Tok.cells ⟨kd, s.extract a b, v, tx, (a : Int) + 1, (decide (0 < n))⟩)) (hgr : ((W3.drew).alloc (.cells #[.int .i64 kd, .string (s.extract a b), .int .i64 v, .string tx, .int .i64 1, .int .i64 ((a : Int) + 1), .bool (decide (0 < n))] 85)).grownBy w5 (Value.slice ao n cp).ownBlock) => ((hm3.step (((Below.refl _ _).drew).alloc (Nat.le_refl _) _)).push hgr hown1).at b
    have ownX : (Value.slice ao n cp).ownBlock ≠ some X := own_ne hm3.own hm3.blk (by intro cs fr hc; injection hc with _ h2 _; exact absurd h2 (by decide))
    have hm4 := hm3.step (((Below.refl _ _).drew).alloc (Nat.le_refl _) (.cells #[.int .i64 kd, .string (s.extract a b), .int .i64 v, .string tx, .int .i64 1, .int .i64 ((a : Int) + 1), .bool (decide (0 < n))] 85))
    have hX5 : ∀ w5 : World, ((W3.drew).alloc (.cells #[.int .i64 kd, .string (s.extract a b), .int .i64 v, .string tx, .int .i64 1, .int .i64 ((a : Int) + 1), .bool (decide (0 < n))] 85)).grownBy w5 (Value.slice ao n cp).ownBlock → w5.heap[X]? = some _ := fun w5 hgr => (hgr.block X hm4.lt (fun e => ownX e.symm)).trans hm4.blk
    have hXl3 := hm3.lt
    have neX := World.new_ne W3 _ d3
    have neT := World.new_ne W3 _ t0
    have own3 := hm3.own
    clear hm3 hl3 hT3 h hm4
    go_region_law ((refine step_append_lies _ (by rfl) _ _ _ (by rfl) B 85 i0 _ 7 72 Tryz.underlying73 hi hz0 hz1 hz2 rfl (by omega) (.slice ao n cp) n xs (by rfl) (World.ownsRow.alloc (w := W3.drew) own3 _) ⟨W3.heap.size, 0, none⟩ 1 1 (Tok.cells ⟨kd, s.extract a b, v, tx, (a : Int) + 1, (decide (0 < n))⟩) (by rfl) (by rfl) (World.news_of_block (cs := (Tok.cells ⟨kd, s.extract a b, v, tx, (a : Int) + 1, (decide (0 < n))⟩).toArray) (t := 85) (fr := (0, 0)) (heap_alloc_new _ _)) (by simp [Value.oneCell', Tok.cells]) (by omega) (by simp only [maxLen]; omega) (by omega) (by simp; omega) (W3.heap.size + 1) (by simp) ?_; intro gg cap w5 hown1 hgrow hat hlt; have hx5 := hX5 _ hgrow; have q3 := Lib.cell_of_heap hx5 3; have q1 := Lib.cell_of_heap hx5 1; have r3 := Lib.frozen_of_heap hx5 3; have r1 := Lib.frozen_of_heap hx5 1; simp only [List.getElem?_toArray, List.getElem?_cons_succ, List.getElem?_cons_zero] at q3 q1; have hfin := hpush w5 gg cap hown1 hgrow; clear hx5 hgrow hown1 hat hlt))
    all_goals go_end0
    all_goals exact ⟨rfl, _, hfin⟩
end
end Go.Proofs.YtmoddgkjaimpfaaGreatDoor
