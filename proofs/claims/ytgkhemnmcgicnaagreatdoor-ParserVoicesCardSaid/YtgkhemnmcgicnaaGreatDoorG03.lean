/- Towards the law ParserVoices, true for every text (no condition): one part of the proof. -/
import Derived.Test.YtgkhemnmcgicnaaGreatDoorG01
import Derived.Test.YtgkhemnmcgicnaaGreatDoorG02
namespace Go.Proofs.YtgkhemnmcgicnaaGreatDoor
set_option maxHeartbeats 8000000
set_option maxRecDepth 100000
open Go.RowKit
section
variable {B X : Nat} {ks : List (Nat × Obj)} {s : ByteArray} {lines : Value} {lv : Value} {n : Nat} {xs : List Value} {e0 wr : Int} {w0 w : World}
theorem pP {LN : Value} {ls : List Int} {a : Nat} (h : gG B X ks s LN a lv n xs e0 wr w0 w) (hL : hG LN ls ks) (gL : oL ls) (hsz : s.size <= 1048576) (hn : n <= 1048576) (b : Nat) (hab : a <= b) (hb : b <= s.size) (kd v : Int) (tx : ByteArray) (j : Bool) :
  Calls Tryz.prog 86 #[.pointer (some ⟨X, 0, none⟩), .agg #[I kd, .string ByteArray.empty, I v, .string tx, I 0, I 0, .bool false], I b, .bool j] w fun r w' =>
   r = .returned (.tuple #[]) /\ ∃ lv', gG B X ks s LN b lv' (n + 1) (xs ++ bD.cells ⟨kd, s.extract a b, v, tx, rN ls a, rP ls a, j && decide (0 < n)⟩) e0 wr w0 w' := by
 obtain ⟨i0, hi, hz0, hz1, hz2⟩ := info_parts Tryz.infoTok
 obtain ⟨ao, cp, rfl⟩ := h.lvIs
 have c0 := h.c0
 have c1 := h.c1
 have c3 := h.c3
 have hXlt := h.lt
 have ne0 := qr w _ c0
 have ne1 := qr w _ c1
 have ne3 := qr w _ c3
 have hXne : X ≠ w.heap.size := by omega
 have ha0 : (0 : Int) <= (a : Int) := by omega
 have hb0 : (0 : Int) <= (b : Int) := by omega
 have hab' : (a : Int) <= (b : Int) := by omega
 have hbs' : (b : Int) <= (s.size : Int) := by omega
 cases j
 ·have hlow : Below w.heap.size w ((w.alloc (.cells #[I kd, .string (s.extract a b), I v, .string tx, I 0, I 0, .bool false] 59)).drew) := ((qa _ w).alloc (qb _) _).drew
  have hT : ((w.alloc (.cells #[I kd, .string (s.extract a b), I v, .string tx, I 0, I 0, .bool false] 59)).drew).heap[w.heap.size]? = some (.cells #[I kd, .string (s.extract a b), I v, .string tx, I 0, I 0, .bool false] 59 (0, 0)) := qc w _
  go_enter Tryz.func86, Tryz.ntmps86
  go_wp2
  go_region
  generalize hW : (w.alloc (.cells #[I kd, .string (s.extract a b), I v, .string tx, I 0, I 0, .bool false] 59)).drew = W at hlow hT |-
  have hm := h.step hlow
  have d1 := hm.c1
  go_wp2_with (go_at_call 42; refine (vM hm hL gL a (by omega)).mono ?_)
  rintro e w2 ⟨rfl, b2⟩
  have hTl := (qd.1 hT).1
  have hT2 := (b2.block _ hTl).trans hT
  have k4 : w2.cell? ⟨w.heap.size, 4, none⟩ = some (I 0) := by rw [Lib.cell_of_heap hT2]; rfl
  have k5 : w2.cell? ⟨w.heap.size, 5, none⟩ = some (I 0) := by rw [Lib.cell_of_heap hT2]; rfl
  have f4 : w2.frozen? ⟨w.heap.size, 4, none⟩ = false := Lib.frozen_of_heap hT2 4
  have f5 : w2.frozen? ⟨w.heap.size, 5, none⟩ = false := Lib.frozen_of_heap hT2 5
  have hl3 : Below w.heap.size w ((w2.setCell ⟨w.heap.size, 4, none⟩ (I (rN ls a))).setCell ⟨w.heap.size, 5, none⟩ (I (rP ls a))) := ((hlow.trans (b2.mono (by omega))).setCell (p := ⟨w.heap.size, 4, none⟩) (qb _) _).setCell (p := ⟨w.heap.size, 5, none⟩) (qb _) _
  have hT3 := Lib.heap_setCell_same (i := 5) (Lib.heap_setCell_same (i := 4) hT2 (I (rN ls a))) (I (rP ls a))
  clear d1 ne0 ne1 ne3 c0 c1 c3
  go_wp2
  generalize hW3 : (w2.setCell ⟨w.heap.size, 4, none⟩ (I (rN ls a))).setCell ⟨w.heap.size, 5, none⟩ (I (rP ls a)) = W3 at hl3 hT3 |-
  clear k4 k5 f4 f5 hT2 hW3 hT hTl hm hW
  simp only [List.setIfInBounds_toArray, List.set_cons_succ, List.set_cons_zero] at hT3
  have hm3 := h.step hl3
  have d3 := hm3.c3
  have d1 := hm3.c1
  have g1 := hm3.fz 1
  have g3 := hm3.fz 3
  have t0 : W3.cell? ⟨w.heap.size, 0, none⟩ = some (I kd) := by rw [Lib.cell_of_heap hT3]; rfl
  have t1 : W3.cell? ⟨w.heap.size, 1, none⟩ = some (.string (s.extract a b)) := by rw [Lib.cell_of_heap hT3]; rfl
  have t2 : W3.cell? ⟨w.heap.size, 2, none⟩ = some (I v) := by rw [Lib.cell_of_heap hT3]; rfl
  have t3 : W3.cell? ⟨w.heap.size, 3, none⟩ = some (.string tx) := by rw [Lib.cell_of_heap hT3]; rfl
  have t4 : W3.cell? ⟨w.heap.size, 4, none⟩ = some (I (rN ls a)) := by rw [Lib.cell_of_heap hT3]; rfl
  have t5 : W3.cell? ⟨w.heap.size, 5, none⟩ = some (I (rP ls a)) := by rw [Lib.cell_of_heap hT3]; rfl
  have t6 : W3.cell? ⟨w.heap.size, 6, none⟩ = some (.bool false) := by rw [Lib.cell_of_heap hT3]; rfl
  have hB3 := hm3.hB
  have hpush := fun (w5 : World) (g cap : Nat) (hown1 : w5.ownsRow B 59 7 (.slice (some ⟨g, 0, none⟩) (n + 1) cap) (n + 1) (xs ++ bD.cells ⟨kd, s.extract a b, v, tx, rN ls a, rP ls a, false⟩)) (hgr : ((W3.drew).alloc (.cells #[I kd, .string (s.extract a b), I v, .string tx, I (rN ls a), I (rP ls a), .bool false] 59)).grownBy w5 (Value.slice ao n cp).ownBlock) => ((hm3.step (((qa _ _).drew).alloc (qb _) _)).push hgr hown1).at b
  have ownX : (Value.slice ao n cp).ownBlock ≠ some X := dF hm3.own hm3.blk (by intro cs fr hc; injection hc with _ h2 _; exact absurd h2 (by decide))
  have hm4 := hm3.step (((qa _ _).drew).alloc (qb _) (.cells #[I kd, .string (s.extract a b), I v, .string tx, I (rN ls a), I (rP ls a), .bool false] 59))
  have hX5 : ∀ w5 : World, ((W3.drew).alloc (.cells #[I kd, .string (s.extract a b), I v, .string tx, I (rN ls a), I (rP ls a), .bool false] 59)).grownBy w5 (Value.slice ao n cp).ownBlock -> w5.heap[X]? = some _ := fun w5 hgr => (hgr.block X hm4.lt (fun e => ownX e.symm)).trans hm4.blk
  have hXl3 := hm3.lt
  have neX := qr W3 _ d3
  have neT := qr W3 _ t0
  have own3 := hm3.own
  clear hm3 hl3 hT3 h hm4
  go_region_law ((refine step_append_lies _ (by rfl) _ _ _ (by rfl) B 59 i0 _ 7 72 Tryz.underlying39 hi hz0 hz1 hz2 rfl (by omega) (.slice ao n cp) n xs (by rfl) (World.ownsRow.alloc (w := W3.drew) own3 _) ⟨W3.heap.size, 0, none⟩ 1 1 (bD.cells ⟨kd, s.extract a b, v, tx, rN ls a, rP ls a, false⟩) (by rfl) (by rfl) (World.news_of_block (cs := (bD.cells ⟨kd, s.extract a b, v, tx, rN ls a, rP ls a, false⟩).toArray) (t := 59) (fr := (0, 0)) (qc _ _)) (by simp [Value.oneCell', bD.cells]) (by omega) (by simp only [maxLen]; omega) (by omega) (by simp; omega) (W3.heap.size + 1) (by simp) ?_; intro gg cap w5 hown1 hgrow hat hlt; have hx5 := hX5 _ hgrow; have q3 := Lib.cell_of_heap hx5 3; have q1 := Lib.cell_of_heap hx5 1; have r3 := Lib.frozen_of_heap hx5 3; have r1 := Lib.frozen_of_heap hx5 1; simp only [qqk, qqa, qy] at q3 q1; have hfin := hpush w5 gg cap hown1 hgrow; clear hx5 hgrow hown1 hat hlt))
  all_goals go_end0
  all_goals exact ⟨rfl, _, hfin⟩
 ·have hlow : Below w.heap.size w ((w.alloc (.cells #[I kd, .string (s.extract a b), I v, .string tx, I 0, I 0, .bool (decide (0 < n))] 59)).drew) := ((qa _ w).alloc (qb _) _).drew
  have hT : ((w.alloc (.cells #[I kd, .string (s.extract a b), I v, .string tx, I 0, I 0, .bool (decide (0 < n))] 59)).drew).heap[w.heap.size]? = some (.cells #[I kd, .string (s.extract a b), I v, .string tx, I 0, I 0, .bool (decide (0 < n))] 59 (0, 0)) := qc w _
  go_enter Tryz.func86, Tryz.ntmps86
  go_wp2
  go_region_held3 (fun w' => w'.cell? ⟨X, 0, none⟩ = some (.string s) /\ w'.cell? ⟨X, 1, none⟩ = some (I a) /\ w'.cell? ⟨X, 3, none⟩ = some (.slice ao n cp)) (go_keep) (fail)
  generalize hW : (w.alloc (.cells #[I kd, .string (s.extract a b), I v, .string tx, I 0, I 0, .bool (decide (0 < n))] 59)).drew = W at hlow hT |-
  have hm := h.step hlow
  have d1 := hm.c1
  go_wp2_with (go_at_call 42; refine (vM hm hL gL a (by omega)).mono ?_)
  rintro e w2 ⟨rfl, b2⟩
  have hTl := (qd.1 hT).1
  have hT2 := (b2.block _ hTl).trans hT
  have k4 : w2.cell? ⟨w.heap.size, 4, none⟩ = some (I 0) := by rw [Lib.cell_of_heap hT2]; rfl
  have k5 : w2.cell? ⟨w.heap.size, 5, none⟩ = some (I 0) := by rw [Lib.cell_of_heap hT2]; rfl
  have f4 : w2.frozen? ⟨w.heap.size, 4, none⟩ = false := Lib.frozen_of_heap hT2 4
  have f5 : w2.frozen? ⟨w.heap.size, 5, none⟩ = false := Lib.frozen_of_heap hT2 5
  have hl3 : Below w.heap.size w ((w2.setCell ⟨w.heap.size, 4, none⟩ (I (rN ls a))).setCell ⟨w.heap.size, 5, none⟩ (I (rP ls a))) := ((hlow.trans (b2.mono (by omega))).setCell (p := ⟨w.heap.size, 4, none⟩) (qb _) _).setCell (p := ⟨w.heap.size, 5, none⟩) (qb _) _
  have hT3 := Lib.heap_setCell_same (i := 5) (Lib.heap_setCell_same (i := 4) hT2 (I (rN ls a))) (I (rP ls a))
  clear d1 ne0 ne1 ne3 c0 c1 c3
  go_wp2
  generalize hW3 : (w2.setCell ⟨w.heap.size, 4, none⟩ (I (rN ls a))).setCell ⟨w.heap.size, 5, none⟩ (I (rP ls a)) = W3 at hl3 hT3 |-
  clear k4 k5 f4 f5 hT2 hW3 hT hTl hm hW
  simp only [List.setIfInBounds_toArray, List.set_cons_succ, List.set_cons_zero] at hT3
  have hm3 := h.step hl3
  have d3 := hm3.c3
  have d1 := hm3.c1
  have g1 := hm3.fz 1
  have g3 := hm3.fz 3
  have t0 : W3.cell? ⟨w.heap.size, 0, none⟩ = some (I kd) := by rw [Lib.cell_of_heap hT3]; rfl
  have t1 : W3.cell? ⟨w.heap.size, 1, none⟩ = some (.string (s.extract a b)) := by rw [Lib.cell_of_heap hT3]; rfl
  have t2 : W3.cell? ⟨w.heap.size, 2, none⟩ = some (I v) := by rw [Lib.cell_of_heap hT3]; rfl
  have t3 : W3.cell? ⟨w.heap.size, 3, none⟩ = some (.string tx) := by rw [Lib.cell_of_heap hT3]; rfl
  have t4 : W3.cell? ⟨w.heap.size, 4, none⟩ = some (I (rN ls a)) := by rw [Lib.cell_of_heap hT3]; rfl
  have t5 : W3.cell? ⟨w.heap.size, 5, none⟩ = some (I (rP ls a)) := by rw [Lib.cell_of_heap hT3]; rfl
  have t6 : W3.cell? ⟨w.heap.size, 6, none⟩ = some (.bool (decide (0 < n))) := by rw [Lib.cell_of_heap hT3]; rfl
  have hB3 := hm3.hB
  have hpush := fun (w5 : World) (g cap : Nat) (hown1 : w5.ownsRow B 59 7 (.slice (some ⟨g, 0, none⟩) (n + 1) cap) (n + 1) (xs ++ bD.cells ⟨kd, s.extract a b, v, tx, rN ls a, rP ls a, (decide (0 < n))⟩)) (hgr : ((W3.drew).alloc (.cells #[I kd, .string (s.extract a b), I v, .string tx, I (rN ls a), I (rP ls a), .bool (decide (0 < n))] 59)).grownBy w5 (Value.slice ao n cp).ownBlock) => ((hm3.step (((qa _ _).drew).alloc (qb _) _)).push hgr hown1).at b
  have ownX : (Value.slice ao n cp).ownBlock ≠ some X := dF hm3.own hm3.blk (by intro cs fr hc; injection hc with _ h2 _; exact absurd h2 (by decide))
  have hm4 := hm3.step (((qa _ _).drew).alloc (qb _) (.cells #[I kd, .string (s.extract a b), I v, .string tx, I (rN ls a), I (rP ls a), .bool (decide (0 < n))] 59))
  have hX5 : ∀ w5 : World, ((W3.drew).alloc (.cells #[I kd, .string (s.extract a b), I v, .string tx, I (rN ls a), I (rP ls a), .bool (decide (0 < n))] 59)).grownBy w5 (Value.slice ao n cp).ownBlock -> w5.heap[X]? = some _ := fun w5 hgr => (hgr.block X hm4.lt (fun e => ownX e.symm)).trans hm4.blk
  have hXl3 := hm3.lt
  have neX := qr W3 _ d3
  have neT := qr W3 _ t0
  have own3 := hm3.own
  clear hm3 hl3 hT3 h hm4
  go_region_law ((refine step_append_lies _ (by rfl) _ _ _ (by rfl) B 59 i0 _ 7 72 Tryz.underlying39 hi hz0 hz1 hz2 rfl (by omega) (.slice ao n cp) n xs (by rfl) (World.ownsRow.alloc (w := W3.drew) own3 _) ⟨W3.heap.size, 0, none⟩ 1 1 (bD.cells ⟨kd, s.extract a b, v, tx, rN ls a, rP ls a, (decide (0 < n))⟩) (by rfl) (by rfl) (World.news_of_block (cs := (bD.cells ⟨kd, s.extract a b, v, tx, rN ls a, rP ls a, (decide (0 < n))⟩).toArray) (t := 59) (fr := (0, 0)) (qc _ _)) (by simp [Value.oneCell', bD.cells]) (by omega) (by simp only [maxLen]; omega) (by omega) (by simp; omega) (W3.heap.size + 1) (by simp) ?_; intro gg cap w5 hown1 hgrow hat hlt; have hx5 := hX5 _ hgrow; have q3 := Lib.cell_of_heap hx5 3; have q1 := Lib.cell_of_heap hx5 1; have r3 := Lib.frozen_of_heap hx5 3; have r1 := Lib.frozen_of_heap hx5 1; simp only [qqk, qqa, qy] at q3 q1; have hfin := hpush w5 gg cap hown1 hgrow; clear hx5 hgrow hown1 hat hlt))
  all_goals go_end0
  all_goals exact ⟨rfl, _, hfin⟩
end
end Go.Proofs.YtgkhemnmcgicnaaGreatDoor
