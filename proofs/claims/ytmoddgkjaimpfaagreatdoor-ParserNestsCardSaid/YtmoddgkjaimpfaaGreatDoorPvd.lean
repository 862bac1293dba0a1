/-
  A part of the proof that the law ParserNests (chapter 19) returns true for every depth and every list of notes: walks of the program's functions, and runs of them in the kernel by the own evaluator.
-/
import Derived.Test.YtmoddgkjaimpfaaGreatDoorPva
import Derived.Test.YtmoddgkjaimpfaaGreatDoorPto
namespace Go.Proofs.YtmoddgkjaimpfaaGreatDoor
open Go.RowKit

theorem add_run (s t : ByteArray) (hs : s.size ≤ 100000) (ht : t.size ≤ 100000) (w : World) : (Op.stringOp .add s t).run Tryz.prog w = .ok (.string (s ++ t)) w :=
  Go.run_string_add_sum (P := Tryz.prog) (w := w) s t (by omega)

section
variable {Y M : Nat} {tv : Value} {toks : List Tok} {pos : Nat} {line col e : Int} {free : Bool} {ls ln : Int} {es : Array MapEntry} {clk : Nat} {w : World} {t : Tok} {K : Nat}

set_option maxHeartbeats 16000000 in
set_option maxRecDepth 100000 in
theorem composed_dot (h : Prs Y M tv toks pos line col 0 free ls ln es clk w) {t t1 t2 : Tok} (ht : toks[pos]? = some t) (ht1 : toks[pos + 1]? = some t1) (ht2 : toks[pos + 2]? = some t2) (hpos : pos ≤ 1048576)
    (j1 : t1.joined = true) (k1 : t1.kind = 4) (x1 : t1.text = ⟨#[46]⟩) (j2 : t2.joined = false) (hts : t.text.size ≤ 64) (hK : w.heap[K]? = some dotRow) :
    Calls Tryz.prog 90 #[.pointer (some ⟨Y, 0, none⟩), .bool false, .slice (some ⟨K, 0, none⟩) 1 1] w fun r w' => r = .returned (.tuple #[.string (t.text ++ ⟨#[46]⟩), .int .i64 2]) ∧ Below w.heap.size w w' := by
  have hp := peek_ok h ht
  have hst := fun w' (b : Below w.heap.size w w') => h.step b
  have hlen : pos + 1 < toks.length := (List.getElem?_eq_some_iff.1 ht1).1
  have hlen2 : pos + 2 < toks.length := (List.getElem?_eq_some_iff.1 ht2).1
  obtain ⟨q, hq⟩ : ∃ q, q = pos + 1 := ⟨_, rfl⟩
  rw [← hq] at ht1 hlen
  have hw : IntKind.i64.wrap ((pos : Int) + 1) = (q : Int) := by rw [hq]; exact IntWalk.i64_in _ (by omega)
  obtain ⟨q2, hq2⟩ : ∃ q2, q2 = pos + 2 := ⟨_, rfl⟩
  rw [← hq2] at ht2 hlen2
  have hw2 : IntKind.i64.wrap ((pos : Int) + 2) = (q2 : Int) := by rw [hq2]; exact IntWalk.i64_in _ (by omega)
  clear hq hq2
  have hfd := field1_run (.int .i64 t.kind) t.text (.int .i64 t.value) (.string t.bytes) (.int .i64 1) (.int .i64 t.col) (.bool t.joined)
  have hadd := fun w => add_run t.text ⟨#[46]⟩ (by omega) (by decide) w
  have lK := (Array.getElem?_eq_some_iff.1 hK).1
  clear h ht
  go_enter Tryz.func90, Tryz.ntmps90
  go_wp2_with (go_at_call 18; refine hp.mono ?_)
  intro r w1; first | (intro he b1; subst he) | rintro ⟨rfl, b1⟩
  go_wp2
  go_loopg [8, 9] 1 (fun g v u wr => Below w.heap.size w wr ∧ ((g = 1 ∧ v = .string t.text ∧ u = .int .i64 1) ∨ (g = 0 ∧ v = .string (t.text ++ ⟨#[46]⟩) ∧ u = .int .i64 2)))
  case atStart => exact ⟨b1, .inl ⟨rfl, rfl, rfl⟩⟩
  case round =>
    clear b1
    obtain ⟨b1, ⟨rfl, rfl, rfl⟩ | ⟨rfl, rfl, rfl⟩⟩ := hrel
    · have hS := hst _ b1
      obtain ⟨G, cap, rfl, hc⟩ := hS.tokAt q ht1
      have c0 := hS.c0
      have c1 := hS.c1
      have u0 : wr.cell? ⟨G, q * 7, none⟩ = some (.int .i64 t1.kind) := hc 0 _ rfl
      have u1 := hc 1 _ rfl
      have u2 := hc 2 _ rfl
      have u3 := hc 3 _ rfl
      have u4 := hc 4 _ rfl
      have u5 := hc 5 _ rfl
      have u6 := hc 6 _ rfl
      have hlt : (q : Int) < (toks.length : Int) := by omega
      have hp0 : (0 : Int) ≤ (q : Int) := by omega
      have n0 := World.new_ne wr _ c0
      have n1 := World.new_ne wr _ u0
      have l0 := World.block_lt_of_cell? wr _ c0
      have l1 := World.block_lt_of_cell? wr _ u0
      simp only at l0 l1
      clear hc
      have hKr := (b1.block K lK).trans hK
      have lKr := (Array.getElem?_eq_some_iff.1 hKr).1
      go_wp2
      go_region_held3 (fun w' => w'.cell? ⟨Y, 0, none⟩ = some (.slice (some ⟨G, 0, none⟩) toks.length cap) ∧ w'.cell? ⟨Y, 1, none⟩ = some (.int .i64 pos) ∧
      w'.cell? ⟨G, q * 7, none⟩ = some (.int .i64 t1.kind) ∧ w'.cell? ⟨G, q * 7 + 1, none⟩ = some (.string t1.text) ∧ w'.cell? ⟨G, q * 7 + 2, none⟩ = some (.int .i64 t1.value) ∧
      w'.cell? ⟨G, q * 7 + 3, none⟩ = some (.string t1.bytes) ∧ w'.cell? ⟨G, q * 7 + 4, none⟩ = some (.int .i64 1) ∧ w'.cell? ⟨G, q * 7 + 5, none⟩ = some (.int .i64 t1.col) ∧ w'.cell? ⟨G, q * 7 + 6, none⟩ = some (.bool t1.joined)) (go_keep) (fail)
      go_wp2
      go_region_held3 (fun w' => w'.cell? ⟨Y, 0, none⟩ = some (.slice (some ⟨G, 0, none⟩) toks.length cap) ∧ w'.cell? ⟨Y, 1, none⟩ = some (.int .i64 pos) ∧
      w'.cell? ⟨G, q * 7, none⟩ = some (.int .i64 t1.kind) ∧ w'.cell? ⟨G, q * 7 + 1, none⟩ = some (.string t1.text) ∧ w'.cell? ⟨G, q * 7 + 2, none⟩ = some (.int .i64 t1.value) ∧
      w'.cell? ⟨G, q * 7 + 3, none⟩ = some (.string t1.bytes) ∧ w'.cell? ⟨G, q * 7 + 4, none⟩ = some (.int .i64 1) ∧ w'.cell? ⟨G, q * 7 + 5, none⟩ = some (.int .i64 t1.col) ∧ w'.cell? ⟨G, q * 7 + 6, none⟩ = some (.bool t1.joined)) (go_keep) (fail)
      have b2 := (b1.alloc b1.size (.cells #[.int .i64 4, .string ⟨#[46]⟩, .int .i64 t1.value, .string t1.bytes, .int .i64 1, .int .i64 t1.col, .bool true] 85)).drew.drew
      have hKs : (wr.alloc (.cells #[.int .i64 4, .string ⟨#[46]⟩, .int .i64 t1.value, .string t1.bytes, .int .i64 1, .int .i64 t1.col, .bool true] 85)).drew.drew.heap[K]? = some dotRow := (Lib.alloc_old wr _ K lKr).trans hKr
      have xc := contains_dot hKs
      go_wp2_with (go_at_call 122; refine xc.mono ?_; rintro r w2 ⟨rfl, rfl⟩)
      go_wp2
      go_roundg 0
      case measure => omega
      case rel => exact ⟨b2, .inr ⟨rfl, rfl, rfl⟩⟩
    · have hS := hst _ b1
      obtain ⟨G, cap, rfl, hc⟩ := hS.tokAt q2 ht2
      have c0 := hS.c0
      have c1 := hS.c1
      have u0 : wr.cell? ⟨G, q2 * 7, none⟩ = some (.int .i64 t2.kind) := hc 0 _ rfl
      have u1 := hc 1 _ rfl
      have u2 := hc 2 _ rfl
      have u3 := hc 3 _ rfl
      have u4 := hc 4 _ rfl
      have u5 := hc 5 _ rfl
      have u6 := hc 6 _ rfl
      have hlt : (q2 : Int) < (toks.length : Int) := by omega
      have hp0 : (0 : Int) ≤ (q2 : Int) := by omega
      have n0 := World.new_ne wr _ c0
      have n1 := World.new_ne wr _ u0
      have l0 := World.block_lt_of_cell? wr _ c0
      have l1 := World.block_lt_of_cell? wr _ u0
      simp only at l0 l1
      clear hc
      go_wp2
      go_region_held3 (fun w' => w'.cell? ⟨Y, 0, none⟩ = some (.slice (some ⟨G, 0, none⟩) toks.length cap) ∧ w'.cell? ⟨Y, 1, none⟩ = some (.int .i64 pos) ∧
      w'.cell? ⟨G, q2 * 7, none⟩ = some (.int .i64 t2.kind) ∧ w'.cell? ⟨G, q2 * 7 + 1, none⟩ = some (.string t2.text) ∧ w'.cell? ⟨G, q2 * 7 + 2, none⟩ = some (.int .i64 t2.value) ∧
      w'.cell? ⟨G, q2 * 7 + 3, none⟩ = some (.string t2.bytes) ∧ w'.cell? ⟨G, q2 * 7 + 4, none⟩ = some (.int .i64 1) ∧ w'.cell? ⟨G, q2 * 7 + 5, none⟩ = some (.int .i64 t2.col) ∧ w'.cell? ⟨G, q2 * 7 + 6, none⟩ = some (.bool t2.joined)) (go_keep) (fail)
      go_wp2
      go_region_held3 (fun w' => w'.cell? ⟨Y, 0, none⟩ = some (.slice (some ⟨G, 0, none⟩) toks.length cap) ∧ w'.cell? ⟨Y, 1, none⟩ = some (.int .i64 pos) ∧
      w'.cell? ⟨G, q2 * 7, none⟩ = some (.int .i64 t2.kind) ∧ w'.cell? ⟨G, q2 * 7 + 1, none⟩ = some (.string t2.text) ∧ w'.cell? ⟨G, q2 * 7 + 2, none⟩ = some (.int .i64 t2.value) ∧
      w'.cell? ⟨G, q2 * 7 + 3, none⟩ = some (.string t2.bytes) ∧ w'.cell? ⟨G, q2 * 7 + 4, none⟩ = some (.int .i64 1) ∧ w'.cell? ⟨G, q2 * 7 + 5, none⟩ = some (.int .i64 t2.col) ∧ w'.cell? ⟨G, q2 * 7 + 6, none⟩ = some (.bool t2.joined)) (go_keep) (fail)
      go_wp2
      refine bodyPost_ret (results_tmp2 rfl _ _ _) rfl ?_
      exact ⟨rfl, (b1.alloc b1.size _).drew.drew⟩
end
end Go.Proofs.YtmoddgkjaimpfaaGreatDoor

namespace Go.Proofs.YtmoddgkjaimpfaaGreatDoor
open Go.RowKit

theorem Tryz.sizePitch : (Tryz.prog.info? 69).map (·.size) = some 3 := by kernel_rfl
theorem Tryz.sizeValue : (Tryz.prog.info? 62).map (·.size) = some 2 := by kernel_rfl

section
variable {Y M : Nat} {tv : Value} {toks : List Tok} {pos : Nat} {line col e : Int} {free : Bool} {ls ln : Int} {es : Array MapEntry} {clk : Nat} {w : World} {t : Tok} {K : Nat}

theorem set3_self {w : World} {X : Nat} {cs : Array Value} {T : TypeId} (v0 v1 v2 : Value) (h : w.heap[X]? = some (.cells cs T (0, 0))) :
    (((w.setCell ⟨X, 0, none⟩ v0).setCell ⟨X, 1, none⟩ v1).setCell ⟨X, 2, none⟩ v2).heap[X]? = some (.cells (((cs.setIfInBounds 0 v0).setIfInBounds 1 v1).setIfInBounds 2 v2) T (0, 0)) :=
  Lib.heap_setCell_same (i := 2) (Lib.heap_setCell_same (i := 1) (Lib.heap_setCell_same (i := 0) h v0) v1) v2
theorem set2_self {w : World} {X : Nat} {cs : Array Value} {T : TypeId} (v0 v1 : Value) (h : w.heap[X]? = some (.cells cs T (0, 0))) :
    ((w.setCell ⟨X, 0, none⟩ v0).setCell ⟨X, 1, none⟩ v1).heap[X]? = some (.cells ((cs.setIfInBounds 0 v0).setIfInBounds 1 v1) T (0, 0)) :=
  Lib.heap_setCell_same (i := 1) (Lib.heap_setCell_same (i := 0) h v0) v1

set_option maxHeartbeats 8000000 in
set_option maxRecDepth 100000 in
theorem compose_pitch (h : Prs Y M tv toks pos line col 0 free ls ln es clk w) {tx : ByteArray} {a : Int} (hpos : pos ≤ 1048576)
    (hcm : ∀ w', Below w.heap.size w w' → Calls Tryz.prog 90 #[.pointer (some ⟨Y, 0, none⟩), .bool true, .slice (some ⟨K, 0, none⟩) 2 2] w' fun r w'' => r = .returned (.tuple #[.string tx, .int .i64 1]) ∧ Below w'.heap.size w' w'')
    (hf : ∀ w, Calls Tryz.prog 88 #[.string tx] w fun e w' => e = .returned (.tuple #[.agg #[.int .i64 a, .int .i64 0, .int .i64 4], .bool true]) ∧ Below w.heap.size w w') :
    Calls Tryz.prog 87 #[.pointer (some ⟨Y, 0, none⟩), .bool true, .int .i64 18, .func (.func 88) #[] #[], .bool true, .slice (some ⟨K, 0, none⟩) 2 2] w fun r w' =>
      r = .returned (.agg #[.int .i64 a, .int .i64 0, .int .i64 4]) ∧ Prs Y M tv toks (pos + 1) line col 0 free ls ln es clk w' ∧ Away [Y] w w' := by
  have b0 := ((Below.refl w.heap.size w).alloc (Nat.le_refl _) (.cells #[.int .i64 0, .int .i64 0, .int .i64 0] 69)).alloc (by simp) (.cells #[.int .i64 0, .int .i64 0, .int .i64 0] 69)
  have hR0 : ((w.alloc (.cells #[.int .i64 0, .int .i64 0, .int .i64 0] 69)).alloc (.cells #[.int .i64 0, .int .i64 0, .int .i64 0] 69)).heap[w.heap.size]? = some (.cells #[.int .i64 0, .int .i64 0, .int .i64 0] 69) := (Lib.alloc_old _ _ _ (by simp)).trans (heap_alloc_new w _)
  have xc := hcm _ b0
  have lY := h.lt
  have hw : IntKind.i64.wrap ((pos : Int) + 1) = (pos : Int) + 1 := IntWalk.i64_in _ (by omega)
  go_enter Tryz.func87, Tryz.ntmps87
  go_wp2_with (go_at_call 90; refine xc.mono ?_)
  intro r w1; first | (intro he b1; subst he) | rintro ⟨rfl, b1⟩
  have hR1 := (b1.block _ (Array.getElem?_eq_some_iff.1 hR0).1).trans hR0
  have bb1 := b0.trans (b1.mono b0.size)
  clear xc hcm b0 b1 hR0
  have xf := hf w1
  clear hf
  go_wp2_with (go_at_call 88; refine xf.mono ?_)
  intro r w2; first | (intro he b2; subst he) | rintro ⟨rfl, b2⟩
  have hR2 := (b2.block _ (Array.getElem?_eq_some_iff.1 hR1).1).trans hR1
  have bb2 := bb1.trans (b2.mono bb1.size)
  clear xf hR1 bb1 b2
  have hS2 := h.step bb2
  clear h
  have c1 := hS2.c1
  have f1 := hS2.fz 1
  have lY2 := hS2.lt
  have lR2 := (Array.getElem?_eq_some_iff.1 hR2).1
  have hRY : w.heap.size ≠ Y := by omega
  have hYR : Y ≠ w.heap.size := by omega
  have r0 : w2.cell? ⟨w.heap.size, 0, none⟩ = some (.int .i64 0) := by rw [Lib.cell_of_heap hR2]; rfl
  have fr0 := Lib.frozen_of_heap hR2 0
  have r1 : w2.cell? ⟨w.heap.size, 1, none⟩ = some (.int .i64 0) := by rw [Lib.cell_of_heap hR2]; rfl
  have fr1 := Lib.frozen_of_heap hR2 1
  have r2 : w2.cell? ⟨w.heap.size, 2, none⟩ = some (.int .i64 0) := by rw [Lib.cell_of_heap hR2]; rfl
  have fr2 := Lib.frozen_of_heap hR2 2
  have nY := World.new_ne w2 _ c1
  have nR := World.new_ne w2 _ r0
  have hP3 := hS2.put (pos' := pos + 1) (line' := line) (col' := col) (e' := 0) (ls' := ls) (ln' := ln) 1 (.int .i64 ((pos : Int) + 1)) (fun h => h) (by rw [show ((pos + 1 : Nat) : Int) = (pos : Int) + 1 by omega]; rfl)
  have hR3 := (Below.heap_setCell w2 ⟨Y, 1, none⟩ (.int .i64 ((pos : Int) + 1)) w.heap.size hRY).trans hR2
  have aw3 := (Away.of_below (bs := [Y]) bb2).setCell (p := ⟨Y, 1, none⟩) (.inl (by simp)) (.int .i64 ((pos : Int) + 1))
  go_wp2
  have q0 := hP3.elsewhere hR3 (by decide) (by decide) 0 (.int .i64 a)
  have s0 := Lib.heap_setCell_same (i := 0) hR3 (.int .i64 a)
  have q1 := q0.elsewhere s0 (by decide) (by decide) 1 (.int .i64 0)
  have s1 := Lib.heap_setCell_same (i := 1) s0 (.int .i64 0)
  have q2 := q1.elsewhere s1 (by decide) (by decide) 2 (.int .i64 4)
  have s2 := Lib.heap_setCell_same (i := 2) s1 (.int .i64 4)
  refine bodyPost_ret (results_cell_row rfl _ _ w.heap.size 69 _ (0, 0) _ rfl ((Lib.alloc_old _ _ _ (Array.getElem?_eq_some_iff.1 s2).1).trans s2) Tryz.underlying69 rfl Tryz.sizePitch) rfl ?_
  exact ⟨rfl, q2.step ((Below.refl _ _).alloc (Nat.le_refl _) _), ((((aw3.setCell (p := ⟨w.heap.size, 0, none⟩) (.inr (Nat.le_refl _)) (.int .i64 a)).setCell (p := ⟨w.heap.size, 1, none⟩) (.inr (Nat.le_refl _)) (.int .i64 0)).setCell (p := ⟨w.heap.size, 2, none⟩) (.inr (Nat.le_refl _)) (.int .i64 4))).alloc _⟩

set_option maxHeartbeats 8000000 in
set_option maxRecDepth 100000 in
theorem compose_value (h : Prs Y M tv toks pos line col 0 free ls ln es clk w) {tx : ByteArray} {a b : Int} (n : Nat) (hn : n ≤ 8) (hpos : pos ≤ 1048576)
    (hcm : ∀ w', Below w.heap.size w w' → Calls Tryz.prog 90 #[.pointer (some ⟨Y, 0, none⟩), .bool false, .slice (some ⟨K, 0, none⟩) 1 1] w' fun r w'' => r = .returned (.tuple #[.string tx, .int .i64 n]) ∧ Below w'.heap.size w' w'')
    (hf : ∀ w, Calls Tryz.prog 56 #[.string tx] w fun e w' => e = .returned (.tuple #[.agg #[.int .i64 a, .int .i64 b], .bool true]) ∧ Below w.heap.size w w') :
    Calls Tryz.prog 55 #[.pointer (some ⟨Y, 0, none⟩), .bool true, .int .i64 17, .func (.func 56) #[] #[], .bool false, .slice (some ⟨K, 0, none⟩) 1 1] w fun r w' =>
      r = .returned (.agg #[.int .i64 a, .int .i64 b]) ∧ Prs Y M tv toks (pos + n) line col 0 free ls ln es clk w' ∧ Away [Y] w w' := by
  have b0 := ((Below.refl w.heap.size w).alloc (Nat.le_refl _) (.cells #[.int .i64 0, .int .i64 0] 62)).alloc (by simp) (.cells #[.int .i64 0, .int .i64 0] 62)
  have hR0 : ((w.alloc (.cells #[.int .i64 0, .int .i64 0] 62)).alloc (.cells #[.int .i64 0, .int .i64 0] 62)).heap[w.heap.size]? = some (.cells #[.int .i64 0, .int .i64 0] 62) := (Lib.alloc_old _ _ _ (by simp)).trans (heap_alloc_new w _)
  have xc := hcm _ b0
  have lY := h.lt
  have hw : IntKind.i64.wrap ((pos : Int) + n) = (pos : Int) + n := IntWalk.i64_in _ (by omega)
  go_enter Tryz.func55, Tryz.ntmps55
  go_wp2_with (go_at_call 90; refine xc.mono ?_)
  intro r w1; first | (intro he b1; subst he) | rintro ⟨rfl, b1⟩
  have hR1 := (b1.block _ (Array.getElem?_eq_some_iff.1 hR0).1).trans hR0
  have bb1 := b0.trans (b1.mono b0.size)
  clear xc hcm b0 b1 hR0
  have xf := hf w1
  clear hf
  go_wp2_with (go_at_call 56; refine xf.mono ?_)
  intro r w2; first | (intro he b2; subst he) | rintro ⟨rfl, b2⟩
  have hR2 := (b2.block _ (Array.getElem?_eq_some_iff.1 hR1).1).trans hR1
  have bb2 := bb1.trans (b2.mono bb1.size)
  clear xf hR1 bb1 b2
  have hS2 := h.step bb2
  clear h
  have c1 := hS2.c1
  have f1 := hS2.fz 1
  have lY2 := hS2.lt
  have lR2 := (Array.getElem?_eq_some_iff.1 hR2).1
  have hRY : w.heap.size ≠ Y := by omega
  have hYR : Y ≠ w.heap.size := by omega
  have r0 : w2.cell? ⟨w.heap.size, 0, none⟩ = some (.int .i64 0) := by rw [Lib.cell_of_heap hR2]; rfl
  have fr0 := Lib.frozen_of_heap hR2 0
  have r1 : w2.cell? ⟨w.heap.size, 1, none⟩ = some (.int .i64 0) := by rw [Lib.cell_of_heap hR2]; rfl
  have fr1 := Lib.frozen_of_heap hR2 1
  have nY := World.new_ne w2 _ c1
  have nR := World.new_ne w2 _ r0
  have hP3 := hS2.put (pos' := pos + n) (line' := line) (col' := col) (e' := 0) (ls' := ls) (ln' := ln) 1 (.int .i64 ((pos : Int) + n)) (fun h => h) (by rw [show ((pos + n : Nat) : Int) = (pos : Int) + n by omega]; rfl)
  have hR3 := (Below.heap_setCell w2 ⟨Y, 1, none⟩ (.int .i64 ((pos : Int) + n)) w.heap.size hRY).trans hR2
  have aw3 := (Away.of_below (bs := [Y]) bb2).setCell (p := ⟨Y, 1, none⟩) (.inl (by simp)) (.int .i64 ((pos : Int) + n))
  go_wp2
  have q0 := hP3.elsewhere hR3 (by decide) (by decide) 0 (.int .i64 a)
  have s0 := Lib.heap_setCell_same (i := 0) hR3 (.int .i64 a)
  have q1 := q0.elsewhere s0 (by decide) (by decide) 1 (.int .i64 b)
  have s1 := Lib.heap_setCell_same (i := 1) s0 (.int .i64 b)
  refine bodyPost_ret (results_cell_row rfl _ _ w.heap.size 62 _ (0, 0) _ rfl ((Lib.alloc_old _ _ _ (Array.getElem?_eq_some_iff.1 s1).1).trans s1) Tryz.underlying62 rfl Tryz.sizeValue) rfl ?_
  exact ⟨rfl, q1.step ((Below.refl _ _).alloc (Nat.le_refl _) _), (((aw3.setCell (p := ⟨w.heap.size, 0, none⟩) (.inr (Nat.le_refl _)) (.int .i64 a)).setCell (p := ⟨w.heap.size, 1, none⟩) (.inr (Nat.le_refl _)) (.int .i64 b))).alloc _⟩

set_option maxHeartbeats 8000000 in
set_option maxRecDepth 100000 in
theorem pitch_ok (h : Prs Y M tv toks pos line col 0 free ls ln es clk w) (hpos : pos ≤ 1048576) (ht : toks[pos]? = some t) (hk : t.kind = 1) {c : UInt8} (hx : t.text = noteS c) (hc : c = 67 ∨ c = 68 ∨ c = 69)
    {t1 : Tok} (ht1 : toks[pos + 1]? = some t1) (k1 : t1.kind = 4) (x1 : t1.text = ⟨#[58]⟩) :
    Calls Tryz.prog 54 #[.pointer (some ⟨Y, 0, none⟩)] w fun r w' => (∃ a : Int, r = .returned (.agg #[.int .i64 a, .int .i64 0, .int .i64 4])) ∧ Prs Y M tv toks (pos + 1) line col 0 free ls ln es clk w' ∧ Away [Y] w w' := by
  obtain ⟨a, hf⟩ := pitch_says hc
  have b0 := (Below.refl w.heap.size w).alloc (Nat.le_refl _) (.cells #[.int .i64 0, .int .i64 0, .int .i64 0] 69)
  have hR0 := heap_alloc_new w (.cells #[.int .i64 0, .int .i64 0, .int .i64 0] 69)
  have h0 := h.step b0
  have lY := h.lt
  have xi := isPitch_yes h0 ht hk c hx hc
  go_enter Tryz.func54, Tryz.ntmps54
  go_wp2_with (go_at_call 26; refine xi.mono ?_)
  intro r w1; first | (intro he b1; subst he) | rintro ⟨rfl, b1⟩
  have h1 := (h0.step b1).step ((Below.refl _ w1).alloc (Nat.le_refl _) (.cells #[.string ⟨#[35]⟩, .string ⟨#[45]⟩] 9))
  have hR1 := (b1.block _ (Array.getElem?_eq_some_iff.1 hR0).1).trans hR0
  have lR1 := (Array.getElem?_eq_some_iff.1 hR1).1
  have hR2 := (Lib.alloc_old w1 (.cells #[.string ⟨#[35]⟩, .string ⟨#[45]⟩] 9) _ lR1).trans hR1
  have bb := (b0.trans (b1.mono b0.size)).alloc ((b0.trans (b1.mono b0.size)).size) (.cells #[.string ⟨#[35]⟩, .string ⟨#[45]⟩] 9)
  have hK := heap_alloc_new w1 (.cells #[.string ⟨#[35]⟩, .string ⟨#[45]⟩] 9)
  have xc := compose_pitch (K := w1.heap.size) (tx := noteS c) (a := a) h1 hpos (fun w' b => hx ▸ composed_one (K := w1.heap.size) (h1.step b) ht ht1 hpos true 2 (.inr ⟨k1, x1, rfl, (b.block _ (by simp)).trans hK⟩)) hf
  clear xi h h0 b0 hR0 hf
  go_wp2_with (go_at_call 87; refine xc.mono ?_)
  intro r w2; first | (intro he hS b2; subst he) | rintro ⟨rfl, hS, b2⟩
  have hR3 := b2.heap hR2 (by simp; omega)
  have aw := (Away.of_below (bs := [Y]) bb).trans b2
  clear xc h1 hR1 hR2 b1 b2 bb hK lR1
  have r0 : w2.cell? ⟨w.heap.size, 0, none⟩ = some (.int .i64 0) := by rw [Lib.cell_of_heap hR3]; rfl
  have fr0 := Lib.frozen_of_heap hR3 0
  have r1 : w2.cell? ⟨w.heap.size, 1, none⟩ = some (.int .i64 0) := by rw [Lib.cell_of_heap hR3]; rfl
  have fr1 := Lib.frozen_of_heap hR3 1
  have r2 : w2.cell? ⟨w.heap.size, 2, none⟩ = some (.int .i64 0) := by rw [Lib.cell_of_heap hR3]; rfl
  have fr2 := Lib.frozen_of_heap hR3 2
  go_wp2
  have q0 := hS.elsewhere hR3 (by decide) (by decide) 0 (.int .i64 a)
  have s0 := Lib.heap_setCell_same (i := 0) hR3 (.int .i64 a)
  have q1 := q0.elsewhere s0 (by decide) (by decide) 1 (.int .i64 0)
  have s1 := Lib.heap_setCell_same (i := 1) s0 (.int .i64 0)
  have q2 := q1.elsewhere s1 (by decide) (by decide) 2 (.int .i64 4)
  have s2 := Lib.heap_setCell_same (i := 2) s1 (.int .i64 4)
  refine bodyPost_ret (results_cell_row rfl _ _ w.heap.size 69 _ (0, 0) _ rfl s2 Tryz.underlying69 rfl Tryz.sizePitch) rfl ?_
  exact ⟨⟨a, rfl⟩, q2, ((aw.setCell (p := ⟨w.heap.size, 0, none⟩) (.inr (Nat.le_refl _)) (.int .i64 a)).setCell (p := ⟨w.heap.size, 1, none⟩) (.inr (Nat.le_refl _)) (.int .i64 0)).setCell (p := ⟨w.heap.size, 2, none⟩) (.inr (Nat.le_refl _)) (.int .i64 4)⟩

set_option maxHeartbeats 8000000 in
set_option maxRecDepth 100000 in
theorem value_gen (h : Prs Y M tv toks pos line col 0 free ls ln es clk w) (hpos : pos ≤ 1048576) (ht : toks[pos]? = some t) (hk : t.kind = 2) {tx : ByteArray} (hx : tx = ⟨#[56]⟩ ∨ tx = ⟨#[49, 54]⟩ ∨ tx = ⟨#[56, 46]⟩) (n : Nat) (hn : n ≤ 8)
    (hcm : ∀ (K : Nat) w', Prs Y M tv toks pos line col 0 free ls ln es clk w' → w'.heap[K]? = some dotRow → Calls Tryz.prog 90 #[.pointer (some ⟨Y, 0, none⟩), .bool false, .slice (some ⟨K, 0, none⟩) 1 1] w' fun r w'' => r = .returned (.tuple #[.string tx, .int .i64 n]) ∧ Below w'.heap.size w' w'') :
    Calls Tryz.prog 33 #[.pointer (some ⟨Y, 0, none⟩)] w fun r w' => (∃ a b : Int, r = .returned (.agg #[.int .i64 a, .int .i64 b])) ∧ Prs Y M tv toks (pos + n) line col 0 free ls ln es clk w' ∧ Away [Y] w w' := by
  obtain ⟨a, b, hf⟩ := value_says hx
  have b0 := (Below.refl w.heap.size w).alloc (Nat.le_refl _) (.cells #[.int .i64 0, .int .i64 0] 62)
  have hR0 := heap_alloc_new w (.cells #[.int .i64 0, .int .i64 0] 62)
  have h0 := h.step b0
  have lY := h.lt
  have xi := peek_ok h0 ht
  rw [hk] at xi
  have hfd := field0_run 2 (.string t.text) (.int .i64 t.value) (.string t.bytes) (.int .i64 1) (.int .i64 t.col) (.bool t.joined)
  go_enter Tryz.func33, Tryz.ntmps33
  go_wp2_with (go_at_call 18; refine xi.mono ?_)
  intro r w1; first | (intro he b1; subst he) | rintro ⟨rfl, b1⟩
  have h1 := (h0.step b1).step ((Below.refl _ w1).alloc (Nat.le_refl _) (.cells #[.string ⟨#[46]⟩] 9))
  have hR1 := (b1.block _ (Array.getElem?_eq_some_iff.1 hR0).1).trans hR0
  have lR1 := (Array.getElem?_eq_some_iff.1 hR1).1
  have hR2 := (Lib.alloc_old w1 (.cells #[.string ⟨#[46]⟩] 9) _ lR1).trans hR1
  have bb := (b0.trans (b1.mono b0.size)).alloc ((b0.trans (b1.mono b0.size)).size) (.cells #[.string ⟨#[46]⟩] 9)
  have hK := heap_alloc_new w1 (.cells #[.string ⟨#[46]⟩] 9)
  have xc := compose_value (K := w1.heap.size) (tx := tx) (a := a) (b := b) h1 n hn hpos (fun w' b => hcm w1.heap.size w' (h1.step b) ((b.block _ (by simp)).trans hK)) hf
  clear xi h h0 b0 hR0 hf hcm
  go_wp2_with (go_at_call 55; refine xc.mono ?_)
  intro r w2; first | (intro he hS b2; subst he) | rintro ⟨rfl, hS, b2⟩
  have hR3 := b2.heap hR2 (by simp; omega)
  have aw := (Away.of_below (bs := [Y]) bb).trans b2
  clear xc h1 hR1 hR2 b1 b2 bb hK lR1
  have r0 : w2.cell? ⟨w.heap.size, 0, none⟩ = some (.int .i64 0) := by rw [Lib.cell_of_heap hR3]; rfl
  have fr0 := Lib.frozen_of_heap hR3 0
  have r1 : w2.cell? ⟨w.heap.size, 1, none⟩ = some (.int .i64 0) := by rw [Lib.cell_of_heap hR3]; rfl
  have fr1 := Lib.frozen_of_heap hR3 1
  go_wp2
  have q0 := hS.elsewhere hR3 (by decide) (by decide) 0 (.int .i64 a)
  have s0 := Lib.heap_setCell_same (i := 0) hR3 (.int .i64 a)
  have q1 := q0.elsewhere s0 (by decide) (by decide) 1 (.int .i64 b)
  have s1 := Lib.heap_setCell_same (i := 1) s0 (.int .i64 b)
  refine bodyPost_ret (results_cell_row rfl _ _ w.heap.size 62 _ (0, 0) _ rfl s1 Tryz.underlying62 rfl Tryz.sizeValue) rfl ?_
  exact ⟨⟨a, b, rfl⟩, q1, (aw.setCell (p := ⟨w.heap.size, 0, none⟩) (.inr (Nat.le_refl _)) (.int .i64 a)).setCell (p := ⟨w.heap.size, 1, none⟩) (.inr (Nat.le_refl _)) (.int .i64 b)⟩

/-- A value without a dot, and one with it. -/
theorem value_plain (h : Prs Y M tv toks pos line col 0 free ls ln es clk w) (hpos : pos ≤ 1048576) (ht : toks[pos]? = some t) (hk : t.kind = 2) (hx : t.text = ⟨#[56]⟩ ∨ t.text = ⟨#[49, 54]⟩)
    {t1 : Tok} (ht1 : toks[pos + 1]? = some t1) (j1 : t1.joined = false) :
    Calls Tryz.prog 33 #[.pointer (some ⟨Y, 0, none⟩)] w fun r w' => (∃ a b : Int, r = .returned (.agg #[.int .i64 a, .int .i64 b])) ∧ Prs Y M tv toks (pos + 1) line col 0 free ls ln es clk w' ∧ Away [Y] w w' :=
  value_gen h hpos ht hk (tx := t.text) (by rcases hx with hx | hx <;> simp [hx]) 1 (by omega) fun K w' hS _ => composed_one hS ht ht1 hpos false 1 (.inl j1)

theorem value_dot (h : Prs Y M tv toks pos line col 0 free ls ln es clk w) (hpos : pos ≤ 1048576) (ht : toks[pos]? = some t) (hk : t.kind = 2) (hx : t.text = ⟨#[56]⟩)
    {t1 t2 : Tok} (ht1 : toks[pos + 1]? = some t1) (j1 : t1.joined = true) (k1 : t1.kind = 4) (x1 : t1.text = ⟨#[46]⟩) (ht2 : toks[pos + 2]? = some t2) (j2 : t2.joined = false) :
    Calls Tryz.prog 33 #[.pointer (some ⟨Y, 0, none⟩)] w fun r w' => (∃ a b : Int, r = .returned (.agg #[.int .i64 a, .int .i64 b])) ∧ Prs Y M tv toks (pos + 2) line col 0 free ls ln es clk w' ∧ Away [Y] w w' :=
  value_gen h hpos ht hk (tx := t.text ++ ⟨#[46]⟩) (by rw [hx]; exact .inr (.inr rfl)) 2 (by omega) fun K w' hS hK => composed_dot hS ht ht1 ht2 hpos j1 k1 x1 j2 (by rw [hx]; decide) hK
end
end Go.Proofs.YtmoddgkjaimpfaaGreatDoor
