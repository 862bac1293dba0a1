/-
  A part of the proof that the law ParserSheets (chapter 19) returns true for every sheet: walks of the program's functions, and runs of them in the kernel by the own evaluator.
-/
import Derived.Test.YtjnkppneilmpbaaGreatDoorPri
import Derived.Deep.Cut
import Derived.Deep.CutRange
namespace Go.Proofs.YtjnkppneilmpbaaGreatDoor
open Go.RowKit

def colonS : ByteArray := ⟨#[58]⟩
/-- The signs of a pitch; the dot of a value. -/
def signRow : Obj := .cells #[.string ⟨#[35]⟩, .string ⟨#[45]⟩] 9 (0, 0)
def dotRow : Obj := .cells #[.string ⟨#[46]⟩] 9 (0, 0)

section
variable {Y M : Nat} {tv : Value} {toks : List Tok} {pos : Nat} {line col e : Int} {free : Bool} {ls ln : Int} {es : Array MapEntry} {clk : Nat} {w : World} {t : Tok} {K : Nat}

set_option maxHeartbeats 4000000 in
set_option maxRecDepth 100000 in
theorem index_colon (hK : w.heap[K]? = some signRow) :
    Calls Tryz.prog 181 #[.slice (some ⟨K, 0, none⟩) 2 2, .string ⟨#[58]⟩] w fun r w' => r = .returned (.int .i64 (-1)) ∧ w' = w := by
  have q0 : w.cell? ⟨K, 0, none⟩ = some (.string ⟨#[35]⟩) := by rw [Lib.cell_of_heap hK]; rfl
  have q1 : w.cell? ⟨K, 1, none⟩ = some (.string ⟨#[45]⟩) := by rw [Lib.cell_of_heap hK]; rfl
  go_enter Tryz.func181, Tryz.ntmps181
  go_wp2
  go_loopw [8] (fun v wr => ∃ i : Nat, i ≤ 2 ∧ v = .int .i64 i ∧ wr = w) (fun v _ => 2 - (intOf v).toNat)
  case atStart => exact ⟨0, Nat.zero_le _, rfl, rfl⟩
  case round =>
    obtain ⟨i, hi, rfl, rfl⟩ := hrel
    have hi6 : i = 0 ∨ i = 1 ∨ i = 2 := by omega
    rcases hi6 with rfl | rfl | rfl
    · go_wp2
      go_roundw
      case rel => exact ⟨1, by omega, by simp⟩
      case measure => simp [intOf]
    · go_wp2
      go_roundw
      case rel => exact ⟨2, by omega, by simp⟩
      case measure => simp [intOf]
    · go_wp2
      go_ret
      exact ⟨rfl, rfl⟩

set_option maxHeartbeats 4000000 in
set_option maxRecDepth 100000 in
theorem contains_colon (hK : w.heap[K]? = some signRow) :
    Calls Tryz.prog 161 #[.slice (some ⟨K, 0, none⟩) 2 2, .string ⟨#[58]⟩] w fun r w' => r = .returned (.bool false) ∧ w' = w := by
  have hf := index_colon hK
  clear hK
  go_enter Tryz.func161, Tryz.ntmps161
  go_wp2_with (go_at_call 181; refine hf.mono ?_; rintro r w1 ⟨rfl, rfl⟩)
  go_wp2
  go_ret
  exact ⟨rfl, rfl⟩

set_option maxHeartbeats 4000000 in
set_option maxRecDepth 100000 in
theorem index_dot (hK : w.heap[K]? = some dotRow) :
    Calls Tryz.prog 181 #[.slice (some ⟨K, 0, none⟩) 1 1, .string ⟨#[46]⟩] w fun r w' => r = .returned (.int .i64 0) ∧ w' = w := by
  have q0 : w.cell? ⟨K, 0, none⟩ = some (.string ⟨#[46]⟩) := by rw [Lib.cell_of_heap hK]; rfl
  go_enter Tryz.func181, Tryz.ntmps181
  go_wp2
  go_loopw [8] (fun v wr => v = .int .i64 0 ∧ wr = w) (fun v _ => 2 - (intOf v).toNat)
  case atStart => exact ⟨rfl, rfl⟩
  case round =>
    obtain ⟨rfl, rfl⟩ := hrel
    go_wp2
    go_ret
    exact ⟨rfl, rfl⟩

set_option maxHeartbeats 4000000 in
set_option maxRecDepth 100000 in
theorem contains_dot (hK : w.heap[K]? = some dotRow) :
    Calls Tryz.prog 161 #[.slice (some ⟨K, 0, none⟩) 1 1, .string ⟨#[46]⟩] w fun r w' => r = .returned (.bool true) ∧ w' = w := by
  have hf := index_dot hK
  clear hK
  go_enter Tryz.func161, Tryz.ntmps161
  go_wp2_with (go_at_call 181; refine hf.mono ?_; rintro r w1 ⟨rfl, rfl⟩)
  go_wp2
  go_ret
  exact ⟨rfl, rfl⟩

/-- Where the cells of another token lie. -/
theorem Prs.tokAt (h : Prs Y M tv toks pos line col 0 free ls ln es clk w) (i : Nat) {t : Tok} (ht : toks[i]? = some t) :
    ∃ G cap, tv = .slice (some ⟨G, 0, none⟩) toks.length cap ∧ ∀ j u, t.cells[j]? = some u → w.cell? ⟨G, i * 7 + j, none⟩ = some u := by
  have hr := h.row rfl
  have hp : i < toks.length := (List.getElem?_eq_some_iff.1 ht).1
  obtain ⟨G, cap, rfl, _, _⟩ := hr.form (by omega)
  refine ⟨G, cap, rfl, fun j u hj => ?_⟩
  have := hr.cells (g := G) rfl (i * 7 + j) u (cells_at _ _ _ _ _ ht hj)
  have hadd : (⟨G, 0, none⟩ : Addr).add (i * 7 + j) = ⟨G, i * 7 + j, none⟩ := by unfold Addr.add; split <;> simp_all
  rwa [hadd] at this

set_option maxHeartbeats 16000000 in
set_option maxRecDepth 100000 in
/-- Nothing follows at once, or a colon, behind a pitch. -/
theorem composed_one (h : Prs Y M tv toks pos line col 0 free ls ln es clk w) {t t1 : Tok} (ht : toks[pos]? = some t) (ht1 : toks[pos + 1]? = some t1) (hpos : pos ≤ 1048576) (nu : Bool) (n : Nat)
    (hK : t1.joined = false ∨ (t1.kind = 4 ∧ t1.text = ⟨#[58]⟩ ∧ n = 2 ∧ w.heap[K]? = some signRow)) :
    Calls Tryz.prog 134 #[.pointer (some ⟨Y, 0, none⟩), .bool nu, .slice (some ⟨K, 0, none⟩) n n] w fun r w' => r = .returned (.tuple #[.string t.text, .int .i64 1]) ∧ Below w.heap.size w w' := by
  have hp := peek_ok h ht
  have hst := fun w' (b : Below w.heap.size w w') => h.step b
  have hlen : pos + 1 < toks.length := (List.getElem?_eq_some_iff.1 ht1).1
  obtain ⟨q, hq⟩ : ∃ q, q = pos + 1 := ⟨_, rfl⟩
  rw [← hq] at ht1 hlen
  have hw : IntKind.i64.wrap ((pos : Int) + 1) = (q : Int) := by rw [hq]; exact IntWalk.i64_in _ (by omega)
  clear hq
  have hfd := field1_run (.int .i64 t.kind) t.text (.int .i64 t.value) (.string t.bytes) (.int .i64 t.line) (.int .i64 t.col) (.bool t.joined)
  clear h ht
  go_enter Tryz.func134, Tryz.ntmps134
  go_wp2_with (go_at_call 33; refine hp.mono ?_)
  intro r w1; first | (intro he b1; subst he) | rintro ⟨rfl, b1⟩
  go_wp2
  go_loopg [8, 9] 1 (fun _ v u wr => v = .string t.text ∧ u = .int .i64 1 ∧ wr = w1)
  case atStart => exact ⟨rfl, rfl, rfl⟩
  case round =>
    obtain ⟨rfl, rfl, rfl⟩ := hrel
    have hS := hst _ b1
    obtain ⟨G, cap, rfl, hc⟩ := hS.tokAt q ht1
    have c0 := hS.c0
    have c1 := hS.c1
    have u0 : wr.cell? ⟨G, q * 7, none⟩ = some (.int .i64 t1.kind) := hc 0 _ rfl
    have u1 := hc 1 _ rfl
    have u2 := hc 2 _ rfl
    have u3 := hc 3 _ rfl
    have u4 := hc 4 _ rfl
    have u5 := hc 5 _ rfl
    have u6 := hc 6 _ rfl
    have hlt : (q : Int) < (toks.length : Int) := by omega
    have hp0 : (0 : Int) ≤ (q : Int) := by omega
    have n0 := World.new_ne wr _ c0
    have n1 := World.new_ne wr _ u0
    have l0 := World.block_lt_of_cell? wr _ c0
    have l1 := World.block_lt_of_cell? wr _ u0
    simp only at l0 l1
    clear hc
    go_wp2
    go_region_held3 (fun w' => w'.cell? ⟨Y, 0, none⟩ = some (.slice (some ⟨G, 0, none⟩) toks.length cap) ∧ w'.cell? ⟨Y, 1, none⟩ = some (.int .i64 pos) ∧
      w'.cell? ⟨G, q * 7, none⟩ = some (.int .i64 t1.kind) ∧ w'.cell? ⟨G, q * 7 + 1, none⟩ = some (.string t1.text) ∧ w'.cell? ⟨G, q * 7 + 2, none⟩ = some (.int .i64 t1.value) ∧
      w'.cell? ⟨G, q * 7 + 3, none⟩ = some (.string t1.bytes) ∧ w'.cell? ⟨G, q * 7 + 4, none⟩ = some (.int .i64 t1.line) ∧ w'.cell? ⟨G, q * 7 + 5, none⟩ = some (.int .i64 t1.col) ∧ w'.cell? ⟨G, q * 7 + 6, none⟩ = some (.bool t1.joined)) (go_keep) (fail)
    go_wp2
    go_region_held3 (fun w' => w'.cell? ⟨Y, 0, none⟩ = some (.slice (some ⟨G, 0, none⟩) toks.length cap) ∧ w'.cell? ⟨Y, 1, none⟩ = some (.int .i64 pos) ∧
      w'.cell? ⟨G, q * 7, none⟩ = some (.int .i64 t1.kind) ∧ w'.cell? ⟨G, q * 7 + 1, none⟩ = some (.string t1.text) ∧ w'.cell? ⟨G, q * 7 + 2, none⟩ = some (.int .i64 t1.value) ∧
      w'.cell? ⟨G, q * 7 + 3, none⟩ = some (.string t1.bytes) ∧ w'.cell? ⟨G, q * 7 + 4, none⟩ = some (.int .i64 t1.line) ∧ w'.cell? ⟨G, q * 7 + 5, none⟩ = some (.int .i64 t1.col) ∧ w'.cell? ⟨G, q * 7 + 6, none⟩ = some (.bool t1.joined)) (go_keep) (fail)
    have hjj : t1.joined = false ∨ t1.joined = true := by cases t1.joined <;> simp
    rcases hjj with hj | hj
    · rw [hj]
      go_wp2
      refine bodyPost_ret (results_tmp2 rfl _ _ _) rfl ?_
      exact ⟨rfl, (b1.alloc b1.size _).drew.drew⟩
    · rw [hj]
      rcases hK with hK | ⟨hk4, hx4, rfl, hK⟩
      · rw [hj] at hK; cases hK
      rw [hk4, hx4]
      have lK := (Array.getElem?_eq_some_iff.1 hK).1
      have b2 := (b1.alloc b1.size (.cells #[.int .i64 4, .string ⟨#[58]⟩, .int .i64 t1.value, .string t1.bytes, .int .i64 t1.line, .int .i64 t1.col, .bool true] 111)).drew.drew
      have hK2 := (b2.block K lK).trans hK
      have xc := contains_colon hK2
      cases nu
      · go_wp2_with (go_at_call 161; refine xc.mono ?_; rintro r w2 ⟨rfl, rfl⟩)
        go_wp2
        refine bodyPost_ret (results_tmp2 rfl _ _ _) rfl ?_
        exact ⟨rfl, b2⟩
      · go_wp2_with (go_at_call 161; refine xc.mono ?_; rintro r w2 ⟨rfl, rfl⟩)
        go_wp2
        refine bodyPost_ret (results_tmp2 rfl _ _ _) rfl ?_
        exact ⟨rfl, b2⟩
end
end Go.Proofs.YtjnkppneilmpbaaGreatDoor

namespace Go.Proofs.YtjnkppneilmpbaaGreatDoor
open Go.RowKit

/-- A number, named without a rule to turn it. -/
def IsN (a b : Int) : Prop := a = b

theorem Tryz.sizePitch : (Tryz.prog.info? 69).map (·.size) = some 3 := by kernel_rfl
theorem Tryz.sizeValue : (Tryz.prog.info? 62).map (·.size) = some 2 := by kernel_rfl

section
variable {Y M : Nat} {tv : Value} {toks : List Tok} {pos : Nat} {line col e : Int} {free : Bool} {ls ln : Int} {es : Array MapEntry} {clk : Nat} {w : World} {t : Tok} {K : Nat}

theorem set3_self {w : World} {X : Nat} {cs : Array Value} {T : TypeId} (v0 v1 v2 : Value) (h : w.heap[X]? = some (.cells cs T (0, 0))) :
    (((w.setCell ⟨X, 0, none⟩ v0).setCell ⟨X, 1, none⟩ v1).setCell ⟨X, 2, none⟩ v2).heap[X]? = some (.cells (((cs.setIfInBounds 0 v0).setIfInBounds 1 v1).setIfInBounds 2 v2) T (0, 0)) :=
  Lib.heap_setCell_same (i := 2) (Lib.heap_setCell_same (i := 1) (Lib.heap_setCell_same (i := 0) h v0) v1) v2
theorem set2_self {w : World} {X : Nat} {cs : Array Value} {T : TypeId} (v0 v1 : Value) (h : w.heap[X]? = some (.cells cs T (0, 0))) :
    ((w.setCell ⟨X, 0, none⟩ v0).setCell ⟨X, 1, none⟩ v1).heap[X]? = some (.cells ((cs.setIfInBounds 0 v0).setIfInBounds 1 v1) T (0, 0)) :=
  Lib.heap_setCell_same (i := 1) (Lib.heap_setCell_same (i := 0) h v0) v1

set_option maxHeartbeats 8000000 in
set_option maxRecDepth 100000 in
theorem compose_pitch (h : Prs Y M tv toks pos line col 0 free ls ln es clk w) {tx : ByteArray} {a : Int} (hpos : pos ≤ 1048576)
    (hcm : ∀ w', Below w.heap.size w w' → Calls Tryz.prog 134 #[.pointer (some ⟨Y, 0, none⟩), .bool true, .slice (some ⟨K, 0, none⟩) 2 2] w' fun r w'' => r = .returned (.tuple #[.string tx, .int .i64 1]) ∧ Below w'.heap.size w' w'')
    (hf : ∀ w, Calls Tryz.prog 189 #[.string tx] w fun e w' => e = .returned (.tuple #[.agg #[.int .i64 a, .int .i64 0, .int .i64 4], .bool true]) ∧ Below w.heap.size w w') :
    Calls Tryz.prog 188 #[.pointer (some ⟨Y, 0, none⟩), .bool true, .int .i64 18, .func (.func 189) #[] #[], .bool true, .slice (some ⟨K, 0, none⟩) 2 2] w fun r w' =>
      r = .returned (.agg #[.int .i64 a, .int .i64 0, .int .i64 4]) ∧ Prs Y M tv toks (pos + 1) line col 0 free ls ln es clk w' ∧ Away [Y] w w' := by
  have b0 := ((Below.refl w.heap.size w).alloc (Nat.le_refl _) (.cells #[.int .i64 0, .int .i64 0, .int .i64 0] 69)).alloc (by simp) (.cells #[.int .i64 0, .int .i64 0, .int .i64 0] 69)
  have hR0 : ((w.alloc (.cells #[.int .i64 0, .int .i64 0, .int .i64 0] 69)).alloc (.cells #[.int .i64 0, .int .i64 0, .int .i64 0] 69)).heap[w.heap.size]? = some (.cells #[.int .i64 0, .int .i64 0, .int .i64 0] 69) := (Lib.alloc_old _ _ _ (by simp)).trans (heap_alloc_new w _)
  have xc := hcm _ b0
  have lY := h.lt
  have hw : IntKind.i64.wrap ((pos : Int) + 1) = (pos : Int) + 1 := IntWalk.i64_in _ (by omega)
  go_enter Tryz.func188, Tryz.ntmps188
  go_wp2_with (go_at_call 134; refine xc.mono ?_)
  intro r w1; first | (intro he b1; subst he) | rintro ⟨rfl, b1⟩
  have hR1 := (b1.block _ (Array.getElem?_eq_some_iff.1 hR0).1).trans hR0
  have bb1 := b0.trans (b1.mono b0.size)
  clear xc hcm b0 b1 hR0
  have xf := hf w1
  clear hf
  go_wp2_with (go_at_call 189; refine xf.mono ?_)
  intro r w2; first | (intro he b2; subst he) | rintro ⟨rfl, b2⟩
  have hR2 := (b2.block _ (Array.getElem?_eq_some_iff.1 hR1).1).trans hR1
  have bb2 := bb1.trans (b2.mono bb1.size)
  clear xf hR1 bb1 b2
  have hS2 := h.step bb2
  clear h
  have c1 := hS2.c1
  have f1 := hS2.fz 1
  have lY2 := hS2.lt
  have lR2 := (Array.getElem?_eq_some_iff.1 hR2).1
  have hRY : w.heap.size ≠ Y := by omega
  have hYR : Y ≠ w.heap.size := by omega
  have r0 : w2.cell? ⟨w.heap.size, 0, none⟩ = some (.int .i64 0) := by rw [Lib.cell_of_heap hR2]; rfl
  have fr0 := Lib.frozen_of_heap hR2 0
  have r1 : w2.cell? ⟨w.heap.size, 1, none⟩ = some (.int .i64 0) := by rw [Lib.cell_of_heap hR2]; rfl
  have fr1 := Lib.frozen_of_heap hR2 1
  have r2 : w2.cell? ⟨w.heap.size, 2, none⟩ = some (.int .i64 0) := by rw [Lib.cell_of_heap hR2]; rfl
  have fr2 := Lib.frozen_of_heap hR2 2
  have nY := World.new_ne w2 _ c1
  have nR := World.new_ne w2 _ r0
  have hP3 := hS2.put (pos' := pos + 1) (line' := line) (col' := col) (e' := 0) (ls' := ls) (ln' := ln) 1 (.int .i64 ((pos : Int) + 1)) (fun h => h) (by rw [show ((pos + 1 : Nat) : Int) = (pos : Int) + 1 by omega]; rfl)
  have hR3 := (Below.heap_setCell w2 ⟨Y, 1, none⟩ (.int .i64 ((pos : Int) + 1)) w.heap.size hRY).trans hR2
  have aw3 := (Away.of_below (bs := [Y]) bb2).setCell (p := ⟨Y, 1, none⟩) (.inl (by simp)) (.int .i64 ((pos : Int) + 1))
  go_wp2
  have q0 := hP3.elsewhere hR3 (by decide) (by decide) 0 (.int .i64 a)
  have s0 := Lib.heap_setCell_same (i := 0) hR3 (.int .i64 a)
  have q1 := q0.elsewhere s0 (by decide) (by decide) 1 (.int .i64 0)
  have s1 := Lib.heap_setCell_same (i := 1) s0 (.int .i64 0)
  have q2 := q1.elsewhere s1 (by decide) (by decide) 2 (.int .i64 4)
  have s2 := Lib.heap_setCell_same (i := 2) s1 (.int .i64 4)
  refine bodyPost_ret (results_cell_row rfl _ _ w.heap.size 69 _ (0, 0) _ rfl ((Lib.alloc_old _ _ _ (Array.getElem?_eq_some_iff.1 s2).1).trans s2) Tryz.underlying69 rfl Tryz.sizePitch) rfl ?_
  exact ⟨rfl, q2.step ((Below.refl _ _).alloc (Nat.le_refl _) _), ((((aw3.setCell (p := ⟨w.heap.size, 0, none⟩) (.inr (Nat.le_refl _)) (.int .i64 a)).setCell (p := ⟨w.heap.size, 1, none⟩) (.inr (Nat.le_refl _)) (.int .i64 0)).setCell (p := ⟨w.heap.size, 2, none⟩) (.inr (Nat.le_refl _)) (.int .i64 4))).alloc _⟩

set_option maxHeartbeats 8000000 in
set_option maxRecDepth 100000 in
theorem compose_value (h : Prs Y M tv toks pos line col 0 free ls ln es clk w) {tx : ByteArray} {a b : Int} (n : Nat) (hn : n ≤ 8) (hpos : pos ≤ 1048576)
    (hcm : ∀ w', Below w.heap.size w w' → Calls Tryz.prog 134 #[.pointer (some ⟨Y, 0, none⟩), .bool false, .slice (some ⟨K, 0, none⟩) 1 1] w' fun r w'' => r = .returned (.tuple #[.string tx, .int .i64 n]) ∧ Below w'.heap.size w' w'')
    (hf : ∀ w, Calls Tryz.prog 170 #[.string tx] w fun e w' => e = .returned (.tuple #[.agg #[.int .i64 a, .int .i64 b], .bool true]) ∧ Below w.heap.size w w') :
    Calls Tryz.prog 169 #[.pointer (some ⟨Y, 0, none⟩), .bool true, .int .i64 17, .func (.func 170) #[] #[], .bool false, .slice (some ⟨K, 0, none⟩) 1 1] w fun r w' =>
      r = .returned (.agg #[.int .i64 a, .int .i64 b]) ∧ Prs Y M tv toks (pos + n) line col 0 free ls ln es clk w' ∧ Away [Y] w w' := by
  have b0 := ((Below.refl w.heap.size w).alloc (Nat.le_refl _) (.cells #[.int .i64 0, .int .i64 0] 62)).alloc (by simp) (.cells #[.int .i64 0, .int .i64 0] 62)
  have hR0 : ((w.alloc (.cells #[.int .i64 0, .int .i64 0] 62)).alloc (.cells #[.int .i64 0, .int .i64 0] 62)).heap[w.heap.size]? = some (.cells #[.int .i64 0, .int .i64 0] 62) := (Lib.alloc_old _ _ _ (by simp)).trans (heap_alloc_new w _)
  have xc := hcm _ b0
  have lY := h.lt
  have hw : IntKind.i64.wrap ((pos : Int) + n) = (pos : Int) + n := IntWalk.i64_in _ (by omega)
  go_enter Tryz.func169, Tryz.ntmps169
  go_wp2_with (go_at_call 134; refine xc.mono ?_)
  intro r w1; first | (intro he b1; subst he) | rintro ⟨rfl, b1⟩
  have hR1 := (b1.block _ (Array.getElem?_eq_some_iff.1 hR0).1).trans hR0
  have bb1 := b0.trans (b1.mono b0.size)
  clear xc hcm b0 b1 hR0
  have xf := hf w1
  clear hf
  go_wp2_with (go_at_call 170; refine xf.mono ?_)
  intro r w2; first | (intro he b2; subst he) | rintro ⟨rfl, b2⟩
  have hR2 := (b2.block _ (Array.getElem?_eq_some_iff.1 hR1).1).trans hR1
  have bb2 := bb1.trans (b2.mono bb1.size)
  clear xf hR1 bb1 b2
  have hS2 := h.step bb2
  clear h
  have c1 := hS2.c1
  have f1 := hS2.fz 1
  have lY2 := hS2.lt
  have lR2 := (Array.getElem?_eq_some_iff.1 hR2).1
  have hRY : w.heap.size ≠ Y := by omega
  have hYR : Y ≠ w.heap.size := by omega
  have r0 : w2.cell? ⟨w.heap.size, 0, none⟩ = some (.int .i64 0) := by rw [Lib.cell_of_heap hR2]; rfl
  have fr0 := Lib.frozen_of_heap hR2 0
  have r1 : w2.cell? ⟨w.heap.size, 1, none⟩ = some (.int .i64 0) := by rw [Lib.cell_of_heap hR2]; rfl
  have fr1 := Lib.frozen_of_heap hR2 1
  have nY := World.new_ne w2 _ c1
  have nR := World.new_ne w2 _ r0
  have hP3 := hS2.put (pos' := pos + n) (line' := line) (col' := col) (e' := 0) (ls' := ls) (ln' := ln) 1 (.int .i64 ((pos : Int) + n)) (fun h => h) (by rw [show ((pos + n : Nat) : Int) = (pos : Int) + n by omega]; rfl)
  have hR3 := (Below.heap_setCell w2 ⟨Y, 1, none⟩ (.int .i64 ((pos : Int) + n)) w.heap.size hRY).trans hR2
  have aw3 := (Away.of_below (bs := [Y]) bb2).setCell (p := ⟨Y, 1, none⟩) (.inl (by simp)) (.int .i64 ((pos : Int) + n))
  go_wp2
  have q0 := hP3.elsewhere hR3 (by decide) (by decide) 0 (.int .i64 a)
  have s0 := Lib.heap_setCell_same (i := 0) hR3 (.int .i64 a)
  have q1 := q0.elsewhere s0 (by decide) (by decide) 1 (.int .i64 b)
  have s1 := Lib.heap_setCell_same (i := 1) s0 (.int .i64 b)
  refine bodyPost_ret (results_cell_row rfl _ _ w.heap.size 62 _ (0, 0) _ rfl ((Lib.alloc_old _ _ _ (Array.getElem?_eq_some_iff.1 s1).1).trans s1) Tryz.underlying62 rfl Tryz.sizeValue) rfl ?_
  exact ⟨rfl, q1.step ((Below.refl _ _).alloc (Nat.le_refl _) _), (((aw3.setCell (p := ⟨w.heap.size, 0, none⟩) (.inr (Nat.le_refl _)) (.int .i64 a)).setCell (p := ⟨w.heap.size, 1, none⟩) (.inr (Nat.le_refl _)) (.int .i64 b))).alloc _⟩

set_option maxHeartbeats 8000000 in
set_option maxRecDepth 100000 in
theorem pitch_ok (h : Prs Y M tv toks pos line col 0 free ls ln es clk w) (hpos : pos ≤ 1048576) (ht : toks[pos]? = some t) (hk : t.kind = 1) {c : UInt8} (hx : t.text = noteS c) (hc : NoteC c)
    {t1 : Tok} (ht1 : toks[pos + 1]? = some t1) (k1 : t1.kind = 4) (x1 : t1.text = ⟨#[58]⟩) :
    Calls Tryz.prog 168 #[.pointer (some ⟨Y, 0, none⟩)] w fun r w' => r = .returned (.agg #[.int .i64 (stepOf c), .int .i64 0, .int .i64 4]) ∧ Prs Y M tv toks (pos + 1) line col 0 free ls ln es clk w' ∧ Away [Y] w w' := by
  have hf := pitch_says hc
  generalize ha : stepOf c = a at hf ⊢
  have b0 := (Below.refl w.heap.size w).alloc (Nat.le_refl _) (.cells #[.int .i64 0, .int .i64 0, .int .i64 0] 69)
  have hR0 := heap_alloc_new w (.cells #[.int .i64 0, .int .i64 0, .int .i64 0] 69)
  have h0 := h.step b0
  have lY := h.lt
  have xi := isPitch_yes h0 ht hk c hx hc
  go_enter Tryz.func168, Tryz.ntmps168
  go_wp2_with (go_at_call 140; refine xi.mono ?_)
  intro r w1; first | (intro he b1; subst he) | rintro ⟨rfl, b1⟩
  have h1 := (h0.step b1).step ((Below.refl _ w1).alloc (Nat.le_refl _) (.cells #[.string ⟨#[35]⟩, .string ⟨#[45]⟩] 9))
  have hR1 := (b1.block _ (Array.getElem?_eq_some_iff.1 hR0).1).trans hR0
  have lR1 := (Array.getElem?_eq_some_iff.1 hR1).1
  have hR2 := (Lib.alloc_old w1 (.cells #[.string ⟨#[35]⟩, .string ⟨#[45]⟩] 9) _ lR1).trans hR1
  have bb := (b0.trans (b1.mono b0.size)).alloc ((b0.trans (b1.mono b0.size)).size) (.cells #[.string ⟨#[35]⟩, .string ⟨#[45]⟩] 9)
  have hK := heap_alloc_new w1 (.cells #[.string ⟨#[35]⟩, .string ⟨#[45]⟩] 9)
  have xc := compose_pitch (K := w1.heap.size) (tx := noteS c) (a := a) h1 hpos (fun w' b => hx ▸ composed_one (K := w1.heap.size) (h1.step b) ht ht1 hpos true 2 (.inr ⟨k1, x1, rfl, (b.block _ (by simp)).trans hK⟩)) hf
  clear xi h h0 b0 hR0 hf
  go_wp2_with (go_at_call 188; refine xc.mono ?_)
  intro r w2; first | (intro he hS b2; subst he) | rintro ⟨rfl, hS, b2⟩
  have hR3 := b2.heap hR2 (by simp; omega)
  have aw := (Away.of_below (bs := [Y]) bb).trans b2
  clear xc h1 hR1 hR2 b1 b2 bb hK lR1
  have r0 : w2.cell? ⟨w.heap.size, 0, none⟩ = some (.int .i64 0) := by rw [Lib.cell_of_heap hR3]; rfl
  have fr0 := Lib.frozen_of_heap hR3 0
  have r1 : w2.cell? ⟨w.heap.size, 1, none⟩ = some (.int .i64 0) := by rw [Lib.cell_of_heap hR3]; rfl
  have fr1 := Lib.frozen_of_heap hR3 1
  have r2 : w2.cell? ⟨w.heap.size, 2, none⟩ = some (.int .i64 0) := by rw [Lib.cell_of_heap hR3]; rfl
  have fr2 := Lib.frozen_of_heap hR3 2
  go_wp2
  have q0 := hS.elsewhere hR3 (by decide) (by decide) 0 (.int .i64 a)
  have s0 := Lib.heap_setCell_same (i := 0) hR3 (.int .i64 a)
  have q1 := q0.elsewhere s0 (by decide) (by decide) 1 (.int .i64 0)
  have s1 := Lib.heap_setCell_same (i := 1) s0 (.int .i64 0)
  have q2 := q1.elsewhere s1 (by decide) (by decide) 2 (.int .i64 4)
  have s2 := Lib.heap_setCell_same (i := 2) s1 (.int .i64 4)
  refine bodyPost_ret (results_cell_row rfl _ _ w.heap.size 69 _ (0, 0) _ rfl s2 Tryz.underlying69 rfl Tryz.sizePitch) rfl ?_
  exact ⟨rfl, q2, ((aw.setCell (p := ⟨w.heap.size, 0, none⟩) (.inr (Nat.le_refl _)) (.int .i64 a)).setCell (p := ⟨w.heap.size, 1, none⟩) (.inr (Nat.le_refl _)) (.int .i64 0)).setCell (p := ⟨w.heap.size, 2, none⟩) (.inr (Nat.le_refl _)) (.int .i64 4)⟩

set_option maxHeartbeats 8000000 in
set_option maxRecDepth 100000 in
theorem value_gen (h : Prs Y M tv toks pos line col 0 free ls ln es clk w) (hpos : pos ≤ 1048576) (ht : toks[pos]? = some t) (hk : t.kind = 2) {tx : ByteArray} (hx : tx = ⟨#[52]⟩) (n : Nat) (hn : n ≤ 8)
    (hcm : ∀ (K : Nat) w', Prs Y M tv toks pos line col 0 free ls ln es clk w' → w'.heap[K]? = some dotRow → Calls Tryz.prog 134 #[.pointer (some ⟨Y, 0, none⟩), .bool false, .slice (some ⟨K, 0, none⟩) 1 1] w' fun r w'' => r = .returned (.tuple #[.string tx, .int .i64 n]) ∧ Below w'.heap.size w' w'') :
    Calls Tryz.prog 145 #[.pointer (some ⟨Y, 0, none⟩)] w fun r w' => r = .returned (.agg #[.int .i64 2, .int .i64 0]) ∧ Prs Y M tv toks (pos + n) line col 0 free ls ln es clk w' ∧ Away [Y] w w' := by
  have hf := value_says hx
  obtain ⟨a, ha⟩ : ∃ a : Int, IsN a 2 := ⟨_, rfl⟩
  obtain ⟨b, hb⟩ : ∃ b : Int, IsN b 0 := ⟨_, rfl⟩
  rw [show (2 : Int) = a from ha.symm, show (0 : Int) = b from hb.symm] at hf
  have b0 := (Below.refl w.heap.size w).alloc (Nat.le_refl _) (.cells #[.int .i64 0, .int .i64 0] 62)
  have hR0 := heap_alloc_new w (.cells #[.int .i64 0, .int .i64 0] 62)
  have h0 := h.step b0
  have lY := h.lt
  have xi := peek_ok h0 ht
  rw [hk] at xi
  have hfd := field0_run 2 (.string t.text) (.int .i64 t.value) (.string t.bytes) (.int .i64 t.line) (.int .i64 t.col) (.bool t.joined)
  go_enter Tryz.func145, Tryz.ntmps145
  go_wp2_with (go_at_call 33; refine xi.mono ?_)
  intro r w1; first | (intro he b1; subst he) | rintro ⟨rfl, b1⟩
  have h1 := (h0.step b1).step ((Below.refl _ w1).alloc (Nat.le_refl _) (.cells #[.string ⟨#[46]⟩] 9))
  have hR1 := (b1.block _ (Array.getElem?_eq_some_iff.1 hR0).1).trans hR0
  have lR1 := (Array.getElem?_eq_some_iff.1 hR1).1
  have hR2 := (Lib.alloc_old w1 (.cells #[.string ⟨#[46]⟩] 9) _ lR1).trans hR1
  have bb := (b0.trans (b1.mono b0.size)).alloc ((b0.trans (b1.mono b0.size)).size) (.cells #[.string ⟨#[46]⟩] 9)
  have hK := heap_alloc_new w1 (.cells #[.string ⟨#[46]⟩] 9)
  have xc := compose_value (K := w1.heap.size) (tx := tx) (a := a) (b := b) h1 n hn hpos (fun w' b => hcm w1.heap.size w' (h1.step b) ((b.block _ (by simp)).trans hK)) hf
  clear xi h h0 b0 hR0 hf hcm
  go_wp2_with (go_at_call 169; refine xc.mono ?_)
  intro r w2; first | (intro he hS b2; subst he) | rintro ⟨rfl, hS, b2⟩
  have hR3 := b2.heap hR2 (by simp; omega)
  have aw := (Away.of_below (bs := [Y]) bb).trans b2
  clear xc h1 hR1 hR2 b1 b2 bb hK lR1
  have r0 : w2.cell? ⟨w.heap.size, 0, none⟩ = some (.int .i64 0) := by rw [Lib.cell_of_heap hR3]; rfl
  have fr0 := Lib.frozen_of_heap hR3 0
  have r1 : w2.cell? ⟨w.heap.size, 1, none⟩ = some (.int .i64 0) := by rw [Lib.cell_of_heap hR3]; rfl
  have fr1 := Lib.frozen_of_heap hR3 1
  go_wp2
  have q0 := hS.elsewhere hR3 (by decide) (by decide) 0 (.int .i64 a)
  have s0 := Lib.heap_setCell_same (i := 0) hR3 (.int .i64 a)
  have q1 := q0.elsewhere s0 (by decide) (by decide) 1 (.int .i64 b)
  have s1 := Lib.heap_setCell_same (i := 1) s0 (.int .i64 b)
  refine bodyPost_ret (results_cell_row rfl _ _ w.heap.size 62 _ (0, 0) _ rfl s1 Tryz.underlying62 rfl Tryz.sizeValue) rfl ?_
  exact ⟨by rw [show a = 2 from ha, show b = 0 from hb]; rfl, q1, (aw.setCell (p := ⟨w.heap.size, 0, none⟩) (.inr (Nat.le_refl _)) (.int .i64 a)).setCell (p := ⟨w.heap.size, 1, none⟩) (.inr (Nat.le_refl _)) (.int .i64 b)⟩

/-- A value without a dot. -/
theorem value_plain (h : Prs Y M tv toks pos line col 0 free ls ln es clk w) (hpos : pos ≤ 1048576) (ht : toks[pos]? = some t) (hk : t.kind = 2) (hx : t.text = ⟨#[52]⟩)
    {t1 : Tok} (ht1 : toks[pos + 1]? = some t1) (j1 : t1.joined = false) :
    Calls Tryz.prog 145 #[.pointer (some ⟨Y, 0, none⟩)] w fun r w' => r = .returned (.agg #[.int .i64 2, .int .i64 0]) ∧ Prs Y M tv toks (pos + 1) line col 0 free ls ln es clk w' ∧ Away [Y] w w' :=
  value_gen h hpos ht hk (tx := t.text) hx 1 (by omega) fun K w' hS _ => composed_one hS ht ht1 hpos false 1 (.inl j1)

end
end Go.Proofs.YtjnkppneilmpbaaGreatDoor

namespace Go.Proofs.YtjnkppneilmpbaaGreatDoor
open Go.RowKit

theorem Tryz.sizeHead : (Tryz.prog.info? 71).map (·.size) = some 5 := by kernel_rfl


def zHead : Obj := .cells #[.int .i64 0, .int .i64 0, .int .i64 0, .bool false, .int .i64 0] 71 (0, 0)
/-- The cells of a block of five. -/
theorem five_cells {w : World} {X : Nat} {c0 c1 c2 c3 c4 : Value} {T : TypeId} (h : w.heap[X]? = some (.cells #[c0, c1, c2, c3, c4] T (0, 0))) :
    (w.cell? ⟨X, 0, none⟩ = some c0 ∧ w.cell? ⟨X, 1, none⟩ = some c1 ∧ w.cell? ⟨X, 2, none⟩ = some c2 ∧ w.cell? ⟨X, 3, none⟩ = some c3 ∧ w.cell? ⟨X, 4, none⟩ = some c4) ∧
    (w.frozen? ⟨X, 0, none⟩ = false ∧ w.frozen? ⟨X, 1, none⟩ = false ∧ w.frozen? ⟨X, 2, none⟩ = false ∧ w.frozen? ⟨X, 3, none⟩ = false ∧ w.frozen? ⟨X, 4, none⟩ = false) := by
  refine ⟨⟨?_, ?_, ?_, ?_, ?_⟩, Lib.frozen_of_heap h 0, Lib.frozen_of_heap h 1, Lib.frozen_of_heap h 2, Lib.frozen_of_heap h 3, Lib.frozen_of_heap h 4⟩ <;> (rw [Lib.cell_of_heap h]; rfl)

def fill5 (w : World) (X : Nat) (v0 v1 v2 v3 v4 : Value) : World :=
  ((((w.setCell ⟨X, 0, none⟩ v0).setCell ⟨X, 1, none⟩ v1).setCell ⟨X, 2, none⟩ v2).setCell ⟨X, 3, none⟩ v3).setCell ⟨X, 4, none⟩ v4

theorem fill5_other (w : World) (X : Nat) (v0 v1 v2 v3 v4 : Value) (k : Nat) (hk : k ≠ X) : (fill5 w X v0 v1 v2 v3 v4).heap[k]? = w.heap[k]? := by
  unfold fill5
  rw [Below.heap_setCell _ ⟨X, 4, none⟩ _ k hk, Below.heap_setCell _ ⟨X, 3, none⟩ _ k hk, Below.heap_setCell _ ⟨X, 2, none⟩ _ k hk, Below.heap_setCell _ ⟨X, 1, none⟩ _ k hk, Below.heap_setCell _ ⟨X, 0, none⟩ _ k hk]
theorem fill5_self {w : World} {X : Nat} {c0 c1 c2 c3 c4 : Value} {T : TypeId} (v0 v1 v2 v3 v4 : Value) (h : w.heap[X]? = some (.cells #[c0, c1, c2, c3, c4] T (0, 0))) : (fill5 w X v0 v1 v2 v3 v4).heap[X]? = some (.cells #[v0, v1, v2, v3, v4] T (0, 0)) := by
  unfold fill5
  have := Lib.heap_setCell_same (i := 4) (Lib.heap_setCell_same (i := 3) (Lib.heap_setCell_same (i := 2) (Lib.heap_setCell_same (i := 1) (Lib.heap_setCell_same (i := 0) h v0) v1) v2) v3) v4
  rw [this]; rfl
theorem fill5_away {bs : List Nat} {a w : World} {X : Nat} (h : Away bs a w) (hX : a.heap.size ≤ X) (v0 v1 v2 v3 v4 : Value) : Away bs a (fill5 w X v0 v1 v2 v3 v4) :=
  ((((h.setCell (p := ⟨X, 0, none⟩) (.inr hX) v0).setCell (p := ⟨X, 1, none⟩) (.inr hX) v1).setCell (p := ⟨X, 2, none⟩) (.inr hX) v2).setCell (p := ⟨X, 3, none⟩) (.inr hX) v3).setCell (p := ⟨X, 4, none⟩) (.inr hX) v4

def tildeS : ByteArray := ⟨#[126]⟩
def bangS : ByteArray := ⟨#[33]⟩
def askS : ByteArray := ⟨#[63]⟩

section
variable {Y M : Nat} {tv : Value} {toks : List Tok} {pos : Nat} {line col e : Int} {free : Bool} {ls ln : Int} {es : Array MapEntry} {clk : Nat} {w : World} {t : Tok}

theorem Prs.fill5 (h : Prs Y M tv toks pos line col e free ls ln es clk w) {X : Nat} {c0 c1 c2 c3 c4 : Value} {T : TypeId} (v0 v1 v2 v3 v4 : Value) (hk : w.heap[X]? = some (.cells #[c0, c1, c2, c3, c4] T (0, 0))) (hT : T ≠ 99) (hT2 : T ≠ 111) :
    Prs Y M tv toks pos line col e free ls ln es clk (fill5 w X v0 v1 v2 v3 v4) :=
  ((((h.elsewhere hk hT hT2 0 v0).elsewhere (Lib.heap_setCell_same hk _) hT hT2 1 v1).elsewhere (Lib.heap_setCell_same (Lib.heap_setCell_same hk _) _) hT hT2 2 v2).elsewhere (Lib.heap_setCell_same (Lib.heap_setCell_same (Lib.heap_setCell_same hk _) _) _) hT hT2 3 v3).elsewhere (Lib.heap_setCell_same (Lib.heap_setCell_same (Lib.heap_setCell_same (Lib.heap_setCell_same hk _) _) _) _) hT hT2 4 v4

set_option maxHeartbeats 16000000 in
set_option maxRecDepth 100000 in
theorem head_ok (h : Prs Y M tv toks pos line col 0 free ls ln es clk w) (hpos : pos ≤ 1048576) (ht : toks[pos]? = some t) (hk : t.kind = 1) {c : UInt8} (hx : t.text = noteS c) (hc : NoteC c)
    {t1 : Tok} (ht1 : toks[pos + 1]? = some t1) (k1 : t1.kind = 4) (x1 : t1.text = ⟨#[58]⟩) :
    Calls Tryz.prog 144 #[.pointer (some ⟨Y, 0, none⟩)] w fun r w' => r = .returned (.agg #[.int .i64 (stepOf c), .int .i64 0, .int .i64 4, .bool false, .int .i64 0]) ∧ Prs Y M tv toks (pos + 1) line col 0 free ls ln es clk w' ∧ Away [Y] w w' := by
  have hpi : ∀ w', Below w.heap.size w w' → Calls Tryz.prog 168 #[.pointer (some ⟨Y, 0, none⟩)] w' fun r w'' => r = .returned (.agg #[.int .i64 (stepOf c), .int .i64 0, .int .i64 4]) ∧ Prs Y M tv toks (pos + 1) line col 0 free ls ln es clk w'' ∧ Away [Y] w' w'' :=
    fun w' b => pitch_ok (h.step b) hpos ht hk hx hc ht1 k1 x1
  have hno : ∀ tx : ByteArray, tx ≠ ⟨#[58]⟩ → IsTok t1 tx = false := fun tx hn => by simp [IsTok, k1, x1, Ne.symm hn]
  have hac : ∀ (tx : ByteArray), tx ≠ ⟨#[58]⟩ → ∀ w', Prs Y M tv toks (pos + 1) line col 0 free ls ln es clk w' → Calls Tryz.prog 27 #[.pointer (some ⟨Y, 0, none⟩), .string tx] w' fun r w'' => r = .returned (.bool false) ∧ Below w'.heap.size w' w'' :=
    fun tx hn w' h' => accept_no h' ht1 tx (hno tx hn)
  have ht1' := hac ⟨#[126]⟩ (by decide)
  have ht2' := hac ⟨#[33]⟩ (by decide)
  have ht3' := hac ⟨#[63]⟩ (by decide)
  have lY := h.lt
  generalize stepOf c = a at hpi ⊢
  clear hno hac ht ht1 hx hc
  go_enter Tryz.func144, Tryz.ntmps144
  go_wp2
  have hR0 := heap_alloc_new w (.cells #[.int .i64 0, .int .i64 0, .int .i64 0, .bool false, .int .i64 0] 71)
  have b0 := (Below.refl w.heap.size w).alloc (Nat.le_refl _) (.cells #[.int .i64 0, .int .i64 0, .int .i64 0, .bool false, .int .i64 0] 71)
  have hX1 : (((w.alloc zHead).drew).alloc zHead).heap[w.heap.size + 1]? = some zHead := by
    have := heap_alloc_new ((w.alloc zHead).drew) zHead
    simpa using this
  have hR0Y : w.heap.size ∉ [Y] := by simp; omega
  have hX1Y : w.heap.size + 1 ∉ [Y] := by simp; omega
  have hmem : ∀ w' : World, Away [Y] (((w.alloc zHead).drew).alloc zHead) w' → w'.heap[w.heap.size + 1]? = some zHead := fun w' ha => ha.heap hX1 hX1Y
  have hmem2 : ∀ w1 w' : World, Below (w1.alloc zHead).heap.size (w1.alloc zHead) w' → w'.heap[w1.heap.size]? = some zHead := fun w1 w' hb => (hb.block _ (by simp)).trans (heap_alloc_new w1 _)
  go_cut [3] from 4 (fun s3 wc => ∃ X, s3 = .pointer (some ⟨X, 0, none⟩) ∧ w.heap.size < X ∧ wc.heap[X]? = some (.cells #[.int .i64 a, .int .i64 0, .int .i64 4, .bool false, .int .i64 0] 71 (0, 0)) ∧
      wc.heap[w.heap.size]? = some (.cells #[.int .i64 0, .int .i64 0, .int .i64 0, .bool false, .int .i64 0] 71 (0, 0)) ∧ Prs Y M tv toks (pos + 1) line col 0 free ls ln es clk wc ∧ Away [Y] w wc)
  case first =>
    go_region_held3 (fun _ => True) (trivial) (first
      | (go_at_call 168; refine (hpi _ (by first | exact b0.drew | exact b0.drew.alloc (by simp) _)).mono ?_; rintro r w1 ⟨rfl, hS, ha⟩; try have hx1 := hmem w1 ha)
      | (go_at_call 27; refine (ht1' _ (by first | exact hS | exact hS.step ((Below.refl _ _).alloc (Nat.le_refl _) _))).mono ?_; rintro r w2 ⟨rfl, b2⟩; (first | (have hx := (b2.block _ (Array.getElem?_eq_some_iff.1 hx1).1).trans hx1; obtain ⟨⟨q0, q1, q2, q3, q4⟩, r0, r1, r2, r3, r4⟩ := five_cells hx) | (have hx := hmem2 _ _ b2; obtain ⟨⟨q0, q1, q2, q3, q4⟩, r0, r1, r2, r3, r4⟩ := five_cells hx) | skip)))
    · go_wp2
      go_meet
      case rel =>
        have hS2 := hS.step b2
        have aw := ((Away.of_below (bs := [Y]) b0.drew).trans ha).step b2
        have hRw := (b2.block _ (Array.getElem?_eq_some_iff.1 (ha.heap hR0 hR0Y)).1).trans (ha.heap hR0 hR0Y)
        have hl := (Array.getElem?_eq_some_iff.1 hRw).1
        exact ⟨w2.heap.size, rfl, hl, heap_alloc_new w2 _, (Lib.alloc_old w2 _ _ hl).trans hRw, hS2.step ((Below.refl _ _).alloc (Nat.le_refl _) _), aw.alloc _⟩
    · go_wp2
      go_meet
      case rel =>
        have hS2 := (hS.step ((Below.refl _ _).alloc (Nat.le_refl _) zHead)).step b2
        have aw := (((Away.of_below (bs := [Y]) b0.drew).trans ha).alloc zHead).step b2
        have hR1 := ha.heap hR0 hR0Y
        have hl := (Array.getElem?_eq_some_iff.1 hR1).1
        have hRw := (b2.block _ (by simp; omega)).trans ((Lib.alloc_old w1 zHead _ hl).trans hR1)
        exact ⟨w1.heap.size, rfl, hl, fill5_self _ _ _ _ _ hx, (fill5_other w2 w1.heap.size _ _ _ _ _ _ (by omega)).trans hRw, hS2.fill5 _ _ _ _ _ hx (by decide) (by decide), fill5_away aw (by omega) _ _ _ _ _⟩
    · go_wp2
      go_meet
      case rel =>
        have hS2 := hS.step b2
        have aw := ((Away.of_below (bs := [Y]) (b0.drew.alloc (by simp) zHead)).trans ha).step b2
        have hR1 := ha.heap ((Lib.alloc_old (w.alloc zHead).drew zHead w.heap.size (by simp)).trans hR0) hR0Y
        have hRw := (b2.block _ (Array.getElem?_eq_some_iff.1 hR1).1).trans hR1
        exact ⟨w.heap.size + 1, rfl, by omega, fill5_self _ _ _ _ _ hx, (fill5_other w2 (w.heap.size + 1) _ _ _ _ _ _ (by omega)).trans hRw, hS2.fill5 _ _ _ _ _ hx (by decide) (by decide), fill5_away aw (by omega) _ _ _ _ _⟩
  case rest =>
    obtain ⟨X, rfl, hRX, hX, hR, hS, aw⟩ := hcut
    have x2 := ht2' _ hS
    clear hpi ht1' ht2' hR0 b0 hX1 hX1Y hmem hmem2
    go_wp2_with (go_at_call 27; refine x2.mono ?_)
    intro r w3; first | (intro he3 b3; subst he3) | rintro ⟨rfl, b3⟩
    have hS3 := hS.step b3
    have x3 := ht3' _ hS3
    have hX3 := (b3.block _ (Array.getElem?_eq_some_iff.1 hX).1).trans hX
    have hR3 := (b3.block _ (Array.getElem?_eq_some_iff.1 hR).1).trans hR
    have aw3 := aw.step b3
    clear x2 hS hX hR aw b3 ht3'
    go_wp2_with (go_at_call 27; refine x3.mono ?_)
    intro r w4; first | (intro he4 b4; subst he4) | rintro ⟨rfl, b4⟩
    have hS4 := hS3.step b4
    have hX4 := (b4.block _ (Array.getElem?_eq_some_iff.1 hX3).1).trans hX3
    have hR4 := (b4.block _ (Array.getElem?_eq_some_iff.1 hR3).1).trans hR3
    have aw4 := aw3.step b4
    clear x3 hS3 hX3 hR3 aw3 b4
    obtain ⟨⟨p0, p1, p2, p3, p4⟩, -⟩ := five_cells hX4
    obtain ⟨⟨q0, q1, q2, q3, q4⟩, r0, r1, r2, r3, r4⟩ := five_cells hR4
    have hXR : X ≠ w.heap.size := by omega
    go_wp2
    have hf := fill5_self (.int .i64 a) (.int .i64 0) (.int .i64 4) (.bool false) (.int .i64 0) hR4
    refine bodyPost_ret (results_cell_row rfl _ _ w.heap.size 71 _ (0, 0) _ rfl hf Tryz.underlying71 rfl Tryz.sizeHead) rfl ?_
    exact ⟨rfl, hS4.fill5 _ _ _ _ _ hR4 (by decide) (by decide), fill5_away aw4 (Nat.le_refl _) _ _ _ _ _⟩
end
end Go.Proofs.YtjnkppneilmpbaaGreatDoor
