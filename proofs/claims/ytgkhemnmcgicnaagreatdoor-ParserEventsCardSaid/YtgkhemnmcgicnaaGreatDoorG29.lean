/- Towards the law ParserEvents, true for every text (no condition): one part of the proof. -/
import Derived.Test.YtgkhemnmcgicnaaGreatDoorG01
import Derived.Test.YtgkhemnmcgicnaaGreatDoorG28
namespace Go.Proofs.YtgkhemnmcgicnaaGreatDoor
set_option maxHeartbeats 16000000
set_option maxRecDepth 100000
open Go.RowKit
theorem setObj_run {M : Nat} {es : Array MapEntry} {clk : Nat} {w : World} (o : Obj) (h : w.heap[M]? = some (.map es clk)) : (setObj M o).run Tryz.prog w = .ok () { w with heap := w.heap.setIfInBounds M o } := by
 simp [setObj, Sem.run, h]
theorem getObj_run {M : Nat} {es : Array MapEntry} {clk : Nat} {w : World} (h : w.heap[M]? = some (.map es clk)) : (getObj M).run Tryz.prog w = .ok (.map es clk) w := by
 simp [getObj, Sem.run, h]
theorem ck_str (b : Bool) (k : ByteArray) (w : World) : (Instr.checkKey b 10000 9 (.string k)).run Tryz.prog w = .ok () w := by
 show (Instr.checkKey b (9999 + 1) 9 (.string k)).run Tryz.prog w = .ok () w
 unfold Instr.checkKey
 simp [Sem.run_bind, run_underlying Tryz.underlying9, Result.andThen]
theorem find_str (k : ByteArray) {es : List MapEntry} {r : Option (Nat × Value)} (h : Instr.findNow .string (.string k) es 0 = some r) (w : World) : (Instr.findKey 9 (.string k) es).run Tryz.prog w = .ok r w := by
 unfold Instr.findKey
 simp [Sem.run_bind, run_underlying Tryz.underlying9, Result.andThen, h]
theorem look_str_yes {M : Nat} {es : Array MapEntry} {clk : Nat} {w : World} (h : w.heap[M]? = some (.map es clk)) (k : ByteArray) {i : Nat} {v : Value} (hf : Instr.findNow .string (.string k) es.toList 0 = some (some (i, v))) :
  (Instr.lookup 164 (.map (some M)) (.string k) true).run Tryz.prog w = .ok (.tuple #[v, .bool true]) w := by
 unfold Instr.lookup
 simp only [Sem.run_bind, run_underlying Tryz.underlying164, Result.andThen_ok, getObj_run h, Sem.run_pure, ck_str, find_str k hf, if_true]
theorem put_str_at {M : Nat} {es : Array MapEntry} {clk : Nat} {w : World} (h : w.heap[M]? = some (.map es clk)) (k : ByteArray) (v : Value) (hf : Instr.findNow .string (.string k) es.toList 0 = some none) :
  (Instr.mapUpdate 164 (.map (some M)) (.string k) v).run Tryz.prog w = .ok () { w with heap := w.heap.setIfInBounds M (.map (es.push ⟨.string k, v, clk⟩) (clk + 1)) } := by
 unfold Instr.mapUpdate
 simp only [Sem.run_bind, run_underlying Tryz.underlying164, Result.andThen_ok, getObj_run h, ck_str, find_str k hf]
 rw [setObj_run _ h]
def evC (i0 i1 kd lg dt : Int) (hv gv : Value) (A : A5) (lv : Value) : Array Value := #[I i0, I i1, I kd, I lg, I dt, hv, gv, I A.ar, I A.orn, I A.dy, lv, I A.st, I A.be]
section
variable {w : World}
theorem or_facts : ((List.range 5).all fun i => (rangeI (2 ^ i)).all fun a => decide (bits BinOp.or IntKind.i64 a (IntKind.i64.wrap (2 ^ i)) = a + 2 ^ i)) = true := by decide +kernel
theorem or_fact {i : Nat} {a : Int} (hi : i < 5) (h0 : 0 <= a) (h1 : a < 2 ^ i) : bits BinOp.or IntKind.i64 a (IntKind.i64.wrap (2 ^ i)) = a + 2 ^ i :=
 of_decide_eq_true (List.all_eq_true.1 (List.all_eq_true.1 or_facts i (List.mem_range.2 hi)) a (mem_rangeI h0 (by
  have : ((2 ^ i : Nat) : Int) = (2 : Int) ^ i := by simp
  omega)))
def setOff (i : Nat) : Nat := if 20 <= i then 12 else if 18 <= i then 11 else if 9 <= i then 9 else if 5 <= i then 8 else 7
def setVal (A : A5) (i : Nat) : Int := if 20 <= i then (i : Int) - 19 else if 18 <= i then (i : Int) - 17 else if 9 <= i then (i : Int) - 8 else if 5 <= i then (i : Int) - 4 else A.ar + 2 ^ i
theorem setA_cells (i0 i1 kd lg dt : Int) (hv gv lv : Value) (A : A5) (i : Nat) : (evC i0 i1 kd lg dt hv gv A lv).setIfInBounds (setOff i) (I (setVal A i)) = evC i0 i1 kd lg dt hv gv (setA A i) lv := by
 unfold setOff setVal setA evC
 repeat' split
 all_goals rfl
theorem set_walk {E : Nat} {i0 i1 kd lg dt : Int} {hv gv lv : Value} {A : A5} (hE : w.heap[E]? = some (.cells (evC i0 i1 kd lg dt hv gv A lv) 31 (0, 0))) (i : Nat) (hi : i < 22) (hA : i < 5 -> 0 <= A.ar /\ A.ar < 2 ^ i) :
  Calls Tryz.prog 110 #[.pointer (some ⟨E, 0, none⟩), I (i : Nat)] w fun r w' => r = .returned (.tuple #[]) /\ w'.heap = (w.setCell ⟨E, setOff i, none⟩ (I (setVal A i))).heap /\ Away [E] w w' := by
 have f5 := Lib.frozen_of_heap hE 7
 have f6 := Lib.frozen_of_heap hE 8
 have f7 := Lib.frozen_of_heap hE 9
 have f11 := Lib.frozen_of_heap hE 11
 have f12 := Lib.frozen_of_heap hE 12
 have c7 : w.cell? ⟨E, 7, none⟩ = some (I A.ar) := by rw [Lib.cell_of_heap hE]; rfl
 have c8 : w.cell? ⟨E, 8, none⟩ = some (I A.orn) := by rw [Lib.cell_of_heap hE]; rfl
 have c9 : w.cell? ⟨E, 9, none⟩ = some (I A.dy) := by rw [Lib.cell_of_heap hE]; rfl
 have c11 : w.cell? ⟨E, 11, none⟩ = some (I A.st) := by rw [Lib.cell_of_heap hE]; rfl
 have c12 : w.cell? ⟨E, 12, none⟩ = some (I A.be) := by rw [Lib.cell_of_heap hE]; rfl
 have aw := fun o v => (Away.refl [E] w).setCell (p := ⟨E, o, none⟩) (.inl (by simp)) v
 have hi0 : (0 : Int) <= (i : Int) := by omega
 clear hE
 by_cases h20 : 20 <= i
 ·have e1 : setOff i = 12 := by unfold setOff; rw [if_pos h20]
  have e2 : setVal A i = (i : Int) - 19 := by unfold setVal; rw [if_pos h20]
  rw [e1, e2]
  have g1 : (20 : Int) <= (i : Int) := by omega
  have m1 : IntKind.i64.wrap ((i : Int) - 20) = (i : Int) - 20 := IntWalk.i64_in _ (by omega)
  have m2 : IntKind.i64.wrap ((i : Int) - 20 + 1) = (i : Int) - 19 := by rw [show (i : Int) - 20 + 1 = (i : Int) - 19 by omega]; exact IntWalk.i64_in _ (by omega)
  go_enter Tryz.func110, Tryz.ntmps110
  go_wp2
  go_end0
  exact ⟨rfl, rfl, aw _ _⟩
 by_cases h18 : 18 <= i
 ·have e1 : setOff i = 11 := by unfold setOff; rw [if_neg h20, if_pos h18]
  have e2 : setVal A i = (i : Int) - 17 := by unfold setVal; rw [if_neg h20, if_pos h18]
  rw [e1, e2]
  have g0 : ¬ (20 : Int) <= (i : Int) := by omega
  have g1 : (18 : Int) <= (i : Int) := by omega
  have m1 : IntKind.i64.wrap ((i : Int) - 18) = (i : Int) - 18 := IntWalk.i64_in _ (by omega)
  have m2 : IntKind.i64.wrap ((i : Int) - 18 + 1) = (i : Int) - 17 := by rw [show (i : Int) - 18 + 1 = (i : Int) - 17 by omega]; exact IntWalk.i64_in _ (by omega)
  go_enter Tryz.func110, Tryz.ntmps110
  go_wp2
  go_end0
  exact ⟨rfl, rfl, aw _ _⟩
 by_cases h9 : 9 <= i
 ·have e1 : setOff i = 9 := by unfold setOff; rw [if_neg h20, if_neg h18, if_pos h9]
  have e2 : setVal A i = (i : Int) - 8 := by unfold setVal; rw [if_neg h20, if_neg h18, if_pos h9]
  rw [e1, e2]
  have g0 : ¬ (20 : Int) <= (i : Int) := by omega
  have g1 : ¬ (18 : Int) <= (i : Int) := by omega
  have g2 : (9 : Int) <= (i : Int) := by omega
  have m1 : IntKind.i64.wrap ((i : Int) - 9) = (i : Int) - 9 := IntWalk.i64_in _ (by omega)
  have m2 : IntKind.i64.wrap ((i : Int) - 9 + 1) = (i : Int) - 8 := by rw [show (i : Int) - 9 + 1 = (i : Int) - 8 by omega]; exact IntWalk.i64_in _ (by omega)
  go_enter Tryz.func110, Tryz.ntmps110
  go_wp2
  go_end0
  exact ⟨rfl, rfl, aw _ _⟩
 by_cases h5 : 5 <= i
 ·have e1 : setOff i = 8 := by unfold setOff; rw [if_neg h20, if_neg h18, if_neg h9, if_pos h5]
  have e2 : setVal A i = (i : Int) - 4 := by unfold setVal; rw [if_neg h20, if_neg h18, if_neg h9, if_pos h5]
  rw [e1, e2]
  have g0 : ¬ (20 : Int) <= (i : Int) := by omega
  have g1 : ¬ (18 : Int) <= (i : Int) := by omega
  have g2 : ¬ (9 : Int) <= (i : Int) := by omega
  have g3 : (5 : Int) <= (i : Int) := by omega
  have m1 : IntKind.i64.wrap ((i : Int) - 5) = (i : Int) - 5 := IntWalk.i64_in _ (by omega)
  have m2 : IntKind.i64.wrap ((i : Int) - 5 + 1) = (i : Int) - 4 := by rw [show (i : Int) - 5 + 1 = (i : Int) - 4 by omega]; exact IntWalk.i64_in _ (by omega)
  go_enter Tryz.func110, Tryz.ntmps110
  go_wp2
  go_end0
  exact ⟨rfl, rfl, aw _ _⟩
 ·have e1 : setOff i = 7 := by unfold setOff; rw [if_neg h20, if_neg h18, if_neg h9, if_neg h5]
  have e2 : setVal A i = A.ar + 2 ^ i := by unfold setVal; rw [if_neg h20, if_neg h18, if_neg h9, if_neg h5]
  rw [e1, e2]
  obtain ⟨a0, a1⟩ := hA (by omega)
  have ho := or_fact (by omega : i < 5) a0 a1
  have hi5 : i = 0 \/ i = 1 \/ i = 2 \/ i = 3 \/ i = 4 := by omega
  clear e1 e2 h20 h18 h9 h5
  have aw' := (aw 7 (I (A.ar + 2 ^ i))).drew
  clear aw
  rcases hi5 with rfl | rfl | rfl | rfl | rfl
  all_goals simp only [Int.reducePow] at ho aw' ⊢
  all_goals go_enter Tryz.func110, Tryz.ntmps110
  all_goals go_wp2
  all_goals go_region_with (fail)
  all_goals go_wp2
  all_goals go_end0
  all_goals exact ⟨rfl, rfl, aw'⟩
theorem mset_walk {E : Nat} {i0 i1 kd lg dt : Int} {hv gv lv : Value} {A : A5} (hE : w.heap[E]? = some (.cells (evC i0 i1 kd lg dt hv gv A lv) 31 (0, 0))) (i : Nat) (hi : i < 22) (hA : i < 5 -> 0 <= A.ar /\ A.ar < 2 ^ i) :
  Calls Tryz.prog 71 #[.pointer (some ⟨E, 0, none⟩), I (i : Nat)] w fun r w' => r = .returned (.tuple #[]) /\ w'.heap[E]? = some (.cells (evC i0 i1 kd lg dt hv gv (setA A i) lv) 31 (0, 0)) /\ Away [E] w w' := by
 have hg := mgroup_walk (i := (i : Int)) (by omega) (by omega) w
 have hlE := (Array.getElem?_eq_some_iff.1 hE).1
 have hst := fun w' (b : Below w.heap.size w w') => (b.block E hlE).trans hE
 clear hE hlE
 by_cases h20 : 20 <= i
 ·have e1 : setOff i = 12 := by unfold setOff; rw [if_pos h20]
  have e2 : setVal A i = (i : Int) - 19 := by unfold setVal; rw [if_pos h20]
  have eg : mgrp (i : Int) = 5 := by unfold mgrp; (repeat' split) <;> omega
  rw [eg] at hg
  have hc := setA_cells i0 i1 kd lg dt hv gv lv A i
  rw [e1, e2] at hc
  have m1 : IntKind.i64.wrap ((i : Int) - 19) = (i : Int) - 19 := IntWalk.i64_in _ (by omega)
  have HC := shut hc
  clear hc e1 e2 eg hA
  go_enter Tryz.func71, Tryz.ntmps71
  go_wp2_with (go_at_call 70; refine hg.mono ?_)
  intro r w1; first | (intro he b1; subst he) | rintro ⟨rfl, b1⟩
  have hE1 := hst w1 b1
  have f1 := Lib.frozen_of_heap hE1 12
  have c1 : w1.cell? ⟨E, 12, none⟩ = some (I A.be) := by rw [Lib.cell_of_heap hE1]; rfl
  have hE2 := Lib.heap_setCell_same (i := 12) hE1 (I ((i : Int) - 19))
  rw [HC.out] at hE2
  have aw := (Away.of_below (bs := [E]) b1).setCell (p := ⟨E, 12, none⟩) (.inl (by simp)) (I ((i : Int) - 19))
  clear hst hg hE1
  go_wp2
  go_end0
  exact ⟨rfl, hE2, aw⟩
 by_cases h18 : 18 <= i
 ·have e1 : setOff i = 11 := by unfold setOff; rw [if_neg h20, if_pos h18]
  have e2 : setVal A i = (i : Int) - 17 := by unfold setVal; rw [if_neg h20, if_pos h18]
  have eg : mgrp (i : Int) = 4 := by unfold mgrp; (repeat' split) <;> omega
  rw [eg] at hg
  have hc := setA_cells i0 i1 kd lg dt hv gv lv A i
  rw [e1, e2] at hc
  have m1 : IntKind.i64.wrap ((i : Int) - 17) = (i : Int) - 17 := IntWalk.i64_in _ (by omega)
  have HC := shut hc
  clear hc e1 e2 eg hA
  go_enter Tryz.func71, Tryz.ntmps71
  go_wp2_with (go_at_call 70; refine hg.mono ?_)
  intro r w1; first | (intro he b1; subst he) | rintro ⟨rfl, b1⟩
  have hE1 := hst w1 b1
  have f1 := Lib.frozen_of_heap hE1 11
  have c1 : w1.cell? ⟨E, 11, none⟩ = some (I A.st) := by rw [Lib.cell_of_heap hE1]; rfl
  have hE2 := Lib.heap_setCell_same (i := 11) hE1 (I ((i : Int) - 17))
  rw [HC.out] at hE2
  have aw := (Away.of_below (bs := [E]) b1).setCell (p := ⟨E, 11, none⟩) (.inl (by simp)) (I ((i : Int) - 17))
  clear hst hg hE1
  go_wp2
  go_end0
  exact ⟨rfl, hE2, aw⟩
 by_cases h9 : 9 <= i
 ·have e1 : setOff i = 9 := by unfold setOff; rw [if_neg h20, if_neg h18, if_pos h9]
  have e2 : setVal A i = (i : Int) - 8 := by unfold setVal; rw [if_neg h20, if_neg h18, if_pos h9]
  have eg : mgrp (i : Int) = 3 := by unfold mgrp; (repeat' split) <;> omega
  rw [eg] at hg
  have hc := setA_cells i0 i1 kd lg dt hv gv lv A i
  rw [e1, e2] at hc
  have m1 : IntKind.i64.wrap ((i : Int) - 8) = (i : Int) - 8 := IntWalk.i64_in _ (by omega)
  have HC := shut hc
  clear hc e1 e2 eg hA
  go_enter Tryz.func71, Tryz.ntmps71
  go_wp2_with (go_at_call 70; refine hg.mono ?_)
  intro r w1; first | (intro he b1; subst he) | rintro ⟨rfl, b1⟩
  have hE1 := hst w1 b1
  have f1 := Lib.frozen_of_heap hE1 9
  have c1 : w1.cell? ⟨E, 9, none⟩ = some (I A.dy) := by rw [Lib.cell_of_heap hE1]; rfl
  have hE2 := Lib.heap_setCell_same (i := 9) hE1 (I ((i : Int) - 8))
  rw [HC.out] at hE2
  have aw := (Away.of_below (bs := [E]) b1).setCell (p := ⟨E, 9, none⟩) (.inl (by simp)) (I ((i : Int) - 8))
  clear hst hg hE1
  go_wp2
  go_end0
  exact ⟨rfl, hE2, aw⟩
 by_cases h5 : 5 <= i
 ·have e1 : setOff i = 8 := by unfold setOff; rw [if_neg h20, if_neg h18, if_neg h9, if_pos h5]
  have e2 : setVal A i = (i : Int) - 4 := by unfold setVal; rw [if_neg h20, if_neg h18, if_neg h9, if_pos h5]
  have eg : mgrp (i : Int) = 2 := by unfold mgrp; (repeat' split) <;> omega
  rw [eg] at hg
  have hc := setA_cells i0 i1 kd lg dt hv gv lv A i
  rw [e1, e2] at hc
  have m1 : IntKind.i64.wrap ((i : Int) - 4) = (i : Int) - 4 := IntWalk.i64_in _ (by omega)
  have HC := shut hc
  clear hc e1 e2 eg hA
  go_enter Tryz.func71, Tryz.ntmps71
  go_wp2_with (go_at_call 70; refine hg.mono ?_)
  intro r w1; first | (intro he b1; subst he) | rintro ⟨rfl, b1⟩
  have hE1 := hst w1 b1
  have f1 := Lib.frozen_of_heap hE1 8
  have c1 : w1.cell? ⟨E, 8, none⟩ = some (I A.orn) := by rw [Lib.cell_of_heap hE1]; rfl
  have hE2 := Lib.heap_setCell_same (i := 8) hE1 (I ((i : Int) - 4))
  rw [HC.out] at hE2
  have aw := (Away.of_below (bs := [E]) b1).setCell (p := ⟨E, 8, none⟩) (.inl (by simp)) (I ((i : Int) - 4))
  clear hst hg hE1
  go_wp2
  go_end0
  exact ⟨rfl, hE2, aw⟩
 ·have e1 : setOff i = 7 := by unfold setOff; rw [if_neg h20, if_neg h18, if_neg h9, if_neg h5]
  have e2 : setVal A i = A.ar + 2 ^ i := by unfold setVal; rw [if_neg h20, if_neg h18, if_neg h9, if_neg h5]
  have eg : mgrp (i : Int) = 1 := by unfold mgrp; rw [if_pos (by omega)]
  rw [eg] at hg
  have hc := setA_cells i0 i1 kd lg dt hv gv lv A i
  rw [e1, e2] at hc
  obtain ⟨a0, a1⟩ := hA (by omega)
  have hi5 : i = 0 \/ i = 1 \/ i = 2 \/ i = 3 \/ i = 4 := by omega
  have HC := shut hc
  clear hc e1 e2 eg hA h20 h18 h9 h5
  rcases hi5 with rfl | rfl | rfl | rfl | rfl
  ·have hg' : Calls Tryz.prog 70 #[I 0] w fun e w' => e = .returned (I 1) /\ Below w.heap.size w w' := hg
   clear hg
   show Calls Tryz.prog 71 #[.pointer (some ⟨E, 0, none⟩), I 0] w _
   simp only [Int.reducePow] at HC a0 a1 ⊢
   have m1 : IntKind.i64.wrap (A.ar + 1) = A.ar + 1 := IntWalk.i64_in _ (by omega)
   go_enter Tryz.func71, Tryz.ntmps71
   go_wp2_with (go_at_call 70; refine hg'.mono ?_)
   intro r w1; first | (intro he b1; subst he) | rintro ⟨rfl, b1⟩
   have hE1 := hst w1 b1
   have f1 := Lib.frozen_of_heap hE1 7
   have c1 : w1.cell? ⟨E, 7, none⟩ = some (I A.ar) := by rw [Lib.cell_of_heap hE1]; rfl
   have hE2 := Lib.heap_setCell_same (i := 7) hE1 (I (A.ar + 1))
   rw [HC.out] at hE2
   have aw := ((Away.of_below (bs := [E]) b1).setCell (p := ⟨E, 7, none⟩) (.inl (by simp)) (I (A.ar + 1))).drew
   clear hst hg' hE1
   go_wp2
   go_region_with (fail)
   go_wp2
   go_end0
   have e9 : IntKind.i64.wrap (A.ar + IntKind.i64.wrap 1) = A.ar + 1 := m1
   rw [e9]
   exact ⟨rfl, hE2, aw⟩
  ·have hg' : Calls Tryz.prog 70 #[I 1] w fun e w' => e = .returned (I 1) /\ Below w.heap.size w w' := hg
   clear hg
   show Calls Tryz.prog 71 #[.pointer (some ⟨E, 0, none⟩), I 1] w _
   simp only [Int.reducePow] at HC a0 a1 ⊢
   have m1 : IntKind.i64.wrap (A.ar + 2) = A.ar + 2 := IntWalk.i64_in _ (by omega)
   go_enter Tryz.func71, Tryz.ntmps71
   go_wp2_with (go_at_call 70; refine hg'.mono ?_)
   intro r w1; first | (intro he b1; subst he) | rintro ⟨rfl, b1⟩
   have hE1 := hst w1 b1
   have f1 := Lib.frozen_of_heap hE1 7
   have c1 : w1.cell? ⟨E, 7, none⟩ = some (I A.ar) := by rw [Lib.cell_of_heap hE1]; rfl
   have hE2 := Lib.heap_setCell_same (i := 7) hE1 (I (A.ar + 2))
   rw [HC.out] at hE2
   have aw := ((Away.of_below (bs := [E]) b1).setCell (p := ⟨E, 7, none⟩) (.inl (by simp)) (I (A.ar + 2))).drew
   clear hst hg' hE1
   go_wp2
   go_region_with (fail)
   go_wp2
   go_end0
   have e9 : IntKind.i64.wrap (A.ar + IntKind.i64.wrap 2) = A.ar + 2 := m1
   rw [e9]
   exact ⟨rfl, hE2, aw⟩
  ·have hg' : Calls Tryz.prog 70 #[I 2] w fun e w' => e = .returned (I 1) /\ Below w.heap.size w w' := hg
   clear hg
   show Calls Tryz.prog 71 #[.pointer (some ⟨E, 0, none⟩), I 2] w _
   simp only [Int.reducePow] at HC a0 a1 ⊢
   have m1 : IntKind.i64.wrap (A.ar + 4) = A.ar + 4 := IntWalk.i64_in _ (by omega)
   go_enter Tryz.func71, Tryz.ntmps71
   go_wp2_with (go_at_call 70; refine hg'.mono ?_)
   intro r w1; first | (intro he b1; subst he) | rintro ⟨rfl, b1⟩
   have hE1 := hst w1 b1
   have f1 := Lib.frozen_of_heap hE1 7
   have c1 : w1.cell? ⟨E, 7, none⟩ = some (I A.ar) := by rw [Lib.cell_of_heap hE1]; rfl
   have hE2 := Lib.heap_setCell_same (i := 7) hE1 (I (A.ar + 4))
   rw [HC.out] at hE2
   have aw := ((Away.of_below (bs := [E]) b1).setCell (p := ⟨E, 7, none⟩) (.inl (by simp)) (I (A.ar + 4))).drew
   clear hst hg' hE1
   go_wp2
   go_region_with (fail)
   go_wp2
   go_end0
   have e9 : IntKind.i64.wrap (A.ar + IntKind.i64.wrap 4) = A.ar + 4 := m1
   rw [e9]
   exact ⟨rfl, hE2, aw⟩
  ·have hg' : Calls Tryz.prog 70 #[I 3] w fun e w' => e = .returned (I 1) /\ Below w.heap.size w w' := hg
   clear hg
   show Calls Tryz.prog 71 #[.pointer (some ⟨E, 0, none⟩), I 3] w _
   simp only [Int.reducePow] at HC a0 a1 ⊢
   have m1 : IntKind.i64.wrap (A.ar + 8) = A.ar + 8 := IntWalk.i64_in _ (by omega)
   go_enter Tryz.func71, Tryz.ntmps71
   go_wp2_with (go_at_call 70; refine hg'.mono ?_)
   intro r w1; first | (intro he b1; subst he) | rintro ⟨rfl, b1⟩
   have hE1 := hst w1 b1
   have f1 := Lib.frozen_of_heap hE1 7
   have c1 : w1.cell? ⟨E, 7, none⟩ = some (I A.ar) := by rw [Lib.cell_of_heap hE1]; rfl
   have hE2 := Lib.heap_setCell_same (i := 7) hE1 (I (A.ar + 8))
   rw [HC.out] at hE2
   have aw := ((Away.of_below (bs := [E]) b1).setCell (p := ⟨E, 7, none⟩) (.inl (by simp)) (I (A.ar + 8))).drew
   clear hst hg' hE1
   go_wp2
   go_region_with (fail)
   go_wp2
   go_end0
   have e9 : IntKind.i64.wrap (A.ar + IntKind.i64.wrap 8) = A.ar + 8 := m1
   rw [e9]
   exact ⟨rfl, hE2, aw⟩
  ·have hg' : Calls Tryz.prog 70 #[I 4] w fun e w' => e = .returned (I 1) /\ Below w.heap.size w w' := hg
   clear hg
   show Calls Tryz.prog 71 #[.pointer (some ⟨E, 0, none⟩), I 4] w _
   simp only [Int.reducePow] at HC a0 a1 ⊢
   have m1 : IntKind.i64.wrap (A.ar + 16) = A.ar + 16 := IntWalk.i64_in _ (by omega)
   go_enter Tryz.func71, Tryz.ntmps71
   go_wp2_with (go_at_call 70; refine hg'.mono ?_)
   intro r w1; first | (intro he b1; subst he) | rintro ⟨rfl, b1⟩
   have hE1 := hst w1 b1
   have f1 := Lib.frozen_of_heap hE1 7
   have c1 : w1.cell? ⟨E, 7, none⟩ = some (I A.ar) := by rw [Lib.cell_of_heap hE1]; rfl
   have hE2 := Lib.heap_setCell_same (i := 7) hE1 (I (A.ar + 16))
   rw [HC.out] at hE2
   have aw := ((Away.of_below (bs := [E]) b1).setCell (p := ⟨E, 7, none⟩) (.inl (by simp)) (I (A.ar + 16))).drew
   clear hst hg' hE1
   go_wp2
   go_region_with (fail)
   go_wp2
   go_end0
   have e9 : IntKind.i64.wrap (A.ar + IntKind.i64.wrap 16) = A.ar + 16 := m1
   rw [e9]
   exact ⟨rfl, hE2, aw⟩
end
theorem look_str_no {M : Nat} {es : Array MapEntry} {clk : Nat} {w : World} (h : w.heap[M]? = some (.map es clk)) (k : ByteArray) (hf : Instr.findNow .string (.string k) es.toList 0 = some none) :
  (Instr.lookup 164 (.map (some M)) (.string k) true).run Tryz.prog w = .ok (.tuple #[I 0, .bool false]) w := by
 unfold Instr.lookup
 simp only [Sem.run_bind, run_underlying Tryz.underlying164, Result.andThen_ok, getObj_run h, Sem.run_pure, ck_str, find_str k hf, Tryz.zeroValue3, if_true]
theorem word1_ok {T : List Tok} {s : Stt} (h : (tokS T s).kind = 1) : ∃ p, s = .ok p := by
 cases s with
 | ok p => exact ⟨p, rfl⟩
 | bad e l c => exact absurd h (by simp [tokS, noTok])
section
variable {W0 : World} {T : List Tok} {Y M : Nat} {free : Bool} {st : Stt} {w : World}
theorem word_s (h : PS T Y M free st w) {Q : Nat} (hQ : w.heap[Q]? = some (.map (wEs 22) 22)) :
  Calls Tryz.prog 109 #[.pointer (some ⟨Y, 0, none⟩), .map (some Q)] w fun r w' => r = .returned (I (((wordF T attrWL st).1.getD 0 : Nat) : Int)) /\ PS T Y M free (wordF T attrWL st).2 w' /\ Away [Y, M] w w' := by
 have hp := peek_s h
 have hst := fun w' (b : Below w.heap.size w w') => h.step b
 have lQ := (Array.getElem?_eq_some_iff.1 hQ).1
 have hm := h.good.max
 have hf1 := fun w' (b : Below w.heap.size w w') => fail_s (h.step b) 13 (by decide)
 have hf2 := fun w' (b : Below w.heap.size w w') => fail_s (h.step b) 32 (by decide)
 have hat := fun p (e : st = .ok p) (w' : World) (b : Below w.heap.size w w') => (e ▸ h.step b : PS T Y M free (.ok p) w').atCell
 have hjp := fun p (e : st = .ok p) (w' : World) (b : Below w.heap.size w w') hq => (e ▸ h.step b : PS T Y M free (.ok p) w').jump (q := p + 1) hq
 unfold wordF
 have hfind : ∀ x : ByteArray, Instr.findNow .string (.string x) (wEs 22).toList 0 = some ((wordIdx x attrWL).map fun j => (j, I (j : Nat))) := fun x => attr_find
 have hkind : (tokS T st).kind = 1 -> ∃ p, st = .ok p /\ p + 1 < T.length := fun hk => by
  obtain ⟨p, rfl⟩ := word1_ok hk
  exact ⟨p, rfl, h.good.more h.atCell.2.2 (by rw [show (T.getD p noTok).kind = 1 from hk]; decide)⟩
 unfold tokV at hp
 generalize tokS T st = t at hp hkind ⊢
 obtain ⟨kd, text, v, bt, lin, cl, j⟩ := t
 simp only at hp hkind ⊢
 have hfx := hfind text
 by_cases hk : kd = 1
 ·subst hk
  rw [if_neg (by decide)]
  obtain ⟨p, rfl, hp1⟩ := hkind rfl
  cases hw : wordIdx text attrWL with
  | none =>
   rw [hw] at hfx
   have hlk := fun w' (b : Below w.heap.size w w') => look_str_no ((b.block Q lQ).trans hQ) text hfx
   simp only [Option.getD_none]
   clear h hQ hfind hkind hat hjp hf1 hst hm
   generalize failS T 32 (.ok p) = s2 at hf2 ⊢
   go_enter Tryz.func109, Tryz.ntmps109
   go_wp2_with (go_at_call 62; refine hp.mono ?_)
   intro r w1; first | (intro he b1; subst he) | rintro ⟨rfl, b1⟩
   have b2 := b1.alloc b1.size (.cells #[I 1, .string text, I v, .string bt, I lin, I cl, .bool j] 59)
   have hlk2 := hlk _ b2
   have hx := hf2 _ b2
   clear hlk hf2 hp
   go_wp2_with (go_at_call 63; refine hx.mono ?_)
   intro r w3; first | (intro he hS b3; subst he) | rintro ⟨rfl, hS, b3⟩
   go_wp2
   go_ret
   exact ⟨rfl, hS, (Away.of_below b2).trans b3⟩
  | some i =>
   rw [hw] at hfx
   have hlk := fun w' (b : Below w.heap.size w w') => look_str_yes ((b.block Q lQ).trans hQ) text hfx
   simp only [Option.getD_some, Stt.next]
   have hpw : IntKind.i64.wrap ((p : Int) + 1) = ((p + 1 : Nat) : Int) := by rw [IntWalk.i64_in _ (by omega)]; simp
   have e9 : ((p + 1 : Nat) : Int) = (p : Int) + 1 := by simp
   have hpw' : IntKind.i64.wrap ((p : Int) + 1) = (p : Int) + 1 := hpw.trans e9
   clear h hQ hfind hkind hf1 hf2 hm
   have hat' := hat p rfl
   have hjp' := hjp p rfl
   clear hat hjp
   go_enter Tryz.func109, Tryz.ntmps109
   go_wp2_with (go_at_call 62; refine hp.mono ?_)
   intro r w1; first | (intro he b1; subst he) | rintro ⟨rfl, b1⟩
   have b2 := b1.alloc b1.size (.cells #[I 1, .string text, I v, .string bt, I lin, I cl, .bool j] 59)
   have hlk2 := hlk _ b2
   obtain ⟨x1, xf1, _⟩ := hat' w1 b1
   have n1 := World.new_ne w1 _ x1
   have l1 : Y < w1.heap.size := (hst w1 b1).lt
   have hS4 := (hjp' w1 b1 hp1).step ((Below.refl _ _).alloc (Nat.le_refl _) (.cells #[I 1, .string text, I v, .string bt, I lin, I cl, .bool j] 59))
   have a4 := ((Away.of_below (bs := [Y, M]) b1).setCell (p := ⟨Y, 1, none⟩) (.inl (by simp)) (I ((p + 1 : Nat) : Int))).alloc (.cells #[I 1, .string text, I v, .string bt, I lin, I cl, .bool j] 59)
   rw [e9] at hS4 a4
   clear hlk hat' hjp' hp hst hpw e9
   go_wp2
   go_ret
   exact ⟨rfl, hS4, a4⟩
 ·rw [if_pos hk]
  obtain ⟨b, hbv⟩ : ∃ b : Bool × Value, True := ⟨⟨true, undef⟩, trivial⟩
  obtain ⟨v0, v1, hlk⟩ : ∃ (v0 : Int) (v1 : Bool), ∀ w', Below w.heap.size w w' -> (Instr.lookup 164 (.map (some Q)) (.string text) true).run Tryz.prog w' = .ok (.tuple #[I v0, .bool v1]) w' := by
   cases hw : wordIdx text attrWL with
   | none => rw [hw] at hfx; exact ⟨0, false, fun w' b => look_str_no ((b.block Q lQ).trans hQ) text hfx⟩
   | some i => rw [hw] at hfx; exact ⟨_, true, fun w' b => look_str_yes ((b.block Q lQ).trans hQ) text hfx⟩
  simp only [Option.getD_none]
  clear h hQ hfind hkind hat hjp hf2 hst hm hfx
  generalize failS T 13 st = s2 at hf1 ⊢
  go_enter Tryz.func109, Tryz.ntmps109
  go_wp2_with (go_at_call 62; refine hp.mono ?_)
  intro r w1; first | (intro he b1; subst he) | rintro ⟨rfl, b1⟩
  have b2 := b1.alloc b1.size (.cells #[I kd, .string text, I v, .string bt, I lin, I cl, .bool j] 59)
  have hlk2 := hlk _ b2
  have hx := hf1 _ b2
  clear hlk hf1 hp
  go_wp2_with (go_at_call 63; refine hx.mono ?_)
  intro r w3; first | (intro he hS b3; subst he) | rintro ⟨rfl, hS, b3⟩
  go_wp2
  go_ret
  exact ⟨rfl, hS, (Away.of_below b2).trans b3⟩
end
section
variable {W0 : World} {T : List Tok} {X : Nat} {free : Bool} {lv iv : Value} {st : Stt} {w : World}
theorem choose_s (h : MS T X free lv iv st w) {R : Nat} (hR : w.heap[R]? = some attrRow) :
  Calls Tryz.prog 68 #[.pointer (some ⟨X, 0, none⟩), .slice (some ⟨R, 0, none⟩) 22 22] w fun r w' => r = .returned (I (((wordF T attrWL st).1.getD 0 : Nat) : Int)) /\ MS T X free lv iv (wordF T attrWL st).2 w' /\ Away [X] w w' := by
 have hp := now_s h
 have hst := fun w' (b : Below w.heap.size w w') => h.step b
 have lR := (Array.getElem?_eq_some_iff.1 hR).1
 have hm := h.good.max
 have hf1 := fun w' (b : Below w.heap.size w w') => mfail_s (h.step b) 13 (by decide)
 have hf2 := fun w' (b : Below w.heap.size w w') => mfail_s (h.step b) 32 (by decide)
 have hat := fun p (e : st = .ok p) (w' : World) (b : Below w.heap.size w w') => (e ▸ h.step b : MS T X free lv iv (.ok p) w').atCell
 have hjp := fun p (e : st = .ok p) (w' : World) (b : Below w.heap.size w w') hq => (e ▸ h.step b : MS T X free lv iv (.ok p) w').jump (q := p + 1) hq (by omega)
 have hkind : (tokS T st).kind = 1 -> ∃ p, st = .ok p /\ p + 1 < T.length := fun hk => by
  obtain ⟨p, rfl⟩ := word1_ok hk
  exact ⟨p, rfl, h.good.more h.atCell.2.2 (by rw [show (T.getD p noTok).kind = 1 from hk]; decide)⟩
 have w1 : (tokS T st).kind = 1 -> ∀ k, (∀ j < k, attrWL[j]? ≠ some (tokS T st).text) -> attrWL[k]? = some (tokS T st).text -> wordF T attrWL st = (some k, st.next 1) := fun hk k h1 h2 => by
  unfold wordF
  rw [if_neg (by rw [hk]; decide), wordIdx_hit h1 h2]
 have w2 : (tokS T st).kind = 1 -> (∀ j < 22, attrWL[j]? ≠ some (tokS T st).text) -> wordF T attrWL st = (none, failS T 32 st) := fun hk h1 => by
  unfold wordF
  rw [if_neg (by rw [hk]; decide), wordIdx_miss (by rw [attr_len]; exact h1)]
 have w3 : (tokS T st).kind ≠ 1 -> wordF T attrWL st = (none, failS T 13 st) := fun hk => by
  unfold wordF
  rw [if_pos hk]
 unfold tokV at hp
 generalize tokS T st = t at hp hkind w1 w2 w3
 obtain ⟨kd, text, v, bt, lin, cl, j⟩ := t
 simp only at hp hkind w1 w2 w3
 by_cases hk : kd = 1
 ·subst hk
  obtain ⟨p, rfl, hp1⟩ := hkind rfl
  have hpw : IntKind.i64.wrap ((p : Int) + 1) = (p : Int) + 1 := IntWalk.i64_in _ (by omega)
  have e9 : ((p + 1 : Nat) : Int) = (p : Int) + 1 := by simp
  have hat' := hat p rfl
  have hjp' := hjp p rfl
  have hrow := fun w' (b : Below w.heap.size w w') => (b.block R lR).trans hR
  have hres := w1 rfl
  have hres0 := w2 rfl
  clear w1 w2 w3
  generalize wordF T attrWL (.ok p) = res at hres hres0 ⊢
  generalize failS T 32 (.ok p) = s2 at hf2 hres0
  have HR := shut (And.intro hres hres0)
  clear h hR hkind hf1 hm hat hjp hres hres0
  go_enter Tryz.func68, Tryz.ntmps68
  go_wp2_with (go_at_call 31; refine hp.mono ?_)
  intro r w1; first | (intro he b1; subst he) | rintro ⟨rfl, b1⟩
  have hN := heap_alloc_new w1 (.cells #[I 1, .string text, I v, .string bt, I lin, I cl, .bool j] 59)
  have b2 := b1.alloc b1.size (.cells #[I 1, .string text, I v, .string bt, I lin, I cl, .bool j] 59)
  have hB := b1.size
  clear hp
  generalize hwa : w1.alloc (.cells #[I 1, .string text, I v, .string bt, I lin, I cl, .bool j] 59) = wa at hN b2
  generalize hZ : w1.heap.size = Z at hN hB
  have cZ0 : wa.cell? ⟨Z, 0, none⟩ = some (I 1) := by rw [Lib.cell_of_heap hN]; rfl
  go_wp2
  have lZ := heap_lt hN
  go_loopg [6] 22 (fun g s6 wr => ∃ k : Nat, k <= 22 /\ g = 22 - k /\ s6 = I (k : Nat) /\ Below w.heap.size w wr /\ wr.heap[Z]? = some (.cells #[I 1, .string text, I v, .string bt, I lin, I cl, .bool j] 59 (0, 0)) /\ ∀ j < k, attrWL[j]? ≠ some text)
  case atStart => exact ⟨0, by omega, rfl, rfl, b2, hN, fun j hj => by omega⟩
  case round =>
   obtain ⟨k, hk, hg, rfl, bb, hz, hno⟩ := hrel
   have HN := shut hno
   clear hno
   by_cases hlt : k < 22
   ·have hlt' : (k : Int) < 22 := by omega
    have hk0 : (0 : Int) <= (k : Int) := by omega
    have m1 : IntKind.i64.wrap ((k : Int) + 1) = (k : Int) + 1 := IntWalk.i64_in _ (by omega)
    have cR : wr.cell? ⟨R, k, none⟩ = some (.string (attrB k)) := by rw [Lib.cell_of_heap (hrow wr bb)]; simp [attr_get hlt]
    have cZ : wr.cell? ⟨Z, 1, none⟩ = some (.string text) := by rw [Lib.cell_of_heap hz]; rfl
    by_cases he : attrB k = text
    ·have e2 := HR.out.1 k HN.out (by rw [attr_get hlt, he])
     have HE := shut e2
     rw [he] at cR
     obtain ⟨x1, xf1, _⟩ := hat' wr bb
     have hS4 := hjp' wr.drew bb.drew hp1
     have a4 := ((Away.of_below (bs := [X]) bb.drew).setCell (p := ⟨X, 1, none⟩) (.inl (by simp)) (I ((p + 1 : Nat) : Int)))
     rw [e9] at hS4 a4
     clear hat' hjp' hst hf2 e2 he e9
     go_wp2
     go_region_with (fail)
     go_wp2
     all_goals go_ret
     all_goals rw [HE.out]
     all_goals exact ⟨rfl, hS4, a4⟩
    ·have he' : ((attrB k).toList == text.toList) = false := (Lib.bytes_beq_false_iff _ _).2 he
     have hno2 : ∀ j < k + 1, attrWL[j]? ≠ some text := fun j hj => by
      by_cases hjk : j < k
      ·exact HN.out j hjk
      ·obtain rfl : j = k := by omega
       rw [attr_get hlt]; intro e; injection e with e; exact he e
     have bd := bb.drew
     have HN2 := shut hno2
     have hzd : wr.drew.heap[Z]? = _ := hz
     clear hat' hjp' hst hf2 hno2 hN b2
     generalize attrB k = tx at cR he he'
     go_wp2
     go_region_with (fail)
     all_goals go_wp2
     all_goals go_roundg (22 - (k + 1))
     all_goals first | omega | exact ⟨k + 1, by omega, rfl, by simp, bd, hzd, HN2.out⟩
   ·have hkl : k = 22 := by omega
    subst hkl
    have HE := shut (HR.out.2 HN.out)
    have hx := hf2 _ bb
    clear hf2 hat' hjp' hst
    go_wp2_with (go_at_call 32; refine hx.mono ?_)
    intro r w3; first | (intro he hS b3; subst he) | rintro ⟨rfl, hS, b3⟩
    go_wp2
    go_ret
    rw [HE.out]
    exact ⟨rfl, hS, (Away.of_below bb).trans b3⟩
 ·rw [w3 hk]
  simp only [Option.getD_none]
  clear w1 w2 w3 h hR hkind hat hjp hf2 hst hm
  generalize failS T 13 st = s2 at hf1 ⊢
  go_enter Tryz.func68, Tryz.ntmps68
  go_wp2_with (go_at_call 31; refine hp.mono ?_)
  intro r w1; first | (intro he b1; subst he) | rintro ⟨rfl, b1⟩
  have b2 := b1.alloc b1.size (.cells #[I kd, .string text, I v, .string bt, I lin, I cl, .bool j] 59)
  have hx := hf1 _ b2
  clear hf1 hp
  go_wp2_with (go_at_call 32; refine hx.mono ?_)
  intro r w3; first | (intro he hS b3; subst he) | rintro ⟨rfl, hS, b3⟩
  go_wp2
  go_ret
  exact ⟨rfl, hS, (Away.of_below b2).trans b3⟩
end
theorem grp_nonneg (i : Int) : 0 <= grp i := by unfold grp; (repeat' split) <;> omega
theorem cells_ne {w : World} {a b : Nat} {c1 c2 : Array Value} {T1 T2 : TypeId} {f1 f2 : Nat × Nat} (h1 : w.heap[a]? = some (.cells c1 T1 f1)) (h2 : w.heap[b]? = some (.cells c2 T2 f2)) (hT : T1 ≠ T2) : a ≠ b := by
 rintro rfl
 rw [h1] at h2
 injection h2 with h2
 injection h2 with _ h _
 exact hT h
theorem map_ne {w : World} {a b : Nat} {es : Array MapEntry} {c : Nat} {c2 : Array Value} {T2 : TypeId} {f2 : Nat × Nat} (h1 : w.heap[a]? = some (.map es c)) (h2 : w.heap[b]? = some (.cells c2 T2 f2)) : a ≠ b := by
 rintro rfl
 rw [h1] at h2
 injection h2 with h2
 cases h2
structure EF where
 i0 : Int
 i1 : Int
 kd : Int
 lg : Int
 dt : Int
 hv : Value
 gv : Value
 lv : Value
def EF.c (F : EF) (A : A5) : Array Value := evC F.i0 F.i1 F.kd F.lg F.dt F.hv F.gv A F.lv
def badOf (last : Int) : Option Nat -> Bool
 | none => false
 | some i => attrBad last i
def Stt.orFail (T : List Tok) (b : Bool) (s : Stt) : Stt := if b = true then failS T 13 s else s
theorem wordF_cases (T : List Tok) (s : Stt) : ((wordF T attrWL s).1 = none /\ (wordF T attrWL s).2.good = false) \/ (∃ i, (wordF T attrWL s).1 = some i /\ i < 22 /\ (wordF T attrWL s).2 = s.next 1 /\ s.good = true) := by
 have hf : ∀ c, (failS T c s).good = false := fun c => by cases s <;> rfl
 unfold wordF
 by_cases hk : (tokS T s).kind ≠ 1
 ·rw [if_pos hk]; exact .inl ⟨rfl, hf _⟩
 ·rw [if_neg hk]
  cases hw : wordIdx (tokS T s).text attrWL with
  | none => exact .inl ⟨rfl, hf _⟩
  | some i =>
   refine .inr ⟨i, rfl, wordIdx_lt hw, rfl, ?_⟩
   obtain ⟨p, rfl⟩ := word1_ok (Decidable.byContradiction hk)
   rfl
theorem wordF_bad (T : List Tok) (e l c : Int) : wordF T attrWL (.bad e l c) = (none, .bad e l c) := by
 unfold wordF
 rw [if_pos (by simp [tokS, noTok])]
 rfl
theorem failS_bad (T : List Tok) (c : Int) (s : Stt) : ∃ e l k, failS T c s = .bad e l k := by
 cases s <;> exact ⟨_, _, _, rfl⟩
theorem attrStep_eq (T : List Tok) (last : Int) (A : A5) (s : Stt) : attrStep T last A s =
  ((((wordF T attrWL (s.orFail T (badOf last (wordF T attrWL s).1))).1.getD 0 : Nat) : Int),
   (if (wordF T attrWL (s.orFail T (badOf last (wordF T attrWL s).1))).2.good = true then setA A ((wordF T attrWL (s.orFail T (badOf last (wordF T attrWL s).1))).1.getD 0) else A),
   (wordF T attrWL (s.orFail T (badOf last (wordF T attrWL s).1))).2) := by
 generalize hs1 : s.orFail T (badOf last (wordF T attrWL s).1) = s1
 unfold attrStep
 rcases wordF_cases T s with ⟨h1, h2⟩ | ⟨i, h1, h2, h3, h4⟩
 ·rw [h1] at hs1
  obtain rfl : s = s1 := hs1
  generalize hq : wordF T attrWL s = q at h1 h2
  obtain ⟨o, s'⟩ := q
  simp only at h1 h2
  subst h1
  simp only
  rw [if_neg (by rw [h2]; decide)]
  rfl
 ·rw [h1] at hs1
  generalize hq : wordF T attrWL s = q at h1 h3
  obtain ⟨o, s'⟩ := q
  simp only at h1 h3
  subst h1
  simp only [badOf] at hs1
  by_cases hb : attrBad last i = true
  ·rw [hb] at hs1
   obtain rfl : failS T 13 s = s1 := hs1
   obtain ⟨e, l, k, he⟩ := failS_bad T 13 s
   simp only
   rw [if_pos hb, he, wordF_bad]
   rfl
  ·rw [Bool.eq_false_iff.2 hb] at hs1
   obtain rfl : s = s1 := hs1
   simp only [hq]
   rw [if_neg hb]
   have hg : s'.good = true := by
    subst h3
    cases s with
    | ok p => rfl
    | bad e l k => cases h4
   rw [if_pos hg]
   rfl
def InvA (last : Int) (A : A5) (s : Stt) : Prop := s.good = true -> -1 <= last /\ last < 22 /\ ∀ i : Nat, i < 5 -> last < (i : Int) -> 0 <= A.ar /\ A.ar < 2 ^ i
theorem InvA.start (s : Stt) : InvA (-1) ⟨0, 0, 0, 0, 0⟩ s := fun _ => ⟨by decide, by decide, fun i _ _ => ⟨Int.le_refl _, by
 show (0 : Int) < 2 ^ i
 exact Int.pow_pos (by decide)⟩⟩
theorem attrBad_lt {last i : Int} (h : attrBad last i = false) (h1 : -1 <= last) (h2 : 0 <= i) : last < i := by
 unfold attrBad at h
 by_cases h0 : 0 <= last
 ·rw [decide_eq_true h0, Bool.true_and, Bool.or_eq_false_iff] at h
  have := of_decide_eq_false h.1
  omega
 ·omega
theorem InvA.step {T : List Tok} {last : Int} {A : A5} {s : Stt} (h : InvA last A s) : InvA (attrStep T last A s).1 (attrStep T last A s).2.1 (attrStep T last A s).2.2 := by
 unfold attrStep
 rcases wordF_cases T s with ⟨h1, h2⟩ | ⟨i, h1, h2, h3, h4⟩
 ·generalize hq : wordF T attrWL s = q at h1 h2
  obtain ⟨o, s'⟩ := q
  simp only at h1 h2
  subst h1
  intro hg
  rw [show s'.good = true from hg] at h2
  cases h2
 ·generalize hq : wordF T attrWL s = q at h1 h3
  obtain ⟨o, s'⟩ := q
  simp only at h1 h3
  subst h1
  simp only
  by_cases hb : attrBad last i = true
  ·rw [if_pos hb]
   intro hg
   obtain ⟨e, l, k, he⟩ := failS_bad T 13 s
   have hg' : (failS T 13 s).good = true := hg
   rw [he] at hg'
   cases hg'
  ·rw [if_neg hb]
   intro _
   obtain ⟨g1, g2, g3⟩ := h h4
   have hlt := attrBad_lt (Bool.eq_false_iff.2 hb) g1 (by omega)
   refine ⟨by show (-1 : Int) <= (i : Int); omega, by show (i : Int) < 22; omega, fun j hj hij => ?_⟩
   have hij' : i < j := by have : (i : Int) < (j : Int) := hij; omega
   obtain ⟨a0, a1⟩ := g3 i (by omega) hlt
   have e : (setA A i).ar = A.ar + 2 ^ i := by
    unfold setA
    rw [if_neg (by omega), if_neg (by omega), if_neg (by omega), if_neg (by omega)]
   rw [e]
   have hp : (0 : Int) < 2 ^ i := Int.pow_pos (by decide)
   have hle : (2 : Int) ^ (i + 1) <= 2 ^ j := by
    have : (2 : Nat) ^ (i + 1) <= 2 ^ j := Nat.pow_le_pow_right (by decide) hij'
    exact_mod_cast this
   have h2p : (2 : Int) ^ (i + 1) = 2 ^ i + 2 ^ i := by rw [Int.pow_succ]; omega
   exact ⟨by omega, by omega⟩
structure Cl (T : List Tok) (Bw Bp Bl Be Q E Y M : Nat) (free : Bool) (st : Stt) (last : Int) (F : EF) (A : A5) (w0 w : World) : Prop where
 prs : PS T Y M free st w
 hw : w.heap[Bw]? = some (.cells #[.map (some Q)] 164 (0, 0))
 hp : w.heap[Bp]? = some (.cells #[.pointer (some ⟨Y, 0, none⟩)] 69 (0, 0))
 hl : w.heap[Bl]? = some (.cells #[I last] 3 (0, 0))
 he : w.heap[Be]? = some (.cells #[.pointer (some ⟨E, 0, none⟩)] 84 (0, 0))
 hq : w.heap[Q]? = some (.map (wEs 22) 22)
 hE : w.heap[E]? = some (.cells (F.c A) 31 (0, 0))
 aw : Away [Y, M, E] w0 w
 bl : w0.heap.size <= Bl
 ne : ∀ k ∈ [Bw, Bp, Bl, Be, Q, E], k ≠ Y /\ k ≠ M
section
variable {T : List Tok} {Bw Bp Bl Be Q E Y M : Nat} {free : Bool} {st st' : Stt} {last : Int} {F : EF} {A : A5} {w0 w w' : World}
theorem Cl.step (h : Cl T Bw Bp Bl Be Q E Y M free st last F A w0 w) (b : Below w.heap.size w w') : Cl T Bw Bp Bl Be Q E Y M free st last F A w0 w' :=
 ⟨h.prs.step b, (b.block _ (heap_lt h.hw)).trans h.hw, (b.block _ (heap_lt h.hp)).trans h.hp, (b.block _ (heap_lt h.hl)).trans h.hl, (b.block _ (heap_lt h.he)).trans h.he, (b.block _ (heap_lt h.hq)).trans h.hq, (b.block _ (heap_lt h.hE)).trans h.hE, h.aw.step b, h.bl, h.ne⟩
theorem Cl.away (h : Cl T Bw Bp Bl Be Q E Y M free st last F A w0 w) (a : Away [Y, M] w w') (hS : PS T Y M free st' w') : Cl T Bw Bp Bl Be Q E Y M free st' last F A w0 w' := by
 have n : ∀ k ∈ [Bw, Bp, Bl, Be, Q, E], k ∉ [Y, M] := fun k hk hm => by
  obtain ⟨h1, h2⟩ := h.ne k hk
  simp only [List.mem_cons, List.not_mem_nil, or_false] at hm
  rcases hm with e | e
  ·exact h1 e
  ·exact h2 e
 exact ⟨hS, a.at h.hw (n _ (by simp)), a.at h.hp (n _ (by simp)), a.at h.hl (n _ (by simp)), a.at h.he (n _ (by simp)), a.at h.hq (n _ (by simp)), a.at h.hE (n _ (by simp)), h.aw.trans ⟨a.os, a.tape, a.output, a.size, fun k hk hb => a.block k hk (by simp only [List.mem_cons, List.not_mem_nil, or_false] at hb ⊢; omega)⟩, h.bl, h.ne⟩
theorem PS.put (h : PS T Y M free st w) {R : Nat} (hY : R ≠ Y) (hM : R ≠ M) {cs : Array Value} {t : TypeId} (hk : w.heap[R]? = some (.cells cs t (0, 0))) (ht : t ≠ 59)
  (ho : ∀ j, j ≠ R -> w'.heap[j]? = w.heap[j]?) : PS T Y M free st w' := by
 obtain ⟨g, tv, pos, line, col, e, ls, ln, es, clk, h1, h2, h3⟩ := h
 refine ⟨g, tv, pos, line, col, e, ls, ln, es, clk, ⟨(ho Y (Ne.symm hY)).trans h1.blk, (ho M (Ne.symm hM)).trans h1.map, fun he => own_step (h1.row he) fun k hkk => ho k ?_⟩, h2, h3⟩
 rintro rfl
 exact own_ne (h1.row he) hk (by intro cs' fr' hc; injection hc with _ h2 _; exact ht h2) hkk
theorem Cl.setLast (h : Cl T Bw Bp Bl Be Q E Y M free st last F A w0 w) (v : Int) : Cl T Bw Bp Bl Be Q E Y M free st v F A w0 (w.setCell ⟨Bl, 0, none⟩ (I v)) := by
 have o : ∀ k, k ≠ Bl -> (w.setCell ⟨Bl, 0, none⟩ (I v)).heap[k]? = w.heap[k]? := fun k hk => Below.heap_setCell _ _ _ k hk
 obtain ⟨nY, nM⟩ := h.ne Bl (by simp)
 refine ⟨h.prs.put nY nM h.hl (by decide) o, (o _ (cells_ne h.hw h.hl (by decide))).trans h.hw, (o _ (cells_ne h.hp h.hl (by decide))).trans h.hp, ?_, (o _ (cells_ne h.he h.hl (by decide))).trans h.he, (o _ (map_ne h.hq h.hl)).trans h.hq, (o _ (cells_ne h.hE h.hl (by decide))).trans h.hE, h.aw.setCell (p := ⟨Bl, 0, none⟩) (.inr h.bl) _, h.bl, h.ne⟩
 rw [Lib.heap_setCell_same (i := 0) h.hl]; rfl
theorem Cl.setE (h : Cl T Bw Bp Bl Be Q E Y M free st last F A w0 w) {A' : A5} (hE : w'.heap[E]? = some (.cells (F.c A') 31 (0, 0))) (a : Away [E] w w') : Cl T Bw Bp Bl Be Q E Y M free st last F A' w0 w' := by
 obtain ⟨nY, nM⟩ := h.ne E (by simp)
 have n : ∀ k, k ≠ E -> k ∉ [E] := fun k hk => by simpa using hk
 obtain ⟨g, tv, pos, line, col, e, ls, ln, es, clk, h1, h2, h3⟩ := h.prs
 have hS : PS T Y M free st w' := by
  refine ⟨g, tv, pos, line, col, e, ls, ln, es, clk, ⟨a.at h1.blk (n _ (Ne.symm nY)), a.at h1.map (n _ (Ne.symm nM)), fun he => own_step (h1.row he) fun k hkk => a.block k ((h1.row he).lt k hkk).2 (n _ ?_)⟩, h2, h3⟩
  rintro rfl
  exact own_ne (h1.row he) h.hE (by intro cs' fr' hc; injection hc with _ h2 _; cases h2) hkk
 exact ⟨hS, a.at h.hw (n _ (cells_ne h.hw h.hE (by decide))), a.at h.hp (n _ (cells_ne h.hp h.hE (by decide))), a.at h.hl (n _ (cells_ne h.hl h.hE (by decide))), a.at h.he (n _ (cells_ne h.he h.hE (by decide))), a.at h.hq (n _ (map_ne h.hq h.hE)), hE, h.aw.trans ⟨a.os, a.tape, a.output, a.size, fun k hk hb => a.block k hk (by simp only [List.mem_cons, List.not_mem_nil, or_false] at hb ⊢; omega)⟩, h.bl, h.ne⟩
end
end Go.Proofs.YtgkhemnmcgicnaaGreatDoor
