/- Towards the law ParserVoices, true for every text (no condition): one part of the proof. -/
import Derived.Test.YtgkhemnmcgicnaaGreatDoorG01
import Derived.Test.YtgkhemnmcgicnaaGreatDoorG32
namespace Go.Proofs.YtgkhemnmcgicnaaGreatDoor
set_option maxHeartbeats 16000000
set_option maxRecDepth 100000
open Go.RowKit
theorem uT {M : Nat} {es : Array MapEntry} {clk : Nat} {w : World} (o : Obj) (h : w.heap[M]? = some (.map es clk)) : (setObj M o).run Tryz.prog w = .ok () { w with heap := w.heap.setIfInBounds M o } := by
 simp [setObj, Sem.run, h]
theorem jQ {M : Nat} {es : Array MapEntry} {clk : Nat} {w : World} (h : w.heap[M]? = some (.map es clk)) : (getObj M).run Tryz.prog w = .ok (.map es clk) w := by
 simp [getObj, Sem.run, h]
theorem MG (b : Bool) (k : ByteArray) (w : World) : (Instr.checkKey b 10000 9 (.string k)).run Tryz.prog w = .ok () w := by
 show (Instr.checkKey b (9999 + 1) 9 (.string k)).run Tryz.prog w = .ok () w
 unfold Instr.checkKey
 simp [qqc Tryz.underlying9, Result.andThen]
theorem BM (k : ByteArray) {es : List MapEntry} {r : Option (Nat × Value)} (h : Instr.findNow .string (.string k) es 0 = some r) (w : World) : (Instr.findKey 9 (.string k) es).run Tryz.prog w = .ok r w := by
 unfold Instr.findKey
 simp [qqc Tryz.underlying9, Result.andThen, h]
theorem pX {M : Nat} {es : Array MapEntry} {clk : Nat} {w : World} (h : w.heap[M]? = some (.map es clk)) (k : ByteArray) {i : Nat} {v : Value} (hf : Instr.findNow .string (.string k) es.toList 0 = some (some (i, v))) :
  (Instr.lookup 164 (.map (some M)) (.string k) true).run Tryz.prog w = .ok (.tuple #[v, .bool true]) w := by
 unfold Instr.lookup
 simp only [qqu, qqc Tryz.underlying164, Result.andThen_ok, jQ h, Sem.run_pure, MG, BM k hf, if_true]
theorem MH {M : Nat} {es : Array MapEntry} {clk : Nat} {w : World} (h : w.heap[M]? = some (.map es clk)) (k : ByteArray) (v : Value) (hf : Instr.findNow .string (.string k) es.toList 0 = some none) :
  (Instr.mapUpdate 164 (.map (some M)) (.string k) v).run Tryz.prog w = .ok () { w with heap := w.heap.setIfInBounds M (.map (es.push ⟨.string k, v, clk⟩) (clk + 1)) } := by
 unfold Instr.mapUpdate
 simp only [qqu, qqc Tryz.underlying164, Result.andThen_ok, jQ h, MG, BM k hf]
 rw [uT _ h]
def evC (i0 i1 kd lg dt : Int) (hv gv : Value) (A : A5) (lv : Value) : Array Value := #[I i0, I i1, I kd, I lg, I dt, hv, gv, I A.ar, I A.orn, I A.dy, lv, I A.st, I A.be]
section
variable {w : World}
theorem SN : ((List.range 5).all fun i => (F4 (2 ^ i)).all fun a => decide (bits BinOp.or IntKind.i64 a (IntKind.i64.wrap (2 ^ i)) = a + 2 ^ i)) = true := by decide +kernel
theorem VY {i : Nat} {a : Int} (hi : i < 5) (h0 : 0 <= a) (h1 : a < 2 ^ i) : bits BinOp.or IntKind.i64 a (IntKind.i64.wrap (2 ^ i)) = a + 2 ^ i :=
 of_decide_eq_true (qqn.1 (qqn.1 SN i (List.mem_range.2 hi)) a (uS h0 (by
  have : ((2 ^ i : Nat) : Int) = (2 : Int) ^ i := by simp
  omega)))
def eS (i : Nat) : Nat := if 20 <= i then 12 else if 18 <= i then 11 else if 9 <= i then 9 else if 5 <= i then 8 else 7
def fB (A : A5) (i : Nat) : Int := if 20 <= i then (i : Int) - 19 else if 18 <= i then (i : Int) - 17 else if 9 <= i then (i : Int) - 8 else if 5 <= i then (i : Int) - 4 else A.ar + 2 ^ i
theorem jR (i0 i1 kd lg dt : Int) (hv gv lv : Value) (A : A5) (i : Nat) : (evC i0 i1 kd lg dt hv gv A lv).setIfInBounds (eS i) (I (fB A i)) = evC i0 i1 kd lg dt hv gv (xG A i) lv := by
 unfold eS fB xG evC
 repeat' split
 all_goals rfl
theorem JN {E : Nat} {i0 i1 kd lg dt : Int} {hv gv lv : Value} {A : A5} (hE : w.heap[E]? = some (.cells (evC i0 i1 kd lg dt hv gv A lv) 31 (0, 0))) (i : Nat) (hi : i < 22) (hA : i < 5 -> 0 <= A.ar /\ A.ar < 2 ^ i) :
  Calls Tryz.prog 110 #[.pointer (some ⟨E, 0, none⟩), I (i : Nat)] w fun r w' => r = .returned (.tuple #[]) /\ w'.heap = (w.setCell ⟨E, eS i, none⟩ (I (fB A i))).heap /\ aB [E] w w' := by
 have f5 := Lib.frozen_of_heap hE 7
 have f6 := Lib.frozen_of_heap hE 8
 have f7 := Lib.frozen_of_heap hE 9
 have f11 := Lib.frozen_of_heap hE 11
 have f12 := Lib.frozen_of_heap hE 12
 have c7 : w.cell? ⟨E, 7, none⟩ = some (I A.ar) := by rw [Lib.cell_of_heap hE]; rfl
 have c8 : w.cell? ⟨E, 8, none⟩ = some (I A.orn) := by rw [Lib.cell_of_heap hE]; rfl
 have c9 : w.cell? ⟨E, 9, none⟩ = some (I A.dy) := by rw [Lib.cell_of_heap hE]; rfl
 have c11 : w.cell? ⟨E, 11, none⟩ = some (I A.st) := by rw [Lib.cell_of_heap hE]; rfl
 have c12 : w.cell? ⟨E, 12, none⟩ = some (I A.be) := by rw [Lib.cell_of_heap hE]; rfl
 have aw := fun o v => (aB.refl [E] w).setCell (p := ⟨E, o, none⟩) (.inl (by simp)) v
 have hi0 : (0 : Int) <= (i : Int) := by omega
 clear hE
 by_cases h20 : 20 <= i
 ·have e1 : eS i = 12 := by unfold eS; rw [if_pos h20]
  have e2 : fB A i = (i : Int) - 19 := by unfold fB; rw [if_pos h20]
  rw [e1, e2]
  have g1 : (20 : Int) <= (i : Int) := by omega
  have m1 : IntKind.i64.wrap ((i : Int) - 20) = (i : Int) - 20 := IntWalk.i64_in _ (by omega)
  have m2 : IntKind.i64.wrap ((i : Int) - 20 + 1) = (i : Int) - 19 := by rw [show (i : Int) - 20 + 1 = (i : Int) - 19 by omega]; exact IntWalk.i64_in _ (by omega)
  go_enter Tryz.func110, Tryz.ntmps110
  go_wp2
  go_end0
  exact ⟨rfl, rfl, aw _ _⟩
 by_cases h18 : 18 <= i
 ·have e1 : eS i = 11 := by unfold eS; rw [if_neg h20, if_pos h18]
  have e2 : fB A i = (i : Int) - 17 := by unfold fB; rw [if_neg h20, if_pos h18]
  rw [e1, e2]
  have g0 : ¬ (20 : Int) <= (i : Int) := by omega
  have g1 : (18 : Int) <= (i : Int) := by omega
  have m1 : IntKind.i64.wrap ((i : Int) - 18) = (i : Int) - 18 := IntWalk.i64_in _ (by omega)
  have m2 : IntKind.i64.wrap ((i : Int) - 18 + 1) = (i : Int) - 17 := by rw [show (i : Int) - 18 + 1 = (i : Int) - 17 by omega]; exact IntWalk.i64_in _ (by omega)
  go_enter Tryz.func110, Tryz.ntmps110
  go_wp2
  go_end0
  exact ⟨rfl, rfl, aw _ _⟩
 by_cases h9 : 9 <= i
 ·have e1 : eS i = 9 := by unfold eS; rw [if_neg h20, if_neg h18, if_pos h9]
  have e2 : fB A i = (i : Int) - 8 := by unfold fB; rw [if_neg h20, if_neg h18, if_pos h9]
  rw [e1, e2]
  have g0 : ¬ (20 : Int) <= (i : Int) := by omega
  have g1 : ¬ (18 : Int) <= (i : Int) := by omega
  have g2 : (9 : Int) <= (i : Int) := by omega
  have m1 : IntKind.i64.wrap ((i : Int) - 9) = (i : Int) - 9 := IntWalk.i64_in _ (by omega)
  have m2 : IntKind.i64.wrap ((i : Int) - 9 + 1) = (i : Int) - 8 := by rw [show (i : Int) - 9 + 1 = (i : Int) - 8 by omega]; exact IntWalk.i64_in _ (by omega)
  go_enter Tryz.func110, Tryz.ntmps110
  go_wp2
  go_end0
  exact ⟨rfl, rfl, aw _ _⟩
 by_cases h5 : 5 <= i
 ·have e1 : eS i = 8 := by unfold eS; rw [if_neg h20, if_neg h18, if_neg h9, if_pos h5]
  have e2 : fB A i = (i : Int) - 4 := by unfold fB; rw [if_neg h20, if_neg h18, if_neg h9, if_pos h5]
  rw [e1, e2]
  have g0 : ¬ (20 : Int) <= (i : Int) := by omega
  have g1 : ¬ (18 : Int) <= (i : Int) := by omega
  have g2 : ¬ (9 : Int) <= (i : Int) := by omega
  have g3 : (5 : Int) <= (i : Int) := by omega
  have m1 : IntKind.i64.wrap ((i : Int) - 5) = (i : Int) - 5 := IntWalk.i64_in _ (by omega)
  have m2 : IntKind.i64.wrap ((i : Int) - 5 + 1) = (i : Int) - 4 := by rw [show (i : Int) - 5 + 1 = (i : Int) - 4 by omega]; exact IntWalk.i64_in _ (by omega)
  go_enter Tryz.func110, Tryz.ntmps110
  go_wp2
  go_end0
  exact ⟨rfl, rfl, aw _ _⟩
 ·have e1 : eS i = 7 := by unfold eS; rw [if_neg h20, if_neg h18, if_neg h9, if_neg h5]
  have e2 : fB A i = A.ar + 2 ^ i := by unfold fB; rw [if_neg h20, if_neg h18, if_neg h9, if_neg h5]
  rw [e1, e2]
  obtain ⟨a0, a1⟩ := hA (by omega)
  have ho := VY (by omega : i < 5) a0 a1
  have hi5 : i = 0 \/ i = 1 \/ i = 2 \/ i = 3 \/ i = 4 := by omega
  clear e1 e2 h20 h18 h9 h5
  have aw' := (aw 7 (I (A.ar + 2 ^ i))).drew
  clear aw
  rcases hi5 with rfl | rfl | rfl | rfl | rfl
  all_goals simp only [Int.reducePow] at ho aw' |-
  all_goals go_enter Tryz.func110, Tryz.ntmps110
  all_goals go_wp2
  all_goals go_region_with (fail)
  all_goals go_wp2
  all_goals go_end0
  all_goals exact ⟨rfl, rfl, aw'⟩
theorem xV {E : Nat} {i0 i1 kd lg dt : Int} {hv gv lv : Value} {A : A5} (hE : w.heap[E]? = some (.cells (evC i0 i1 kd lg dt hv gv A lv) 31 (0, 0))) (i : Nat) (hi : i < 22) (hA : i < 5 -> 0 <= A.ar /\ A.ar < 2 ^ i) :
  Calls Tryz.prog 71 #[.pointer (some ⟨E, 0, none⟩), I (i : Nat)] w fun r w' => r = .returned (.tuple #[]) /\ w'.heap[E]? = some (.cells (evC i0 i1 kd lg dt hv gv (xG A i) lv) 31 (0, 0)) /\ aB [E] w w' := by
 have hg := rR (i := (i : Int)) (by omega) (by omega) w
 have hlE := (qd.1 hE).1
 have hst := fun w' (b : Below w.heap.size w w') => (b.block E hlE).trans hE
 clear hE hlE
 by_cases h20 : 20 <= i
 ·have e1 : eS i = 12 := by unfold eS; rw [if_pos h20]
  have e2 : fB A i = (i : Int) - 19 := by unfold fB; rw [if_pos h20]
  have eg : m7 (i : Int) = 5 := by unfold m7; (repeat' split) <;> omega
  rw [eg] at hg
  have hc := jR i0 i1 kd lg dt hv gv lv A i
  rw [e1, e2] at hc
  have m1 : IntKind.i64.wrap ((i : Int) - 19) = (i : Int) - 19 := IntWalk.i64_in _ (by omega)
  have HC := aQ hc
  clear hc e1 e2 eg hA
  go_enter Tryz.func71, Tryz.ntmps71
  go_wp2_with (go_at_call 70; refine hg.mono ?_)
  intro r w1; first | (intro he b1; subst he) | rintro ⟨rfl, b1⟩
  have hE1 := hst w1 b1
  have f1 := Lib.frozen_of_heap hE1 12
  have c1 : w1.cell? ⟨E, 12, none⟩ = some (I A.be) := by rw [Lib.cell_of_heap hE1]; rfl
  have hE2 := Lib.heap_setCell_same (i := 12) hE1 (I ((i : Int) - 19))
  rw [HC.out] at hE2
  have aw := (aB.of_below (bs := [E]) b1).setCell (p := ⟨E, 12, none⟩) (.inl (by simp)) (I ((i : Int) - 19))
  clear hst hg hE1
  go_wp2
  go_end0
  exact ⟨rfl, hE2, aw⟩
 by_cases h18 : 18 <= i
 ·have e1 : eS i = 11 := by unfold eS; rw [if_neg h20, if_pos h18]
  have e2 : fB A i = (i : Int) - 17 := by unfold fB; rw [if_neg h20, if_pos h18]
  have eg : m7 (i : Int) = 4 := by unfold m7; (repeat' split) <;> omega
  rw [eg] at hg
  have hc := jR i0 i1 kd lg dt hv gv lv A i
  rw [e1, e2] at hc
  have m1 : IntKind.i64.wrap ((i : Int) - 17) = (i : Int) - 17 := IntWalk.i64_in _ (by omega)
  have HC := aQ hc
  clear hc e1 e2 eg hA
  go_enter Tryz.func71, Tryz.ntmps71
  go_wp2_with (go_at_call 70; refine hg.mono ?_)
  intro r w1; first | (intro he b1; subst he) | rintro ⟨rfl, b1⟩
  have hE1 := hst w1 b1
  have f1 := Lib.frozen_of_heap hE1 11
  have c1 : w1.cell? ⟨E, 11, none⟩ = some (I A.st) := by rw [Lib.cell_of_heap hE1]; rfl
  have hE2 := Lib.heap_setCell_same (i := 11) hE1 (I ((i : Int) - 17))
  rw [HC.out] at hE2
  have aw := (aB.of_below (bs := [E]) b1).setCell (p := ⟨E, 11, none⟩) (.inl (by simp)) (I ((i : Int) - 17))
  clear hst hg hE1
  go_wp2
  go_end0
  exact ⟨rfl, hE2, aw⟩
 by_cases h9 : 9 <= i
 ·have e1 : eS i = 9 := by unfold eS; rw [if_neg h20, if_neg h18, if_pos h9]
  have e2 : fB A i = (i : Int) - 8 := by unfold fB; rw [if_neg h20, if_neg h18, if_pos h9]
  have eg : m7 (i : Int) = 3 := by unfold m7; (repeat' split) <;> omega
  rw [eg] at hg
  have hc := jR i0 i1 kd lg dt hv gv lv A i
  rw [e1, e2] at hc
  have m1 : IntKind.i64.wrap ((i : Int) - 8) = (i : Int) - 8 := IntWalk.i64_in _ (by omega)
  have HC := aQ hc
  clear hc e1 e2 eg hA
  go_enter Tryz.func71, Tryz.ntmps71
  go_wp2_with (go_at_call 70; refine hg.mono ?_)
  intro r w1; first | (intro he b1; subst he) | rintro ⟨rfl, b1⟩
  have hE1 := hst w1 b1
  have f1 := Lib.frozen_of_heap hE1 9
  have c1 : w1.cell? ⟨E, 9, none⟩ = some (I A.dy) := by rw [Lib.cell_of_heap hE1]; rfl
  have hE2 := Lib.heap_setCell_same (i := 9) hE1 (I ((i : Int) - 8))
  rw [HC.out] at hE2
  have aw := (aB.of_below (bs := [E]) b1).setCell (p := ⟨E, 9, none⟩) (.inl (by simp)) (I ((i : Int) - 8))
  clear hst hg hE1
  go_wp2
  go_end0
  exact ⟨rfl, hE2, aw⟩
 by_cases h5 : 5 <= i
 ·have e1 : eS i = 8 := by unfold eS; rw [if_neg h20, if_neg h18, if_neg h9, if_pos h5]
  have e2 : fB A i = (i : Int) - 4 := by unfold fB; rw [if_neg h20, if_neg h18, if_neg h9, if_pos h5]
  have eg : m7 (i : Int) = 2 := by unfold m7; (repeat' split) <;> omega
  rw [eg] at hg
  have hc := jR i0 i1 kd lg dt hv gv lv A i
  rw [e1, e2] at hc
  have m1 : IntKind.i64.wrap ((i : Int) - 4) = (i : Int) - 4 := IntWalk.i64_in _ (by omega)
  have HC := aQ hc
  clear hc e1 e2 eg hA
  go_enter Tryz.func71, Tryz.ntmps71
  go_wp2_with (go_at_call 70; refine hg.mono ?_)
  intro r w1; first | (intro he b1; subst he) | rintro ⟨rfl, b1⟩
  have hE1 := hst w1 b1
  have f1 := Lib.frozen_of_heap hE1 8
  have c1 : w1.cell? ⟨E, 8, none⟩ = some (I A.orn) := by rw [Lib.cell_of_heap hE1]; rfl
  have hE2 := Lib.heap_setCell_same (i := 8) hE1 (I ((i : Int) - 4))
  rw [HC.out] at hE2
  have aw := (aB.of_below (bs := [E]) b1).setCell (p := ⟨E, 8, none⟩) (.inl (by simp)) (I ((i : Int) - 4))
  clear hst hg hE1
  go_wp2
  go_end0
  exact ⟨rfl, hE2, aw⟩
 ·have e1 : eS i = 7 := by unfold eS; rw [if_neg h20, if_neg h18, if_neg h9, if_neg h5]
  have e2 : fB A i = A.ar + 2 ^ i := by unfold fB; rw [if_neg h20, if_neg h18, if_neg h9, if_neg h5]
  have eg : m7 (i : Int) = 1 := by unfold m7; rw [if_pos (by omega)]
  rw [eg] at hg
  have hc := jR i0 i1 kd lg dt hv gv lv A i
  rw [e1, e2] at hc
  obtain ⟨a0, a1⟩ := hA (by omega)
  have hi5 : i = 0 \/ i = 1 \/ i = 2 \/ i = 3 \/ i = 4 := by omega
  have HC := aQ hc
  clear hc e1 e2 eg hA h20 h18 h9 h5
  rcases hi5 with rfl | rfl | rfl | rfl | rfl
  ·have hg' : Calls Tryz.prog 70 #[I 0] w fun e w' => e = .returned (I 1) /\ Below w.heap.size w w' := hg
   clear hg
   show Calls Tryz.prog 71 #[.pointer (some ⟨E, 0, none⟩), I 0] w _
   simp only [Int.reducePow] at HC a0 a1 |-
   have m1 : IntKind.i64.wrap (A.ar + 1) = A.ar + 1 := IntWalk.i64_in _ (by omega)
   go_enter Tryz.func71, Tryz.ntmps71
   go_wp2_with (go_at_call 70; refine hg'.mono ?_)
   intro r w1; first | (intro he b1; subst he) | rintro ⟨rfl, b1⟩
   have hE1 := hst w1 b1
   have f1 := Lib.frozen_of_heap hE1 7
   have c1 : w1.cell? ⟨E, 7, none⟩ = some (I A.ar) := by rw [Lib.cell_of_heap hE1]; rfl
   have hE2 := Lib.heap_setCell_same (i := 7) hE1 (I (A.ar + 1))
   rw [HC.out] at hE2
   have aw := ((aB.of_below (bs := [E]) b1).setCell (p := ⟨E, 7, none⟩) (.inl (by simp)) (I (A.ar + 1))).drew
   clear hst hg' hE1
   go_wp2
   go_region_with (fail)
   go_wp2
   go_end0
   have e9 : IntKind.i64.wrap (A.ar + IntKind.i64.wrap 1) = A.ar + 1 := m1
   rw [e9]
   exact ⟨rfl, hE2, aw⟩
  ·have hg' : Calls Tryz.prog 70 #[I 1] w fun e w' => e = .returned (I 1) /\ Below w.heap.size w w' := hg
   clear hg
   show Calls Tryz.prog 71 #[.pointer (some ⟨E, 0, none⟩), I 1] w _
   simp only [Int.reducePow] at HC a0 a1 |-
   have m1 : IntKind.i64.wrap (A.ar + 2) = A.ar + 2 := IntWalk.i64_in _ (by omega)
   go_enter Tryz.func71, Tryz.ntmps71
   go_wp2_with (go_at_call 70; refine hg'.mono ?_)
   intro r w1; first | (intro he b1; subst he) | rintro ⟨rfl, b1⟩
   have hE1 := hst w1 b1
   have f1 := Lib.frozen_of_heap hE1 7
   have c1 : w1.cell? ⟨E, 7, none⟩ = some (I A.ar) := by rw [Lib.cell_of_heap hE1]; rfl
   have hE2 := Lib.heap_setCell_same (i := 7) hE1 (I (A.ar + 2))
   rw [HC.out] at hE2
   have aw := ((aB.of_below (bs := [E]) b1).setCell (p := ⟨E, 7, none⟩) (.inl (by simp)) (I (A.ar + 2))).drew
   clear hst hg' hE1
   go_wp2
   go_region_with (fail)
   go_wp2
   go_end0
   have e9 : IntKind.i64.wrap (A.ar + IntKind.i64.wrap 2) = A.ar + 2 := m1
   rw [e9]
   exact ⟨rfl, hE2, aw⟩
  ·have hg' : Calls Tryz.prog 70 #[I 2] w fun e w' => e = .returned (I 1) /\ Below w.heap.size w w' := hg
   clear hg
   show Calls Tryz.prog 71 #[.pointer (some ⟨E, 0, none⟩), I 2] w _
   simp only [Int.reducePow] at HC a0 a1 |-
   have m1 : IntKind.i64.wrap (A.ar + 4) = A.ar + 4 := IntWalk.i64_in _ (by omega)
   go_enter Tryz.func71, Tryz.ntmps71
   go_wp2_with (go_at_call 70; refine hg'.mono ?_)
   intro r w1; first | (intro he b1; subst he) | rintro ⟨rfl, b1⟩
   have hE1 := hst w1 b1
   have f1 := Lib.frozen_of_heap hE1 7
   have c1 : w1.cell? ⟨E, 7, none⟩ = some (I A.ar) := by rw [Lib.cell_of_heap hE1]; rfl
   have hE2 := Lib.heap_setCell_same (i := 7) hE1 (I (A.ar + 4))
   rw [HC.out] at hE2
   have aw := ((aB.of_below (bs := [E]) b1).setCell (p := ⟨E, 7, none⟩) (.inl (by simp)) (I (A.ar + 4))).drew
   clear hst hg' hE1
   go_wp2
   go_region_with (fail)
   go_wp2
   go_end0
   have e9 : IntKind.i64.wrap (A.ar + IntKind.i64.wrap 4) = A.ar + 4 := m1
   rw [e9]
   exact ⟨rfl, hE2, aw⟩
  ·have hg' : Calls Tryz.prog 70 #[I 3] w fun e w' => e = .returned (I 1) /\ Below w.heap.size w w' := hg
   clear hg
   show Calls Tryz.prog 71 #[.pointer (some ⟨E, 0, none⟩), I 3] w _
   simp only [Int.reducePow] at HC a0 a1 |-
   have m1 : IntKind.i64.wrap (A.ar + 8) = A.ar + 8 := IntWalk.i64_in _ (by omega)
   go_enter Tryz.func71, Tryz.ntmps71
   go_wp2_with (go_at_call 70; refine hg'.mono ?_)
   intro r w1; first | (intro he b1; subst he) | rintro ⟨rfl, b1⟩
   have hE1 := hst w1 b1
   have f1 := Lib.frozen_of_heap hE1 7
   have c1 : w1.cell? ⟨E, 7, none⟩ = some (I A.ar) := by rw [Lib.cell_of_heap hE1]; rfl
   have hE2 := Lib.heap_setCell_same (i := 7) hE1 (I (A.ar + 8))
   rw [HC.out] at hE2
   have aw := ((aB.of_below (bs := [E]) b1).setCell (p := ⟨E, 7, none⟩) (.inl (by simp)) (I (A.ar + 8))).drew
   clear hst hg' hE1
   go_wp2
   go_region_with (fail)
   go_wp2
   go_end0
   have e9 : IntKind.i64.wrap (A.ar + IntKind.i64.wrap 8) = A.ar + 8 := m1
   rw [e9]
   exact ⟨rfl, hE2, aw⟩
  ·have hg' : Calls Tryz.prog 70 #[I 4] w fun e w' => e = .returned (I 1) /\ Below w.heap.size w w' := hg
   clear hg
   show Calls Tryz.prog 71 #[.pointer (some ⟨E, 0, none⟩), I 4] w _
   simp only [Int.reducePow] at HC a0 a1 |-
   have m1 : IntKind.i64.wrap (A.ar + 16) = A.ar + 16 := IntWalk.i64_in _ (by omega)
   go_enter Tryz.func71, Tryz.ntmps71
   go_wp2_with (go_at_call 70; refine hg'.mono ?_)
   intro r w1; first | (intro he b1; subst he) | rintro ⟨rfl, b1⟩
   have hE1 := hst w1 b1
   have f1 := Lib.frozen_of_heap hE1 7
   have c1 : w1.cell? ⟨E, 7, none⟩ = some (I A.ar) := by rw [Lib.cell_of_heap hE1]; rfl
   have hE2 := Lib.heap_setCell_same (i := 7) hE1 (I (A.ar + 16))
   rw [HC.out] at hE2
   have aw := ((aB.of_below (bs := [E]) b1).setCell (p := ⟨E, 7, none⟩) (.inl (by simp)) (I (A.ar + 16))).drew
   clear hst hg' hE1
   go_wp2
   go_region_with (fail)
   go_wp2
   go_end0
   have e9 : IntKind.i64.wrap (A.ar + IntKind.i64.wrap 16) = A.ar + 16 := m1
   rw [e9]
   exact ⟨rfl, hE2, aw⟩
end
theorem rS {M : Nat} {es : Array MapEntry} {clk : Nat} {w : World} (h : w.heap[M]? = some (.map es clk)) (k : ByteArray) (hf : Instr.findNow .string (.string k) es.toList 0 = some none) :
  (Instr.lookup 164 (.map (some M)) (.string k) true).run Tryz.prog w = .ok (.tuple #[I 0, .bool false]) w := by
 unfold Instr.lookup
 simp only [qqu, qqc Tryz.underlying164, Result.andThen_ok, jQ h, Sem.run_pure, MG, BM k hf, Tryz.zeroValue3, if_true]
theorem vT {T : List bD} {s : aU} (h : (aW T s).kind = 1) : ∃ p, s = .ok p := by
 cases s with
 | ok p => exact ⟨p, rfl⟩
 | bad e l c => exact absurd h (by simp [aW, dA])
section
variable {W0 : World} {T : List bD} {Y M : Nat} {free : Bool} {st : aU} {w : World}
theorem XZ (h : PS T Y M free st w) {Q : Nat} (hQ : w.heap[Q]? = some (.map (SG 22) 22)) :
  Calls Tryz.prog 109 #[.pointer (some ⟨Y, 0, none⟩), .map (some Q)] w fun r w' => r = .returned (I (((bU T aP st).1.getD 0 : Nat) : Int)) /\ PS T Y M free (bU T aP st).2 w' /\ aB [Y, M] w w' := by
 have hp := pA h
 have hst := fun w' (b : Below w.heap.size w w') => h.step b
 have lQ := (qd.1 hQ).1
 have hm := h.good.max
 have hf1 := fun w' (b : Below w.heap.size w w') => kV (h.step b) 13 (by decide)
 have hf2 := fun w' (b : Below w.heap.size w w') => kV (h.step b) 32 (by decide)
 have hat := fun p (e : st = .ok p) (w' : World) (b : Below w.heap.size w w') => (e ▸ h.step b : PS T Y M free (.ok p) w').atCell
 have hjp := fun p (e : st = .ok p) (w' : World) (b : Below w.heap.size w w') hq => (e ▸ h.step b : PS T Y M free (.ok p) w').jump (q := p + 1) hq
 unfold bU
 have hfind : ∀ x : ByteArray, Instr.findNow .string (.string x) (SG 22).toList 0 = some ((dY x aP).map fun j => (j, I (j : Nat))) := fun x => EK
 have hkind : (aW T st).kind = 1 -> ∃ p, st = .ok p /\ p + 1 < T.length := fun hk => by
  obtain ⟨p, rfl⟩ := vT hk
  exact ⟨p, rfl, h.good.more h.atCell.2.2 (by rw [show (T.getD p dA).kind = 1 from hk]; decide)⟩
 unfold fK at hp
 generalize aW T st = t at hp hkind |-
 obtain ⟨kd, text, v, bt, lin, cl, j⟩ := t
 simp only at hp hkind |-
 have hfx := hfind text
 by_cases hk : kd = 1
 ·subst hk
  rw [if_neg (by decide)]
  obtain ⟨p, rfl, hp1⟩ := hkind rfl
  cases hw : dY text aP with
  | none =>
   rw [hw] at hfx
   have hlk := fun w' (b : Below w.heap.size w w') => rS ((b.block Q lQ).trans hQ) text hfx
   simp only [Option.getD_none]
   clear h hQ hfind hkind hat hjp hf1 hst hm
   generalize bF T 32 (.ok p) = s2 at hf2 |-
   go_enter Tryz.func109, Tryz.ntmps109
   go_wp2_with (go_at_call 62; refine hp.mono ?_)
   intro r w1; first | (intro he b1; subst he) | rintro ⟨rfl, b1⟩
   have b2 := b1.alloc b1.size (.cells #[I 1, .string text, I v, .string bt, I lin, I cl, .bool j] 59)
   have hlk2 := hlk _ b2
   have hx := hf2 _ b2
   clear hlk hf2 hp
   go_wp2_with (go_at_call 63; refine hx.mono ?_)
   intro r w3; first | (intro he hS b3; subst he) | rintro ⟨rfl, hS, b3⟩
   go_wp2
   go_ret
   exact ⟨rfl, hS, (aB.of_below b2).trans b3⟩
  | some i =>
   rw [hw] at hfx
   have hlk := fun w' (b : Below w.heap.size w w') => pX ((b.block Q lQ).trans hQ) text hfx
   simp only [Option.getD_some, aU.next]
   have hpw : IntKind.i64.wrap ((p : Int) + 1) = ((p + 1 : Nat) : Int) := by rw [IntWalk.i64_in _ (by omega)]; simp
   have e9 : ((p + 1 : Nat) : Int) = (p : Int) + 1 := by simp
   have hpw' : IntKind.i64.wrap ((p : Int) + 1) = (p : Int) + 1 := hpw.trans e9
   clear h hQ hfind hkind hf1 hf2 hm
   have hat' := hat p rfl
   have hjp' := hjp p rfl
   clear hat hjp
   go_enter Tryz.func109, Tryz.ntmps109
   go_wp2_with (go_at_call 62; refine hp.mono ?_)
   intro r w1; first | (intro he b1; subst he) | rintro ⟨rfl, b1⟩
   have b2 := b1.alloc b1.size (.cells #[I 1, .string text, I v, .string bt, I lin, I cl, .bool j] 59)
   have hlk2 := hlk _ b2
   obtain ⟨x1, xf1, _⟩ := hat' w1 b1
   have n1 := qr w1 _ x1
   have l1 : Y < w1.heap.size := (hst w1 b1).lt
   have hS4 := (hjp' w1 b1 hp1).step ((qa _ _).alloc (qb _) (.cells #[I 1, .string text, I v, .string bt, I lin, I cl, .bool j] 59))
   have a4 := ((aB.of_below (bs := [Y, M]) b1).setCell (p := ⟨Y, 1, none⟩) (.inl (by simp)) (I ((p + 1 : Nat) : Int))).alloc (.cells #[I 1, .string text, I v, .string bt, I lin, I cl, .bool j] 59)
   rw [e9] at hS4 a4
   clear hlk hat' hjp' hp hst hpw e9
   go_wp2
   go_ret
   exact ⟨rfl, hS4, a4⟩
 ·rw [if_pos hk]
  obtain ⟨b, hbv⟩ : ∃ b : Bool × Value, True := ⟨⟨true, undef⟩, trivial⟩
  obtain ⟨v0, v1, hlk⟩ : ∃ (v0 : Int) (v1 : Bool), ∀ w', Below w.heap.size w w' -> (Instr.lookup 164 (.map (some Q)) (.string text) true).run Tryz.prog w' = .ok (.tuple #[I v0, .bool v1]) w' := by
   cases hw : dY text aP with
   | none => rw [hw] at hfx; exact ⟨0, false, fun w' b => rS ((b.block Q lQ).trans hQ) text hfx⟩
   | some i => rw [hw] at hfx; exact ⟨_, true, fun w' b => pX ((b.block Q lQ).trans hQ) text hfx⟩
  simp only [Option.getD_none]
  clear h hQ hfind hkind hat hjp hf2 hst hm hfx
  generalize bF T 13 st = s2 at hf1 |-
  go_enter Tryz.func109, Tryz.ntmps109
  go_wp2_with (go_at_call 62; refine hp.mono ?_)
  intro r w1; first | (intro he b1; subst he) | rintro ⟨rfl, b1⟩
  have b2 := b1.alloc b1.size (.cells #[I kd, .string text, I v, .string bt, I lin, I cl, .bool j] 59)
  have hlk2 := hlk _ b2
  have hx := hf1 _ b2
  clear hlk hf1 hp
  go_wp2_with (go_at_call 63; refine hx.mono ?_)
  intro r w3; first | (intro he hS b3; subst he) | rintro ⟨rfl, hS, b3⟩
  go_wp2
  go_ret
  exact ⟨rfl, hS, (aB.of_below b2).trans b3⟩
end
section
variable {W0 : World} {T : List bD} {X : Nat} {free : Bool} {lv iv : Value} {st : aU} {w : World}
theorem SP (h : MS T X free lv iv st w) {R : Nat} (hR : w.heap[R]? = some dG) :
  Calls Tryz.prog 68 #[.pointer (some ⟨X, 0, none⟩), .slice (some ⟨R, 0, none⟩) 22 22] w fun r w' => r = .returned (I (((bU T aP st).1.getD 0 : Nat) : Int)) /\ MS T X free lv iv (bU T aP st).2 w' /\ aB [X] w w' := by
 have hp := pR h
 have hst := fun w' (b : Below w.heap.size w w') => h.step b
 have lR := (qd.1 hR).1
 have hm := h.good.max
 have hf1 := fun w' (b : Below w.heap.size w w') => gP (h.step b) 13 (by decide)
 have hf2 := fun w' (b : Below w.heap.size w w') => gP (h.step b) 32 (by decide)
 have hat := fun p (e : st = .ok p) (w' : World) (b : Below w.heap.size w w') => (e ▸ h.step b : MS T X free lv iv (.ok p) w').atCell
 have hjp := fun p (e : st = .ok p) (w' : World) (b : Below w.heap.size w w') hq => (e ▸ h.step b : MS T X free lv iv (.ok p) w').jump (q := p + 1) hq (by omega)
 have hkind : (aW T st).kind = 1 -> ∃ p, st = .ok p /\ p + 1 < T.length := fun hk => by
  obtain ⟨p, rfl⟩ := vT hk
  exact ⟨p, rfl, h.good.more h.atCell.2.2 (by rw [show (T.getD p dA).kind = 1 from hk]; decide)⟩
 have w1 : (aW T st).kind = 1 -> ∀ k, (∀ j < k, aP[j]? ≠ some (aW T st).text) -> aP[k]? = some (aW T st).text -> bU T aP st = (some k, st.next 1) := fun hk k h1 h2 => by
  unfold bU
  rw [if_neg (by rw [hk]; decide), zB h1 h2]
 have w2 : (aW T st).kind = 1 -> (∀ j < 22, aP[j]? ≠ some (aW T st).text) -> bU T aP st = (none, bF T 32 st) := fun hk h1 => by
  unfold bU
  rw [if_neg (by rw [hk]; decide), vS (by rw [vR]; exact h1)]
 have w3 : (aW T st).kind ≠ 1 -> bU T aP st = (none, bF T 13 st) := fun hk => by
  unfold bU
  rw [if_pos hk]
 unfold fK at hp
 generalize aW T st = t at hp hkind w1 w2 w3
 obtain ⟨kd, text, v, bt, lin, cl, j⟩ := t
 simp only at hp hkind w1 w2 w3
 by_cases hk : kd = 1
 ·subst hk
  obtain ⟨p, rfl, hp1⟩ := hkind rfl
  have hpw : IntKind.i64.wrap ((p : Int) + 1) = (p : Int) + 1 := IntWalk.i64_in _ (by omega)
  have e9 : ((p + 1 : Nat) : Int) = (p : Int) + 1 := by simp
  have hat' := hat p rfl
  have hjp' := hjp p rfl
  have hrow := fun w' (b : Below w.heap.size w w') => (b.block R lR).trans hR
  have hres := w1 rfl
  have hres0 := w2 rfl
  clear w1 w2 w3
  generalize bU T aP (.ok p) = res at hres hres0 |-
  generalize bF T 32 (.ok p) = s2 at hf2 hres0
  have HR := aQ (And.intro hres hres0)
  clear h hR hkind hf1 hm hat hjp hres hres0
  go_enter Tryz.func68, Tryz.ntmps68
  go_wp2_with (go_at_call 31; refine hp.mono ?_)
  intro r w1; first | (intro he b1; subst he) | rintro ⟨rfl, b1⟩
  have hN := qc w1 (.cells #[I 1, .string text, I v, .string bt, I lin, I cl, .bool j] 59)
  have b2 := b1.alloc b1.size (.cells #[I 1, .string text, I v, .string bt, I lin, I cl, .bool j] 59)
  have hB := b1.size
  clear hp
  generalize hwa : w1.alloc (.cells #[I 1, .string text, I v, .string bt, I lin, I cl, .bool j] 59) = wa at hN b2
  generalize hZ : w1.heap.size = Z at hN hB
  have cZ0 : wa.cell? ⟨Z, 0, none⟩ = some (I 1) := by rw [Lib.cell_of_heap hN]; rfl
  go_wp2
  have lZ := aA hN
  go_loopg [6] 22 (fun g s6 wr => ∃ k : Nat, k <= 22 /\ g = 22 - k /\ s6 = I (k : Nat) /\ Below w.heap.size w wr /\ wr.heap[Z]? = some (.cells #[I 1, .string text, I v, .string bt, I lin, I cl, .bool j] 59 (0, 0)) /\ ∀ j < k, aP[j]? ≠ some text)
  case atStart => exact ⟨0, by omega, rfl, rfl, b2, hN, fun j hj => by omega⟩
  case round =>
   obtain ⟨k, hk, hg, rfl, bb, hz, hno⟩ := hrel
   have HN := aQ hno
   clear hno
   by_cases hlt : k < 22
   ·have hlt' : (k : Int) < 22 := by omega
    have hk0 : (0 : Int) <= (k : Int) := by omega
    have m1 : IntKind.i64.wrap ((k : Int) + 1) = (k : Int) + 1 := IntWalk.i64_in _ (by omega)
    have cR : wr.cell? ⟨R, k, none⟩ = some (.string (pB k)) := by rw [Lib.cell_of_heap (hrow wr bb)]; simp [rQ hlt]
    have cZ : wr.cell? ⟨Z, 1, none⟩ = some (.string text) := by rw [Lib.cell_of_heap hz]; rfl
    by_cases he : pB k = text
    ·have e2 := HR.out.1 k HN.out (by rw [rQ hlt, he])
     have HE := aQ e2
     rw [he] at cR
     obtain ⟨x1, xf1, _⟩ := hat' wr bb
     have hS4 := hjp' wr.drew bb.drew hp1
     have a4 := ((aB.of_below (bs := [X]) bb.drew).setCell (p := ⟨X, 1, none⟩) (.inl (by simp)) (I ((p + 1 : Nat) : Int)))
     rw [e9] at hS4 a4
     clear hat' hjp' hst hf2 e2 he e9
     go_wp2
     go_region_with (fail)
     go_wp2
     all_goals go_ret
     all_goals rw [HE.out]
     all_goals exact ⟨rfl, hS4, a4⟩
    ·have he' : ((pB k).toList == text.toList) = false := (Lib.bytes_beq_false_iff _ _).2 he
     have hno2 : ∀ j < k + 1, aP[j]? ≠ some text := fun j hj => by
      by_cases hjk : j < k
      ·exact HN.out j hjk
      ·obtain rfl : j = k := by omega
       rw [rQ hlt]; intro e; injection e with e; exact he e
     have bd := bb.drew
     have HN2 := aQ hno2
     have hzd : wr.drew.heap[Z]? = _ := hz
     clear hat' hjp' hst hf2 hno2 hN b2
     generalize pB k = tx at cR he he'
     go_wp2
     go_region_with (fail)
     all_goals go_wp2
     all_goals go_roundg (22 - (k + 1))
     all_goals first | omega | exact ⟨k + 1, by omega, rfl, by simp, bd, hzd, HN2.out⟩
   ·have hkl : k = 22 := by omega
    subst hkl
    have HE := aQ (HR.out.2 HN.out)
    have hx := hf2 _ bb
    clear hf2 hat' hjp' hst
    go_wp2_with (go_at_call 32; refine hx.mono ?_)
    intro r w3; first | (intro he hS b3; subst he) | rintro ⟨rfl, hS, b3⟩
    go_wp2
    go_ret
    rw [HE.out]
    exact ⟨rfl, hS, (aB.of_below bb).trans b3⟩
 ·rw [w3 hk]
  simp only [Option.getD_none]
  clear w1 w2 w3 h hR hkind hat hjp hf2 hst hm
  generalize bF T 13 st = s2 at hf1 |-
  go_enter Tryz.func68, Tryz.ntmps68
  go_wp2_with (go_at_call 31; refine hp.mono ?_)
  intro r w1; first | (intro he b1; subst he) | rintro ⟨rfl, b1⟩
  have b2 := b1.alloc b1.size (.cells #[I kd, .string text, I v, .string bt, I lin, I cl, .bool j] 59)
  have hx := hf1 _ b2
  clear hf1 hp
  go_wp2_with (go_at_call 32; refine hx.mono ?_)
  intro r w3; first | (intro he hS b3; subst he) | rintro ⟨rfl, hS, b3⟩
  go_wp2
  go_ret
  exact ⟨rfl, hS, (aB.of_below b2).trans b3⟩
end
end Go.Proofs.YtgkhemnmcgicnaaGreatDoor
