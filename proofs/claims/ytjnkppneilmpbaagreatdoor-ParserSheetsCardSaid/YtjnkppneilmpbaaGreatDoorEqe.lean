/-
  A part of the proof that the law ParserSheets (chapter 19) returns true for every sheet: walks of the program's functions, and runs of them in the kernel by the own evaluator.
-/
import Derived.Test.YtjnkppneilmpbaaGreatDoorEqb
import Derived.Deep.RegionHeld3
namespace Go.Proofs.YtjnkppneilmpbaaGreatDoor
open Go.RowKit

theorem Tryz.sizePlain : (Tryz.prog.info? 130).map (·.size) = some 20 := by kernel_rfl
/-- The cells of a measure: its id, its key, its cells. -/
def measArr (i k : Int) (cv : Value) : Array Value := #[.int .i64 0, .int .i64 i, .int .i64 4, .int .i64 4, .int .i64 0, .int .i64 0, .int .i64 0, .int .i64 0, .int .i64 0, .int .i64 0, .int .i64 0, .int .i64 k, .bool false, .int .i64 0, .int .i64 0, .int .i64 0, .int .i64 0, .int .i64 0, .int .i64 0, .string ByteArray.empty, .slice none 0 0, cv]
def plainArr (i k : Int) : Array Value := #[.int .i64 0, .int .i64 i, .int .i64 4, .int .i64 4, .int .i64 0, .int .i64 0, .int .i64 0, .int .i64 0, .int .i64 0, .int .i64 0, .int .i64 0, .int .i64 k, .bool false, .int .i64 0, .int .i64 0, .int .i64 0, .int .i64 0, .int .i64 0, .int .i64 0, .string ByteArray.empty]
def plainZ : Array Value := #[.int .i64 0, .int .i64 0, .int .i64 0, .int .i64 0, .int .i64 0, .int .i64 0, .int .i64 0, .int .i64 0, .int .i64 0, .int .i64 0, .int .i64 0, .int .i64 0, .bool false, .int .i64 0, .int .i64 0, .int .i64 0, .int .i64 0, .int .i64 0, .int .i64 0, .string ByteArray.empty]
def plainParts (i k : Int) : List (Nat × Value) := [(0, .agg #[.int .i64 0, .int .i64 i]), (1, .agg #[.int .i64 4, .int .i64 4, .int .i64 0, .int .i64 0, .int .i64 0, .int .i64 0, .int .i64 0, .int .i64 0]), (2, .int .i64 0), (3, .int .i64 k), (4, .bool false), (5, .int .i64 0), (6, .int .i64 0), (7, .int .i64 0), (8, .int .i64 0), (9, .int .i64 0), (10, .int .i64 0), (11, .string ByteArray.empty)]
theorem built_plain (i k : Int) : Tryz.prog.built 130 (plainParts i k) = some (plainArr i k) := by kernel_rfl

theorem measArr_at {w : World} {X : Nat} {i k : Int} {cv : Value} {fr : Nat × Nat} (h : w.heap[X]? = some (.cells (measArr i k cv) 56 fr)) (j : Nat) {u : Value} (hu : (measArr i k cv)[j]? = some u) : w.cell? ⟨X, j, none⟩ = some u := by
  rw [Lib.cell_of_heap h]; exact hu

set_option maxHeartbeats 16000000 in
set_option maxRecDepth 100000 in
theorem fields_walk (i k : Int) (ao : Option Addr) (n c : Nat) (w : World) :
    Calls Tryz.prog 43 #[.agg (measArr i k (.slice ao n c))] w fun r w' => r = .returned (.agg (plainArr i k)) ∧ Below w.heap.size w w' := by
  have hc : ∀ (o : Obj) (j : Nat) (u : Value), (measArr i k (.slice ao n c))[j]? = some u → ((w.alloc (.cells (measArr i k (.slice ao n c)) 56)).alloc o).cell? ⟨w.heap.size, j, none⟩ = some u := fun o j u hu => measArr_at (heap_alloc2_old w _ _) j hu
  have c0 : ∀ o : Obj, ((w.alloc (.cells (measArr i k (.slice ao n c)) 56)).alloc o).cell? ⟨w.heap.size, 0, none⟩ = some (.int .i64 0) := fun o => hc o 0 _ rfl
  have c1 : ∀ o : Obj, ((w.alloc (.cells (measArr i k (.slice ao n c)) 56)).alloc o).cell? ⟨w.heap.size, 1, none⟩ = some (.int .i64 i) := fun o => hc o 1 _ rfl
  have c2 : ∀ o : Obj, ((w.alloc (.cells (measArr i k (.slice ao n c)) 56)).alloc o).cell? ⟨w.heap.size, 2, none⟩ = some (.int .i64 4) := fun o => hc o 2 _ rfl
  have c3 : ∀ o : Obj, ((w.alloc (.cells (measArr i k (.slice ao n c)) 56)).alloc o).cell? ⟨w.heap.size, 3, none⟩ = some (.int .i64 4) := fun o => hc o 3 _ rfl
  have c4 : ∀ o : Obj, ((w.alloc (.cells (measArr i k (.slice ao n c)) 56)).alloc o).cell? ⟨w.heap.size, 4, none⟩ = some (.int .i64 0) := fun o => hc o 4 _ rfl
  have c5 : ∀ o : Obj, ((w.alloc (.cells (measArr i k (.slice ao n c)) 56)).alloc o).cell? ⟨w.heap.size, 5, none⟩ = some (.int .i64 0) := fun o => hc o 5 _ rfl
  have c6 : ∀ o : Obj, ((w.alloc (.cells (measArr i k (.slice ao n c)) 56)).alloc o).cell? ⟨w.heap.size, 6, none⟩ = some (.int .i64 0) := fun o => hc o 6 _ rfl
  have c7 : ∀ o : Obj, ((w.alloc (.cells (measArr i k (.slice ao n c)) 56)).alloc o).cell? ⟨w.heap.size, 7, none⟩ = some (.int .i64 0) := fun o => hc o 7 _ rfl
  have c8 : ∀ o : Obj, ((w.alloc (.cells (measArr i k (.slice ao n c)) 56)).alloc o).cell? ⟨w.heap.size, 8, none⟩ = some (.int .i64 0) := fun o => hc o 8 _ rfl
  have c9 : ∀ o : Obj, ((w.alloc (.cells (measArr i k (.slice ao n c)) 56)).alloc o).cell? ⟨w.heap.size, 9, none⟩ = some (.int .i64 0) := fun o => hc o 9 _ rfl
  have c10 : ∀ o : Obj, ((w.alloc (.cells (measArr i k (.slice ao n c)) 56)).alloc o).cell? ⟨w.heap.size, 10, none⟩ = some (.int .i64 0) := fun o => hc o 10 _ rfl
  have c11 : ∀ o : Obj, ((w.alloc (.cells (measArr i k (.slice ao n c)) 56)).alloc o).cell? ⟨w.heap.size, 11, none⟩ = some (.int .i64 k) := fun o => hc o 11 _ rfl
  have c12 : ∀ o : Obj, ((w.alloc (.cells (measArr i k (.slice ao n c)) 56)).alloc o).cell? ⟨w.heap.size, 12, none⟩ = some (.bool false) := fun o => hc o 12 _ rfl
  have c13 : ∀ o : Obj, ((w.alloc (.cells (measArr i k (.slice ao n c)) 56)).alloc o).cell? ⟨w.heap.size, 13, none⟩ = some (.int .i64 0) := fun o => hc o 13 _ rfl
  have c14 : ∀ o : Obj, ((w.alloc (.cells (measArr i k (.slice ao n c)) 56)).alloc o).cell? ⟨w.heap.size, 14, none⟩ = some (.int .i64 0) := fun o => hc o 14 _ rfl
  have c15 : ∀ o : Obj, ((w.alloc (.cells (measArr i k (.slice ao n c)) 56)).alloc o).cell? ⟨w.heap.size, 15, none⟩ = some (.int .i64 0) := fun o => hc o 15 _ rfl
  have c16 : ∀ o : Obj, ((w.alloc (.cells (measArr i k (.slice ao n c)) 56)).alloc o).cell? ⟨w.heap.size, 16, none⟩ = some (.int .i64 0) := fun o => hc o 16 _ rfl
  have c17 : ∀ o : Obj, ((w.alloc (.cells (measArr i k (.slice ao n c)) 56)).alloc o).cell? ⟨w.heap.size, 17, none⟩ = some (.int .i64 0) := fun o => hc o 17 _ rfl
  have c18 : ∀ o : Obj, ((w.alloc (.cells (measArr i k (.slice ao n c)) 56)).alloc o).cell? ⟨w.heap.size, 18, none⟩ = some (.int .i64 0) := fun o => hc o 18 _ rfl
  have c19 : ∀ o : Obj, ((w.alloc (.cells (measArr i k (.slice ao n c)) 56)).alloc o).cell? ⟨w.heap.size, 19, none⟩ = some (.string ByteArray.empty) := fun o => hc o 19 _ rfl
  clear hc
  generalize hm : measArr i k (.slice ao n c) = m at *
  go_enter Tryz.func43, Tryz.ntmps43
  go_wp2_with (first
    | (refine wpList_build_l rfl 130 _ rfl (l := plainParts i k) (by simp [Act.eval, plainParts]) (built_plain i k) ?_)
    | (refine wpList_store_new (by rfl) 130 _ _ (by rfl) (plainArr i k) _ _ (n := w.heap.size + 1) (by simp) rfl rfl Tryz.sizePlain (by rfl) (by simp [plainArr, Value.oneCell']) ?_))
  refine bodyPost_ret (results_cell_row rfl _ _ (w.heap.size + 1) 130 (plainArr i k) (0, 0) _ rfl (heap_alloc2_new w _ _) Tryz.underlying130 rfl Tryz.sizePlain) rfl ?_
  exact ⟨rfl, ((Below.refl _ w).alloc (Nat.le_refl _) _).alloc (by simp) _⟩
end Go.Proofs.YtjnkppneilmpbaaGreatDoor

namespace Go.Proofs.YtjnkppneilmpbaaGreatDoor
open Go.RowKit

set_option maxHeartbeats 4000000 in
set_option maxRecDepth 100000 in
theorem plain_eq (i k : Int) (w : World) : (Op.equalIn 10000 130 (.agg (plainArr i k)) (.agg (plainArr i k))).run Tryz.prog w = .ok true w := by
  have h50 : ∀ w : World, (Op.equalIn 9998 50 (.agg #[.int .i64 0, .int .i64 0, .int .i64 0, .int .i64 0, .int .i64 0, .int .i64 0]) (.agg #[.int .i64 0, .int .i64 0, .int .i64 0, .int .i64 0, .int .i64 0, .int .i64 0])).run Tryz.prog w = .ok true w := fun w => by kernel_rfl
  unfold plainArr
  go_simp

theorem yieldsIf_load_row {P : Program} {ops : Array Oper} {S : World → Prop} {op : Oper} {a : Act} (hw : Region.wanted op (yielded ops a.tmps) = true) (ty : TypeId) (x : Operand) (ho : op.op = .load ty x)
    (g : Nat) (hx : a.eval x = .pointer (some ⟨g, 0, none⟩)) (cs : Array Value) (t : TypeId) (d : TypeDesc) (hS : ∀ w, S w → w.heap[g]? = some (.cells cs t (0, 0)))
    (hu : P.underlying ty = some d) (hd : (match d with | .struct _ | .array _ _ => true | _ => false) = true) (hi : (P.info? ty).map (·.size) = some cs.size) : YieldsIf P ops S op (.agg cs) a :=
  .inl ⟨hw, fun w hw' => by
    unfold execOp
    simp only [ho, hx, Instr.loadAt, Instr.sureAddr, Sem.run_bind, Sem.run_pure, Result.andThen_ok, run_loadVar_row w g t ty cs (0, 0) d (hS w hw') hu hd hi]⟩

/-- Two measures lie in memory. -/
def Two (A B : Nat) (m m' : Array Value) (w : World) : Prop := w.heap[A]? = some (.cells m 56 (0, 0)) ∧ w.heap[B]? = some (.cells m' 56 (0, 0))
theorem Two.step {A B : Nat} {m m' : Array Value} {w w' : World} (h : Two A B m m' w) (b : Below w.heap.size w w') : Two A B m m' w' :=
  ⟨(b.block A (Array.getElem?_eq_some_iff.1 h.1).1).trans h.1, (b.block B (Array.getElem?_eq_some_iff.1 h.2).1).trans h.2⟩
theorem run_loadAt_row {P : Program} {w : World} {g : Nat} {t ty : TypeId} {cs : Array Value} {fr : Nat × Nat} {d : TypeDesc} (hg : w.heap[g]? = some (.cells cs t fr))
    (hu : P.underlying ty = some d) (hd : (match d with | .struct _ | .array _ _ => true | _ => false) = true) (hi : (P.info? ty).map (·.size) = some cs.size) : (Instr.loadAt ty (.pointer (some ⟨g, 0, none⟩))).run P w = .ok (.agg cs) w := by
  simp only [Instr.loadAt, Instr.sureAddr, Sem.run_bind, Sem.run_pure, Result.andThen_ok, run_loadVar_row w g t ty cs fr d hg hu hd hi]

set_option maxHeartbeats 16000000 in
set_option maxRecDepth 100000 in
theorem measure_equal (i k : Int) (cv cv' : Value) (rows rows' : List (Array Value)) (w : World) (h : Els w 2 cv rows) (h' : Els w 2 cv' rows') (ha : AllEq ClEq w rows rows') :
    Calls Tryz.prog 21 #[.agg (measArr i k cv), .agg (measArr i k cv')] w fun e w' => e = .returned (.bool true) ∧ Below w.heap.size w w' := by
  have hq := fun w' (b : Below w.heap.size w w') => eqf45 cv cv' rows rows' w' ha.1 ha.2.1 (h.step b) (h'.step b) (fun j r r' hr hr' w'' b' => (ha.2.2 j r r' hr hr').runs w'' (b.trans (b'.mono b.size)))
  have ht := eqn44
  obtain ⟨ao, c, rfl⟩ := h.is
  obtain ⟨ao', c', rfl⟩ := h'.is
  have hf1 := fields_walk i k ao rows.length c
  have hf2 := fields_walk i k ao' rows'.length c'
  have hpe := plain_eq i k
  have hT0 : Two w.heap.size (w.heap.size + 1) (measArr i k (.slice ao rows.length c)) (measArr i k (.slice ao' rows'.length c')) ((w.alloc (.cells (measArr i k (.slice ao rows.length c)) 56)).alloc (.cells (measArr i k (.slice ao' rows'.length c')) 56)) := ⟨heap_alloc2_old w _ _, heap_alloc2_new w _ _⟩
  have hz1 : (Tryz.prog.info? 56).map (·.size) = some (measArr i k (.slice ao rows.length c)).size := Tryz.szq56
  have hz2 : (Tryz.prog.info? 56).map (·.size) = some (measArr i k (.slice ao' rows'.length c')).size := Tryz.szq56
  have a20 : ∀ w' : World, Two w.heap.size (w.heap.size + 1) (measArr i k (.slice ao rows.length c)) (measArr i k (.slice ao' rows'.length c')) w' → w'.cell? ⟨w.heap.size, 20, none⟩ = some (.slice none 0 0) := fun w' h => measArr_at h.1 20 rfl
  have b20 : ∀ w' : World, Two w.heap.size (w.heap.size + 1) (measArr i k (.slice ao rows.length c)) (measArr i k (.slice ao' rows'.length c')) w' → w'.cell? ⟨w.heap.size + 1, 20, none⟩ = some (.slice none 0 0) := fun w' h => measArr_at h.2 20 rfl
  have a21 : ∀ w' : World, Two w.heap.size (w.heap.size + 1) (measArr i k (.slice ao rows.length c)) (measArr i k (.slice ao' rows'.length c')) w' → w'.cell? ⟨w.heap.size, 21, none⟩ = some (.slice ao rows.length c) := fun w' h => measArr_at h.1 21 rfl
  have b21 : ∀ w' : World, Two w.heap.size (w.heap.size + 1) (measArr i k (.slice ao rows.length c)) (measArr i k (.slice ao' rows'.length c')) w' → w'.cell? ⟨w.heap.size + 1, 21, none⟩ = some (.slice ao' rows'.length c') := fun w' h => measArr_at h.2 21 rfl
  clear h h' ha
  generalize measArr i k (.slice ao rows.length c) = m at *
  generalize measArr i k (.slice ao' rows'.length c') = m' at *
  generalize plainArr i k = p at *
  go_enter Tryz.func21, Tryz.ntmps21
  go_wp2
  have hb0 := ((Below.refl w.heap.size w).alloc (Nat.le_refl _) (.cells m 56)).alloc (by simp) (.cells m' 56)
  have hTd : Two w.heap.size (w.heap.size + 1) m m' ((w.alloc (.cells m 56)).alloc (.cells m' 56)).drew := hT0
  have hbd := hb0.drew
  clear hT0
  refine wp_region_noPanic ?_
  refine wp_region_held_drew (S := Two w.heap.size (w.heap.size + 1) m m') (by kernel_rfl) hTd (fun hHeld => ?_)
  refine wpAnyH_take (i := 0) rfl (by kernel_rfl) (by kernel_rfl) (by kernel_rfl) (fun _ _ _ h => h) (yieldsIf_load_row (by rfl) 56 _ rfl w.heap.size rfl m 56 _ (fun _ h => h.1) Tryz.underlying56 rfl hz1) (by assumption) ?_
  try simp only [Act.put, List.getElem_toArray, List.getElem_cons_zero, List.setIfInBounds_toArray, List.set_cons_zero, List.set_cons_succ]
  refine wpAnyH_take (i := 2) rfl (by kernel_rfl) (by kernel_rfl) (by kernel_rfl) (fun _ _ _ h => h) (yieldsIf_load_row (by rfl) 56 _ rfl (w.heap.size + 1) rfl m' 56 _ (fun _ h => h.2) Tryz.underlying56 rfl hz2) (by assumption) ?_
  try simp only [Act.put, List.getElem_toArray, List.getElem_cons_succ, List.getElem_cons_zero, List.setIfInBounds_toArray, List.set_cons_zero, List.set_cons_succ]
  refine wpAnyH_ready (rs := [1]) (by kernel_rfl) (by simp) (AllReadyH.cons rfl (fun K hK => ?_) AllReadyH.nil)
  go_simp
  (go_at_call 43; with_reducible refine (hf1 _).mono ?_; rintro e w2 ⟨rfl, b2⟩; have hT2 := hTd.step b2; have hb2 := hbd.trans (b2.mono hbd.size))
  refine hK.out _ _ (hT2) (fun hHeld => ?_)
  clear hK K
  try simp only [Act.put, List.getElem_toArray, List.getElem_cons_succ, List.getElem_cons_zero, List.setIfInBounds_toArray, List.set_cons_zero, List.set_cons_succ]
  refine wpAnyH_ready (rs := [3]) (by kernel_rfl) (by simp) (AllReadyH.cons rfl (fun K hK => ?_) AllReadyH.nil)
  go_simp
  (go_at_call 43; with_reducible refine (hf2 _).mono ?_; rintro e w3 ⟨rfl, b3⟩; have hT3 := hT2.step b3; have hb3 := hb2.trans (b3.mono hb2.size))
  refine hK.out _ _ (hT3) (fun hHeld => ?_)
  clear hK K
  try simp only [Act.put, List.getElem_toArray, List.getElem_cons_succ, List.getElem_cons_zero, List.setIfInBounds_toArray, List.set_cons_zero, List.set_cons_succ]
  refine wpAnyH_take (i := 4) (v := ?v4) rfl (by kernel_rfl) (by kernel_rfl) (by kernel_rfl) (fun _ _ _ h => h) (Or.inl ⟨by rfl, ?hy4⟩) (by assumption) ?_
  case hy4 => (intro w hSw; go_simp; with_reducible rfl)
  try simp only [Act.put, List.getElem_toArray, List.getElem_cons_succ, List.getElem_cons_zero, List.setIfInBounds_toArray, List.set_cons_zero, List.set_cons_succ]
  refine wpAnyH_take (i := 5) (v := ?v5) rfl (by kernel_rfl) (by kernel_rfl) (by kernel_rfl) (fun _ _ _ h => h) (Or.inl ⟨by rfl, ?hy5⟩) (by assumption) ?_
  case hy5 => (intro w hSw; go_simp; with_reducible rfl)
  try simp only [Act.put, List.getElem_toArray, List.getElem_cons_succ, List.getElem_cons_zero, List.setIfInBounds_toArray, List.set_cons_zero, List.set_cons_succ]
  refine wpAnyH_take (i := 6) (v := ?v6) rfl (by kernel_rfl) (by kernel_rfl) (by kernel_rfl) (fun _ _ _ h => h) (Or.inl ⟨by rfl, ?hy6⟩) (by assumption) ?_
  case hy6 => (intro w hSw; go_simp; with_reducible rfl)
  try simp only [Act.put, List.getElem_toArray, List.getElem_cons_succ, List.getElem_cons_zero, List.setIfInBounds_toArray, List.set_cons_zero, List.set_cons_succ]
  refine wpAnyH_take (i := 7) (v := ?v7) rfl (by kernel_rfl) (by kernel_rfl) (by kernel_rfl) (fun _ _ _ h => h) (Or.inl ⟨by rfl, ?hy7⟩) (by assumption) ?_
  case hy7 => (intro w hSw; go_simp; with_reducible rfl)
  try simp only [Act.put, List.getElem_toArray, List.getElem_cons_succ, List.getElem_cons_zero, List.setIfInBounds_toArray, List.set_cons_zero, List.set_cons_succ]
  refine wpAnyH_take (i := 8) (v := ?v8) rfl (by kernel_rfl) (by kernel_rfl) (by kernel_rfl) (fun _ _ _ h => h) (Or.inl ⟨by rfl, ?hy8⟩) (by assumption) ?_
  case hy8 => (intro w hSw; go_simp; with_reducible rfl)
  try simp only [Act.put, List.getElem_toArray, List.getElem_cons_succ, List.getElem_cons_zero, List.setIfInBounds_toArray, List.set_cons_zero, List.set_cons_succ]
  refine wpAnyH_take (i := 9) (v := ?v9) rfl (by kernel_rfl) (by kernel_rfl) (by kernel_rfl) (fun _ _ _ h => h) (Or.inl ⟨by rfl, ?hy9⟩) (by assumption) ?_
  case hy9 => (intro w hSw; go_simp; with_reducible rfl)
  try simp only [Act.put, List.getElem_toArray, List.getElem_cons_succ, List.getElem_cons_zero, List.setIfInBounds_toArray, List.set_cons_zero, List.set_cons_succ]
  refine wpAnyH_ready (rs := [10]) (by kernel_rfl) (by simp) (AllReadyH.cons rfl (fun K hK => ?_) AllReadyH.nil)
  go_simp
  (go_at_call 44; with_reducible refine (ht _).mono ?_; rintro e w' ⟨rfl, rfl⟩)
  refine hK.out _ _ (hT3) (fun hHeld => ?_)
  clear hK K
  try simp only [Act.put, List.getElem_toArray, List.getElem_cons_succ, List.getElem_cons_zero, List.setIfInBounds_toArray, List.set_cons_zero, List.set_cons_succ]
  refine wpAnyH_take (i := 11) (v := ?v11) rfl (by kernel_rfl) (by kernel_rfl) (by kernel_rfl) (fun _ _ _ h => h) (Or.inl ⟨by rfl, ?hy11⟩) (by assumption) ?_
  case hy11 => (intro w hSw; go_simp; with_reducible rfl)
  try simp only [Act.put, List.getElem_toArray, List.getElem_cons_succ, List.getElem_cons_zero, List.setIfInBounds_toArray, List.set_cons_zero, List.set_cons_succ]
  refine wpAnyH_take (i := 12) (v := ?v12) rfl (by kernel_rfl) (by kernel_rfl) (by kernel_rfl) (fun _ _ _ h => h) (Or.inl ⟨by rfl, ?hy12⟩) (by assumption) ?_
  case hy12 => (intro w hSw; go_simp; with_reducible rfl)
  try simp only [Act.put, List.getElem_toArray, List.getElem_cons_succ, List.getElem_cons_zero, List.setIfInBounds_toArray, List.set_cons_zero, List.set_cons_succ]
  refine wpAnyH_take (i := 13) (v := ?v13) rfl (by kernel_rfl) (by kernel_rfl) (by kernel_rfl) (fun _ _ _ h => h) (Or.inl ⟨by rfl, ?hy13⟩) (by assumption) ?_
  case hy13 => (intro w hSw; go_simp; with_reducible rfl)
  try simp only [Act.put, List.getElem_toArray, List.getElem_cons_succ, List.getElem_cons_zero, List.setIfInBounds_toArray, List.set_cons_zero, List.set_cons_succ]
  refine wpAnyH_take (i := 14) (v := ?v14) rfl (by kernel_rfl) (by kernel_rfl) (by kernel_rfl) (fun _ _ _ h => h) (Or.inl ⟨by rfl, ?hy14⟩) (by assumption) ?_
  case hy14 => (intro w hSw; go_simp; with_reducible rfl)
  try simp only [Act.put, List.getElem_toArray, List.getElem_cons_succ, List.getElem_cons_zero, List.setIfInBounds_toArray, List.set_cons_zero, List.set_cons_succ]
  refine wpAnyH_take (i := 15) (v := ?v15) rfl (by kernel_rfl) (by kernel_rfl) (by kernel_rfl) (fun _ _ _ h => h) (Or.inl ⟨by rfl, ?hy15⟩) (by assumption) ?_
  case hy15 => (intro w hSw; go_simp; with_reducible rfl)
  try simp only [Act.put, List.getElem_toArray, List.getElem_cons_succ, List.getElem_cons_zero, List.setIfInBounds_toArray, List.set_cons_zero, List.set_cons_succ]
  refine wpAnyH_take (i := 16) (v := ?v16) rfl (by kernel_rfl) (by kernel_rfl) (by kernel_rfl) (fun _ _ _ h => h) (Or.inl ⟨by rfl, ?hy16⟩) (by assumption) ?_
  case hy16 => (intro w hSw; go_simp; with_reducible rfl)
  try simp only [Act.put, List.getElem_toArray, List.getElem_cons_succ, List.getElem_cons_zero, List.setIfInBounds_toArray, List.set_cons_zero, List.set_cons_succ]
  refine wpAnyH_ready (rs := [17]) (by kernel_rfl) (by simp) (AllReadyH.cons rfl (fun K hK => ?_) AllReadyH.nil)
  go_simp
  (go_at_call 45; with_reducible refine (hq _ hb3).mono ?_; rintro e w4 ⟨rfl, b4⟩; have hT4 := hT3.step b4; have hb4 := hb3.trans (b4.mono hb3.size))
  refine hK.out _ _ (hT4) (fun hHeld => ?_)
  clear hK K
  try simp only [Act.put, List.getElem_toArray, List.getElem_cons_succ, List.getElem_cons_zero, List.setIfInBounds_toArray, List.set_cons_zero, List.set_cons_succ]
  refine wpAnyH_take (i := 18) (v := ?v18) rfl (by kernel_rfl) (by kernel_rfl) (by kernel_rfl) (fun _ _ _ h => h) (Or.inl ⟨by rfl, ?hy18⟩) (by assumption) ?_
  case hy18 => (intro w hSw; go_simp; with_reducible rfl)
  try simp only [Act.put, List.getElem_toArray, List.getElem_cons_succ, List.getElem_cons_zero, List.setIfInBounds_toArray, List.set_cons_zero, List.set_cons_succ]
  refine wpAnyH_take (i := 19) (v := ?v19) rfl (by kernel_rfl) (by kernel_rfl) (by kernel_rfl) (fun _ _ _ h => h) (Or.inl ⟨by rfl, ?hy19⟩) (by assumption) ?_
  case hy19 => (intro w hSw; go_simp; with_reducible rfl)
  try simp only [Act.put, List.getElem_toArray, List.getElem_cons_succ, List.getElem_cons_zero, List.setIfInBounds_toArray, List.set_cons_zero, List.set_cons_succ]
  refine wpAnyH_done (by kernel_rfl) ?_ _
  refine NoPanic.normal ?_
  go_wp2
  go_ret
  exact ⟨rfl, hb4⟩
end Go.Proofs.YtjnkppneilmpbaaGreatDoor

namespace Go.Proofs.YtjnkppneilmpbaaGreatDoor
open Go.RowKit

def StaffForm (r : Array Value) : Prop := ∃ a0 : Int, ∃ a1 : Int, ∃ a2 : Int, r = #[.int .i64 a0, .int .i64 a1, .int .i64 a2]
def IdForm (r : Array Value) : Prop := ∃ a0 : Int, ∃ a1 : Int, r = #[.int .i64 a0, .int .i64 a1]

/-- Two measures that are equal. -/
def MsEq (w : World) (r r' : Array Value) : Prop := ∃ (i k : Int) (cv cv' : Value) (rows rows' : List (Array Value)), Els w 2 cv rows ∧ Els w 2 cv' rows' ∧ AllEq ClEq w rows rows' ∧ r = measArr i k cv ∧ r' = measArr i k cv'
theorem MsEq.step {w w' : World} {r r' : Array Value} (h : MsEq w r r') (b : Below w.heap.size w w') : MsEq w' r r' := by
  obtain ⟨i, k, cv, cv', rows, rows', h1, h2, h3, e1, e2⟩ := h
  exact ⟨i, k, cv, cv', rows, rows', h1.step b, h2.step b, AllEq.step (R := ClEq) ClEq.step h3 b, e1, e2⟩
theorem MsEq.runs {w : World} {r r' : Array Value} (h : MsEq w r r') (w' : World) (b : Below w.heap.size w w') : Calls Tryz.prog 21 #[.agg r, .agg r'] w' fun e w'' => e = .returned (.bool true) ∧ Below w'.heap.size w' w'' := by
  obtain ⟨i, k, cv, cv', rows, rows', h1, h2, h3, rfl, rfl⟩ := h.step b
  exact measure_equal i k cv cv' rows rows' w' h1 h2 h3

set_option maxHeartbeats 16000000 in
set_option maxRecDepth 100000 in
theorem part_equal (s n a b : Int) (nm : ByteArray) (sv sv' : Value) (rows : List (Array Value)) (w : World) (hbig : rows.length ≤ 1000000) (h : Els w 3 sv rows) (h' : Els w 3 sv' rows) (hf : ∀ r ∈ rows, StaffForm r) :
    Calls Tryz.prog 17 #[.agg #[.int .i64 s, .int .i64 n, .string nm, .int .i64 a, .int .i64 b, sv], .agg #[.int .i64 s, .int .i64 n, .string nm, .int .i64 a, .int .i64 b, sv']] w fun e w' => e = .returned (.bool true) ∧ Below w.heap.size w w' := by
  have hq := fun w' (b : Below w.heap.size w w') => eqs18 sv sv' rows w' hbig (h.step b) (h'.step b) hf
  obtain ⟨ao, c, e1⟩ := h.is
  obtain ⟨ao', c', e2⟩ := h'.is
  rw [e1, e2] at hq ⊢
  clear h h' hf e1 e2
  go_enter Tryz.func17, Tryz.ntmps17
  go_wp2_with (go_at_call 18; refine (hq _ (((Below.refl _ w).alloc (Nat.le_refl _) _).alloc (by simp) _)).mono ?_)
  intro e w2; first | (intro he b2; subst he) | rintro ⟨rfl, b2⟩
  go_wp2
  go_ret
  exact ⟨rfl, (((Below.refl _ w).alloc (Nat.le_refl _) _).alloc (by simp) _).trans (b2.mono (by simp; omega))⟩

/-- Two parts that are equal. -/
def PtEq (w : World) (r r' : Array Value) : Prop := ∃ (s n a b : Int) (nm : ByteArray) (sv sv' : Value) (rows : List (Array Value)), rows.length ≤ 1000000 ∧ Els w 3 sv rows ∧ Els w 3 sv' rows ∧ (∀ r ∈ rows, StaffForm r) ∧
  r = #[.int .i64 s, .int .i64 n, .string nm, .int .i64 a, .int .i64 b, sv] ∧ r' = #[.int .i64 s, .int .i64 n, .string nm, .int .i64 a, .int .i64 b, sv']
theorem PtEq.runs {w : World} {r r' : Array Value} (h : PtEq w r r') (w' : World) (b : Below w.heap.size w w') : Calls Tryz.prog 17 #[.agg r, .agg r'] w' fun e w'' => e = .returned (.bool true) ∧ Below w'.heap.size w' w'' := by
  obtain ⟨s, n, a, b', nm, sv, sv', rows, h0, h1, h2, h3, rfl, rfl⟩ := h
  exact part_equal s n a b' nm sv sv' rows w' h0 (h1.step b) (h2.step b) h3
theorem PtEq.step {w w' : World} {r r' : Array Value} (h : PtEq w r r') (b : Below w.heap.size w w') : PtEq w' r r' := by
  obtain ⟨s, n, a, b', nm, sv, sv', rows, h0, h1, h2, h3, e1, e2⟩ := h
  exact ⟨s, n, a, b', nm, sv, sv', rows, h0, h1.step b, h2.step b, h3, e1, e2⟩

set_option maxHeartbeats 32000000 in
set_option maxRecDepth 100000 in
theorem score_equal (t : ByteArray) (pv pv' mv mv' lv lv' : Value) (pr pr' mr mr' lr : List (Array Value)) (w : World) (hp : Els w 6 pv pr) (hp' : Els w 6 pv' pr') (ha : AllEq PtEq w pr pr') (hm : Els w 22 mv mr) (hm' : Els w 22 mv' mr') (hb : AllEq MsEq w mr mr')
    (hbig : lr.length ≤ 1000000) (hl : Els w 2 lv lr) (hl' : Els w 2 lv' lr) (hf : ∀ r ∈ lr, IdForm r) :
    Calls Tryz.prog 9 #[.agg #[.string t, .bool false, pv, mv, .slice none 0 0, lv], .agg #[.string t, .bool false, pv', mv', .slice none 0 0, lv']] w fun e w' => e = .returned (.bool true) ∧ Below w.heap.size w w' := by
  have q1 := fun w' (b : Below w.heap.size w w') => eqf19 pv pv' pr pr' w' ha.1 ha.2.1 (hp.step b) (hp'.step b) (fun j r r' hr hr' w'' b' => (ha.2.2 j r r' hr hr').runs w'' (b.trans (b'.mono b.size)))
  have q2 := fun w' (b : Below w.heap.size w w') => eqf20 mv mv' mr mr' w' hb.1 hb.2.1 (hm.step b) (hm'.step b) (fun j r r' hr hr' w'' b' => (hb.2.2 j r r' hr hr').runs w'' (b.trans (b'.mono b.size)))
  have q3 := fun w' (b : Below w.heap.size w w') => eqs23 lv lv' lr w' hbig (hl.step b) (hl'.step b) hf
  have q4 := eqn22
  obtain ⟨a1, c1, e1⟩ := hp.is
  obtain ⟨a2, c2, e2⟩ := hp'.is
  obtain ⟨a3, c3, e3⟩ := hm.is
  obtain ⟨a4, c4, e4⟩ := hm'.is
  obtain ⟨a5, c5, e5⟩ := hl.is
  obtain ⟨a6, c6, e6⟩ := hl'.is
  rw [e1, e2] at q1
  rw [e3, e4] at q2
  rw [e5, e6] at q3
  rw [e1, e2, e3, e4, e5, e6]
  clear hp hp' hm hm' hl hl' hf ha hb e1 e2 e3 e4 e5 e6
  have keep : ∀ (x y : Array Value) (w' : World), Below ((w.alloc (.cells x 32)).alloc (.cells y 32)).heap.size ((w.alloc (.cells x 32)).alloc (.cells y 32)) w' → w'.heap[w.heap.size]? = some (.cells x 32 (0, 0)) ∧ w'.heap[w.heap.size + 1]? = some (.cells y 32 (0, 0)) := fun x y w' b =>
    ⟨(b.block w.heap.size (by simp; omega)).trans (heap_alloc2_old w _ _), (b.block (w.heap.size + 1) (by simp)).trans (heap_alloc2_new w _ _)⟩
  have hbb : ∀ x y : Array Value, Below w.heap.size w ((w.alloc (.cells x 32)).alloc (.cells y 32)) := fun x y => ((Below.refl _ w).alloc (Nat.le_refl _) _).alloc (by simp) _
  go_enter Tryz.func9, Tryz.ntmps9
  go_wp2_with (go_at_call 19; refine (q1 _ (hbb _ _)).mono ?_)
  intro e w2; first | (intro he b2; subst he) | rintro ⟨rfl, b2⟩
  obtain ⟨z0, z1⟩ := keep _ _ _ b2
  have x3 : w2.cell? ⟨w.heap.size, 3, none⟩ = some (.slice a3 mr.length c3) := by rw [Lib.cell_of_heap z0]; rfl
  have y3 : w2.cell? ⟨w.heap.size + 1, 3, none⟩ = some (.slice a4 mr'.length c4) := by rw [Lib.cell_of_heap z1]; rfl
  have bb2 := (hbb _ _).trans (b2.mono (hbb _ _).size)
  go_wp2_with (go_at_call 20; refine (q2 _ bb2).mono ?_)
  intro e w3; first | (intro he b3; subst he) | rintro ⟨rfl, b3⟩
  obtain ⟨z0, z1⟩ := keep _ _ _ (b2.trans (b3.mono b2.size))
  have bb3 := bb2.trans (b3.mono bb2.size)
  have x4 : w3.cell? ⟨w.heap.size, 4, none⟩ = some (.slice none 0 0) := by rw [Lib.cell_of_heap z0]; rfl
  have y4 : w3.cell? ⟨w.heap.size + 1, 4, none⟩ = some (.slice none 0 0) := by rw [Lib.cell_of_heap z1]; rfl
  have x5 : w3.cell? ⟨w.heap.size, 5, none⟩ = some (.slice a5 lr.length c5) := by rw [Lib.cell_of_heap z0]; rfl
  have y5 : w3.cell? ⟨w.heap.size + 1, 5, none⟩ = some (.slice a6 lr.length c6) := by rw [Lib.cell_of_heap z1]; rfl
  go_wp2_with (first
    | (go_at_call 22; refine (q4 _).mono ?_; rintro e w' ⟨rfl, rfl⟩)
    | (go_at_call 23; refine (q3 _ bb3).mono ?_))
  intro e w4; first | (intro he b4; subst he) | rintro ⟨rfl, b4⟩
  go_wp2
  go_ret
  exact ⟨rfl, bb3.trans (b4.mono bb3.size)⟩
end Go.Proofs.YtjnkppneilmpbaaGreatDoor
