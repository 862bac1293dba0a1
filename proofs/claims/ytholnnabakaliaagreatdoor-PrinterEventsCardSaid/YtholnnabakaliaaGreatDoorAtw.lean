/-
  A part of the proof that the law PrinterEvents (chapter 20) returns true for every event: walks of the program's functions, and runs of them in the kernel by the own evaluator.
-/
import Derived.Test.YtholnnabakaliaaGreatDoorPgd
import Derived.Test.YtholnnabakaliaaGreatDoorEvx
namespace Go.Proofs.YtholnnabakaliaaGreatDoor
open Go.RowKit Go.Dam

def attrWL : List ByteArray := artsW ++ ornsW ++ dynsW ++ stemsW ++ beamsW
def attrB (i : Nat) : ByteArray := attrWL.getD i ⟨#[]⟩
def wEs (k : Nat) : Array MapEntry := ((List.range k).map fun i => (⟨.string (attrB i), .int .i64 (i : Nat), i⟩ : MapEntry)).toArray
def grp (i : Int) : Int := if 20 ≤ i then 1 else if 18 ≤ i then 2 else if 9 ≤ i then 3 else if 5 ≤ i then 4 else 0
structure A5 where
  ar : Int
  orn : Int
  dy : Int
  st : Int
  be : Int
def setA (A : A5) (i : Nat) : A5 :=
  if 20 ≤ i then { A with be := (i : Int) - 19 } else if 18 ≤ i then { A with st := (i : Int) - 17 } else if 9 ≤ i then { A with dy := (i : Int) - 8 } else if 5 ≤ i then { A with orn := (i : Int) - 4 } else { A with ar := A.ar + 2 ^ i }
def okNext (last i : Int) : Bool := decide (last < 0) || (decide (last < i) && (decide (grp i = 0) || decide (grp i ≠ grp last)))
def okL : Int → List Nat → Bool
  | _, [] => true
  | last, i :: r => okNext last i && okL i r
/-- What the articulations before i may be. -/
def okA : A5 → List Nat → Bool
  | _, [] => true
  | A, i :: r => (decide (5 ≤ i) || (decide (0 ≤ A.ar) && decide (A.ar < 2 ^ i))) && okA (setA A i) r
def bitsI (a : Int) : Nat → List Nat
  | 0 => []
  | k + 1 => bitsI a k ++ (if bitB a k = true then [k] else [])
def optI (b : Nat) (n : Int) : List Nat := if n = 0 then [] else [b + n.toNat]
def idxs (ar orn dy st be : Int) : List Nat := bitsI ar 5 ++ optI 4 orn ++ optI 8 dy ++ optI 17 st ++ optI 19 be
def allOk (ar orn dy st be : Int) : Bool :=
  let l := idxs ar orn dy st be
  let A := l.foldl setA ⟨0, 0, 0, 0, 0⟩
  okL (-1) l && okA ⟨0, 0, 0, 0, 0⟩ l && decide (A.ar = ar) && decide (A.orn = orn) && decide (A.dy = dy) && decide (A.st = st) && decide (A.be = be) && l.all (fun i => decide (i < 22))
def rangeI (n : Nat) : List Int := (List.range n).map Int.ofNat
theorem mem_rangeI {n : Nat} {x : Int} (h0 : 0 ≤ x) (h1 : x < n) : x ∈ rangeI n := List.mem_map.2 ⟨x.toNat, List.mem_range.2 (by omega), Int.toNat_of_nonneg h0⟩
set_option maxRecDepth 1000000 in
theorem all_ok : ((rangeI 32).all fun a => (rangeI 5).all fun o => (rangeI 10).all fun d => (rangeI 3).all fun s => (rangeI 3).all fun b => allOk a o d s b) = true := by kernel_rfl
theorem EvOk.allOk {x : EvV} (h : EvOk x) : allOk x.ar x.orn x.dy x.stem x.beam = true := by
  have h1 := List.all_eq_true.1 all_ok x.ar (mem_rangeI h.ar0 (by have := h.ar1; omega))
  have h2 := List.all_eq_true.1 h1 x.orn (mem_rangeI h.o0 (by have := h.o4; omega))
  have h3 := List.all_eq_true.1 h2 x.dy (mem_rangeI h.d0 (by have := h.d9; omega))
  have h4 := List.all_eq_true.1 h3 x.stem (mem_rangeI h.s0 (by have := h.s2; omega))
  exact List.all_eq_true.1 h4 x.beam (mem_rangeI h.b0 (by have := h.b2; omega))
theorem bitsW_I (a : Int) : ∀ k, k ≤ 5 → bitsW a artsW k = (bitsI a k).map attrB
  | 0, _ => rfl
  | k + 1, h => by
    rw [bitsW, bitsI, List.map_append, bitsW_I a k (by omega)]
    congr 1
    have hk : k = 0 ∨ k = 1 ∨ k = 2 ∨ k = 3 ∨ k = 4 := by omega
    split
    · rcases hk with rfl | rfl | rfl | rfl | rfl <;> rfl
    · rfl
theorem opt_I (W : List ByteArray) (b : Nat) (n : Int) (h0 : 0 ≤ n) (hn : n ≤ W.length) (hW : ∀ k, k < W.length → W.getD k ⟨#[]⟩ = attrB (b + 1 + k)) : optL W n = (optI b n).map attrB := by
  unfold optL optI
  by_cases hz : n = 0
  · rw [if_pos hz, if_pos hz]; rfl
  · rw [if_neg hz, if_neg hz]
    unfold wordAt
    rw [if_neg hz, hW _ (by omega)]
    show [attrB (b + 1 + (n.toNat - 1))] = [attrB (b + n.toNat)]
    rw [show b + 1 + (n.toNat - 1) = b + n.toNat by omega]
/-- The words that are printed are those of the numbers. -/
theorem words_idx {x : EvV} (h : EvOk x) : wordsB x.ar x.orn x.dy x.stem x.beam = (idxs x.ar x.orn x.dy x.stem x.beam).map fun i => (attrB i).data.toList := by
  have e : wordsO x.ar x.orn x.dy x.stem x.beam = (idxs x.ar x.orn x.dy x.stem x.beam).map attrB := by
    unfold wordsO idxs
    rw [bitsW_I _ 5 (by omega), opt_I ornsW 4 x.orn h.o0 h.o4 (by decide), opt_I dynsW 8 x.dy h.d0 h.d9 (by decide), opt_I stemsW 17 x.stem h.s0 h.s2 (by decide), opt_I beamsW 19 x.beam h.b0 h.b2 (by decide)]
    simp only [List.map_append]
  unfold wordsB
  rw [e, List.map_map]
  rfl
set_option maxRecDepth 1000000 in
theorem attr_find : (List.range 22).all (fun i => match Instr.findNow .string (.string (attrB i)) (wEs 22).toList 0 with | some (some (j, .int .i64 v)) => decide (j = i) && decide (v = (i : Int)) | _ => false) = true := by decide +kernel
theorem attr_found {i : Nat} (h : i < 22) : Instr.findNow .string (.string (attrB i)) (wEs 22).toList 0 = some (some (i, .int .i64 (i : Nat))) := by
  have := List.all_eq_true.1 attr_find i (List.mem_range.2 h)
  split at this
  · rename_i j v he
    simp only [Bool.and_eq_true, decide_eq_true_eq] at this
    rw [he, this.1, this.2]
  · cases this
set_option maxRecDepth 1000000 in
theorem attr_miss : (List.range 22).all (fun i => match Instr.findNow .string (.string (attrB i)) (wEs i).toList 0 with | some none => true | _ => false) = true := by decide +kernel
theorem attr_missed {i : Nat} (h : i < 22) : Instr.findNow .string (.string (attrB i)) (wEs i).toList 0 = some none := by
  have := List.all_eq_true.1 attr_miss i (List.mem_range.2 h)
  split at this
  · assumption
  · cases this
theorem wEs_succ (k : Nat) : (wEs k).push ⟨.string (attrB k), .int .i64 (k : Nat), k⟩ = wEs (k + 1) := by
  unfold wEs
  rw [List.range_succ, List.map_append]
  simp
set_option maxRecDepth 1000000 in
theorem grp_runs : (rangeI 22).all (fun i => runsV 81 [.int .i64 i] (.int .i64 (grp i))) = true := by kernel_rfl
theorem group_walk {i : Int} (h0 : 0 ≤ i) (h1 : i < 22) (w : World) : Calls Tryz.prog 81 #[.int .i64 i] w fun e w' => e = .returned (.int .i64 (grp i)) ∧ Below w.heap.size w w' :=
  runsV_says (args := [.int .i64 i]) rfl rfl (List.all_eq_true.1 grp_runs i (mem_rangeI h0 (by omega))) w
end Go.Proofs.YtholnnabakaliaaGreatDoor
