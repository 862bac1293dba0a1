/-
  A part of the proof that the law PrinterEvents (chapter 20) returns true for every event: walks of the program's functions, and runs of them in the kernel by the own evaluator.
-/
import Derived.Test.YtholnnabakaliaaGreatDoorCkl
namespace Go.Proofs.YtholnnabakaliaaGreatDoor
open Go.RowKit Go.Dam

def vals6 : List (Int × Int) := ([-1, 0, 1, 2, 3, 4, 5, 6] : List Int).flatMap fun l => ([0, 1, 2, 3] : List Int).map fun d => (l, d)
def vals8 : List (Int × Int) := ([7, 8] : List Int).flatMap fun l => ([0, 1, 2, 3] : List Int).map fun d => (l, d)
def aggV (v : Int × Int) : Value := .agg #[.int .i64 v.1, .int .i64 v.2]
def textVal (v : Int × Int) : Value := .tuple #[.string (mkB (valueL v.1 v.2)), .int .i64 0]
def readVal (v : Int × Int) : Value := .tuple #[aggV v, .bool true]
set_option maxRecDepth 1000000 in
theorem text6 : vals6.all (fun v => runsV 61 [aggV v] (textVal v)) = true := by kernel_rfl
set_option maxRecDepth 1000000 in
theorem text8 : vals8.all (fun v => runsR numRows 61 [aggV v] (textVal v)) = true := by kernel_rfl
set_option maxRecDepth 1000000 in
theorem itoas : ([1, 2, 3, 4, 5, 6] : List Int).all (fun k => runsV 31 [.int .i64 (2 ^ k.toNat)] (.string (mkB (powL k)))) = true := by kernel_rfl

def told6 : List (FuncId × List Value × Value) := vals6.map fun v => (61, [aggV v], textVal v)
theorem told6_ok : ∀ t ∈ told6, Told0 Tryz.prog t := by
  intro t ht
  obtain ⟨v, hv, rfl⟩ := List.mem_map.1 ht
  have h := List.all_eq_true.1 text6 v hv
  exact ⟨fun x hx => by obtain rfl := List.mem_singleton.1 hx; rfl, rfl, fun w => runsV_says rfl rfl h w⟩
def fsV : Nat := 2 ^ 260 - 1 - 2 ^ 61
noncomputable def readRun (v : Int × Int) : Bool := match evCall (toldOrc told6 []) Tryz.prog fsV 400 14 (.func 76) [.string (mkB (valueL v.1 v.2))] ⟨[], 100⟩ with
  | some (u, _) => veq (readVal v) u
  | none => false
theorem readRun_says {v : Int × Int} (h : readRun v = true) (w : World) : Calls Tryz.prog 76 #[.string (mkB (valueL v.1 v.2))] w fun e w' => e = .returned (readVal v) ∧ Below w.heap.size w w' := by
  unfold readRun at h
  split at h
  · rename_i u S he
    obtain rfl := veq_spec h
    refine closed (args := [.string (mkB (valueL v.1 v.2))]) (toldOrc_ok told6_ok (fun t ht => by cases ht)) mixed_ok (namesOk_of names_ok) (ok_any _) (h := []) (nx := 100) rfl (by decide) (Nat.le_of_ble_eq_true small_ok) ?_ rfl he rfl ?_
    · intro x hx; obtain rfl := List.mem_singleton.1 hx; rfl
    · intro n o hn; cases hn
  · cases h
end Go.Proofs.YtholnnabakaliaaGreatDoor
