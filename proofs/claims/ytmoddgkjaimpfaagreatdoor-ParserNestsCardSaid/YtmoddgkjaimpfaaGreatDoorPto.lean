/-
  A part of the proof that the law ParserNests (chapter 19) returns true for every depth and every list of notes: walks of the program's functions, and runs of them in the kernel by the own evaluator.
-/
import Derived.Test.YtmoddgkjaimpfaaGreatDoorOkf
import Derived.Test.YtmoddgkjaimpfaaGreatDoorKnw
namespace Go.Proofs.YtmoddgkjaimpfaaGreatDoor
open Go.RowKit Go.Dam

noncomputable def runsAs (f : FuncId) (s : ByteArray) (v : Value) : Bool := match evCall noOrc Tryz.prog fsAll 400 12 (.func f) [.string s] ⟨[], 100⟩ with
  | some (u, _) => veq v u
  | none => false
set_option maxRecDepth 1000000 in
theorem p67 : runsAs 88 ⟨#[67, 52]⟩ (.tuple #[.agg #[.int .i64 0, .int .i64 0, .int .i64 4], .bool true]) = true := by kernel_rfl
set_option maxRecDepth 1000000 in
theorem p68 : runsAs 88 ⟨#[68, 52]⟩ (.tuple #[.agg #[.int .i64 1, .int .i64 0, .int .i64 4], .bool true]) = true := by kernel_rfl
set_option maxRecDepth 1000000 in
theorem p69 : runsAs 88 ⟨#[69, 52]⟩ (.tuple #[.agg #[.int .i64 2, .int .i64 0, .int .i64 4], .bool true]) = true := by kernel_rfl
set_option maxRecDepth 1000000 in
theorem v8 : runsAs 56 ⟨#[56]⟩ (.tuple #[.agg #[.int .i64 3, .int .i64 0], .bool true]) = true := by kernel_rfl
set_option maxRecDepth 1000000 in
theorem v16 : runsAs 56 ⟨#[49, 54]⟩ (.tuple #[.agg #[.int .i64 4, .int .i64 0], .bool true]) = true := by kernel_rfl
set_option maxRecDepth 1000000 in
theorem v8d : runsAs 56 ⟨#[56, 46]⟩ (.tuple #[.agg #[.int .i64 3, .int .i64 1], .bool true]) = true := by kernel_rfl

theorem runs88 (s : ByteArray) (v : Value) (hv : plain v = true) (h : runsAs 88 s v = true) (w : World) : Calls Tryz.prog 88 #[.string s] w fun e w' => e = .returned v ∧ Below w.heap.size w w' := by
  have ht : Told0 Tryz.prog (88, [.string s], v) := by
    refine ⟨fun x hx => ?_, hv, fun w => ?_⟩
    · obtain rfl := List.mem_singleton.1 hx; rfl
    · unfold runsAs at h
      split at h
      · rename_i u S he
        obtain rfl := veq_spec h
        refine closed (args := [.string s]) noOrc_ok mixed_ok (namesOk_of names_ok) (ok_any _) (h := []) (nx := 100) rfl (by decide) (Nat.le_of_ble_eq_true (by kernel_rfl)) ?_ hv he rfl ?_
        · intro x hx; obtain rfl := List.mem_singleton.1 hx; rfl
        · intro n o hn; cases hn
      · cases h
  exact ht.2.2 w

theorem runs56 (s : ByteArray) (v : Value) (hv : plain v = true) (h : runsAs 56 s v = true) (w : World) : Calls Tryz.prog 56 #[.string s] w fun e w' => e = .returned v ∧ Below w.heap.size w w' := by
  have ht : Told0 Tryz.prog (56, [.string s], v) := by
    refine ⟨fun x hx => ?_, hv, fun w => ?_⟩
    · obtain rfl := List.mem_singleton.1 hx; rfl
    · unfold runsAs at h
      split at h
      · rename_i u S he
        obtain rfl := veq_spec h
        refine closed (args := [.string s]) noOrc_ok mixed_ok (namesOk_of names_ok) (ok_any _) (h := []) (nx := 100) rfl (by decide) (Nat.le_of_ble_eq_true (by kernel_rfl)) ?_ hv he rfl ?_
        · intro x hx; obtain rfl := List.mem_singleton.1 hx; rfl
        · intro n o hn; cases hn
      · cases h
  exact ht.2.2 w

theorem pitch_says {c : UInt8} (hc : c = 67 ∨ c = 68 ∨ c = 69) : ∃ a : Int, ∀ w, Calls Tryz.prog 88 #[.string ⟨#[c, 52]⟩] w fun e w' => e = .returned (.tuple #[.agg #[.int .i64 a, .int .i64 0, .int .i64 4], .bool true]) ∧ Below w.heap.size w w' := by
  rcases hc with rfl | rfl | rfl
  · exact ⟨0, runs88 _ _ rfl p67⟩
  · exact ⟨1, runs88 _ _ rfl p68⟩
  · exact ⟨2, runs88 _ _ rfl p69⟩

theorem value_says {x : ByteArray} (hx : x = ⟨#[56]⟩ ∨ x = ⟨#[49, 54]⟩ ∨ x = ⟨#[56, 46]⟩) : ∃ a b : Int, ∀ w, Calls Tryz.prog 56 #[.string x] w fun e w' => e = .returned (.tuple #[.agg #[.int .i64 a, .int .i64 b], .bool true]) ∧ Below w.heap.size w w' := by
  rcases hx with rfl | rfl | rfl
  · exact ⟨3, 0, runs56 _ _ rfl v8⟩
  · exact ⟨4, 0, runs56 _ _ rfl v16⟩
  · exact ⟨3, 1, runs56 _ _ rfl v8d⟩
end Go.Proofs.YtmoddgkjaimpfaaGreatDoor
