/-
  A part of the proof that the law InterchangeTexts (chapter 22) returns true for every loss: runs of the program's functions in the kernel, by the own evaluator, and walks.
-/
import Derived.Test.YtionfcmmfbecfaaGreatDoorTol
namespace Go.Proofs.YtionfcmmfbecfaaGreatDoor
open Go.RowKit Go.Dam

noncomputable def escapes (s : ByteArray) : Bool := match evCall knOrc Tryz.prog fsK 3000 40 (.func 44) [.string s] ⟨[], 100⟩ with
  | some (v, _) => veq (.string s) v
  | none => false
set_option maxRecDepth 1000000
theorem esc0 : escapes ⟨#[65]⟩ = true := by kernel_rfl
theorem esc1 : escapes ⟨#[48]⟩ = true := by kernel_rfl
theorem esc2 : escapes ⟨#[52]⟩ = true := by kernel_rfl
theorem esc3 : escapes ⟨#[48, 46, 49]⟩ = true := by kernel_rfl
theorem esc4 : escapes ⟨#[48, 46, 50]⟩ = true := by kernel_rfl
theorem esc5 : escapes ⟨#[49]⟩ = true := by kernel_rfl
theorem esc6 : escapes ⟨#[48, 46, 51]⟩ = true := by kernel_rfl
theorem esc7 : escapes ⟨#[48, 46, 52]⟩ = true := by kernel_rfl

theorem esc_told {s : ByteArray} (h : escapes s = true) : Told0 Tryz.prog (44, [.string s], .string s) := by
  refine ⟨fun x hx => ?_, rfl, fun w => ?_⟩
  · obtain rfl := List.mem_singleton.1 hx; rfl
  · unfold escapes at h
    split at h
    · rename_i v S he
      obtain rfl := veq_spec h
      refine closed (args := [.string s]) knOrc_ok mixed_ok (namesOk_of names_ok) (ok_any _) (h := []) (nx := 100) rfl (by decide) (Nat.le_of_ble_eq_true (by kernel_rfl)) ?_ rfl he rfl ?_
      · intro x hx; obtain rfl := List.mem_singleton.1 hx; rfl
      · intro n o hn; cases hn
    · cases h

def escTab : List (FuncId × List Value × Value) := [(44, [.string ⟨#[65]⟩], .string ⟨#[65]⟩), (44, [.string ⟨#[48]⟩], .string ⟨#[48]⟩), (44, [.string ⟨#[52]⟩], .string ⟨#[52]⟩), (44, [.string ⟨#[48, 46, 49]⟩], .string ⟨#[48, 46, 49]⟩), (44, [.string ⟨#[48, 46, 50]⟩], .string ⟨#[48, 46, 50]⟩), (44, [.string ⟨#[49]⟩], .string ⟨#[49]⟩), (44, [.string ⟨#[48, 46, 51]⟩], .string ⟨#[48, 46, 51]⟩), (44, [.string ⟨#[48, 46, 52]⟩], .string ⟨#[48, 46, 52]⟩)]
theorem escTab_ok : ∀ t ∈ escTab, Told0 Tryz.prog t := by
  intro t ht
  simp only [escTab, List.mem_cons, List.not_mem_nil, or_false] at ht
  rcases ht with rfl | rfl | rfl | rfl | rfl | rfl | rfl | rfl
  · exact esc_told esc0
  · exact esc_told esc1
  · exact esc_told esc2
  · exact esc_told esc3
  · exact esc_told esc4
  · exact esc_told esc5
  · exact esc_told esc6
  · exact esc_told esc7
noncomputable def escOrc : FuncId → List Value → St → Option (Value × St) := toldOrc escTab []
theorem escOrc_ok : OrcOk Tryz.prog escOrc := toldOrc_ok escTab_ok (fun _ h => by cases h)
def fsP : Nat := 2 ^ 439 - 1 - 2 ^ 44

end Go.Proofs.YtionfcmmfbecfaaGreatDoor
