/-
  A part of the proof that the law InterchangeTexts (chapter 22) returns true for every loss: runs of the program's functions in the kernel, by the own evaluator, and walks.
-/
import Derived.Test.YtionfcmmfbecfaaGreatDoorTol
namespace Go.Proofs.YtionfcmmfbecfaaGreatDoor
open Go.RowKit Go.Dam

noncomputable def toldL : FuncId → List Value → St → Option (Value × St) := toldOrc2 [] [] [told124x16, told1458x13, told1686x16]
noncomputable def mainOrc : FuncId → List Value → St → Option (Value × St) := fun f args S =>
  match toldL f args S with
  | some r => some r
  | none => knOrc f args S
def fsM : Nat := 2 ^ 439 - 1 - 2 ^ 72 - 2 ^ 202 - 2 ^ 13 - 2 ^ 16
noncomputable def isTrue (r : Option (Value × St)) : Bool := match r with | some (.bool true, _) => true | _ => false
set_option maxRecDepth 1000000 in
theorem known_run : isTrue (evCall mainOrc Tryz.prog fsM 3000 40 (.func 4) [] ⟨[], 100⟩) = true := by kernel_rfl

end Go.Proofs.YtionfcmmfbecfaaGreatDoor
