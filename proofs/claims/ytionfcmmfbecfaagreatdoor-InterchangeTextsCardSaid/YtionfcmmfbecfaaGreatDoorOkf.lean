/-
  A part of the proof that the law InterchangeTexts (chapter 22) returns true for every loss: runs of the program's functions in the kernel, by the own evaluator, and walks.
-/
import Derived.Test.YtionfcmmfbecfaaGreatDoorDamK
import Derived.Test.YtionfcmmfbecfaaGreatDoorProg
import Derived.KernelRfl
namespace Go.Proofs.YtionfcmmfbecfaaGreatDoor
open Go.RowKit Go.Dam

noncomputable def bodyOf (f : FuncId) : Code := match Tryz.prog.funcs[f]? with
  | some fn => (match fn.body with
    | some c => c
    | none => .skip)
  | none => .skip
def fsAll : Nat := 2 ^ 439 - 1
set_option maxRecDepth 1000000
theorem funcs_ok : okFuncs Tryz.prog Tryz.prog.funcs.size fsAll = true := by kernel_rfl
theorem names_ok : namesOkL Tryz.prog = true := by kernel_rfl
theorem mixed_ok : Tryz.prog.follows .mixedOrders = true := by kernel_rfl
theorem size_ok : Tryz.prog.funcs.size = 439 := by kernel_rfl

theorem okFuncs_any {P : Program} {fs fs' : Nat} : ∀ {n : Nat}, okFuncs P n fs = true → (∀ f, f < n → Nat.testBit fs f = true) → okFuncs P n fs' = true
  | 0, _, _ => rfl
  | n + 1, h, hb => by
    simp only [okFuncs, Bool.and_eq_true] at h ⊢
    have h1 := h.1
    rw [hb n (Nat.lt_succ_self n)] at h1
    simp only [Bool.not_true, Bool.false_or] at h1
    refine ⟨?_, okFuncs_any h.2 fun f hf => hb f (by omega)⟩
    rw [Bool.or_eq_true]
    exact .inr h1

theorem bits_ok : ((List.range 439).all fun f => Nat.testBit fsAll f) = true := by kernel_rfl

theorem ok_any (fs : Nat) : okFuncs Tryz.prog Tryz.prog.funcs.size fs = true :=
  okFuncs_any funcs_ok fun f hf => by
    rw [size_ok] at hf
    exact List.all_eq_true.1 bits_ok f (List.mem_range.2 hf)

noncomputable def r72 (i : Nat) : Array Oper := match bodyOf 72 with
  | .seq (.region _ a _) (.block _ (.loop (.seq (.region _ b _) (.seq _ (.block _ (.seq (.region _ c _) (.region _ d _))))))) => (match i with
    | 0 => a
    | 1 => b
    | 2 => c
    | _ => d)
  | _ => #[]
noncomputable def at72 (i j : Nat) : Oper := (r72 i).getD j default
noncomputable def ops72 : CopyOps := ⟨at72 0 0, at72 0 1, at72 1 0, at72 1 1, at72 2 0, at72 2 1, at72 2 2, at72 2 3, at72 2 4, at72 2 5, at72 3 0, at72 3 1, at72 3 2, at72 3 3⟩
noncomputable def zero168 : List Value := match aallocCells Tryz.prog 168 with
  | some l => l
  | none => []
theorem text72 : CopyText Tryz.prog 72 Tryz.f72 ops72 113 168 9 168 3 zero168 where
  hfn := Tryz.func72
  body := by kernel_rfl
  ntmps := by kernel_rfl
  results := by kernel_rfl
  sums := by kernel_rfl
  uM := by kernel_rfl
  uK := by kernel_rfl
  agg := by kernel_rfl
  size := by kernel_rfl
  zero := by kernel_rfl
  zplain := by kernel_rfl
  zlen := by kernel_rfl
  pos := by decide
  ok := by kernel_rfl

noncomputable def baseCF : Fn → List Value → St → Option (Value × St) := evCall noOrc Tryz.prog fsAll 2000 30
theorem base_ok : CallOk Tryz.prog baseCF := evCall_sound mixed_ok (namesOk_of names_ok) noOrc_ok (ok_any fsAll) 2000 30
theorem copy_told : OrcOk Tryz.prog (orcCopy 72 3) := orcCopy_ok text72 mixed_ok (namesOk_of names_ok)

end Go.Proofs.YtionfcmmfbecfaaGreatDoor
