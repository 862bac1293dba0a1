/-
  A part of the proof that the law ParserSheets (chapter 19) returns true for every sheet: walks of the program's functions, and runs of them in the kernel by the own evaluator.
-/
import Derived.Test.YtjnkppneilmpbaaGreatDoorDamG
import Derived.Test.YtjnkppneilmpbaaGreatDoorProg
import Derived.KernelRfl
namespace Go.Proofs.YtjnkppneilmpbaaGreatDoor
open Go.RowKit Go.Dam

noncomputable def bodyOf (f : FuncId) : Code := match Tryz.prog.funcs[f]? with
  | some fn => (match fn.body with
    | some c => c
    | none => .skip)
  | none => .skip
def fsAll : Nat := 2 ^ 260 - 1
set_option maxRecDepth 1000000
theorem funcs_ok : okFuncs Tryz.prog Tryz.prog.funcs.size fsAll = true := by kernel_rfl
theorem names_ok : namesOkL Tryz.prog = true := by kernel_rfl
theorem mixed_ok : Tryz.prog.follows .mixedOrders = true := by kernel_rfl
theorem size_ok : Tryz.prog.funcs.size = 260 := by kernel_rfl

theorem okFuncs_any {P : Program} {fs fs' : Nat} : ∀ {n : Nat}, okFuncs P n fs = true → (∀ f, f < n → Nat.testBit fs f = true) → okFuncs P n fs' = true
  | 0, _, _ => rfl
  | n + 1, h, hb => by
    simp only [okFuncs, Bool.and_eq_true] at h ⊢
    have h1 := h.1
    rw [hb n (Nat.lt_succ_self n)] at h1
    simp only [Bool.not_true, Bool.false_or] at h1
    refine ⟨?_, okFuncs_any h.2 fun f hf => hb f (by omega)⟩
    rw [Bool.or_eq_true]
    exact .inr h1

theorem bits_ok : ((List.range 260).all fun f => Nat.testBit fsAll f) = true := by kernel_rfl

theorem ok_any (fs : Nat) : okFuncs Tryz.prog Tryz.prog.funcs.size fs = true :=
  okFuncs_any funcs_ok fun f hf => by
    rw [size_ok] at hf
    exact List.all_eq_true.1 bits_ok f (List.mem_range.2 hf)

noncomputable def baseCF : Fn → List Value → St → Option (Value × St) := evCall noOrc Tryz.prog fsAll 2000 30
theorem base_ok : CallOk Tryz.prog baseCF := evCall_sound mixed_ok (namesOk_of names_ok) noOrc_ok (ok_any fsAll) 2000 30
end Go.Proofs.YtjnkppneilmpbaaGreatDoor
