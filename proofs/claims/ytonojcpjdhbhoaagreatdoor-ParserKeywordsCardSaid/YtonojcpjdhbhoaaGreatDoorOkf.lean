/-
  A part of the proof that the law ParserKeywords (chapter 19) returns true for every index: runs of the program's functions in the kernel, by the own evaluator, and walks.
-/
import Derived.Test.YtonojcpjdhbhoaaGreatDoorLit
namespace Go.Proofs.YtonojcpjdhbhoaaGreatDoor
open Go.RowKit Go.Dam

set_option maxRecDepth 1000000 in
theorem funcs_ok : okFuncs Tryz.prog Tryz.prog.funcs.size fsAll = true := by kernel_rfl
set_option maxRecDepth 1000000 in
theorem names_ok : namesOkL Tryz.prog = true := by kernel_rfl
theorem mixed_ok : Tryz.prog.follows .mixedOrders = true := by kernel_rfl
theorem size_ok : Tryz.prog.funcs.size = 257 := by kernel_rfl

theorem okFuncs_any {P : Program} {fs fs' : Nat} : ∀ {n : Nat}, okFuncs P n fs = true → (∀ f, f < n → Nat.testBit fs f = true) → okFuncs P n fs' = true
  | 0, _, _ => rfl
  | n + 1, h, hb => by
    simp only [okFuncs, Bool.and_eq_true] at h ⊢
    have h1 := h.1
    rw [hb n (Nat.lt_succ_self n)] at h1
    simp only [Bool.not_true, Bool.false_or] at h1
    refine ⟨?_, okFuncs_any h.2 fun f hf => hb f (by omega)⟩
    rw [Bool.or_eq_true]
    exact .inr h1

theorem bits_ok : ((List.range 257).all fun f => Nat.testBit fsAll f) = true := by kernel_rfl

theorem ok_any (fs : Nat) : okFuncs Tryz.prog Tryz.prog.funcs.size fs = true :=
  okFuncs_any funcs_ok fun f hf => by
    rw [size_ok] at hf
    exact List.all_eq_true.1 bits_ok f (List.mem_range.2 hf)

end Go.Proofs.YtonojcpjdhbhoaaGreatDoor
