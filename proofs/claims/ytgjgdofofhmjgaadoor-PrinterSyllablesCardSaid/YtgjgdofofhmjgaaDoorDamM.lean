/-
  An own evaluator of closed runs of a program, proved sound against the model for every order of draws and every capacity of append. This text is one part of it; the last part's theorem 'closed' says what a run in the kernel proves. Used for the law's closed self-test.
-/
import Derived.Test.YtgjgdofofhmjgaaDoorDamL
import Derived.KernelRfl
namespace Go.Dam

/-- The globals lie where they lie. -/
def Glb (P : Program) (E : Env) (A : Nat → Prop) : Prop := ∀ g, g < P.globals.size → E.β (2 * g) = g ∧ E.σ (2 * g) = 0 ∧ A (2 * g)

/-- The slots. -/
structure Tm (E : Env) (A : Nat → Prop) (tm : List Value) (a : Act) : Prop where
  tmps : a.tmps = (tm.map (ren E)).toArray
  sc : ∀ x ∈ tm, Sc A x

/-- What the functions of the program are known to do. -/
def CallOk (P : Program) (callF : FuncId → List Value → St → Option (Value × St)) : Prop :=
  ∀ f args S v S', callF f args S = some (v, S') → ∀ (E : Env) (A : Nat → Prop) (w : World), Glb P E A → S.next % 2 = 0 → (∀ x ∈ args, Sc A x) → Holds P E A S.heap w →
    (∀ n, A n → ¬ (S.next ≤ n ∧ n < S'.next)) →
    Calls P f (args.map (ren E)).toArray w fun e w' => ∃ E', e = .returned (ren E' v) ∧ Post P E A S.heap S.next w E' S'.heap S'.next w' ∧ Sc (fun n => A n ∨ (S.next ≤ n ∧ n < S'.next)) v

section
variable {P : Program} {E : Env} {A : Nat → Prop} {tm : List Value} {a : Act} {w : World}

theorem nth_get : ∀ (l : List Value) (n : Nat), nth l n = l[n]?.getD undef
  | [], _ => rfl
  | _ :: _, 0 => rfl
  | _ :: r, n + 1 => by simpa [nth] using nth_get r n

theorem eval_ok (ht : Tm E A tm a) (hg : Glb P E A) {x : Operand} (hx : okOpd P x = true) : a.eval x = ren E (aeval tm x) ∧ Sc A (aeval tm x) := by
  cases x with
  | tmp t =>
    simp only [Act.eval, aeval, nth_get, ht.tmps]
    cases hv : tm[t]? with
    | none => simp [hv, ren_undef, Sc_undef]
    | some v => simp [hv]; exact ht.sc v (List.mem_of_getElem? hv)
  | const v => exact ⟨(plain_ren E hx).symm, plain_Sc A hx⟩
  | global g =>
    obtain ⟨h1, h2, h3⟩ := hg g (Nat.le_of_ble_eq_true hx)
    simp only [Act.eval, aeval, ren_ptr, Sc_ptr, Env.addr, h1, h2]
    exact ⟨trivial, h3⟩
  | func f =>
    simp only [Act.eval, aeval, ren_func, Sc_func]
    exact ⟨by simp, by simp, by simp⟩

theorem upon_value {o : Oper} {K : Act → World → Prop} {Q : Exit → Act → World → Prop} {v : Value} {w' : World} (hr : (execOp a.eval o).run P w = .ok (.value v) w') (hK : K (a.put o.dst v) w') : o.wp P a w K Q := by
  unfold Oper.wp; rw [hr]; exact hK

theorem upon_skip {o : Oper} {K : Act → World → Prop} {Q : Exit → Act → World → Prop} {w' : World} (hr : (execOp a.eval o).run P w = .ok .skip w') (hK : K (a.put o.dst undef) w') : o.wp P a w K Q := by
  unfold Oper.wp; rw [hr]; exact hK

/-- What an operation gives, in whatever follows. -/
def OpRes (P : Program) (E : Env) (A : Nat → Prop) (o : Oper) (a : Act) (h : List (Nat × Obj)) (nx : Nat) (w : World) (v : Value) (h' : List (Nat × Obj)) (nx' : Nat) : Prop :=
  ∀ (K : Act → World → Prop) (Q : Exit → Act → World → Prop),
    (∀ E' w', Post P E A h nx w E' h' nx' w' → Sc (fun n => A n ∨ (nx ≤ n ∧ n < nx')) v → K (a.put o.dst (ren E' v)) w') → o.wp P a w K Q

theorem OpRes.value {o : Oper} {h h' : List (Nat × Obj)} {nx nx' : Nat} {v : Value} {E' : Env} {w' : World} (hr : (execOp a.eval o).run P w = .ok (.value (ren E' v)) w') (hp : Post P E A h nx w E' h' nx' w') (hs : Sc (fun n => A n ∨ (nx ≤ n ∧ n < nx')) v) : OpRes P E A o a h nx w v h' nx' :=
  fun _ _ hK => upon_value hr (hK E' w' hp hs)

theorem OpRes.still {o : Oper} {h : List (Nat × Obj)} {nx : Nat} {v : Value} (H : Holds P E A h w) (hr : (execOp a.eval o).run P w = .ok (.value (ren E v)) w) (hs : Sc A v) : OpRes P E A o a h nx w v h nx :=
  OpRes.value hr (Post.refl H) (Sc_or hs)

theorem OpRes.skip {o : Oper} {h h' : List (Nat × Obj)} {nx nx' : Nat} {E' : Env} {w' : World} (hr : (execOp a.eval o).run P w = .ok .skip w') (hp : Post P E A h nx w E' h' nx' w') : OpRes P E A o a h nx w undef h' nx' :=
  fun _ _ hK => upon_skip hr (by have := hK E' w' hp (Sc_undef _); rw [ren_undef] at this; exact this)

theorem run_apure {o : Oper} {v : Value} (hops : ∀ x ∈ o.op.operands, a.eval x = aeval tm x) (hsel : ∀ cs b, o.op ≠ .select cs b) (hb : apure P tm o = some v) (w : World) :
    (execOp a.eval o).run P w = .ok (.value v) w ∧ plain v = true := by
  unfold apure at hb
  split at hb
  · rename_i v' hp
    simp only [Option.ite_none_right_eq_some, Option.some.injEq] at hb
    obtain ⟨h1, rfl⟩ := hb
    rw [execOp_congr o hsel hops]
    exact ⟨run_purely hp w, h1⟩
  · simp at hb

/-- An operation that asks nothing of the heap, its operands bearing no address. -/
theorem OpRes.pure {o : Oper} {h : List (Nat × Obj)} {nx : Nat} {v : Value} (H : Holds P E A h w) (hops : ∀ x ∈ o.op.operands, a.eval x = ren E (aeval tm x)) (hpl : ∀ x ∈ o.op.operands, plain (aeval tm x) = true)
    (hsel : ∀ cs b, o.op ≠ .select cs b) (hb : apure P tm o = some v) : OpRes P E A o a h nx w v h nx := by
  obtain ⟨h1, h2⟩ := run_apure (P := P) (a := a) (tm := tm) (fun x hx => by rw [hops x hx, plain_ren E (hpl x hx)]) hsel hb w
  exact OpRes.still H (by rw [h1, plain_ren E h2]) (plain_Sc A h2)

theorem aparts_eq {ps : Array (Nat × Operand)} (hops : ∀ p ∈ ps, a.eval p.2 = ren E (aeval tm p.2)) : (ps.map fun (i, x) => (i, a.eval x)) = (aparts tm ps).map (renP E) := by
  apply Array.ext'
  simp only [aparts, Array.toList_map, List.map_map]
  refine List.map_congr_left fun p hp => ?_
  obtain ⟨i, x⟩ := p
  simp only [Function.comp_apply, renP]
  rw [hops (i, x) (by simpa using hp)]

theorem aparts_sc {ps : Array (Nat × Operand)} (hsc : ∀ p ∈ ps, Sc A (aeval tm p.2)) : ∀ p ∈ aparts tm ps, Sc A p.2 := by
  intro p hp
  simp only [aparts, List.mem_toArray, List.mem_map] at hp
  obtain ⟨q, hq, rfl⟩ := hp
  exact hsc q (by simpa using hq)

theorem args_eq {xs : Array Operand} (hops : ∀ x ∈ xs, a.eval x = ren E (aeval tm x)) : xs.map a.eval = ((xs.toList.map (aeval tm)).map (ren E)).toArray := by
  apply Array.ext'
  simp only [Array.toList_map, List.map_map]
  exact List.map_congr_left fun x hx => hops x (by simpa using hx)

theorem resolve_builtin {c : Call} {b : Builtin} {t : TypeId} (hc : c.callee = .builtin b) (hops : ∀ x ∈ c.args, a.eval x = ren E (aeval tm x)) :
    resolve a.eval c t = pure { target := .builtin b c.argTypes t (c.args.map fun | .const _ => true | _ => false), args := ((c.args.toList.map (aeval tm)).map (ren E)).toArray } := by
  unfold resolve
  rw [args_eq hops, hc]
  rfl

theorem resolve_value {c : Call} {f : Operand} {t : TypeId} {g : FuncId} {first captured : Array Value} (hc : c.callee = .value f) (hf : a.eval f = .func (.func g) first captured) (hops : ∀ x ∈ c.args, a.eval x = ren E (aeval tm x)) :
    resolve a.eval c t = pure { target := .fn (.func g) captured, args := first ++ ((c.args.toList.map (aeval tm)).map (ren E)).toArray } := by
  unfold resolve
  rw [args_eq hops, hc]
  simp only [hf, Deferred.ofValue]

/-- A function's name is none that the machine answers itself. -/
def okName (fn : Func) : Bool := !(fn.name == "runtime.NumGoroutine")

theorem run_callFunc_body {g : FuncId} {fn : Func} {args : Array Value} (hg : P.funcs[g]? = some fn) (hb : fn.body.isSome = true) (hn : okName fn = true) (w : World) :
    (callFunc g args).run P w = .ok (.enter g args) w := by
  have hb' : fn.body.isNone = false := by cases h : fn.body <;> simp_all
  have hn' : (fn.name == "runtime.NumGoroutine") = false := by simpa [okName] using hn
  simp only [callFunc, Sem.run_bind, run_program, Result.andThen_ok, hg, hn', hb', Bool.false_eq_true, if_false, Sem.run_pure]

theorem lookup_none {α : Type} {l : List (String × α)} {k : String} (h : (l.lookup k).isNone = true) : l.lookup k = none := by simpa using h

theorem noEscape_next : Extern.allNextRows.lookup "internal/abi.NoEscape" = none := lookup_none (by kernel_rfl)
theorem empty_next : Extern.allNextRows.lookup "" = none := lookup_none (by kernel_rfl)
theorem noEscape_generic : Extern.allGenericRows.lookup "internal/abi.NoEscape" = none := lookup_none (by kernel_rfl)
theorem noEscape_typed : Extern.allTypedRows.lookup "internal/abi.NoEscape" = none := lookup_none (by kernel_rfl)
theorem noEscape_row : Extern.allRows.lookup "internal/abi.NoEscape" = some Extern.AbiNoEscape.same := by kernel_rfl
theorem makeNoZero_next : Extern.allNextRows.lookup "internal/bytealg.MakeNoZero" = none := lookup_none (by kernel_rfl)
theorem makeNoZero_generic : Extern.allGenericRows.lookup "internal/bytealg.MakeNoZero" = none := lookup_none (by kernel_rfl)
theorem makeNoZero_typed : Extern.allTypedRows.lookup "internal/bytealg.MakeNoZero" = some Extern.BytealgMakeNoZero.makeNoZero := by kernel_rfl

theorem run_callFunc_noEscape {g : FuncId} {fn : Func} {x : Value} (hg : P.funcs[g]? = some fn) (hb : fn.body = none) (hn : fn.name = "internal/abi.NoEscape") (ho : fn.origin = "") (w : World) :
    (callFunc g #[x]).run P w = .ok (.value x) w := by
  have h1 : Extern.findNext fn = none := by simp [Extern.findNext, hn, ho, noEscape_next, empty_next]
  have h2 : Extern.find fn = some Extern.AbiNoEscape.same := by simp [Extern.find, hn, noEscape_generic, noEscape_typed, noEscape_row]
  have hn' : (fn.name == "runtime.NumGoroutine") = false := by rw [hn]; decide
  simp only [callFunc, Sem.run_bind, run_program, Result.andThen_ok, hg, hn', Bool.false_eq_true, if_false, hb, Option.isNone_none, if_true, run_mark, h1, h2, Sem.run_pure]
  rfl

theorem run_callFunc_makeNoZero {g : FuncId} {fn : Func} {x v : Value} {w w' : World} (hg : P.funcs[g]? = some fn) (hb : fn.body = none) (hn : fn.name = "internal/bytealg.MakeNoZero") (ho : fn.origin = "")
    (hr : (Extern.BytealgMakeNoZero.makeNoZero fn.params fn.resultTypes #[x]).run P w = .ok v w') :
    (callFunc g #[x]).run P w = .ok (.value v) w' := by
  have h1 : Extern.findNext fn = none := by simp [Extern.findNext, hn, ho, makeNoZero_next, empty_next]
  have h2 : Extern.find fn = some (Extern.BytealgMakeNoZero.makeNoZero fn.params fn.resultTypes) := by simp [Extern.find, hn, makeNoZero_generic, makeNoZero_typed]
  have hn' : (fn.name == "runtime.NumGoroutine") = false := by rw [hn]; decide
  simp only [callFunc, Sem.run_bind, run_program, Result.andThen_ok, hg, hn', Bool.false_eq_true, if_false, hb, Option.isNone_none, if_true, run_mark, h1, h2, Sem.run_pure, hr]

end
end Go.Dam
