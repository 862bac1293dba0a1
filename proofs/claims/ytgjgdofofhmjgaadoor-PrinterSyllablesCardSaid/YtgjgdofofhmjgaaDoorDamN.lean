/-
  An own evaluator of closed runs of a program, proved sound against the model for every order of draws and every capacity of append. This text is one part of it; the last part's theorem 'closed' says what a run in the kernel proves. Used for the law's closed self-test.
-/
import Derived.Test.YtgjgdofofhmjgaaDoorDamM
namespace Go.Dam

section
variable {P : Program} {E : Env} {A : Nat → Prop} {tm : List Value} {a : Act} {w : World}

theorem call_sound {callF : FuncId → List Value → St → Option (Value × St)} (hcf : CallOk P callF) {o : Oper} {g : FuncId} {args : List Value} {S S' : St} {v : Value} (hg : Glb P E A) (hev : S.next % 2 = 0) (H : Holds P E A S.heap w)
    (hsc : ∀ x ∈ args, Sc A x) (hA : ∀ n, A n → ¬ (S.next ≤ n ∧ n < S'.next)) (hb : callF g args S = some (v, S')) (hr : (execOp a.eval o).run P w = .ok (.enter g (args.map (ren E)).toArray) w) :
    OpRes P E A o a S.heap S.next w v S'.heap S'.next := by
  intro K Q hK
  unfold Oper.wp
  rw [hr]
  refine (hcf g args S v S' hb E A w hg hev hsc H hA).mono ?_
  rintro e w' ⟨E', rfl, h1, h2⟩
  exact hK E' w' h1 h2

theorem execOp_value {o : Oper} {s : Sem Value} {v : Value} {w' : World} (he : execOp a.eval o = (do pure (.value (← s)))) (hr : s.run P w = .ok v w') : (execOp a.eval o).run P w = .ok (.value v) w' := by
  rw [he]; simp [hr]

theorem execOp_skip {o : Oper} {s : Sem Unit} {w' : World} (he : execOp a.eval o = (do s; pure .skip)) (hr : s.run P w = .ok () w') : (execOp a.eval o).run P w = .ok .skip w' := by
  rw [he]; simp [hr]

theorem eqGuard_ptr {op : BinOp} {t : TypeId} {x y : Operand} {u v : Value} (hu : ∀ cs, u ≠ .agg cs) (hn : u ≠ .nilIface) (w : World) : (eqGuard op t x y u v).run P w = .ok () w := by
  unfold eqGuard
  cases u <;> first | exact absurd rfl hn | exact absurd rfl (hu _) | (split <;> rfl)

/-- What 'aeql' decides are no numbers and no strings. -/
theorem aeql_shape {t : TypeId} {x y : Value} {b : Bool} (h : aeql P t x y = some b) : (∀ cs, ren E x ≠ .agg cs) ∧ ren E x ≠ .nilIface ∧
    binOp .eql t (ren E x) (ren E y) = (do pure (.bool (← Op.equal t (ren E x) (ren E y)))) ∧ binOp .neq t (ren E x) (ren E y) = (do pure (.bool (!(← Op.equal t (ren E x) (ren E y))))) := by
  unfold aeql at h
  have key : ∀ (u v : Value), ((∃ p, u = .pointer p) ∨ (∃ p l c, u = .slice p l c) ∨ (∃ p, u = .map p) ∨ u = .nilFunc ∨ (∃ f a b, u = .func f a b)) →
      (∀ cs, u ≠ .agg cs) ∧ u ≠ .nilIface ∧ binOp .eql t u v = (do pure (.bool (← Op.equal t u v))) ∧ binOp .neq t u v = (do pure (.bool (!(← Op.equal t u v)))) := by
    intro u v hu
    rcases hu with ⟨p, rfl⟩ | ⟨p, l, c, rfl⟩ | ⟨p, rfl⟩ | rfl | ⟨f, a, b, rfl⟩
    all_goals exact ⟨by simp, by simp, by simp [binOp], by simp [binOp]⟩
  split at h
  · split at h <;> first | (simp at h; done) | skip
    all_goals exact key _ _ (.inl (by first | exact ⟨_, ren_nilptr E⟩ | exact ⟨_, ren_ptr E _⟩))
  · split at h <;> first | (simp at h; done) | skip
    all_goals exact key _ _ (.inr (.inl (by first | exact ⟨_, _, _, ren_nilslice E _ _⟩ | exact ⟨_, _, _, ren_slice E _ _ _⟩)))
  · split at h <;> first | (simp at h; done) | skip
    all_goals exact key _ _ (.inr (.inr (.inl (by first | exact ⟨_, ren_nilmap E⟩ | exact ⟨_, ren_map E _⟩))))
  · split at h <;> first | (simp at h; done) | skip
    all_goals exact key _ _ (.inr (.inr (.inr (by first | exact .inl (ren_nilfunc E) | exact .inr ⟨_, _, _, ren_func E _ _ _⟩))))
  · simp at h

theorem Sc_func_append {first captured : Array Value} {xs : List Value} {fn : Fn} (h1 : Sc A (.func fn first captured)) (h2 : ∀ x ∈ xs, Sc A x) : ∀ x ∈ first.toList ++ xs ++ captured.toList, Sc A x := by
  rw [Sc_func] at h1
  intro x hx
  rcases List.mem_append.1 hx with hx | hx
  · rcases List.mem_append.1 hx with hx | hx
    · exact h1.1 x (by simpa using hx)
    · exact h2 x hx
  · exact h1.2 x (by simpa using hx)

theorem plainOperands_mem : ∀ {l : List Operand}, plainOperands tm l = true → ∀ x ∈ l, plain (aeval tm x) = true
  | [], _ => by simp
  | y :: r, h => by
    simp [plainOperands] at h
    intro x hx
    rcases List.mem_cons.1 hx with rfl | hx
    · exact h.1
    · exact plainOperands_mem h.2 x hx

end
end Go.Dam
