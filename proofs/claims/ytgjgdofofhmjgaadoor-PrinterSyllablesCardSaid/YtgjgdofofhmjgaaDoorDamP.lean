/-
  An own evaluator of closed runs of a program, proved sound against the model for every order of draws and every capacity of append. This text is one part of it; the last part's theorem 'closed' says what a run in the kernel proves. Used for the law's closed self-test.
-/
import Derived.Test.YtgjgdofofhmjgaaDoorDamO
import Derived.Test.YtgjgdofofhmjgaaDoorDam3
namespace Go.Dam

section
variable {P : Program} {tm tm' : List Value} {callF : FuncId → List Value → St → Option (Value × St)}

theorem apure_congr {o : Oper} (hsel : ∀ cs b, o.op ≠ .select cs b) (h : ∀ x ∈ o.op.operands, aeval tm x = aeval tm' x) : apure P tm o = apure P tm' o := by
  unfold apure
  rw [execOp_congr o hsel h]

theorem plainOperands_congr : ∀ {l : List Operand}, (∀ x ∈ l, aeval tm x = aeval tm' x) → plainOperands tm l = plainOperands tm' l
  | [], _ => rfl
  | x :: r, h => by
    simp only [plainOperands]
    rw [h x (by simp), plainOperands_congr fun y hy => h y (by simp [hy])]

theorem aparts_congr {ps : Array (Nat × Operand)} (h : ∀ x ∈ ps.map (·.2), aeval tm x = aeval tm' x) : aparts tm ps = aparts tm' ps := by
  unfold aparts
  congr 1
  refine List.map_congr_left fun p hp => ?_
  obtain ⟨i, x⟩ := p
  simp only [Prod.mk.injEq, true_and]
  exact h x (Array.mem_map.2 ⟨(i, x), by simpa using hp, rfl⟩)

theorem map_congr_arr {xs : Array Operand} (h : ∀ x ∈ xs, aeval tm x = aeval tm' x) : xs.toList.map (aeval tm) = xs.toList.map (aeval tm') :=
  List.map_congr_left fun x hx => h x (by simpa using hx)

theorem abuildSlice_congr {S : St} {t : TypeId} {n : Nat} {ps : Array (Nat × Operand)} (h : ∀ x ∈ ps.map (·.2), aeval tm x = aeval tm' x) : abuildSlice P tm S t n ps = abuildSlice P tm' S t n ps := by
  unfold abuildSlice
  rw [aparts_congr h]

theorem astep_congr {S : St} {o : Oper} (hsel : ∀ cs b, o.op ≠ .select cs b) (h : ∀ x ∈ o.op.operands, aeval tm x = aeval tm' x) : astep callF P tm S o = astep callF P tm' S o := by
  have hp : apure P tm o = apure P tm' o := apure_congr hsel h
  obtain ⟨dst, op, ty, pos, after, guard⟩ := o
  cases op
  case call c =>
    have hargs : ∀ x ∈ c.args.toList, aeval tm x = aeval tm' x := fun x hx => h x (by
      simp only [Op.operands, Call.operands]
      cases c.callee <;> simp [by simpa using hx])
    simp only [astep, hp]
    cases hc : c.callee with
    | builtin b =>
      generalize hxs : c.args.toList = xs at hargs ⊢
      have hpo := plainOperands_congr hargs
      rcases xs with _ | ⟨x, _ | ⟨y, _ | ⟨z, r⟩⟩⟩
      · cases b <;> simp only [hpo]
      · have hx := hargs x (by simp)
        cases b <;> simp only [hpo, hx]
      · have hx := hargs x (by simp)
        have hy := hargs y (by simp)
        cases b <;> simp only [hpo, hx, hy]
      · cases b <;> simp only [hpo]
    | value f =>
      have hf : aeval tm f = aeval tm' f := h f (by simp [Op.operands, Call.operands, hc])
      simp only [hf, plainOperands_congr hargs, map_congr_arr (xs := c.args) (fun x hx => hargs x (by simpa using hx))]
      generalize hxs : c.args.toList = xs at hargs ⊢
      rcases xs with _ | ⟨x, _ | ⟨y, r⟩⟩
      · rfl
      · have hx := hargs x (by simp)
        simp only [hx]
        generalize aeval tm' f = u
        cases u <;> try rfl
        rename_i fn first captured
        cases fn <;> try rfl
        rename_i g
        simp only
        cases P.funcs[g]? <;> try rfl
        rename_i fn
        simp only
        cases fn.body <;> try rfl
        simp only
        generalize fn.resultTypes.toList = l
        rcases l with _ | ⟨y, _ | ⟨z, r⟩⟩
        · rfl
        · simp only [hx]
        · rfl
      · rfl
    | invoke r m => rfl
  case build t ps => simp only [astep, aparts_congr (tm := tm) (tm' := tm') fun x hx => h x (by simpa [Op.operands] using hx)]
  case buildSlice t n ps => simp only [astep, abuildSlice_congr (P := P) (tm := tm) (tm' := tm') fun x hx => h x (by simpa [Op.operands] using hx)]
  case makeFunc fn first captured =>
    simp only [astep, map_congr_arr (xs := first) fun x hx => h x (by simp [Op.operands, hx]), map_congr_arr (xs := captured) fun x hx => h x (by simp [Op.operands, hx])]
  case makeMap t r => cases r <;> rfl
  case slice t x lo hi mx =>
    cases mx with
    | some m => rfl
    | none =>
      have hx : aeval tm x = aeval tm' x := h x (by simp [Op.operands])
      have hl : lo.map (aeval tm) = lo.map (aeval tm') := by cases lo with | none => rfl | some l => simp [h l (by simp [Op.operands])]
      have hh : hi.map (aeval tm) = hi.map (aeval tm') := by cases hi with | none => rfl | some l => simp [h l (by simp [Op.operands])]
      have hpo : plainOperands tm (x :: (lo.toList ++ hi.toList)) = plainOperands tm' (x :: (lo.toList ++ hi.toList)) := plainOperands_congr fun y hy => h y (by
        simp only [List.mem_cons, List.mem_append, Option.mem_toList] at hy
        rcases hy with rfl | hy | hy
        · simp [Op.operands]
        · cases lo <;> simp_all [Op.operands]
        · cases hi <;> simp_all [Op.operands])
      simp only [astep, hx, hl, hh, hp, hpo]
  all_goals (simp only [Op.operands] at h; first | rfl | (simp only [astep]; simp_all; done))

theorem astep_still {S S' : St} {o : Oper} {v : Value} (hk : kind o.op = 0 ∨ kind o.op = 1) (h : astep callF P tm S o = some (v, S')) : S' = S := by
  obtain ⟨dst, op, ty, pos, after, guard⟩ := o
  cases op
  case call c =>
    obtain ⟨callee, args, at'⟩ := c
    cases callee with
    | builtin b =>
      cases b <;> simp only [kind] at hk <;> first | (simp at hk; done) | skip
      all_goals (simp only [astep] at h; repeat' split at h) <;> simp_all
    | _ => simp [kind] at hk
  case makeMap t r => cases r <;> simp [kind] at hk
  all_goals first | (simp [kind] at hk; done) | skip
  all_goals (simp only [astep] at h; (repeat' split at h) <;> simp_all)

theorem astep_pure {S S' S₂ : St} {o : Oper} {v : Value} (hk : kind o.op = 0) (h : astep callF P tm S o = some (v, S')) : astep callF P tm S₂ o = some (v, S₂) := by
  obtain ⟨dst, op, ty, pos, after, guard⟩ := o
  cases op
  case call c =>
    obtain ⟨callee, args, at'⟩ := c
    cases callee with
    | builtin b =>
      cases b <;> simp only [kind] at hk <;> first | (simp at hk; done) | skip
      all_goals (simp only [astep] at h ⊢; repeat' split at h) <;> simp_all
    | _ => simp [kind] at hk
  case makeMap t r => cases r <;> simp [kind] at hk
  all_goals first | (simp [kind] at hk; done) | skip
  all_goals (simp only [astep] at h ⊢; (repeat' split at h) <;> simp_all)

end
end Go.Dam
