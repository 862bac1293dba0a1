/-
  An own evaluator of closed runs of a program, proved sound against the model for every order of draws and every capacity of append. This text is one part of it; the last part's theorem 'closed' says what a run in the kernel proves. Used for the law's closed self-test.
-/
import Derived.Test.YtgjgdofofhmjgaaDoorDamX
namespace Go.Dam

section
variable {P : Program}

theorem asAddr_some (x : Addr) : asAddr (.pointer (some x)) = pure x := rfl

theorem aresults_sound {E : Env} {A : Nat → Prop} {h : List (Nat × Obj)} {w : World} {tm : List Value} {a : Act} (H : Holds P E A h w) (ht : Tm E A tm a) : ∀ {rs : List ResultVar} {vs : List Value}, aresults P h tm rs = some vs →
    (rs.mapM (m := Sem) fun | .tmp t => pure (a.tmps.getD t undef) | .cell ad t => do loadVar t (← asAddr (a.tmps.getD ad undef))).run P w = .ok (vs.map (ren E)) w ∧ (∀ v ∈ vs, Sc A v)
  | [], vs, hb => by
    simp only [aresults, Option.some.injEq] at hb; subst hb
    simp
  | .tmp t :: r, vs, hb => by
    simp only [aresults] at hb
    split at hb
    · rename_i l hl
      simp only [Option.some.injEq] at hb; subst hb
      obtain ⟨h1, h2⟩ := aresults_sound H ht hl
      have hv : a.tmps.getD t undef = ren E (nth tm t) ∧ Sc A (nth tm t) := by
        simp only [nth_get, ht.tmps]
        cases hx : tm[t]? with
        | none => simp [hx, ren_undef, Sc_undef]
        | some v => simp [hx]; exact ht.sc v (List.mem_of_getElem? hx)
      refine ⟨?_, ?_⟩
      · simp only [List.mapM_cons, Sem.run_bind, Sem.run_pure, Result.andThen_ok, h1, hv.1, List.map_cons]
      · intro v hv'
        rcases List.mem_cons.1 hv' with rfl | hv'
        · exact hv.2
        · exact h2 v hv'
    · simp at hb
  | .cell ad t :: r, vs, hb => by
    simp only [aresults] at hb
    split at hb
    · rename_i v l hv hl
      simp only [Option.some.injEq] at hb; subst hb
      obtain ⟨h1, h2⟩ := aresults_sound H ht hl
      have hav : a.tmps.getD ad undef = ren E (nth tm ad) := by
        simp only [nth_get, ht.tmps]
        cases hx : tm[ad]? with
        | none => simp [hx, ren_undef]
        | some v => simp [hx]
      obtain ⟨l1, l2⟩ := aload_sound H hv
      obtain ⟨p, hp⟩ : ∃ p, nth tm ad = .pointer (some p) := by
        unfold aload at hv
        split at hv
        · rename_i e; exact ⟨_, e⟩
        · simp at hv
      rw [hp, ren_ptr] at l1
      simp only [Instr.loadAt, Instr.sureAddr, Sem.run_bind, Sem.run_pure, Result.andThen_ok] at l1
      refine ⟨?_, ?_⟩
      · simp only [List.mapM_cons, Sem.run_bind, Sem.run_pure, Result.andThen_ok, hav, hp, ren_ptr, asAddr_some, l1, h1, List.map_cons]
      · intro v' hv'
        rcases List.mem_cons.1 hv' with rfl | hv'
        · exact l2
        · exact h2 v' hv'
    · simp at hb

/-- What a function returns of its results. -/
def oneOf (vs : List Value) : Value :=
  match vs with
  | [v] => v
  | vs => .tuple vs.toArray

theorem results_sound {E : Env} {A : Nat → Prop} {h : List (Nat × Obj)} {w : World} {tm : List Value} {a : Act} {fn : Func} {vs : List Value} (H : Holds P E A h w) (ht : Tm E A tm a) (hb : aresults P h tm fn.results.toList = some vs) :
    (results fn a.tmps).run P w = .ok (ren E (oneOf vs)) w ∧ Sc A (oneOf vs) := by
  obtain ⟨h1, h2⟩ := aresults_sound H ht hb
  constructor
  · unfold results
    rw [Array.mapM_eq_mapM_toList]
    simp only [Sem.run_bind, Sem.run_map]
    generalize hR : Sem.run P (List.mapM _ fn.results.toList) w = R
    have hR' : R = .ok (vs.map (ren E)) w := hR.symm.trans h1
    subst hR'
    simp only [Result.andThen_ok, Sem.run_pure]
    rcases vs with _ | ⟨v, _ | ⟨u, r⟩⟩
    · simp [oneOf, ren]
    · simp [oneOf]
    · simp [oneOf, ren]
  · rcases vs with _ | ⟨v, _ | ⟨u, r⟩⟩
    · simp [oneOf, Sc]
    · exact h2 v (by simp)
    · simp only [oneOf, Sc]
      intro x hx
      exact h2 x (by simpa using hx)

theorem okFuncs_spec {fs : Nat} : ∀ {n : Nat}, okFuncs P n fs = true → ∀ f, f < n → Nat.testBit fs f = true → ∀ (fn : Func) (c : Code), P.funcs[f]? = some fn → fn.body = some c → okCode P c = true
  | 0, _, _, h, _, _, _, _, _ => by omega
  | n + 1, h, f, hf, hb, fn, c, hfn, hc => by
    simp only [okFuncs, Bool.and_eq_true, Bool.or_eq_true, Bool.not_eq_true'] at h
    by_cases hfn' : f = n
    · subst hfn'
      rcases h.1 with h1 | h1
      · rw [hb] at h1; cases h1
      · rw [hfn] at h1
        simp only [hc] at h1
        exact h1
    · exact okFuncs_spec h.2 f (by omega) hb fn c hfn hc

theorem evCall_sound (hm : P.follows .mixedOrders = true) (hnm : NamesOk P) {fs : Nat} (hok : okFuncs P P.funcs.size fs = true) (fuel : Nat) : ∀ d, CallOk P (evCall P fs fuel d)
  | 0 => fun _ _ _ _ _ h => by simp [evCall] at h
  | d + 1 => by
    intro f args S v S' h E A w hg hev hargs H hA
    have ih := evCall_sound hm hnm hok fuel d
    simp only [evCall] at h
    split at h
    · rename_i hfs
      split at h
      · simp at h
      · rename_i fn hfn
        split at h
        · simp at h
        · rename_i c hc
          have hokc : okCode P c = true := okFuncs_spec hok f (Array.getElem?_eq_some_iff.1 hfn).1 hfs fn c hfn hc
          refine calls_of_wp hfn hc ?_
          have ht : Tm E A (args ++ List.replicate (fn.ntmps - args.length) undef) { tmps := (args.map (ren E)).toArray ++ Array.replicate (fn.ntmps - (args.map (ren E)).toArray.size) undef, defers := [] } := by
            refine ⟨?_, ?_⟩
            · simp [ren_undef]
            · intro x hx
              rcases List.mem_append.1 hx with hx | hx
              · exact hargs x hx
              · rw [(List.mem_replicate.1 hx).2]; exact Sc_undef _
          have key : ∀ (e : Exit) (tm : List Value) (S₁ : St), evC (evCall P fs fuel d) P fuel c (args ++ List.replicate (fn.ntmps - args.length) undef) S = some (e, tm, S₁) → (e = .normal ∨ e = .ret) →
              (match aresults P S₁.heap tm fn.results.toList with
                | some vs => if (plain (oneOf vs) && noPtrAll args) = true then some (oneOf vs, (⟨dropNew S.next S₁.heap, S₁.next⟩ : St)) else some (oneOf vs, S₁)
                | none => none) = some (v, S') →
              c.wp P (bodyPost P fn fun e w' => ∃ E', e = .returned (ren E' v) ∧ Post P E A S.heap S.next w E' S'.heap S'.next w' ∧ Sc (fun n => A n ∨ (S.next ≤ n ∧ n < S'.next)) v) { tmps := (args.map (ren E)).toArray ++ Array.replicate (fn.ntmps - (args.map (ren E)).toArray.size) undef, defers := [] } w := by
            intro e tm S₁ h1 he h2
            split at h2
            · rename_i vs hvs
              have hS' : S'.next = S₁.next ∧ v = oneOf vs ∧ (∀ n o, getB S'.heap n = some o → getB S₁.heap n = some o) := by
                split at h2
                · simp only [Option.some.injEq, Prod.mk.injEq] at h2; obtain ⟨rfl, rfl⟩ := h2
                  exact ⟨rfl, rfl, fun n o hn => (getB_dropNew _ _ _ _ hn).1⟩
                · simp only [Option.some.injEq, Prod.mk.injEq] at h2; obtain ⟨rfl, rfl⟩ := h2
                  exact ⟨rfl, rfl, fun _ _ hn => hn⟩
              obtain ⟨e1, rfl, e3⟩ := hS'
              refine (evC_sound hm ih hnm fuel).1 c _ S e tm S₁ h1 hokc E A _ w _ ht hg hev H (by rw [← e1]; exact hA) ?_
              intro E' a' w' p ht' hd
              obtain ⟨r1, r2⟩ := results_sound (fn := fn) p.holds ht' hvs
              have : a'.defers = [] ∧ ∃ v, (results fn a'.tmps).run P w' = .ok v w' ∧ ∃ E'', Ending.returned v = .returned (ren E'' (oneOf vs)) ∧ Post P E A S.heap S.next w E'' S'.heap S'.next w' ∧ Sc (fun n => A n ∨ (S.next ≤ n ∧ n < S'.next)) (oneOf vs) := by
                refine ⟨hd, _, r1, E', rfl, ?_, ?_⟩
                · rw [e1]; exact p.drop e3
                · rw [e1]; exact r2
              rcases he with rfl | rfl
              · exact this
              · exact this
            · simp at h2
          split at h
          · rename_i tm S₁ h1
            exact key _ tm S₁ h1 (.inl rfl) h
          · rename_i tm S₁ h1
            exact key _ tm S₁ h1 (.inr rfl) h
          · simp at h
    · simp at h

end
end Go.Dam
