/-
  An own evaluator of closed runs of a program, proved sound against the model for every order of draws and every capacity of append. This text is one part of it; the theorems 'closed', 'evCall_sound' say what a run in the kernel proves. Used for the law's closed self-test and for what it calls on constants.
-/
import Derived.Test.YtjnkppneilmpbaaGreatDoorDamG
namespace Go.Dam

section
variable {P : Program} {callF : Fn → List Value → St → Option (Value × St)}

/-- The first k pieces of a row of pieces are run; what is left, and the state there. -/
def evPre (callF : Fn → List Value → St → Option (Value × St)) (P : Program) (f : Nat) : Nat → Code → List Value → St → Option (Code × List Value × St)
  | 0, c, tm, S => some (c, tm, S)
  | k + 1, .seq a b, tm, S => match evC callF P f a tm S with
    | some (.normal, tm', S') => evPre callF P f k b tm' S'
    | _ => none
  | _ + 1, _, _, _ => none

theorem evPre_mono {f : Nat} : ∀ {k : Nat} {c c' : Code} {tm tm' : List Value} {S S' : St}, evPre callF P f k c tm S = some (c', tm', S') → S.next ≤ S'.next
  | 0, _, _, _, _, _, _, h => by
    simp only [evPre, Option.some.injEq, Prod.mk.injEq] at h
    rw [h.2.2]; exact Nat.le_refl _
  | k + 1, c, c', tm, tm', S, S', h => by
    cases c with
    | seq a b =>
      simp only [evPre] at h
      split at h
      · rename_i h1
        exact Nat.le_trans (evC_mono h1) (evPre_mono h)
      · cases h
    | _ => simp [evPre] at h

theorem evPre_sound (hm : P.follows .mixedOrders = true) (hcf : CallOk P callF) (hnm : NamesOk P) {f : Nat} {Q : Exit → Act → World → Prop} : ∀ {k : Nat} {c c' : Code} {tm tm' : List Value} {S S' : St}, evPre callF P f k c tm S = some (c', tm', S') → okCode P c = true →
    ∀ {E : Env} {A : Nat → Prop} {a : Act} {w : World}, Tm E A tm a → Glb P E A → S.next % 2 = 0 → Holds P E A S.heap w → (∀ n, A n → n < S.next) → After P none E A S w a tm' S' (c'.wpIn (rd none) 0 P Q) → c.wpIn (rd none) 0 P Q a w
  | 0, c, c', tm, tm', S, S', h, hok, E, A, a, w, ht, hg, hev, H, hA, hQ => by
    simp only [evPre, Option.some.injEq, Prod.mk.injEq] at h
    obtain ⟨rfl, rfl, rfl⟩ := h
    exact hQ E a w (Post.refl H) ⟨ht.tmps, fun x hx => Sc_or (ht.sc x hx)⟩ (Dfr.of_eq rfl)
  | k + 1, c, c', tm, tm', S, S', h, hok, E, A, a, w, ht, hg, hev, H, hA, hQ => by
    cases c with
    | seq x y =>
      simp only [okCode, Bool.and_eq_true] at hok
      simp only [evPre] at h
      split at h
      · rename_i tm1 S1 h1
        have hA' : ∀ n, A n → ¬ (S.next ≤ n ∧ n < S1.next) := fun n hn hx => by have := hA n hn; omega
        have m2 := evPre_mono h
        refine wpIn_seq ((evC_sound hm hcf hnm f).1 x tm S .normal tm1 S1 h1 hok.1 none (fun hx => by cases hx) E A a w _ ht hg hev H hA' ?_)
        intro E1 a1 w1 p ht1 hd1
        refine evPre_sound hm hcf hnm h hok.2 ht1 (hg.next (p.agreeA hA') fun n hn => .inl hn) (by rw [p.even, hev]) p.holds ?_ (hQ.trans p hd1 m2)
        have := p.le
        rintro n (hn | hn)
        · have := hA n hn; omega
        · omega
      · cases h
    | _ => simp [evPre] at h

/-- A function's contract out of its body, where the body ends in one of several states. -/
theorem calls_nd {C : Type} {g : FuncId} {fn : Func} {c : Code} {args : List Value} {S : St} {E : Env} {A : Nat → Prop} {w : World} {tmR : C → List Value} {SR : C → St} {vs : C → List Value}
    (hfn : P.funcs[g]? = some fn) (hc : fn.body = some c) (hargs : ∀ x ∈ args, Sc A x) (hvs : ∀ k, aresults P (SR k).heap (tmR k) fn.results.toList = some (vs k))
    (hbody : ∀ (a : Act), Tm E A (args ++ List.replicate (fn.ntmps - args.length) undef) a → a.defers = [] → ∀ Q : Exit → Act → World → Prop, (∀ k, After P none E A S w a (tmR k) (SR k) (fun a' w' => Q .normal a' w' ∧ Q .ret a' w')) → c.wpIn (rd none) 0 P Q a w) :
    Calls P g (args.map (ren E)).toArray w fun e w' => ∃ k E', e = .returned (ren E' (oneOf (vs k))) ∧ Post P E A S.heap S.next w E' (SR k).heap (SR k).next w' ∧ Sc (fun n => A n ∨ (S.next ≤ n ∧ n < (SR k).next)) (oneOf (vs k)) := by
  refine (callsIn_wide (n := 0)).1 (callsIn_of_wp_marks hfn hc trivial ?_)
  have ht : Tm E A (args ++ List.replicate (fn.ntmps - args.length) undef) { tmps := (args.map (ren E)).toArray ++ Array.replicate (fn.ntmps - (args.map (ren E)).toArray.size) undef, defers := [] } := by
    refine ⟨by simp [ren_undef], ?_⟩
    intro x hx
    rcases List.mem_append.1 hx with hx | hx
    · exact hargs x hx
    · rw [(List.mem_replicate.1 hx).2]; exact Sc_undef _
  refine hbody _ ht rfl _ fun k => ?_
  intro E' a' w' p ht' hd
  obtain ⟨Ds, hd1, _, hd2, hd3⟩ := hd
  simp only [List.append_nil] at hd1
  have this : LeavesInM (rd none) 0 P fn a'.tmps (fun e w' => ∃ k E', e = .returned (ren E' (oneOf (vs k))) ∧ Post P E A S.heap S.next w E' (SR k).heap (SR k).next w' ∧ Sc (fun n => A n ∨ (S.next ≤ n ∧ n < (SR k).next)) (oneOf (vs k))) a'.defers .returning w' := by
    rw [hd1]
    refine leaves_marks (fun w'' p'' => ?_) Ds w' p hd2 hd3
    obtain ⟨r1, r2⟩ := results_sound (fn := fn) p''.holds ht' (hvs k)
    exact ⟨_, r1, k, E', rfl, p'', r2⟩
  exact ⟨this, this⟩

end
end Go.Dam

namespace Go.Dam

section
variable {P : Program} {callF : Fn → List Value → St → Option (Value × St)}

/-- The first operations of a region are run. -/
theorem evOps_pre (hcf : CallOk P callF) (hnm : NamesOk P) {opsA : Array Oper} {Q : Exit → Act → World → Prop} {l2 : List Oper} : ∀ {l : List Oper} {tm tm' : List Value} {S S' : St} {E : Env} {A : Nat → Prop} {a : Act} {w : World},
    evOps callF P opsA.toList l tm S = some (tm', S') → (∀ o ∈ l, ∀ x ∈ o.op.operands, okOpd P x = true) → Tm E A tm a → Glb P E A → S.next % 2 = 0 → Holds P E A S.heap w → (∀ n, A n → n < S.next) →
    After P none E A S w a tm' S' (wpListIn (rd none) 0 P opsA Q l2) → wpListIn (rd none) 0 P opsA Q (l ++ l2) a w
  | [], tm, tm', S, S', E, A, a, w, h, hops, ht, hg, hev, H, hA, hQ => by
    simp only [evOps, Option.some.injEq, Prod.mk.injEq] at h
    obtain ⟨rfl, rfl⟩ := h
    exact hQ E a w (Post.refl H) ⟨ht.tmps, fun x hx => Sc_or (ht.sc x hx)⟩ (Dfr.of_eq rfl)
  | o :: r, tm, tm', S, S', E, A, a, w, h, hops, ht, hg, hev, H, hA, hQ => by
    simp only [evOps] at h
    rw [List.cons_append]
    refine wpListIn_step fun K hK => ?_
    rw [wanted_eq ht]
    split at h
    · rename_i hgd
      rw [if_pos hgd]
      split at h
      · rename_i v S₁ hs
        simp only [Option.ite_none_right_eq_some] at h
        have hle := Nat.le_of_ble_eq_true h.1
        have hle' := evOps_mono h.2
        have hA₁ : ∀ n, A n → ¬ (S.next ≤ n ∧ n < S₁.next) := fun n hn hx => by have := hA n hn; omega
        refine astep_sound hcf hnm ht hg hev H (hops o (by simp)) hA₁ hs (astep_noDefer hs) none K Q ?_
        intro E₁ w₁ p hsc
        refine hK _ _ (evOps_pre hcf hnm h.2 (fun o' ho' => hops o' (by simp [ho'])) (ht.put (p.agreeA hA₁) (fun n hn => .inl hn) hsc) (hg.next (p.agreeA hA₁) fun n hn => .inl hn) (by rw [p.even, hev]) p.holds ?_ (hQ.trans p ?_ hle'))
        · rintro n (hn | hn)
          · have := hA n hn; omega
          · omega
        · exact Dfr.of_eq (by unfold Act.put; split <;> rfl)
      · simp at h
    · rename_i hgd
      rw [if_neg hgd]
      have hp : Tm E A (putD tm o.dst undef) (a.put o.dst undef) := by
        have := ht.put (E' := E) (B := A) (dst := o.dst) (v := undef) (fun n _ => ⟨rfl, rfl, rfl⟩) (fun n hn => hn) (Sc_undef _)
        rwa [ren_undef] at this
      refine ⟨fun _ _ => trivial, hK _ _ (evOps_pre hcf hnm h (fun o' ho' => hops o' (by simp [ho'])) hp hg hev H hA ?_)⟩
      intro E' a' w' p ht' hd'
      refine hQ E' a' w' p ht' ?_
      have he : (a.put o.dst undef).defers = a.defers := by unfold Act.put; split <;> rfl
      obtain ⟨Ds, e1, e2⟩ := hd'
      exact ⟨Ds, by rw [e1, he], e2⟩

/-- A call that ends in one of several states. -/
theorem callOp_nd (hnm : NamesOk P) {C : Type} {o : Oper} {c : Call} {g : FuncId} (ho : o.op = .call c) (hc : c.callee = .value (.func g)) (hb : hasBody P g = true) (hok : ∀ x ∈ c.args, okOpd P x = true) {E : Env} {A : Nat → Prop} {tm : List Value} {a : Act} {w : World} {S : St} (ht : Tm E A tm a) (hg : Glb P E A)
    {v : C → Value} {SR : C → St} (hcalls : Calls P g ((c.args.toList.map (aeval tm)).map (ren E)).toArray w fun e w' => ∃ (k : C) (E' : Env), e = .returned (ren E' (v k)) ∧ Post P E A S.heap S.next w E' (SR k).heap (SR k).next w' ∧ Sc (fun n => A n ∨ (S.next ≤ n ∧ n < (SR k).next)) (v k))
    {ro : Option Nat} {K : Act → World → Prop} {Q : Exit → Act → World → Prop} (hK : ∀ (k : C) (E' : Env) (w' : World), Post P E A S.heap S.next w E' (SR k).heap (SR k).next w' → Sc (fun n => A n ∨ (S.next ≤ n ∧ n < (SR k).next)) (v k) → K (a.put o.dst (ren E' (v k))) w') : o.wpIn (rd ro) 0 P a w K Q := by
  obtain ⟨fn, hfn, hbody⟩ : ∃ fn, P.funcs[g]? = some fn ∧ fn.body.isSome = true := by
    unfold hasBody at hb
    split at hb
    · rename_i fn hfn; exact ⟨fn, hfn, hb⟩
    · cases hb
  have hf : a.eval (.func g) = .func (.func g) #[] #[] := rfl
  have hres : resolve a.eval c o.type = pure { target := .fn (.func g) #[], args := #[] ++ ((c.args.toList.map (aeval tm)).map (ren E)).toArray } :=
    resolve_value hc hf fun x hx => (eval_ok ht hg (hok x hx)).1
  have hex : execOp a.eval o = callFunc g ((c.args.toList.map (aeval tm)).map (ren E)).toArray := by
    simp only [execOp, ho, hres]
    simp [invoke]
  refine upon_start (by rw [ho]; simp) ?_
  rw [hex, run_callFunc_body hfn hbody (hnm g fn hfn hbody)]
  refine ⟨rd_depth ro, (calls_rd hcalls).mono ?_⟩
  rintro e w' ⟨k, E', rfl, h1, h2⟩
  exact hK k E' w' h1 h2

set_option maxHeartbeats 1000000 in
/-- A region in whose midst such a call stands. -/
theorem region_nd (hcf : CallOk P callF) (hnm : NamesOk P) {C : Type} {i : Nat} {opsA : Array Oper} {l1 l2 : List Oper} {o : Oper} {c : Call} {g : FuncId} (hl : opsA.toList = l1 ++ o :: l2) (hokl : ∀ o ∈ opsA.toList, ∀ x ∈ o.op.operands, okOpd P x = true) (ho : o.op = .call c) (hog : o.guard = none) (hc : c.callee = .value (.func g)) (hb : hasBody P g = true)
    {tm tm1 : List Value} {S S1 : St} (h1 : evOps callF P opsA.toList l1 tm S = some (tm1, S1)) {v : C → Value} {SR : C → St} {tmR : C → List Value} {SE : C → St} (h2 : ∀ k, evOps callF P opsA.toList l2 (putD tm1 o.dst (v k)) (SR k) = some (tmR k, SE k))
    (hcalls : ∀ (E : Env) (A : Nat → Prop) (w : World), Glb P E A → S1.next % 2 = 0 → (∀ x ∈ c.args.toList.map (aeval tm1), Sc A x) → Holds P E A S1.heap w → (∀ n, A n → n < S1.next) → Calls P g ((c.args.toList.map (aeval tm1)).map (ren E)).toArray w fun e w' => ∃ (k : C) (E' : Env), e = .returned (ren E' (v k)) ∧ Post P E A S1.heap S1.next w E' (SR k).heap (SR k).next w' ∧ Sc (fun n => A n ∨ (S1.next ≤ n ∧ n < (SR k).next)) (v k))
    {E : Env} {A : Nat → Prop} {a : Act} {w : World} {Q : Exit → Act → World → Prop} (ht : Tm E A tm a) (hg : Glb P E A) (hev : S.next % 2 = 0) (H : Holds P E A S.heap w) (hA : ∀ n, A n → n < S.next) (hQ : ∀ k, After P none E A S w a (tmR k) (SE k) (Q .normal)) : (Code.region i opsA false).wpIn (rd none) 0 P Q a w := by
  refine wpIn_region_list ?_
  rw [hl]
  have hm1 := evOps_mono h1
  refine evOps_pre hcf hnm h1 (fun o' ho' => hokl o' (by rw [hl]; simp [ho'])) ht hg hev H hA ?_
  intro E1 a1 w1 p1 ht1 hd1
  have b1 : ∀ n, A n → ¬ (S.next ≤ n ∧ n < S1.next) := fun n hn hx => by have := hA n hn; omega
  have hA1 : ∀ n, (A n ∨ (S.next ≤ n ∧ n < S1.next)) → n < S1.next := by
    rintro n (hn | hn)
    · have := hA n hn; omega
    · omega
  have hg1 := hg.next (p1.agreeA b1) (B := fun n => A n ∨ (S.next ≤ n ∧ n < S1.next)) fun n hn => .inl hn
  have hokc : ∀ x ∈ c.args, okOpd P x = true := fun x hx => hokl o (by rw [hl]; simp) x (by rw [ho]; simp [Op.operands, Call.operands, hc, hx])
  refine wpListIn_step fun K hK => ?_
  rw [if_pos (by simp [Region.wanted, hog])]
  refine callOp_nd hnm (S := S1) ho hc hb hokc ht1 hg1 (hcalls E1 _ w1 hg1 (by rw [p1.even, hev]) ?_ p1.holds hA1) ?_
  · intro x hx
    obtain ⟨y, hy, rfl⟩ := List.mem_map.1 hx
    exact (eval_ok ht1 hg1 (hokc y (by simpa using hy))).2
  · intro k E2 w2 p2 hsc
    have hm2 := evOps_mono (h2 k)
    have b2 : ∀ n, (A n ∨ (S.next ≤ n ∧ n < S1.next)) → ¬ (S1.next ≤ n ∧ n < (SR k).next) := fun n hn hx => by have := hA1 n hn; omega
    have hpd : (a1.put o.dst (ren E2 (v k))).defers = a1.defers := by unfold Act.put; split <;> rfl
    have hfin := evOps_pre hcf hnm (l2 := []) (Q := Q) (h2 k) (fun o' ho' => hokl o' (by rw [hl]; simp [ho'])) (ht1.put (dst := o.dst) (p2.agreeA b2) (fun n hn => .inl hn) hsc) (hg1.next (p2.agreeA b2) fun n hn => .inl hn) (by rw [p2.even, p1.even, hev]) p2.holds (by
      have := p2.le
      rintro n (hn | hn)
      · have := hA1 n hn; omega
      · omega) ((((hQ k).trans p1 hd1 (Nat.le_trans p2.le hm2)).trans p2 (Dfr.of_eq hpd) hm2))
    rw [List.append_nil] at hfin
    exact hK _ _ hfin

end
end Go.Dam

namespace Go.Dam

section
variable {P : Program}

/-! what is told of functions that are not run -/

/-- A closed call: its arguments and its result bear no address; nothing that lay before it is turned. -/
def Told0 (P : Program) (t : FuncId × List Value × Value) : Prop :=
  (∀ x ∈ t.2.1, plain x = true) ∧ plain t.2.2 = true ∧ ∀ w : World, Calls P t.1 t.2.1.toArray w fun e w' => e = .returned t.2.2 ∧ RowKit.Below w.heap.size w w'

/-- A call that lays blocks of its own, told at one place of the names: its arguments bear no address. -/
structure Laid where
  f : FuncId
  args : List Value
  nx : Nat
  v : Value
  heap : List (Nat × Obj)
  nx' : Nat

def Told1 (P : Program) (t : Laid) : Prop :=
  (∀ x ∈ t.args, plain x = true) ∧ (∀ n o, getB t.heap n = some o → t.nx ≤ n ∧ n < t.nx') ∧
  ∀ (E : Env) (A : Nat → Prop) (w : World), Glb P E A → t.nx % 2 = 0 → (∀ n, A n → ¬ (t.nx ≤ n ∧ n < t.nx')) →
    Calls P t.f t.args.toArray w fun e w' => ∃ E', e = .returned (ren E' t.v) ∧ Post P E A [] t.nx w E' t.heap t.nx' w' ∧ Sc (fun n => A n ∨ (t.nx ≤ n ∧ n < t.nx')) t.v

def find0 (f : FuncId) (args : List Value) : List (FuncId × List Value × Value) → Option Value
  | [] => none
  | (g, xs, v) :: r => if Nat.beq g f && veqL2 xs args then some v else find0 f args r

def find1 (f : FuncId) (args : List Value) (nx : Nat) : List Laid → Option Laid
  | [] => none
  | t :: r => if Nat.beq t.f f && Nat.beq t.nx nx && veqL2 t.args args then some t else find1 f args nx r

def toldOrc (l0 : List (FuncId × List Value × Value)) (l1 : List Laid) : FuncId → List Value → St → Option (Value × St) := fun f args S =>
  match find0 f args l0 with
  | some v => some (v, S)
  | none => match find1 f args S.next l1 with
    | some t => some (t.v, ⟨t.heap ++ S.heap, t.nx'⟩)
    | none => none

theorem find0_spec {f : FuncId} {args : List Value} {v : Value} : ∀ {l : List (FuncId × List Value × Value)}, find0 f args l = some v → (f, args, v) ∈ l
  | [], h => by cases h
  | (g, xs, u) :: r, h => by
    simp only [find0] at h
    split at h
    · rename_i hc
      simp only [Bool.and_eq_true] at hc
      rw [← Nat.eq_of_beq_eq_true hc.1, ← veqL2_spec hc.2, ← Option.some.inj h]
      simp
    · exact List.mem_cons_of_mem _ (find0_spec h)

theorem find1_spec {f : FuncId} {args : List Value} {nx : Nat} {t : Laid} : ∀ {l : List Laid}, find1 f args nx l = some t → t ∈ l ∧ t.f = f ∧ t.nx = nx ∧ t.args = args
  | [], h => by cases h
  | u :: r, h => by
    simp only [find1] at h
    split at h
    · rename_i hc
      simp only [Bool.and_eq_true] at hc
      obtain rfl := Option.some.inj h
      exact ⟨by simp, Nat.eq_of_beq_eq_true hc.1.1, Nat.eq_of_beq_eq_true hc.1.2, veqL2_spec hc.2⟩
    · obtain ⟨h1, h2⟩ := find1_spec h
      exact ⟨List.mem_cons_of_mem _ h1, h2⟩

/-- A call that knew no names, in a world of which some are known. -/
theorem Post.framed {E E' : Env} {A : Nat → Prop} {h g : List (Nat × Obj)} {nx nx' : Nat} {w w' : World} (p : Post P E A [] nx w E' h nx' w') (H : Holds P E A g w) (hA : ∀ n, A n → ¬ (nx ≤ n ∧ n < nx')) : Post P E A g nx w E' (h ++ g) nx' w' where
  le := p.le
  even := p.even
  agree := p.agree
  holds := by
    have hag : Agree A E E' := p.agreeA hA
    have hg : ∀ n o, getB g n = some o → (A n ∨ (nx ≤ n ∧ n < nx')) ∧ ScObj (fun n => A n ∨ (nx ≤ n ∧ n < nx')) o ∧ E'.β n = E.β n ∧ E.β n < w.heap.size ∧ ∃ oc, w'.heap[E'.β n]? = some oc ∧ BlkRel P E' n o oc := by
      intro n o hn
      obtain ⟨h1, h2, oc, h3, h4⟩ := H.blk n o hn
      have hlt := H.lt hn
      have hb := (hag n h1).1
      refine ⟨.inl h1, ScObj_mono (fun _ hx => Or.inl hx) o h2, hb, hlt, oc, ?_, BlkRel.agree hag h1 h2 h4⟩
      rw [hb, p.same _ hlt (fun _ _ hx => by cases hx)]
      exact h3
    have hh : ∀ n o, getB h n = some o → w.heap.size ≤ E'.β n := by
      intro n o hn
      rcases p.img n o hn with ⟨m, o', hm, _⟩ | hx
      · cases hm
      · exact hx
    refine ⟨fun n o hn => ?_, fun n m o o' hn hm he => ?_⟩
    · rcases getB_app _ _ _ _ hn with hn | ⟨_, hn⟩
      · exact p.holds.blk n o hn
      · obtain ⟨a1, a2, _, _, a3⟩ := hg n o hn
        exact ⟨a1, a2, a3⟩
    · rcases getB_app _ _ _ _ hn with hn | ⟨_, hn⟩ <;> rcases getB_app _ _ _ _ hm with hm | ⟨_, hm⟩
      · exact p.holds.inj n m _ _ hn hm he
      · obtain ⟨_, _, b1, b2, _⟩ := hg m o' hm
        have := hh n o hn
        omega
      · obtain ⟨_, _, b1, b2, _⟩ := hg n o hn
        have := hh m o' hm
        omega
      · obtain ⟨_, _, b1, _, _⟩ := hg n o hn
        obtain ⟨_, _, c1, _, _⟩ := hg m o' hm
        exact H.inj n m _ _ hn hm (by rw [← b1, ← c1]; exact he)
  os := p.os
  tape := p.tape
  output := p.output
  size := p.size
  same b hb _ := p.same b hb fun _ _ hx => by cases hx
  img n o hn := by
    rcases getB_app _ _ _ _ hn with hn | ⟨_, hn⟩
    · rcases p.img n o hn with ⟨m, o', hm, _⟩ | hx
      · cases hm
      · exact .inr hx
    · exact .inl ⟨n, o, hn, (p.agree n (hA n (H.blk n o hn).1)).1⟩

theorem Post.of_below {E : Env} {A : Nat → Prop} {g : List (Nat × Obj)} {nx : Nat} {w w' : World} (hb : RowKit.Below w.heap.size w w') (H : Holds P E A g w) : Post P E A g nx w E g nx w' where
  le := Nat.le_refl _
  even := rfl
  agree _ _ := ⟨rfl, rfl, rfl⟩
  holds := (H.grow fun k hk => hb.block k hk).mono fun _ hn => .inl hn
  os := hb.os
  tape := hb.tape
  output := hb.output
  size := hb.size
  same b hlt _ := hb.block b hlt
  img n o hn := .inl ⟨n, o, hn, rfl⟩

theorem toldOrc_ok {l0 : List (FuncId × List Value × Value)} {l1 : List Laid} (h0 : ∀ t ∈ l0, Told0 P t) (h1 : ∀ t ∈ l1, Told1 P t) : OrcOk P (toldOrc l0 l1) := by
  intro f args S v S' h E A w hg hev hargs H hA
  have hren : (∀ x ∈ args, plain x = true) → (args.map (ren E)).toArray = args.toArray := by
    intro hp
    have : args.map (ren E) = args.map id := List.map_congr_left fun x hx => plain_ren _ (hp x hx)
    rw [this]; simp
  unfold toldOrc at h
  split at h
  · rename_i v0 hf
    simp only [Option.some.injEq, Prod.mk.injEq] at h
    obtain ⟨rfl, rfl⟩ := h
    obtain ⟨k1, k2, k3⟩ := h0 _ (find0_spec hf)
    rw [hren k1]
    refine (k3 w).mono ?_
    rintro e w' ⟨rfl, hb⟩
    exact ⟨E, by rw [plain_ren _ k2], Post.of_below hb H, Sc_or (plain_Sc A k2)⟩
  · split at h
    · rename_i t hf
      simp only [Option.some.injEq, Prod.mk.injEq] at h
      obtain ⟨rfl, rfl⟩ := h
      obtain ⟨m1, rfl, m3, rfl⟩ := find1_spec hf
      obtain ⟨k1, k2, k3⟩ := h1 t m1
      rw [hren k1]
      rw [← m3] at hev hA ⊢
      refine (k3 E A w hg hev hA).mono ?_
      rintro e w' ⟨E', rfl, p, hs⟩
      exact ⟨E', rfl, p.framed H hA, hs⟩
    · cases h

end
end Go.Dam

namespace Go.Dam

section
variable {P : Program} {callF : Fn → List Value → St → Option (Value × St)}

/-! a long loop, by pieces -/

def evRounds (callF : Fn → List Value → St → Option (Value × St)) (P : Program) (f : Nat) (b : Code) : Nat → List Value → St → Option (List Value × St)
  | 0, tm, S => some (tm, S)
  | k + 1, tm, S => match evC callF P f b tm S with
    | some (.normal, tm', S') => evRounds callF P f b k tm' S'
    | _ => none

theorem evRounds_mono {f : Nat} {b : Code} : ∀ {k : Nat} {tm tm' : List Value} {S S' : St}, evRounds callF P f b k tm S = some (tm', S') → S.next ≤ S'.next
  | 0, _, _, _, _, h => by
    simp only [evRounds, Option.some.injEq, Prod.mk.injEq] at h
    rw [h.2]; exact Nat.le_refl _
  | k + 1, tm, tm', S, S', h => by
    simp only [evRounds] at h
    split at h
    · rename_i h1
      exact Nat.le_trans (evC_mono h1) (evRounds_mono h)
    · cases h

theorem evRounds_sound (hm : P.follows .mixedOrders = true) (hcf : CallOk P callF) (hnm : NamesOk P) {f : Nat} {b : Code} (hok : okCode P b = true) {Q : Exit → Act → World → Prop} {n : Nat} : ∀ {k : Nat} {tm tm' : List Value} {S S' : St}, evRounds callF P f b k tm S = some (tm', S') →
    ∀ {E : Env} {A : Nat → Prop} {a : Act} {w : World}, Tm E A tm a → Glb P E A → S.next % 2 = 0 → Holds P E A S.heap w → (∀ n, A n → n < S.next) → After P none E A S w a tm' S' (Code.roundsIn (rd none) 0 P b Q n) → Code.roundsIn (rd none) 0 P b Q (k + n) a w
  | 0, tm, tm', S, S', h, E, A, a, w, ht, hg, hev, H, hA, hQ => by
    simp only [evRounds, Option.some.injEq, Prod.mk.injEq] at h
    obtain ⟨rfl, rfl⟩ := h
    rw [Nat.zero_add]
    exact hQ E a w (Post.refl H) ⟨ht.tmps, fun x hx => Sc_or (ht.sc x hx)⟩ (Dfr.of_eq rfl)
  | k + 1, tm, tm', S, S', h, E, A, a, w, ht, hg, hev, H, hA, hQ => by
    simp only [evRounds] at h
    split at h
    · rename_i tm1 S1 h1
      have m2 := evRounds_mono h
      have hA' : ∀ n, A n → ¬ (S.next ≤ n ∧ n < S1.next) := fun n hn hx => by have := hA n hn; omega
      rw [show k + 1 + n = (k + n) + 1 by omega, roundsIn_succ]
      refine (evC_sound hm hcf hnm f).1 b tm S .normal tm1 S1 h1 hok none (fun hx => by cases hx) E A a w _ ht hg hev H hA' ?_
      intro E1 a1 w1 p ht1 hd1
      refine evRounds_sound hm hcf hnm hok h ht1 (hg.next (p.agreeA hA') fun n hn => .inl hn) (by rw [p.even, hev]) p.holds ?_ (hQ.trans p hd1 m2)
      have := p.le
      rintro n (hn | hn)
      · have := hA n hn; omega
      · omega
    · cases h

/-- A state written down: the slots, the blocks that matter, the next name. -/
structure Lit where
  tm : List Value
  heap : List (Nat × Obj)
  next : Nat

def Lit.st (l : Lit) : St := ⟨l.heap, l.next⟩

def litOk (l : Lit) : List Value × St → Bool
  | (tm, S) => veqT l.tm tm && Nat.beq l.next S.next && within S.heap l.heap

theorem litOk_spec {l : Lit} {x : List Value × St} (h : litOk l x = true) : x.1 = l.tm ∧ x.2.next = l.next ∧ ∀ n o, getB l.heap n = some o → getB x.2.heap n = some o := by
  obtain ⟨tm, S⟩ := x
  simp only [litOk, Bool.and_eq_true] at h
  exact ⟨(veqT_spec h.1.1).symm, (Nat.eq_of_beq_eq_true h.1.2).symm, within_spec h.2⟩

/-- From one written state to another by k rounds. -/
def chunk (callF : Fn → List Value → St → Option (Value × St)) (P : Program) (f : Nat) (b : Code) (k : Nat) (l l' : Lit) : Bool :=
  match evRounds callF P f b k l.tm l.st with
  | some x => litOk l' x
  | none => false

theorem chunk_sound (hm : P.follows .mixedOrders = true) (hcf : CallOk P callF) (hnm : NamesOk P) {f k n : Nat} {b : Code} {l l' : Lit} (h : chunk callF P f b k l l' = true) (hok : okCode P b = true) {Q : Exit → Act → World → Prop}
    {E : Env} {A : Nat → Prop} {a : Act} {w : World} (ht : Tm E A l.tm a) (hg : Glb P E A) (hev : l.next % 2 = 0) (H : Holds P E A l.heap w) (hA : ∀ n, A n → n < l.next) (hQ : After P none E A l.st w a l'.tm l'.st (Code.roundsIn (rd none) 0 P b Q n)) : Code.roundsIn (rd none) 0 P b Q (k + n) a w := by
  unfold chunk at h
  split at h
  · rename_i x hx
    obtain ⟨tm, S⟩ := x
    obtain ⟨h1, h2, h3⟩ := litOk_spec h
    simp only at h1 h2 h3
    subst h1
    refine evRounds_sound hm hcf hnm hok hx ht hg hev H hA ?_
    intro E' a' w' p ht' hd
    refine hQ E' a' w' ?_ (by simpa [Lit.st, h2] using ht') hd
    have p2 := p.drop h3
    rw [h2] at p2
    exact p2
  · cases h

end
end Go.Dam

namespace Go.Dam

section
variable {P : Program}

/-- A call told at one place of the names, with the blocks that it reads and turns. -/
structure Told where
  f : FuncId
  args : List Value
  heap : List (Nat × Obj)
  nx : Nat
  v : Value
  out : List (Nat × Obj)
  nx' : Nat

def Told2 (P : Program) (t : Told) : Prop :=
  ∀ (E : Env) (A : Nat → Prop) (w : World), Glb P E A → t.nx % 2 = 0 → (∀ x ∈ t.args, Sc A x) → Holds P E A t.heap w → (∀ n, A n → ¬ (t.nx ≤ n ∧ n < t.nx')) →
    Calls P t.f (t.args.map (ren E)).toArray w fun e w' => ∃ E', e = .returned (ren E' t.v) ∧ Post P E A t.heap t.nx w E' t.out t.nx' w' ∧ Sc (fun n => A n ∨ (t.nx ≤ n ∧ n < t.nx')) t.v

def find2 (f : FuncId) (args : List Value) (S : St) : List Told → Option Told
  | [] => none
  | t :: r => if Nat.beq t.f f && Nat.beq t.nx S.next && veqT t.args args && within S.heap t.heap then some t else find2 f args S r

/-- The told calls, one kind behind the other. -/
def toldOrc2 (l0 : List (FuncId × List Value × Value)) (l1 : List Laid) (l2 : List Told) : FuncId → List Value → St → Option (Value × St) := fun f args S =>
  match toldOrc l0 l1 f args S with
  | some r => some r
  | none => match find2 f args S l2 with
    | some t => some (t.v, ⟨t.out ++ without t.heap S.heap, t.nx'⟩)
    | none => none

theorem find2_spec {f : FuncId} {args : List Value} {S : St} {t : Told} : ∀ {l : List Told}, find2 f args S l = some t → t ∈ l ∧ t.f = f ∧ t.nx = S.next ∧ t.args = args ∧ within S.heap t.heap = true
  | [], h => by cases h
  | u :: r, h => by
    simp only [find2] at h
    split at h
    · rename_i hc
      simp only [Bool.and_eq_true] at hc
      obtain rfl := Option.some.inj h
      exact ⟨by simp, Nat.eq_of_beq_eq_true hc.1.1.1, Nat.eq_of_beq_eq_true hc.1.1.2, veqT_spec hc.1.2, hc.2⟩
    · obtain ⟨h1, h2⟩ := find2_spec h
      exact ⟨List.mem_cons_of_mem _ h1, h2⟩

theorem toldOrc2_ok {l0 : List (FuncId × List Value × Value)} {l1 : List Laid} {l2 : List Told} (h0 : ∀ t ∈ l0, Told0 P t) (h1 : ∀ t ∈ l1, Told1 P t) (h2 : ∀ t ∈ l2, Told2 P t) : OrcOk P (toldOrc2 l0 l1 l2) := by
  intro f args S v S' h E A w hg hev hargs H hA
  unfold toldOrc2 at h
  split at h
  · rename_i r hr
    obtain rfl := Option.some.inj h
    exact toldOrc_ok h0 h1 f args S v S' hr E A w hg hev hargs H hA
  · split at h
    · rename_i t hf
      simp only [Option.some.injEq, Prod.mk.injEq] at h
      obtain ⟨rfl, rfl⟩ := h
      obtain ⟨m1, rfl, m3, rfl, m5⟩ := find2_spec hf
      have k2 := h2 t m1
      have hsub := within_spec m5
      rw [← m3] at hev hA ⊢
      refine (k2 E A w hg hev hargs (H.sub hsub) hA).mono ?_
      rintro e w' ⟨E', rfl, p, hs⟩
      exact ⟨E', rfl, p.framed2 H hsub hA, hs⟩
    · cases h

/-- What is told, out of a run. -/
theorem told2_of (hm : P.follows .mixedOrders = true) (hnm : NamesOk P) {orc : FuncId → List Value → St → Option (Value × St)} (horc : OrcOk P orc) {fs fuel d : Nat} (hok : okFuncs P P.funcs.size fs = true) {t : Told}
    (hrun : (match evCall orc P fs fuel d (.func t.f) t.args ⟨t.heap, t.nx⟩ with | some (v, S') => veq t.v v && Nat.beq t.nx' S'.next && within S'.heap t.out | none => false) = true) : Told2 P t := by
  intro E A w hg hev hargs H hA
  split at hrun
  · rename_i v S' he
    simp only [Bool.and_eq_true] at hrun
    obtain ⟨⟨r1, r2⟩, r3⟩ := hrun
    obtain rfl := veq_spec r1
    have r2 := Nat.eq_of_beq_eq_true r2
    have hw := within_spec r3
    have := evCall_sound hm hnm horc hok fuel d (.func t.f) t.args ⟨t.heap, t.nx⟩ t.v S' he E A w hg hev hargs H (by rw [← r2]; exact hA)
    refine Calls.mono this ?_
    rintro e w' ⟨E', rfl, p, hs⟩
    refine ⟨E', rfl, ?_, ?_⟩
    · have := p.drop hw
      rw [← r2] at this
      exact this
    · rw [r2]; exact hs
  · cases hrun

end
end Go.Dam

namespace Go.Dam

section
variable {P : Program} {callF : Fn → List Value → St → Option (Value × St)}

def tailC : Nat → Code → Code
  | 0, c => c
  | n + 1, .seq _ b => tailC n b
  | _ + 1, c => c
def headC : Code → Code
  | .seq a _ => a
  | c => c
def opsC : Code → Array Oper
  | .region _ o _ => o
  | _ => #[]

theorem evPre_tail {f : Nat} (k : Nat) : ∀ (c c' : Code) (tm tm' : List Value) (S S' : St), evPre callF P f k c tm S = some (c', tm', S') → c' = tailC k c := by
  induction k with
  | zero =>
    intro c c' tm tm' S S' h
    simp only [evPre, Option.some.injEq, Prod.mk.injEq] at h
    exact h.1.symm
  | succ k ih =>
    intro c c' tm tm' S S' h
    cases c with
    | seq a b =>
      simp only [evPre] at h
      split at h
      · exact ih _ _ _ _ _ _ h
      · cases h
    | _ => simp [evPre] at h

/-- What follows a written state follows the state that it was written of. -/
theorem After.lit {ro : Option Nat} {E : Env} {A : Nat → Prop} {S0 : St} {w : World} {a : Act} {l : Lit} {tm : List Value} {S : St} {R : Act → World → Prop} (h : litOk l (tm, S) = true) (hQ : After P ro E A S0 w a l.tm l.st R) : After P ro E A S0 w a tm S R := by
  obtain ⟨h1, h2, h3⟩ := litOk_spec h
  simp only at h1 h2 h3
  subst h1
  intro E' a' w' p ht hd
  refine hQ E' a' w' ?_ (by simpa [Lit.st, h2] using ht) hd
  have p2 := p.drop h3
  rw [h2] at p2
  exact p2

/-- The first pieces are run, to a written state. -/
def preOk (callF : Fn → List Value → St → Option (Value × St)) (P : Program) (f k : Nat) (c : Code) (tm : List Value) (S : St) (l : Lit) : Bool :=
  match evPre callF P f k c tm S with
  | some (_, tm', S') => litOk l (tm', S')
  | none => false

theorem preOk_sound (hm : P.follows .mixedOrders = true) (hcf : CallOk P callF) (hnm : NamesOk P) {f k : Nat} {c : Code} {tm : List Value} {S : St} {l : Lit} (h : preOk callF P f k c tm S l = true) (hok : okCode P c = true) {Q : Exit → Act → World → Prop}
    {E : Env} {A : Nat → Prop} {a : Act} {w : World} (ht : Tm E A tm a) (hg : Glb P E A) (hev : S.next % 2 = 0) (H : Holds P E A S.heap w) (hA : ∀ n, A n → n < S.next) (hQ : After P none E A S w a l.tm l.st ((tailC k c).wpIn (rd none) 0 P Q)) : c.wpIn (rd none) 0 P Q a w := by
  unfold preOk at h
  split at h
  · rename_i c' tm' S' he
    have := evPre_tail _ _ _ _ _ _ _ he
    subst this
    exact evPre_sound hm hcf hnm he hok ht hg hev H hA (After.lit h hQ)
  · cases h

/-- The last pieces, to a written state. -/
def endOk (callF : Fn → List Value → St → Option (Value × St)) (P : Program) (f : Nat) (c : Code) (tm : List Value) (S : St) (l : Lit) : Bool :=
  match evC callF P f c tm S with
  | some (.ret, tm', S') => litOk l (tm', S')
  | _ => false

theorem endOk_sound (hm : P.follows .mixedOrders = true) (hcf : CallOk P callF) (hnm : NamesOk P) {f : Nat} {c : Code} {tm : List Value} {S : St} {l : Lit} (h : endOk callF P f c tm S l = true) (hok : okCode P c = true) {Q : Exit → Act → World → Prop}
    {E : Env} {A : Nat → Prop} {a : Act} {w : World} (ht : Tm E A tm a) (hg : Glb P E A) (hev : S.next % 2 = 0) (H : Holds P E A S.heap w) (hA : ∀ n, A n → n < S.next) (hQ : After P none E A S w a l.tm l.st (Q .ret)) : c.wpIn (rd none) 0 P Q a w := by
  unfold endOk at h
  split at h
  · rename_i tm' S' he
    exact (evC_sound hm hcf hnm f).1 c tm S .ret tm' S' he hok none (fun hx => by cases hx) E A a w Q ht hg hev H (fun n hn hx => by have := hA n hn; omega) (After.lit h hQ)
  · cases h

theorem endOk_rounds (hm : P.follows .mixedOrders = true) (hcf : CallOk P callF) (hnm : NamesOk P) {f : Nat} {b : Code} {tm : List Value} {S : St} {l : Lit} (h : endOk callF P f (.loop b) tm S l = true) (hok : okCode P b = true) {Q : Exit → Act → World → Prop}
    {E : Env} {A : Nat → Prop} {a : Act} {w : World} (ht : Tm E A tm a) (hg : Glb P E A) (hev : S.next % 2 = 0) (H : Holds P E A S.heap w) (hA : ∀ n, A n → n < S.next) (hQ : After P none E A S w a l.tm l.st (Q .ret)) : Code.roundsIn (rd none) 0 P b Q f a w := by
  unfold endOk at h
  split at h
  · rename_i tm' S' he
    exact (evC_sound hm hcf hnm f).2 b tm S .ret tm' S' he hok none (fun hx => by cases hx) E A a w Q ht hg hev H (fun n hn hx => by have := hA n hn; omega) (After.lit h hQ)
  · cases h

theorem chunk_le {f k : Nat} {b : Code} {l l' : Lit} (h : chunk callF P f b k l l' = true) : l.next ≤ l'.next := by
  unfold chunk at h
  split at h
  · rename_i x hx
    obtain ⟨tm, S⟩ := x
    obtain ⟨_, h2, _⟩ := litOk_spec h
    simp only at h2
    rw [← h2]
    exact evRounds_mono hx
  · cases h

/-- A row of pieces of a loop, and its end: at most n rounds. -/
inductive Pieces (callF : Fn → List Value → St → Option (Value × St)) (P : Program) (f : Nat) (b : Code) : Nat → Lit → Lit → Prop
  | last {l l' : Lit} (h : endOk callF P f (.loop b) l.tm l.st l' = true) (hle : l.next ≤ l'.next) : Pieces callF P f b f l l'
  | more {n : Nat} {l l1 l' : Lit} (k : Nat) (h : chunk callF P f b k l l1 = true) (hev : l1.next % 2 = 0) (r : Pieces callF P f b n l1 l') : Pieces callF P f b (k + n) l l'

theorem Pieces.le {f n : Nat} {b : Code} {l l' : Lit} (p : Pieces callF P f b n l l') : l.next ≤ l'.next := by
  induction p with
  | last h hle => exact hle
  | more k h _ r ih => exact Nat.le_trans (chunk_le h) ih

theorem Pieces.sound (hm : P.follows .mixedOrders = true) (hcf : CallOk P callF) (hnm : NamesOk P) {f n : Nat} {b : Code} (hok : okCode P b = true) {Q : Exit → Act → World → Prop} {l l' : Lit} (p : Pieces callF P f b n l l') :
    ∀ {E : Env} {A : Nat → Prop} {a : Act} {w : World}, Tm E A l.tm a → Glb P E A → l.next % 2 = 0 → Holds P E A l.heap w → (∀ n, A n → n < l.next) → After P none E A l.st w a l'.tm l'.st (Q .ret) → Code.roundsIn (rd none) 0 P b Q n a w := by
  induction p with
  | last h _ =>
    intro E A a w ht hg hev H hA hQ
    exact endOk_rounds hm hcf hnm h hok ht hg hev H hA hQ
  | @more n l l1 l' k h hev1 r ih =>
    intro E A a w ht hg hev H hA hQ
    refine chunk_sound hm hcf hnm h hok ht hg hev H hA ?_
    intro E1 a1 w1 p1 ht1 hd1
    have hle1 := chunk_le h
    have b1 : ∀ n, A n → ¬ (l.st.next ≤ n ∧ n < l1.st.next) := fun n hn hx => by have := hA n hn; have : l.st.next = l.next := rfl; omega
    refine ih ht1 (hg.next (p1.agreeA b1) fun n hn => .inl hn) hev1 p1.holds ?_ (hQ.trans p1 hd1 r.le)
    rintro n (hn | hn)
    · have := hA n hn; omega
    · exact hn.2

end
end Go.Dam
