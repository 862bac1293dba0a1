/-
  An own evaluator of closed runs of a program, proved sound against the model for every order of draws and every capacity of append. This text is one part of it; the theorems 'closed', 'evCall_sound' say what a run in the kernel proves. Used for the law's closed self-test and for what it calls on constants.
-/
import Derived.Test.YtholnnabakaliaaGreatDoorDamG
namespace Go.Dam

section
variable {P : Program} {callF : Fn → List Value → St → Option (Value × St)}

/-- The first k pieces of a row of pieces are run; what is left, and the state there. -/
def evPre (callF : Fn → List Value → St → Option (Value × St)) (P : Program) (f : Nat) : Nat → Code → List Value → St → Option (Code × List Value × St)
  | 0, c, tm, S => some (c, tm, S)
  | k + 1, .seq a b, tm, S => match evC callF P f a tm S with
    | some (.normal, tm', S') => evPre callF P f k b tm' S'
    | _ => none
  | _ + 1, _, _, _ => none

theorem evPre_mono {f : Nat} : ∀ {k : Nat} {c c' : Code} {tm tm' : List Value} {S S' : St}, evPre callF P f k c tm S = some (c', tm', S') → S.next ≤ S'.next
  | 0, _, _, _, _, _, _, h => by
    simp only [evPre, Option.some.injEq, Prod.mk.injEq] at h
    rw [h.2.2]; exact Nat.le_refl _
  | k + 1, c, c', tm, tm', S, S', h => by
    cases c with
    | seq a b =>
      simp only [evPre] at h
      split at h
      · rename_i h1
        exact Nat.le_trans (evC_mono h1) (evPre_mono h)
      · cases h
    | _ => simp [evPre] at h

theorem evPre_sound (hm : P.follows .mixedOrders = true) (hcf : CallOk P callF) (hnm : NamesOk P) {f : Nat} {Q : Exit → Act → World → Prop} : ∀ {k : Nat} {c c' : Code} {tm tm' : List Value} {S S' : St}, evPre callF P f k c tm S = some (c', tm', S') → okCode P c = true →
    ∀ {E : Env} {A : Nat → Prop} {a : Act} {w : World}, Tm E A tm a → Glb P E A → S.next % 2 = 0 → Holds P E A S.heap w → (∀ n, A n → n < S.next) → After P none E A S w a tm' S' (c'.wpIn (rd none) 0 P Q) → c.wpIn (rd none) 0 P Q a w
  | 0, c, c', tm, tm', S, S', h, hok, E, A, a, w, ht, hg, hev, H, hA, hQ => by
    simp only [evPre, Option.some.injEq, Prod.mk.injEq] at h
    obtain ⟨rfl, rfl, rfl⟩ := h
    exact hQ E a w (Post.refl H) ⟨ht.tmps, fun x hx => Sc_or (ht.sc x hx)⟩ (Dfr.of_eq rfl)
  | k + 1, c, c', tm, tm', S, S', h, hok, E, A, a, w, ht, hg, hev, H, hA, hQ => by
    cases c with
    | seq x y =>
      simp only [okCode, Bool.and_eq_true] at hok
      simp only [evPre] at h
      split at h
      · rename_i tm1 S1 h1
        have hA' : ∀ n, A n → ¬ (S.next ≤ n ∧ n < S1.next) := fun n hn hx => by have := hA n hn; omega
        have m2 := evPre_mono h
        refine wpIn_seq ((evC_sound hm hcf hnm f).1 x tm S .normal tm1 S1 h1 hok.1 none (fun hx => by cases hx) E A a w _ ht hg hev H hA' ?_)
        intro E1 a1 w1 p ht1 hd1
        refine evPre_sound hm hcf hnm h hok.2 ht1 (hg.next (p.agreeA hA') fun n hn => .inl hn) (by rw [p.even, hev]) p.holds ?_ (hQ.trans p hd1 m2)
        have := p.le
        rintro n (hn | hn)
        · have := hA n hn; omega
        · omega
      · cases h
    | _ => simp [evPre] at h

/-- A function's contract out of its body, where the body ends in one of several states. -/
theorem calls_nd {C : Type} {g : FuncId} {fn : Func} {c : Code} {args : List Value} {S : St} {E : Env} {A : Nat → Prop} {w : World} {tmR : C → List Value} {SR : C → St} {vs : C → List Value}
    (hfn : P.funcs[g]? = some fn) (hc : fn.body = some c) (hargs : ∀ x ∈ args, Sc A x) (hvs : ∀ k, aresults P (SR k).heap (tmR k) fn.results.toList = some (vs k))
    (hbody : ∀ (a : Act), Tm E A (args ++ List.replicate (fn.ntmps - args.length) undef) a → a.defers = [] → ∀ Q : Exit → Act → World → Prop, (∀ k, After P none E A S w a (tmR k) (SR k) (fun a' w' => Q .normal a' w' ∧ Q .ret a' w')) → c.wpIn (rd none) 0 P Q a w) :
    Calls P g (args.map (ren E)).toArray w fun e w' => ∃ k E', e = .returned (ren E' (oneOf (vs k))) ∧ Post P E A S.heap S.next w E' (SR k).heap (SR k).next w' ∧ Sc (fun n => A n ∨ (S.next ≤ n ∧ n < (SR k).next)) (oneOf (vs k)) := by
  refine (callsIn_wide (n := 0)).1 (callsIn_of_wp_marks hfn hc trivial ?_)
  have ht : Tm E A (args ++ List.replicate (fn.ntmps - args.length) undef) { tmps := (args.map (ren E)).toArray ++ Array.replicate (fn.ntmps - (args.map (ren E)).toArray.size) undef, defers := [] } := by
    refine ⟨by simp [ren_undef], ?_⟩
    intro x hx
    rcases List.mem_append.1 hx with hx | hx
    · exact hargs x hx
    · rw [(List.mem_replicate.1 hx).2]; exact Sc_undef _
  refine hbody _ ht rfl _ fun k => ?_
  intro E' a' w' p ht' hd
  obtain ⟨Ds, hd1, _, hd2, hd3⟩ := hd
  simp only [List.append_nil] at hd1
  have this : LeavesInM (rd none) 0 P fn a'.tmps (fun e w' => ∃ k E', e = .returned (ren E' (oneOf (vs k))) ∧ Post P E A S.heap S.next w E' (SR k).heap (SR k).next w' ∧ Sc (fun n => A n ∨ (S.next ≤ n ∧ n < (SR k).next)) (oneOf (vs k))) a'.defers .returning w' := by
    rw [hd1]
    refine leaves_marks (fun w'' p'' => ?_) Ds w' p hd2 hd3
    obtain ⟨r1, r2⟩ := results_sound (fn := fn) p''.holds ht' (hvs k)
    exact ⟨_, r1, k, E', rfl, p'', r2⟩
  exact ⟨this, this⟩

end
end Go.Dam

namespace Go.Dam

section
variable {P : Program} {callF : Fn → List Value → St → Option (Value × St)}

/-- The first operations of a region are run. -/
theorem evOps_pre (hcf : CallOk P callF) (hnm : NamesOk P) {opsA : Array Oper} {Q : Exit → Act → World → Prop} {l2 : List Oper} : ∀ {l : List Oper} {tm tm' : List Value} {S S' : St} {E : Env} {A : Nat → Prop} {a : Act} {w : World},
    evOps callF P opsA.toList l tm S = some (tm', S') → (∀ o ∈ l, ∀ x ∈ o.op.operands, okOpd P x = true) → Tm E A tm a → Glb P E A → S.next % 2 = 0 → Holds P E A S.heap w → (∀ n, A n → n < S.next) →
    After P none E A S w a tm' S' (wpListIn (rd none) 0 P opsA Q l2) → wpListIn (rd none) 0 P opsA Q (l ++ l2) a w
  | [], tm, tm', S, S', E, A, a, w, h, hops, ht, hg, hev, H, hA, hQ => by
    simp only [evOps, Option.some.injEq, Prod.mk.injEq] at h
    obtain ⟨rfl, rfl⟩ := h
    exact hQ E a w (Post.refl H) ⟨ht.tmps, fun x hx => Sc_or (ht.sc x hx)⟩ (Dfr.of_eq rfl)
  | o :: r, tm, tm', S, S', E, A, a, w, h, hops, ht, hg, hev, H, hA, hQ => by
    simp only [evOps] at h
    rw [List.cons_append]
    refine wpListIn_step fun K hK => ?_
    rw [wanted_eq ht]
    split at h
    · rename_i hgd
      rw [if_pos hgd]
      split at h
      · rename_i v S₁ hs
        simp only [Option.ite_none_right_eq_some] at h
        have hle := Nat.le_of_ble_eq_true h.1
        have hle' := evOps_mono h.2
        have hA₁ : ∀ n, A n → ¬ (S.next ≤ n ∧ n < S₁.next) := fun n hn hx => by have := hA n hn; omega
        refine astep_sound hcf hnm ht hg hev H (hops o (by simp)) hA₁ hs (astep_noDefer hs) none K Q ?_
        intro E₁ w₁ p hsc
        refine hK _ _ (evOps_pre hcf hnm h.2 (fun o' ho' => hops o' (by simp [ho'])) (ht.put (p.agreeA hA₁) (fun n hn => .inl hn) hsc) (hg.next (p.agreeA hA₁) fun n hn => .inl hn) (by rw [p.even, hev]) p.holds ?_ (hQ.trans p ?_ hle'))
        · rintro n (hn | hn)
          · have := hA n hn; omega
          · omega
        · exact Dfr.of_eq (by unfold Act.put; split <;> rfl)
      · simp at h
    · rename_i hgd
      rw [if_neg hgd]
      have hp : Tm E A (putD tm o.dst undef) (a.put o.dst undef) := by
        have := ht.put (E' := E) (B := A) (dst := o.dst) (v := undef) (fun n _ => ⟨rfl, rfl, rfl⟩) (fun n hn => hn) (Sc_undef _)
        rwa [ren_undef] at this
      refine ⟨fun _ _ => trivial, hK _ _ (evOps_pre hcf hnm h (fun o' ho' => hops o' (by simp [ho'])) hp hg hev H hA ?_)⟩
      intro E' a' w' p ht' hd'
      refine hQ E' a' w' p ht' ?_
      have he : (a.put o.dst undef).defers = a.defers := by unfold Act.put; split <;> rfl
      obtain ⟨Ds, e1, e2⟩ := hd'
      exact ⟨Ds, by rw [e1, he], e2⟩

/-- A call that ends in one of several states. -/
theorem callOp_nd (hnm : NamesOk P) {C : Type} {o : Oper} {c : Call} {g : FuncId} (ho : o.op = .call c) (hc : c.callee = .value (.func g)) (hb : hasBody P g = true) (hok : ∀ x ∈ c.args, okOpd P x = true) {E : Env} {A : Nat → Prop} {tm : List Value} {a : Act} {w : World} {S : St} (ht : Tm E A tm a) (hg : Glb P E A)
    {v : C → Value} {SR : C → St} (hcalls : Calls P g ((c.args.toList.map (aeval tm)).map (ren E)).toArray w fun e w' => ∃ (k : C) (E' : Env), e = .returned (ren E' (v k)) ∧ Post P E A S.heap S.next w E' (SR k).heap (SR k).next w' ∧ Sc (fun n => A n ∨ (S.next ≤ n ∧ n < (SR k).next)) (v k))
    {ro : Option Nat} {K : Act → World → Prop} {Q : Exit → Act → World → Prop} (hK : ∀ (k : C) (E' : Env) (w' : World), Post P E A S.heap S.next w E' (SR k).heap (SR k).next w' → Sc (fun n => A n ∨ (S.next ≤ n ∧ n < (SR k).next)) (v k) → K (a.put o.dst (ren E' (v k))) w') : o.wpIn (rd ro) 0 P a w K Q := by
  obtain ⟨fn, hfn, hbody⟩ : ∃ fn, P.funcs[g]? = some fn ∧ fn.body.isSome = true := by
    unfold hasBody at hb
    split at hb
    · rename_i fn hfn; exact ⟨fn, hfn, hb⟩
    · cases hb
  have hf : a.eval (.func g) = .func (.func g) #[] #[] := rfl
  have hres : resolve a.eval c o.type = pure { target := .fn (.func g) #[], args := #[] ++ ((c.args.toList.map (aeval tm)).map (ren E)).toArray } :=
    resolve_value hc hf fun x hx => (eval_ok ht hg (hok x hx)).1
  have hex : execOp a.eval o = callFunc g ((c.args.toList.map (aeval tm)).map (ren E)).toArray := by
    simp only [execOp, ho, hres]
    simp [invoke]
  refine upon_start (by rw [ho]; simp) ?_
  rw [hex, run_callFunc_body hfn hbody (hnm g fn hfn hbody)]
  refine ⟨rd_depth ro, (calls_rd hcalls).mono ?_⟩
  rintro e w' ⟨k, E', rfl, h1, h2⟩
  exact hK k E' w' h1 h2

set_option maxHeartbeats 1000000 in
/-- A region in whose midst such a call stands. -/
theorem region_nd (hcf : CallOk P callF) (hnm : NamesOk P) {C : Type} {i : Nat} {opsA : Array Oper} {l1 l2 : List Oper} {o : Oper} {c : Call} {g : FuncId} (hl : opsA.toList = l1 ++ o :: l2) (hokl : ∀ o ∈ opsA.toList, ∀ x ∈ o.op.operands, okOpd P x = true) (ho : o.op = .call c) (hog : o.guard = none) (hc : c.callee = .value (.func g)) (hb : hasBody P g = true)
    {tm tm1 : List Value} {S S1 : St} (h1 : evOps callF P opsA.toList l1 tm S = some (tm1, S1)) {v : C → Value} {SR : C → St} {tmR : C → List Value} {SE : C → St} (h2 : ∀ k, evOps callF P opsA.toList l2 (putD tm1 o.dst (v k)) (SR k) = some (tmR k, SE k))
    (hcalls : ∀ (E : Env) (A : Nat → Prop) (w : World), Glb P E A → S1.next % 2 = 0 → (∀ x ∈ c.args.toList.map (aeval tm1), Sc A x) → Holds P E A S1.heap w → (∀ n, A n → n < S1.next) → Calls P g ((c.args.toList.map (aeval tm1)).map (ren E)).toArray w fun e w' => ∃ (k : C) (E' : Env), e = .returned (ren E' (v k)) ∧ Post P E A S1.heap S1.next w E' (SR k).heap (SR k).next w' ∧ Sc (fun n => A n ∨ (S1.next ≤ n ∧ n < (SR k).next)) (v k))
    {E : Env} {A : Nat → Prop} {a : Act} {w : World} {Q : Exit → Act → World → Prop} (ht : Tm E A tm a) (hg : Glb P E A) (hev : S.next % 2 = 0) (H : Holds P E A S.heap w) (hA : ∀ n, A n → n < S.next) (hQ : ∀ k, After P none E A S w a (tmR k) (SE k) (Q .normal)) : (Code.region i opsA false).wpIn (rd none) 0 P Q a w := by
  refine wpIn_region_list ?_
  rw [hl]
  have hm1 := evOps_mono h1
  refine evOps_pre hcf hnm h1 (fun o' ho' => hokl o' (by rw [hl]; simp [ho'])) ht hg hev H hA ?_
  intro E1 a1 w1 p1 ht1 hd1
  have b1 : ∀ n, A n → ¬ (S.next ≤ n ∧ n < S1.next) := fun n hn hx => by have := hA n hn; omega
  have hA1 : ∀ n, (A n ∨ (S.next ≤ n ∧ n < S1.next)) → n < S1.next := by
    rintro n (hn | hn)
    · have := hA n hn; omega
    · omega
  have hg1 := hg.next (p1.agreeA b1) (B := fun n => A n ∨ (S.next ≤ n ∧ n < S1.next)) fun n hn => .inl hn
  have hokc : ∀ x ∈ c.args, okOpd P x = true := fun x hx => hokl o (by rw [hl]; simp) x (by rw [ho]; simp [Op.operands, Call.operands, hc, hx])
  refine wpListIn_step fun K hK => ?_
  rw [if_pos (by simp [Region.wanted, hog])]
  refine callOp_nd hnm (S := S1) ho hc hb hokc ht1 hg1 (hcalls E1 _ w1 hg1 (by rw [p1.even, hev]) ?_ p1.holds hA1) ?_
  · intro x hx
    obtain ⟨y, hy, rfl⟩ := List.mem_map.1 hx
    exact (eval_ok ht1 hg1 (hokc y (by simpa using hy))).2
  · intro k E2 w2 p2 hsc
    have hm2 := evOps_mono (h2 k)
    have b2 : ∀ n, (A n ∨ (S.next ≤ n ∧ n < S1.next)) → ¬ (S1.next ≤ n ∧ n < (SR k).next) := fun n hn hx => by have := hA1 n hn; omega
    have hpd : (a1.put o.dst (ren E2 (v k))).defers = a1.defers := by unfold Act.put; split <;> rfl
    have hfin := evOps_pre hcf hnm (l2 := []) (Q := Q) (h2 k) (fun o' ho' => hokl o' (by rw [hl]; simp [ho'])) (ht1.put (dst := o.dst) (p2.agreeA b2) (fun n hn => .inl hn) hsc) (hg1.next (p2.agreeA b2) fun n hn => .inl hn) (by rw [p2.even, p1.even, hev]) p2.holds (by
      have := p2.le
      rintro n (hn | hn)
      · have := hA1 n hn; omega
      · omega) ((((hQ k).trans p1 hd1 (Nat.le_trans p2.le hm2)).trans p2 (Dfr.of_eq hpd) hm2))
    rw [List.append_nil] at hfin
    exact hK _ _ hfin

end
end Go.Dam

namespace Go.Dam

section
variable {P : Program}

/-! what is told of functions that are not run -/

/-- A closed call: its arguments and its result bear no address; nothing that lay before it is turned. -/
def Told0 (P : Program) (t : FuncId × List Value × Value) : Prop :=
  (∀ x ∈ t.2.1, plain x = true) ∧ plain t.2.2 = true ∧ ∀ w : World, Calls P t.1 t.2.1.toArray w fun e w' => e = .returned t.2.2 ∧ RowKit.Below w.heap.size w w'

/-- A call that lays blocks of its own, told at one place of the names: its arguments bear no address. -/
structure Laid where
  f : FuncId
  args : List Value
  nx : Nat
  v : Value
  heap : List (Nat × Obj)
  nx' : Nat

def Told1 (P : Program) (t : Laid) : Prop :=
  (∀ x ∈ t.args, plain x = true) ∧ (∀ n o, getB t.heap n = some o → t.nx ≤ n ∧ n < t.nx') ∧
  ∀ (E : Env) (A : Nat → Prop) (w : World), Glb P E A → t.nx % 2 = 0 → (∀ n, A n → ¬ (t.nx ≤ n ∧ n < t.nx')) →
    Calls P t.f t.args.toArray w fun e w' => ∃ E', e = .returned (ren E' t.v) ∧ Post P E A [] t.nx w E' t.heap t.nx' w' ∧ Sc (fun n => A n ∨ (t.nx ≤ n ∧ n < t.nx')) t.v

def find0 (f : FuncId) (args : List Value) : List (FuncId × List Value × Value) → Option Value
  | [] => none
  | (g, xs, v) :: r => if Nat.beq g f && veqL2 xs args then some v else find0 f args r

def find1 (f : FuncId) (args : List Value) (nx : Nat) : List Laid → Option Laid
  | [] => none
  | t :: r => if Nat.beq t.f f && Nat.beq t.nx nx && veqL2 t.args args then some t else find1 f args nx r

def toldOrc (l0 : List (FuncId × List Value × Value)) (l1 : List Laid) : FuncId → List Value → St → Option (Value × St) := fun f args S =>
  match find0 f args l0 with
  | some v => some (v, S)
  | none => match find1 f args S.next l1 with
    | some t => some (t.v, ⟨t.heap ++ S.heap, t.nx'⟩)
    | none => none

theorem find0_spec {f : FuncId} {args : List Value} {v : Value} : ∀ {l : List (FuncId × List Value × Value)}, find0 f args l = some v → (f, args, v) ∈ l
  | [], h => by cases h
  | (g, xs, u) :: r, h => by
    simp only [find0] at h
    split at h
    · rename_i hc
      simp only [Bool.and_eq_true] at hc
      rw [← Nat.eq_of_beq_eq_true hc.1, ← veqL2_spec hc.2, ← Option.some.inj h]
      simp
    · exact List.mem_cons_of_mem _ (find0_spec h)

theorem find1_spec {f : FuncId} {args : List Value} {nx : Nat} {t : Laid} : ∀ {l : List Laid}, find1 f args nx l = some t → t ∈ l ∧ t.f = f ∧ t.nx = nx ∧ t.args = args
  | [], h => by cases h
  | u :: r, h => by
    simp only [find1] at h
    split at h
    · rename_i hc
      simp only [Bool.and_eq_true] at hc
      obtain rfl := Option.some.inj h
      exact ⟨by simp, Nat.eq_of_beq_eq_true hc.1.1, Nat.eq_of_beq_eq_true hc.1.2, veqL2_spec hc.2⟩
    · obtain ⟨h1, h2⟩ := find1_spec h
      exact ⟨List.mem_cons_of_mem _ h1, h2⟩

/-- A call that knew no names, in a world of which some are known. -/
theorem Post.framed {E E' : Env} {A : Nat → Prop} {h g : List (Nat × Obj)} {nx nx' : Nat} {w w' : World} (p : Post P E A [] nx w E' h nx' w') (H : Holds P E A g w) (hA : ∀ n, A n → ¬ (nx ≤ n ∧ n < nx')) : Post P E A g nx w E' (h ++ g) nx' w' where
  le := p.le
  even := p.even
  agree := p.agree
  holds := by
    have hag : Agree A E E' := p.agreeA hA
    have hg : ∀ n o, getB g n = some o → (A n ∨ (nx ≤ n ∧ n < nx')) ∧ ScObj (fun n => A n ∨ (nx ≤ n ∧ n < nx')) o ∧ E'.β n = E.β n ∧ E.β n < w.heap.size ∧ ∃ oc, w'.heap[E'.β n]? = some oc ∧ BlkRel P E' n o oc := by
      intro n o hn
      obtain ⟨h1, h2, oc, h3, h4⟩ := H.blk n o hn
      have hlt := H.lt hn
      have hb := (hag n h1).1
      refine ⟨.inl h1, ScObj_mono (fun _ hx => Or.inl hx) o h2, hb, hlt, oc, ?_, BlkRel.agree hag h1 h2 h4⟩
      rw [hb, p.same _ hlt (fun _ _ hx => by cases hx)]
      exact h3
    have hh : ∀ n o, getB h n = some o → w.heap.size ≤ E'.β n := by
      intro n o hn
      rcases p.img n o hn with ⟨m, o', hm, _⟩ | hx
      · cases hm
      · exact hx
    refine ⟨fun n o hn => ?_, fun n m o o' hn hm he => ?_⟩
    · rcases getB_app _ _ _ _ hn with hn | ⟨_, hn⟩
      · exact p.holds.blk n o hn
      · obtain ⟨a1, a2, _, _, a3⟩ := hg n o hn
        exact ⟨a1, a2, a3⟩
    · rcases getB_app _ _ _ _ hn with hn | ⟨_, hn⟩ <;> rcases getB_app _ _ _ _ hm with hm | ⟨_, hm⟩
      · exact p.holds.inj n m _ _ hn hm he
      · obtain ⟨_, _, b1, b2, _⟩ := hg m o' hm
        have := hh n o hn
        omega
      · obtain ⟨_, _, b1, b2, _⟩ := hg n o hn
        have := hh m o' hm
        omega
      · obtain ⟨_, _, b1, _, _⟩ := hg n o hn
        obtain ⟨_, _, c1, _, _⟩ := hg m o' hm
        exact H.inj n m _ _ hn hm (by rw [← b1, ← c1]; exact he)
  os := p.os
  tape := p.tape
  output := p.output
  size := p.size
  same b hb _ := p.same b hb fun _ _ hx => by cases hx
  img n o hn := by
    rcases getB_app _ _ _ _ hn with hn | ⟨_, hn⟩
    · rcases p.img n o hn with ⟨m, o', hm, _⟩ | hx
      · cases hm
      · exact .inr hx
    · exact .inl ⟨n, o, hn, (p.agree n (hA n (H.blk n o hn).1)).1⟩

theorem Post.of_below {E : Env} {A : Nat → Prop} {g : List (Nat × Obj)} {nx : Nat} {w w' : World} (hb : RowKit.Below w.heap.size w w') (H : Holds P E A g w) : Post P E A g nx w E g nx w' where
  le := Nat.le_refl _
  even := rfl
  agree _ _ := ⟨rfl, rfl, rfl⟩
  holds := (H.grow fun k hk => hb.block k hk).mono fun _ hn => .inl hn
  os := hb.os
  tape := hb.tape
  output := hb.output
  size := hb.size
  same b hlt _ := hb.block b hlt
  img n o hn := .inl ⟨n, o, hn, rfl⟩

theorem toldOrc_ok {l0 : List (FuncId × List Value × Value)} {l1 : List Laid} (h0 : ∀ t ∈ l0, Told0 P t) (h1 : ∀ t ∈ l1, Told1 P t) : OrcOk P (toldOrc l0 l1) := by
  intro f args S v S' h E A w hg hev hargs H hA
  have hren : (∀ x ∈ args, plain x = true) → (args.map (ren E)).toArray = args.toArray := by
    intro hp
    have : args.map (ren E) = args.map id := List.map_congr_left fun x hx => plain_ren _ (hp x hx)
    rw [this]; simp
  unfold toldOrc at h
  split at h
  · rename_i v0 hf
    simp only [Option.some.injEq, Prod.mk.injEq] at h
    obtain ⟨rfl, rfl⟩ := h
    obtain ⟨k1, k2, k3⟩ := h0 _ (find0_spec hf)
    rw [hren k1]
    refine (k3 w).mono ?_
    rintro e w' ⟨rfl, hb⟩
    exact ⟨E, by rw [plain_ren _ k2], Post.of_below hb H, Sc_or (plain_Sc A k2)⟩
  · split at h
    · rename_i t hf
      simp only [Option.some.injEq, Prod.mk.injEq] at h
      obtain ⟨rfl, rfl⟩ := h
      obtain ⟨m1, rfl, m3, rfl⟩ := find1_spec hf
      obtain ⟨k1, k2, k3⟩ := h1 t m1
      rw [hren k1]
      rw [← m3] at hev hA ⊢
      refine (k3 E A w hg hev hA).mono ?_
      rintro e w' ⟨E', rfl, p, hs⟩
      exact ⟨E', rfl, p.framed H hA, hs⟩
    · cases h

end
end Go.Dam
