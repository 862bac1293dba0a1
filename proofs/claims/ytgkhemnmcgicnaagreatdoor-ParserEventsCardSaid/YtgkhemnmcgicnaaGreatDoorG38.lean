/- Towards the law ParserEvents, true for every text (no condition): one part of the proof. -/
import Derived.Test.YtgkhemnmcgicnaaGreatDoorG37
import Derived.Test.YtgkhemnmcgicnaaGreatDoorG19
import Derived.Test.YtgkhemnmcgicnaaGreatDoorG01
import Derived.KernelRfl
namespace Go.Dam
section
variable {P : Program} {callF : Fn -> List Value -> St -> Option (Value × St)}
end
section
variable {P : Program} {callF : Fn -> List Value -> St -> Option (Value × St)}
def evPre (callF : Fn -> List Value -> St -> Option (Value × St)) (P : Program) (f : Nat) : Nat -> Code -> List Value -> St -> Option (Code × List Value × St)
 | 0, c, tm, S => some (c, tm, S)
 | k + 1, .seq a b, tm, S => match evC callF P f a tm S with
  | some (.normal, tm', S') => evPre callF P f k b tm' S'
  | _ => none
 | _ + 1, _, _, _ => none
theorem evPre_mono {f : Nat} : ∀ {k : Nat} {c c' : Code} {tm tm' : List Value} {S S' : St}, evPre callF P f k c tm S = some (c', tm', S') -> S.next <= S'.next
 | 0, _, _, _, _, _, _, h => by
  simp only [evPre, Option.some.injEq, Prod.mk.injEq] at h
  rw [h.2.2]; exact Nat.le_refl _
 | k + 1, c, c', tm, tm', S, S', h => by
  cases c with
  | seq a b =>
   simp only [evPre] at h
   split at h
   ·rename_i h1
    exact Nat.le_trans (evC_mono h1) (evPre_mono h)
   ·cases h
  | _ => simp [evPre] at h
theorem evPre_sound (hm : P.follows .mixedOrders = true) (hcf : CallOk P callF) (hnm : NamesOk P) {f : Nat} {Q : Exit -> Act -> World -> Prop} : ∀ {k : Nat} {c c' : Code} {tm tm' : List Value} {S S' : St}, evPre callF P f k c tm S = some (c', tm', S') -> okCode P c = true ->
  ∀ {E : Env} {A : Nat -> Prop} {a : Act} {w : World}, Tm E A tm a -> Glb P E A -> S.next % 2 = 0 -> Holds P E A S.heap w -> (∀ n, A n -> n < S.next) -> After P none E A S w a tm' S' (c'.wpIn (rd none) 0 P Q) -> c.wpIn (rd none) 0 P Q a w
 | 0, c, c', tm, tm', S, S', h, hok, E, A, a, w, ht, hg, hev, H, hA, hQ => by
  simp only [evPre, Option.some.injEq, Prod.mk.injEq] at h
  obtain ⟨rfl, rfl, rfl⟩ := h
  exact hQ E a w (Post.refl H) ⟨ht.tmps, fun x hx => Sc_or (ht.sc x hx)⟩ (Dfr.of_eq rfl)
 | k + 1, c, c', tm, tm', S, S', h, hok, E, A, a, w, ht, hg, hev, H, hA, hQ => by
  cases c with
  | seq x y =>
   simp only [okCode, Bool.and_eq_true] at hok
   simp only [evPre] at h
   split at h
   ·rename_i tm1 S1 h1
    have hA' : ∀ n, A n -> ¬ (S.next <= n /\ n < S1.next) := fun n hn hx => by have := hA n hn; omega
    have m2 := evPre_mono h
    refine wpIn_seq ((evC_sound hm hcf hnm f).1 x tm S .normal tm1 S1 h1 hok.1 none (fun hx => by cases hx) E A a w _ ht hg hev H hA' ?_)
    intro E1 a1 w1 p ht1 hd1
    refine evPre_sound hm hcf hnm h hok.2 ht1 (hg.next (p.agreeA hA') fun n hn => .inl hn) (by rw [p.even, hev]) p.holds ?_ (hQ.trans p hd1 m2)
    have := p.le
    rintro n (hn | hn)
    ·have := hA n hn; omega
    ·omega
   ·cases h
  | _ => simp [evPre] at h
theorem calls_nd {C : Type} {g : FuncId} {fn : Func} {c : Code} {args : List Value} {S : St} {E : Env} {A : Nat -> Prop} {w : World} {tmR : C -> List Value} {SR : C -> St} {vs : C -> List Value}
  (hfn : P.funcs[g]? = some fn) (hc : fn.body = some c) (hargs : ∀ x ∈ args, Sc A x) (hvs : ∀ k, aresults P (SR k).heap (tmR k) fn.results.toList = some (vs k))
  (hbody : ∀ (a : Act), Tm E A (args ++ List.replicate (fn.ntmps - args.length) undef) a -> a.defers = [] -> ∀ Q : Exit -> Act -> World -> Prop, (∀ k, After P none E A S w a (tmR k) (SR k) (fun a' w' => Q .normal a' w' /\ Q .ret a' w')) -> c.wpIn (rd none) 0 P Q a w) :
  Calls P g (args.map (ren E)).toArray w fun e w' => ∃ k E', e = .returned (ren E' (oneOf (vs k))) /\ Post P E A S.heap S.next w E' (SR k).heap (SR k).next w' /\ Sc (fun n => A n \/ (S.next <= n /\ n < (SR k).next)) (oneOf (vs k)) := by
 refine (callsIn_wide (n := 0)).1 (callsIn_of_wp_marks hfn hc trivial ?_)
 have ht : Tm E A (args ++ List.replicate (fn.ntmps - args.length) undef) { tmps := (args.map (ren E)).toArray ++ Array.replicate (fn.ntmps - (args.map (ren E)).toArray.size) undef, defers := [] } := by
  refine ⟨by simp [ren_undef], ?_⟩
  intro x hx
  rcases List.mem_append.1 hx with hx | hx
  ·exact hargs x hx
  ·rw [(List.mem_replicate.1 hx).2]; exact Sc_undef _
 refine hbody _ ht rfl _ fun k => ?_
 intro E' a' w' p ht' hd
 obtain ⟨Ds, hd1, _, hd2, hd3⟩ := hd
 simp only [List.append_nil] at hd1
 have this : LeavesInM (rd none) 0 P fn a'.tmps (fun e w' => ∃ k E', e = .returned (ren E' (oneOf (vs k))) /\ Post P E A S.heap S.next w E' (SR k).heap (SR k).next w' /\ Sc (fun n => A n \/ (S.next <= n /\ n < (SR k).next)) (oneOf (vs k))) a'.defers .returning w' := by
  rw [hd1]
  refine leaves_marks (fun w'' p'' => ?_) Ds w' p hd2 hd3
  obtain ⟨r1, r2⟩ := results_sound (fn := fn) p''.holds ht' (hvs k)
  exact ⟨_, r1, k, E', rfl, p'', r2⟩
 exact ⟨this, this⟩
end
set_option maxHeartbeats 1000000
section
variable {P : Program} {callF : Fn -> List Value -> St -> Option (Value × St)}
theorem evOps_pre (hcf : CallOk P callF) (hnm : NamesOk P) {opsA : Array Oper} {Q : Exit -> Act -> World -> Prop} {l2 : List Oper} : ∀ {l : List Oper} {tm tm' : List Value} {S S' : St} {E : Env} {A : Nat -> Prop} {a : Act} {w : World},
  evOps callF P opsA.toList l tm S = some (tm', S') -> (∀ o ∈ l, ∀ x ∈ o.op.operands, okOpd P x = true) -> Tm E A tm a -> Glb P E A -> S.next % 2 = 0 -> Holds P E A S.heap w -> (∀ n, A n -> n < S.next) ->
  After P none E A S w a tm' S' (wpListIn (rd none) 0 P opsA Q l2) -> wpListIn (rd none) 0 P opsA Q (l ++ l2) a w
 | [], tm, tm', S, S', E, A, a, w, h, hops, ht, hg, hev, H, hA, hQ => by
  simp only [evOps, Option.some.injEq, Prod.mk.injEq] at h
  obtain ⟨rfl, rfl⟩ := h
  exact hQ E a w (Post.refl H) ⟨ht.tmps, fun x hx => Sc_or (ht.sc x hx)⟩ (Dfr.of_eq rfl)
 | o :: r, tm, tm', S, S', E, A, a, w, h, hops, ht, hg, hev, H, hA, hQ => by
  simp only [evOps] at h
  rw [List.cons_append]
  refine wpListIn_step fun K hK => ?_
  rw [wanted_eq ht]
  split at h
  ·rename_i hgd
   rw [if_pos hgd]
   split at h
   ·rename_i v S₁ hs
    simp only [Option.ite_none_right_eq_some] at h
    have hle := Nat.le_of_ble_eq_true h.1
    have hle' := evOps_mono h.2
    have hA₁ : ∀ n, A n -> ¬ (S.next <= n /\ n < S₁.next) := fun n hn hx => by have := hA n hn; omega
    refine astep_sound hcf hnm ht hg hev H (hops o (by simp)) hA₁ hs (astep_noDefer hs) none K Q ?_
    intro E₁ w₁ p hsc
    refine hK _ _ (evOps_pre hcf hnm h.2 (fun o' ho' => hops o' (by simp [ho'])) (ht.put (p.agreeA hA₁) (fun n hn => .inl hn) hsc) (hg.next (p.agreeA hA₁) fun n hn => .inl hn) (by rw [p.even, hev]) p.holds ?_ (hQ.trans p ?_ hle'))
    ·rintro n (hn | hn)
     ·have := hA n hn; omega
     ·omega
    ·exact Dfr.of_eq (by unfold Act.put; split <;> rfl)
   ·simp at h
  ·rename_i hgd
   rw [if_neg hgd]
   have hp : Tm E A (putD tm o.dst undef) (a.put o.dst undef) := by
    have := ht.put (E' := E) (B := A) (dst := o.dst) (v := undef) (fun n _ => ⟨rfl, rfl, rfl⟩) (fun n hn => hn) (Sc_undef _)
    rwa [ren_undef] at this
   refine ⟨fun _ _ => trivial, hK _ _ (evOps_pre hcf hnm h (fun o' ho' => hops o' (by simp [ho'])) hp hg hev H hA ?_)⟩
   intro E' a' w' p ht' hd'
   refine hQ E' a' w' p ht' ?_
   have he : (a.put o.dst undef).defers = a.defers := by unfold Act.put; split <;> rfl
   obtain ⟨Ds, e1, e2⟩ := hd'
   exact ⟨Ds, by rw [e1, he], e2⟩
theorem callOp_nd (hnm : NamesOk P) {C : Type} {o : Oper} {c : Call} {g : FuncId} (ho : o.op = .call c) (hc : c.callee = .value (.func g)) (hb : hasBody P g = true) (hok : ∀ x ∈ c.args, okOpd P x = true) {E : Env} {A : Nat -> Prop} {tm : List Value} {a : Act} {w : World} {S : St} (ht : Tm E A tm a) (hg : Glb P E A)
  {v : C -> Value} {SR : C -> St} (hcalls : Calls P g ((c.args.toList.map (aeval tm)).map (ren E)).toArray w fun e w' => ∃ (k : C) (E' : Env), e = .returned (ren E' (v k)) /\ Post P E A S.heap S.next w E' (SR k).heap (SR k).next w' /\ Sc (fun n => A n \/ (S.next <= n /\ n < (SR k).next)) (v k))
  {ro : Option Nat} {K : Act -> World -> Prop} {Q : Exit -> Act -> World -> Prop} (hK : ∀ (k : C) (E' : Env) (w' : World), Post P E A S.heap S.next w E' (SR k).heap (SR k).next w' -> Sc (fun n => A n \/ (S.next <= n /\ n < (SR k).next)) (v k) -> K (a.put o.dst (ren E' (v k))) w') : o.wpIn (rd ro) 0 P a w K Q := by
 obtain ⟨fn, hfn, hbody⟩ : ∃ fn, P.funcs[g]? = some fn /\ fn.body.isSome = true := by
  unfold hasBody at hb
  split at hb
  ·rename_i fn hfn; exact ⟨fn, hfn, hb⟩
  ·cases hb
 have hf : a.eval (.func g) = .func (.func g) #[] #[] := rfl
 have hres : resolve a.eval c o.type = pure { target := .fn (.func g) #[], args := #[] ++ ((c.args.toList.map (aeval tm)).map (ren E)).toArray } :=
  resolve_value hc hf fun x hx => (eval_ok ht hg (hok x hx)).1
 have hex : execOp a.eval o = callFunc g ((c.args.toList.map (aeval tm)).map (ren E)).toArray := by
  simp only [execOp, ho, hres]
  simp [invoke]
 refine upon_start (by rw [ho]; simp) ?_
 rw [hex, run_callFunc_body hfn hbody (hnm g fn hfn hbody)]
 refine ⟨rd_depth ro, (calls_rd hcalls).mono ?_⟩
 rintro e w' ⟨k, E', rfl, h1, h2⟩
 exact hK k E' w' h1 h2
theorem region_nd (hcf : CallOk P callF) (hnm : NamesOk P) {C : Type} {i : Nat} {opsA : Array Oper} {l1 l2 : List Oper} {o : Oper} {c : Call} {g : FuncId} (hl : opsA.toList = l1 ++ o :: l2) (hokl : ∀ o ∈ opsA.toList, ∀ x ∈ o.op.operands, okOpd P x = true) (ho : o.op = .call c) (hog : o.guard = none) (hc : c.callee = .value (.func g)) (hb : hasBody P g = true)
  {tm tm1 : List Value} {S S1 : St} (h1 : evOps callF P opsA.toList l1 tm S = some (tm1, S1)) {v : C -> Value} {SR : C -> St} {tmR : C -> List Value} {SE : C -> St} (h2 : ∀ k, evOps callF P opsA.toList l2 (putD tm1 o.dst (v k)) (SR k) = some (tmR k, SE k))
  (hcalls : ∀ (E : Env) (A : Nat -> Prop) (w : World), Glb P E A -> S1.next % 2 = 0 -> (∀ x ∈ c.args.toList.map (aeval tm1), Sc A x) -> Holds P E A S1.heap w -> (∀ n, A n -> n < S1.next) -> Calls P g ((c.args.toList.map (aeval tm1)).map (ren E)).toArray w fun e w' => ∃ (k : C) (E' : Env), e = .returned (ren E' (v k)) /\ Post P E A S1.heap S1.next w E' (SR k).heap (SR k).next w' /\ Sc (fun n => A n \/ (S1.next <= n /\ n < (SR k).next)) (v k))
  {E : Env} {A : Nat -> Prop} {a : Act} {w : World} {Q : Exit -> Act -> World -> Prop} (ht : Tm E A tm a) (hg : Glb P E A) (hev : S.next % 2 = 0) (H : Holds P E A S.heap w) (hA : ∀ n, A n -> n < S.next) (hQ : ∀ k, After P none E A S w a (tmR k) (SE k) (Q .normal)) : (Code.region i opsA false).wpIn (rd none) 0 P Q a w := by
 refine wpIn_region_list ?_
 rw [hl]
 have hm1 := evOps_mono h1
 refine evOps_pre hcf hnm h1 (fun o' ho' => hokl o' (by rw [hl]; simp [ho'])) ht hg hev H hA ?_
 intro E1 a1 w1 p1 ht1 hd1
 have b1 : ∀ n, A n -> ¬ (S.next <= n /\ n < S1.next) := fun n hn hx => by have := hA n hn; omega
 have hA1 : ∀ n, (A n \/ (S.next <= n /\ n < S1.next)) -> n < S1.next := by
  rintro n (hn | hn)
  ·have := hA n hn; omega
  ·omega
 have hg1 := hg.next (p1.agreeA b1) (B := fun n => A n \/ (S.next <= n /\ n < S1.next)) fun n hn => .inl hn
 have hokc : ∀ x ∈ c.args, okOpd P x = true := fun x hx => hokl o (by rw [hl]; simp) x (by rw [ho]; simp [Op.operands, Call.operands, hc, hx])
 refine wpListIn_step fun K hK => ?_
 rw [if_pos (by simp [Region.wanted, hog])]
 refine callOp_nd hnm (S := S1) ho hc hb hokc ht1 hg1 (hcalls E1 _ w1 hg1 (by rw [p1.even, hev]) ?_ p1.holds hA1) ?_
 ·intro x hx
  obtain ⟨y, hy, rfl⟩ := List.mem_map.1 hx
  exact (eval_ok ht1 hg1 (hokc y (by simpa using hy))).2
 ·intro k E2 w2 p2 hsc
  have hm2 := evOps_mono (h2 k)
  have b2 : ∀ n, (A n \/ (S.next <= n /\ n < S1.next)) -> ¬ (S1.next <= n /\ n < (SR k).next) := fun n hn hx => by have := hA1 n hn; omega
  have hpd : (a1.put o.dst (ren E2 (v k))).defers = a1.defers := by unfold Act.put; split <;> rfl
  have hfin := evOps_pre hcf hnm (l2 := []) (Q := Q) (h2 k) (fun o' ho' => hokl o' (by rw [hl]; simp [ho'])) (ht1.put (dst := o.dst) (p2.agreeA b2) (fun n hn => .inl hn) hsc) (hg1.next (p2.agreeA b2) fun n hn => .inl hn) (by rw [p2.even, p1.even, hev]) p2.holds (by
   have := p2.le
   rintro n (hn | hn)
   ·have := hA1 n hn; omega
   ·omega) ((((hQ k).trans p1 hd1 (Nat.le_trans p2.le hm2)).trans p2 (Dfr.of_eq hpd) hm2))
  rw [List.append_nil] at hfin
  exact hK _ _ hfin
end
section
variable {P : Program}
def Told0 (P : Program) (t : FuncId × List Value × Value) : Prop :=
 (∀ x ∈ t.2.1, plain x = true) /\ plain t.2.2 = true /\ ∀ w : World, Calls P t.1 t.2.1.toArray w fun e w' => e = .returned t.2.2 /\ RowKit.Below w.heap.size w w'
structure Laid where
 f : FuncId
 args : List Value
 nx : Nat
 v : Value
 heap : List (Nat × Obj)
 nx' : Nat
def Told1 (P : Program) (t : Laid) : Prop :=
 (∀ x ∈ t.args, plain x = true) /\ (∀ n o, getB t.heap n = some o -> t.nx <= n /\ n < t.nx') /\
 ∀ (E : Env) (A : Nat -> Prop) (w : World), Glb P E A -> t.nx % 2 = 0 -> (∀ n, A n -> ¬ (t.nx <= n /\ n < t.nx')) ->
  Calls P t.f t.args.toArray w fun e w' => ∃ E', e = .returned (ren E' t.v) /\ Post P E A [] t.nx w E' t.heap t.nx' w' /\ Sc (fun n => A n \/ (t.nx <= n /\ n < t.nx')) t.v
def find0 (f : FuncId) (args : List Value) : List (FuncId × List Value × Value) -> Option Value
 | [] => none
 | (g, xs, v) :: r => if Nat.beq g f && veqL2 xs args then some v else find0 f args r
def find1 (f : FuncId) (args : List Value) (nx : Nat) : List Laid -> Option Laid
 | [] => none
 | t :: r => if Nat.beq t.f f && Nat.beq t.nx nx && veqL2 t.args args then some t else find1 f args nx r
def toldOrc (l0 : List (FuncId × List Value × Value)) (l1 : List Laid) : FuncId -> List Value -> St -> Option (Value × St) := fun f args S =>
 match find0 f args l0 with
 | some v => some (v, S)
 | none => match find1 f args S.next l1 with
  | some t => some (t.v, ⟨t.heap ++ S.heap, t.nx'⟩)
  | none => none
theorem find0_spec {f : FuncId} {args : List Value} {v : Value} : ∀ {l : List (FuncId × List Value × Value)}, find0 f args l = some v -> (f, args, v) ∈ l
 | [], h => by cases h
 | (g, xs, u) :: r, h => by
  simp only [find0] at h
  split at h
  ·rename_i hc
   simp only [Bool.and_eq_true] at hc
   rw [<- Nat.eq_of_beq_eq_true hc.1, <- veqL2_spec hc.2, <- Option.some.inj h]
   simp
  ·exact List.mem_cons_of_mem _ (find0_spec h)
theorem find1_spec {f : FuncId} {args : List Value} {nx : Nat} {t : Laid} : ∀ {l : List Laid}, find1 f args nx l = some t -> t ∈ l /\ t.f = f /\ t.nx = nx /\ t.args = args
 | [], h => by cases h
 | u :: r, h => by
  simp only [find1] at h
  split at h
  ·rename_i hc
   simp only [Bool.and_eq_true] at hc
   obtain rfl := Option.some.inj h
   exact ⟨by simp, Nat.eq_of_beq_eq_true hc.1.1, Nat.eq_of_beq_eq_true hc.1.2, veqL2_spec hc.2⟩
  ·obtain ⟨h1, h2⟩ := find1_spec h
   exact ⟨List.mem_cons_of_mem _ h1, h2⟩
theorem Post.framed {E E' : Env} {A : Nat -> Prop} {h g : List (Nat × Obj)} {nx nx' : Nat} {w w' : World} (p : Post P E A [] nx w E' h nx' w') (H : Holds P E A g w) (hA : ∀ n, A n -> ¬ (nx <= n /\ n < nx')) : Post P E A g nx w E' (h ++ g) nx' w' where
 le := p.le
 even := p.even
 agree := p.agree
 holds := by
  have hag : Agree A E E' := p.agreeA hA
  have hg : ∀ n o, getB g n = some o -> (A n \/ (nx <= n /\ n < nx')) /\ ScObj (fun n => A n \/ (nx <= n /\ n < nx')) o /\ E'.β n = E.β n /\ E.β n < w.heap.size /\ ∃ oc, w'.heap[E'.β n]? = some oc /\ BlkRel P E' n o oc := by
   intro n o hn
   obtain ⟨h1, h2, oc, h3, h4⟩ := H.blk n o hn
   have hlt := H.lt hn
   have hb := (hag n h1).1
   refine ⟨.inl h1, ScObj_mono (fun _ hx => Or.inl hx) o h2, hb, hlt, oc, ?_, BlkRel.agree hag h1 h2 h4⟩
   rw [hb, p.same _ hlt (fun _ _ hx => by cases hx)]
   exact h3
  have hh : ∀ n o, getB h n = some o -> w.heap.size <= E'.β n := by
   intro n o hn
   rcases p.img n o hn with ⟨m, o', hm, _⟩ | hx
   ·cases hm
   ·exact hx
  refine ⟨fun n o hn => ?_, fun n m o o' hn hm he => ?_⟩
  ·rcases getB_app _ _ _ _ hn with hn | ⟨_, hn⟩
   ·exact p.holds.blk n o hn
   ·obtain ⟨a1, a2, _, _, a3⟩ := hg n o hn
    exact ⟨a1, a2, a3⟩
  ·rcases getB_app _ _ _ _ hn with hn | ⟨_, hn⟩ <;> rcases getB_app _ _ _ _ hm with hm | ⟨_, hm⟩
   ·exact p.holds.inj n m _ _ hn hm he
   ·obtain ⟨_, _, b1, b2, _⟩ := hg m o' hm
    have := hh n o hn
    omega
   ·obtain ⟨_, _, b1, b2, _⟩ := hg n o hn
    have := hh m o' hm
    omega
   ·obtain ⟨_, _, b1, _, _⟩ := hg n o hn
    obtain ⟨_, _, c1, _, _⟩ := hg m o' hm
    exact H.inj n m _ _ hn hm (by rw [<- b1, <- c1]; exact he)
 os := p.os
 tape := p.tape
 output := p.output
 size := p.size
 same b hb _ := p.same b hb fun _ _ hx => by cases hx
 img n o hn := by
  rcases getB_app _ _ _ _ hn with hn | ⟨_, hn⟩
  ·rcases p.img n o hn with ⟨m, o', hm, _⟩ | hx
   ·cases hm
   ·exact .inr hx
  ·exact .inl ⟨n, o, hn, (p.agree n (hA n (H.blk n o hn).1)).1⟩
theorem Post.of_below {E : Env} {A : Nat -> Prop} {g : List (Nat × Obj)} {nx : Nat} {w w' : World} (hb : RowKit.Below w.heap.size w w') (H : Holds P E A g w) : Post P E A g nx w E g nx w' where
 le := Nat.le_refl _
 even := rfl
 agree _ _ := ⟨rfl, rfl, rfl⟩
 holds := (H.grow fun k hk => hb.block k hk).mono fun _ hn => .inl hn
 os := hb.os
 tape := hb.tape
 output := hb.output
 size := hb.size
 same b hlt _ := hb.block b hlt
 img n o hn := .inl ⟨n, o, hn, rfl⟩
theorem toldOrc_ok {l0 : List (FuncId × List Value × Value)} {l1 : List Laid} (h0 : ∀ t ∈ l0, Told0 P t) (h1 : ∀ t ∈ l1, Told1 P t) : OrcOk P (toldOrc l0 l1) := by
 intro f args S v S' h E A w hg hev hargs H hA
 have hren : (∀ x ∈ args, plain x = true) -> (args.map (ren E)).toArray = args.toArray := by
  intro hp
  have : args.map (ren E) = args.map id := List.map_congr_left fun x hx => plain_ren _ (hp x hx)
  rw [this]; simp
 unfold toldOrc at h
 split at h
 ·rename_i v0 hf
  simp only [Option.some.injEq, Prod.mk.injEq] at h
  obtain ⟨rfl, rfl⟩ := h
  obtain ⟨k1, k2, k3⟩ := h0 _ (find0_spec hf)
  rw [hren k1]
  refine (k3 w).mono ?_
  rintro e w' ⟨rfl, hb⟩
  exact ⟨E, by rw [plain_ren _ k2], Post.of_below hb H, Sc_or (plain_Sc A k2)⟩
 ·split at h
  ·rename_i t hf
   simp only [Option.some.injEq, Prod.mk.injEq] at h
   obtain ⟨rfl, rfl⟩ := h
   obtain ⟨m1, rfl, m3, rfl⟩ := find1_spec hf
   obtain ⟨k1, k2, k3⟩ := h1 t m1
   rw [hren k1]
   rw [<- m3] at hev hA ⊢
   refine (k3 E A w hg hev hA).mono ?_
   rintro e w' ⟨E', rfl, p, hs⟩
   exact ⟨E', rfl, p.framed H hA, hs⟩
  ·cases h
end
section
variable {P : Program} {callF : Fn -> List Value -> St -> Option (Value × St)}
def evRounds (callF : Fn -> List Value -> St -> Option (Value × St)) (P : Program) (f : Nat) (b : Code) : Nat -> List Value -> St -> Option (List Value × St)
 | 0, tm, S => some (tm, S)
 | k + 1, tm, S => match evC callF P f b tm S with
  | some (.normal, tm', S') => evRounds callF P f b k tm' S'
  | _ => none
theorem evRounds_mono {f : Nat} {b : Code} : ∀ {k : Nat} {tm tm' : List Value} {S S' : St}, evRounds callF P f b k tm S = some (tm', S') -> S.next <= S'.next
 | 0, _, _, _, _, h => by
  simp only [evRounds, Option.some.injEq, Prod.mk.injEq] at h
  rw [h.2]; exact Nat.le_refl _
 | k + 1, tm, tm', S, S', h => by
  simp only [evRounds] at h
  split at h
  ·rename_i h1
   exact Nat.le_trans (evC_mono h1) (evRounds_mono h)
  ·cases h
theorem evRounds_sound (hm : P.follows .mixedOrders = true) (hcf : CallOk P callF) (hnm : NamesOk P) {f : Nat} {b : Code} (hok : okCode P b = true) {Q : Exit -> Act -> World -> Prop} {n : Nat} : ∀ {k : Nat} {tm tm' : List Value} {S S' : St}, evRounds callF P f b k tm S = some (tm', S') ->
  ∀ {E : Env} {A : Nat -> Prop} {a : Act} {w : World}, Tm E A tm a -> Glb P E A -> S.next % 2 = 0 -> Holds P E A S.heap w -> (∀ n, A n -> n < S.next) -> After P none E A S w a tm' S' (Code.roundsIn (rd none) 0 P b Q n) -> Code.roundsIn (rd none) 0 P b Q (k + n) a w
 | 0, tm, tm', S, S', h, E, A, a, w, ht, hg, hev, H, hA, hQ => by
  simp only [evRounds, Option.some.injEq, Prod.mk.injEq] at h
  obtain ⟨rfl, rfl⟩ := h
  rw [Nat.zero_add]
  exact hQ E a w (Post.refl H) ⟨ht.tmps, fun x hx => Sc_or (ht.sc x hx)⟩ (Dfr.of_eq rfl)
 | k + 1, tm, tm', S, S', h, E, A, a, w, ht, hg, hev, H, hA, hQ => by
  simp only [evRounds] at h
  split at h
  ·rename_i tm1 S1 h1
   have m2 := evRounds_mono h
   have hA' : ∀ n, A n -> ¬ (S.next <= n /\ n < S1.next) := fun n hn hx => by have := hA n hn; omega
   rw [show k + 1 + n = (k + n) + 1 by omega, roundsIn_succ]
   refine (evC_sound hm hcf hnm f).1 b tm S .normal tm1 S1 h1 hok none (fun hx => by cases hx) E A a w _ ht hg hev H hA' ?_
   intro E1 a1 w1 p ht1 hd1
   refine evRounds_sound hm hcf hnm hok h ht1 (hg.next (p.agreeA hA') fun n hn => .inl hn) (by rw [p.even, hev]) p.holds ?_ (hQ.trans p hd1 m2)
   have := p.le
   rintro n (hn | hn)
   ·have := hA n hn; omega
   ·omega
  ·cases h
structure Lit where
 tm : List Value
 heap : List (Nat × Obj)
 next : Nat
def Lit.st (l : Lit) : St := ⟨l.heap, l.next⟩
def litOk (l : Lit) : List Value × St -> Bool
 | (tm, S) => veqT l.tm tm && Nat.beq l.next S.next && within S.heap l.heap
theorem litOk_spec {l : Lit} {x : List Value × St} (h : litOk l x = true) : x.1 = l.tm /\ x.2.next = l.next /\ ∀ n o, getB l.heap n = some o -> getB x.2.heap n = some o := by
 obtain ⟨tm, S⟩ := x
 simp only [litOk, Bool.and_eq_true] at h
 exact ⟨(veqT_spec h.1.1).symm, (Nat.eq_of_beq_eq_true h.1.2).symm, within_spec h.2⟩
def chunk (callF : Fn -> List Value -> St -> Option (Value × St)) (P : Program) (f : Nat) (b : Code) (k : Nat) (l l' : Lit) : Bool :=
 match evRounds callF P f b k l.tm l.st with
 | some x => litOk l' x
 | none => false
theorem chunk_sound (hm : P.follows .mixedOrders = true) (hcf : CallOk P callF) (hnm : NamesOk P) {f k n : Nat} {b : Code} {l l' : Lit} (h : chunk callF P f b k l l' = true) (hok : okCode P b = true) {Q : Exit -> Act -> World -> Prop}
  {E : Env} {A : Nat -> Prop} {a : Act} {w : World} (ht : Tm E A l.tm a) (hg : Glb P E A) (hev : l.next % 2 = 0) (H : Holds P E A l.heap w) (hA : ∀ n, A n -> n < l.next) (hQ : After P none E A l.st w a l'.tm l'.st (Code.roundsIn (rd none) 0 P b Q n)) : Code.roundsIn (rd none) 0 P b Q (k + n) a w := by
 unfold chunk at h
 split at h
 ·rename_i x hx
  obtain ⟨tm, S⟩ := x
  obtain ⟨h1, h2, h3⟩ := litOk_spec h
  simp only at h1 h2 h3
  subst h1
  refine evRounds_sound hm hcf hnm hok hx ht hg hev H hA ?_
  intro E' a' w' p ht' hd
  refine hQ E' a' w' ?_ (by simpa [Lit.st, h2] using ht') hd
  have p2 := p.drop h3
  rw [h2] at p2
  exact p2
 ·cases h
end
section
variable {P : Program}
structure Told where
 f : FuncId
 args : List Value
 heap : List (Nat × Obj)
 nx : Nat
 v : Value
 out : List (Nat × Obj)
 nx' : Nat
def Told2 (P : Program) (t : Told) : Prop :=
 ∀ (E : Env) (A : Nat -> Prop) (w : World), Glb P E A -> t.nx % 2 = 0 -> (∀ x ∈ t.args, Sc A x) -> Holds P E A t.heap w -> (∀ n, A n -> ¬ (t.nx <= n /\ n < t.nx')) ->
  Calls P t.f (t.args.map (ren E)).toArray w fun e w' => ∃ E', e = .returned (ren E' t.v) /\ Post P E A t.heap t.nx w E' t.out t.nx' w' /\ Sc (fun n => A n \/ (t.nx <= n /\ n < t.nx')) t.v
def find2 (f : FuncId) (args : List Value) (S : St) : List Told -> Option Told
 | [] => none
 | t :: r => if Nat.beq t.f f && Nat.beq t.nx S.next && veqT t.args args && within S.heap t.heap then some t else find2 f args S r
def toldOrc2 (l0 : List (FuncId × List Value × Value)) (l1 : List Laid) (l2 : List Told) : FuncId -> List Value -> St -> Option (Value × St) := fun f args S =>
 match toldOrc l0 l1 f args S with
 | some r => some r
 | none => match find2 f args S l2 with
  | some t => some (t.v, ⟨t.out ++ without t.heap S.heap, t.nx'⟩)
  | none => none
theorem find2_spec {f : FuncId} {args : List Value} {S : St} {t : Told} : ∀ {l : List Told}, find2 f args S l = some t -> t ∈ l /\ t.f = f /\ t.nx = S.next /\ t.args = args /\ within S.heap t.heap = true
 | [], h => by cases h
 | u :: r, h => by
  simp only [find2] at h
  split at h
  ·rename_i hc
   simp only [Bool.and_eq_true] at hc
   obtain rfl := Option.some.inj h
   exact ⟨by simp, Nat.eq_of_beq_eq_true hc.1.1.1, Nat.eq_of_beq_eq_true hc.1.1.2, veqT_spec hc.1.2, hc.2⟩
  ·obtain ⟨h1, h2⟩ := find2_spec h
   exact ⟨List.mem_cons_of_mem _ h1, h2⟩
theorem toldOrc2_ok {l0 : List (FuncId × List Value × Value)} {l1 : List Laid} {l2 : List Told} (h0 : ∀ t ∈ l0, Told0 P t) (h1 : ∀ t ∈ l1, Told1 P t) (h2 : ∀ t ∈ l2, Told2 P t) : OrcOk P (toldOrc2 l0 l1 l2) := by
 intro f args S v S' h E A w hg hev hargs H hA
 unfold toldOrc2 at h
 split at h
 ·rename_i r hr
  obtain rfl := Option.some.inj h
  exact toldOrc_ok h0 h1 f args S v S' hr E A w hg hev hargs H hA
 ·split at h
  ·rename_i t hf
   simp only [Option.some.injEq, Prod.mk.injEq] at h
   obtain ⟨rfl, rfl⟩ := h
   obtain ⟨m1, rfl, m3, rfl, m5⟩ := find2_spec hf
   have k2 := h2 t m1
   have hsub := within_spec m5
   rw [<- m3] at hev hA ⊢
   refine (k2 E A w hg hev hargs (H.sub hsub) hA).mono ?_
   rintro e w' ⟨E', rfl, p, hs⟩
   exact ⟨E', rfl, p.framed2 H hsub hA, hs⟩
  ·cases h
theorem told2_of (hm : P.follows .mixedOrders = true) (hnm : NamesOk P) {orc : FuncId -> List Value -> St -> Option (Value × St)} (horc : OrcOk P orc) {fs fuel d : Nat} (hok : okFuncs P P.funcs.size fs = true) {t : Told}
  (hrun : (match evCall orc P fs fuel d (.func t.f) t.args ⟨t.heap, t.nx⟩ with | some (v, S') => veq t.v v && Nat.beq t.nx' S'.next && within S'.heap t.out | none => false) = true) : Told2 P t := by
 intro E A w hg hev hargs H hA
 split at hrun
 ·rename_i v S' he
  simp only [Bool.and_eq_true] at hrun
  obtain ⟨⟨r1, r2⟩, r3⟩ := hrun
  obtain rfl := veq_spec r1
  have r2 := Nat.eq_of_beq_eq_true r2
  have hw := within_spec r3
  have := evCall_sound hm hnm horc hok fuel d (.func t.f) t.args ⟨t.heap, t.nx⟩ t.v S' he E A w hg hev hargs H (by rw [<- r2]; exact hA)
  refine Calls.mono this ?_
  rintro e w' ⟨E', rfl, p, hs⟩
  refine ⟨E', rfl, ?_, ?_⟩
  ·have := p.drop hw
   rw [<- r2] at this
   exact this
  ·rw [r2]; exact hs
 ·cases hrun
end
section
variable {P : Program} {callF : Fn -> List Value -> St -> Option (Value × St)}
def tailC : Nat -> Code -> Code
 | 0, c => c
 | n + 1, .seq _ b => tailC n b
 | _ + 1, c => c
def headC : Code -> Code
 | .seq a _ => a
 | c => c
def opsC : Code -> Array Oper
 | .region _ o _ => o
 | _ => #[]
theorem evPre_tail {f : Nat} (k : Nat) : ∀ (c c' : Code) (tm tm' : List Value) (S S' : St), evPre callF P f k c tm S = some (c', tm', S') -> c' = tailC k c := by
 induction k with
 | zero =>
  intro c c' tm tm' S S' h
  simp only [evPre, Option.some.injEq, Prod.mk.injEq] at h
  exact h.1.symm
 | succ k ih =>
  intro c c' tm tm' S S' h
  cases c with
  | seq a b =>
   simp only [evPre] at h
   split at h
   ·exact ih _ _ _ _ _ _ h
   ·cases h
  | _ => simp [evPre] at h
theorem After.lit {ro : Option Nat} {E : Env} {A : Nat -> Prop} {S0 : St} {w : World} {a : Act} {l : Lit} {tm : List Value} {S : St} {R : Act -> World -> Prop} (h : litOk l (tm, S) = true) (hQ : After P ro E A S0 w a l.tm l.st R) : After P ro E A S0 w a tm S R := by
 obtain ⟨h1, h2, h3⟩ := litOk_spec h
 simp only at h1 h2 h3
 subst h1
 intro E' a' w' p ht hd
 refine hQ E' a' w' ?_ (by simpa [Lit.st, h2] using ht) hd
 have p2 := p.drop h3
 rw [h2] at p2
 exact p2
def preOk (callF : Fn -> List Value -> St -> Option (Value × St)) (P : Program) (f k : Nat) (c : Code) (tm : List Value) (S : St) (l : Lit) : Bool :=
 match evPre callF P f k c tm S with
 | some (_, tm', S') => litOk l (tm', S')
 | none => false
theorem preOk_sound (hm : P.follows .mixedOrders = true) (hcf : CallOk P callF) (hnm : NamesOk P) {f k : Nat} {c : Code} {tm : List Value} {S : St} {l : Lit} (h : preOk callF P f k c tm S l = true) (hok : okCode P c = true) {Q : Exit -> Act -> World -> Prop}
  {E : Env} {A : Nat -> Prop} {a : Act} {w : World} (ht : Tm E A tm a) (hg : Glb P E A) (hev : S.next % 2 = 0) (H : Holds P E A S.heap w) (hA : ∀ n, A n -> n < S.next) (hQ : After P none E A S w a l.tm l.st ((tailC k c).wpIn (rd none) 0 P Q)) : c.wpIn (rd none) 0 P Q a w := by
 unfold preOk at h
 split at h
 ·rename_i c' tm' S' he
  have := evPre_tail _ _ _ _ _ _ _ he
  subst this
  exact evPre_sound hm hcf hnm he hok ht hg hev H hA (After.lit h hQ)
 ·cases h
def endOk (callF : Fn -> List Value -> St -> Option (Value × St)) (P : Program) (f : Nat) (c : Code) (tm : List Value) (S : St) (l : Lit) : Bool :=
 match evC callF P f c tm S with
 | some (.ret, tm', S') => litOk l (tm', S')
 | _ => false
theorem endOk_sound (hm : P.follows .mixedOrders = true) (hcf : CallOk P callF) (hnm : NamesOk P) {f : Nat} {c : Code} {tm : List Value} {S : St} {l : Lit} (h : endOk callF P f c tm S l = true) (hok : okCode P c = true) {Q : Exit -> Act -> World -> Prop}
  {E : Env} {A : Nat -> Prop} {a : Act} {w : World} (ht : Tm E A tm a) (hg : Glb P E A) (hev : S.next % 2 = 0) (H : Holds P E A S.heap w) (hA : ∀ n, A n -> n < S.next) (hQ : After P none E A S w a l.tm l.st (Q .ret)) : c.wpIn (rd none) 0 P Q a w := by
 unfold endOk at h
 split at h
 ·rename_i tm' S' he
  exact (evC_sound hm hcf hnm f).1 c tm S .ret tm' S' he hok none (fun hx => by cases hx) E A a w Q ht hg hev H (fun n hn hx => by have := hA n hn; omega) (After.lit h hQ)
 ·cases h
theorem endOk_rounds (hm : P.follows .mixedOrders = true) (hcf : CallOk P callF) (hnm : NamesOk P) {f : Nat} {b : Code} {tm : List Value} {S : St} {l : Lit} (h : endOk callF P f (.loop b) tm S l = true) (hok : okCode P b = true) {Q : Exit -> Act -> World -> Prop}
  {E : Env} {A : Nat -> Prop} {a : Act} {w : World} (ht : Tm E A tm a) (hg : Glb P E A) (hev : S.next % 2 = 0) (H : Holds P E A S.heap w) (hA : ∀ n, A n -> n < S.next) (hQ : After P none E A S w a l.tm l.st (Q .ret)) : Code.roundsIn (rd none) 0 P b Q f a w := by
 unfold endOk at h
 split at h
 ·rename_i tm' S' he
  exact (evC_sound hm hcf hnm f).2 b tm S .ret tm' S' he hok none (fun hx => by cases hx) E A a w Q ht hg hev H (fun n hn hx => by have := hA n hn; omega) (After.lit h hQ)
 ·cases h
theorem chunk_le {f k : Nat} {b : Code} {l l' : Lit} (h : chunk callF P f b k l l' = true) : l.next <= l'.next := by
 unfold chunk at h
 split at h
 ·rename_i x hx
  obtain ⟨tm, S⟩ := x
  obtain ⟨_, h2, _⟩ := litOk_spec h
  simp only at h2
  rw [<- h2]
  exact evRounds_mono hx
 ·cases h
inductive Pieces (callF : Fn -> List Value -> St -> Option (Value × St)) (P : Program) (f : Nat) (b : Code) : Nat -> Lit -> Lit -> Prop
 | last {l l' : Lit} (h : endOk callF P f (.loop b) l.tm l.st l' = true) (hle : l.next <= l'.next) : Pieces callF P f b f l l'
 | more {n : Nat} {l l1 l' : Lit} (k : Nat) (h : chunk callF P f b k l l1 = true) (hev : l1.next % 2 = 0) (r : Pieces callF P f b n l1 l') : Pieces callF P f b (k + n) l l'
theorem Pieces.le {f n : Nat} {b : Code} {l l' : Lit} (p : Pieces callF P f b n l l') : l.next <= l'.next := by
 induction p with
 | last h hle => exact hle
 | more k h _ r ih => exact Nat.le_trans (chunk_le h) ih
theorem Pieces.sound (hm : P.follows .mixedOrders = true) (hcf : CallOk P callF) (hnm : NamesOk P) {f n : Nat} {b : Code} (hok : okCode P b = true) {Q : Exit -> Act -> World -> Prop} {l l' : Lit} (p : Pieces callF P f b n l l') :
  ∀ {E : Env} {A : Nat -> Prop} {a : Act} {w : World}, Tm E A l.tm a -> Glb P E A -> l.next % 2 = 0 -> Holds P E A l.heap w -> (∀ n, A n -> n < l.next) -> After P none E A l.st w a l'.tm l'.st (Q .ret) -> Code.roundsIn (rd none) 0 P b Q n a w := by
 induction p with
 | last h _ =>
  intro E A a w ht hg hev H hA hQ
  exact endOk_rounds hm hcf hnm h hok ht hg hev H hA hQ
 | @more n l l1 l' k h hev1 r ih =>
  intro E A a w ht hg hev H hA hQ
  refine chunk_sound hm hcf hnm h hok ht hg hev H hA ?_
  intro E1 a1 w1 p1 ht1 hd1
  have hle1 := chunk_le h
  have b1 : ∀ n, A n -> ¬ (l.st.next <= n /\ n < l1.st.next) := fun n hn hx => by have := hA n hn; have : l.st.next = l.next := rfl; omega
  refine ih ht1 (hg.next (p1.agreeA b1) fun n hn => .inl hn) hev1 p1.holds ?_ (hQ.trans p1 hd1 r.le)
  rintro n (hn | hn)
  ·have := hA n hn; omega
  ·exact hn.2
end
section
variable {P : Program} {callF : Fn -> List Value -> St -> Option (Value × St)}
structure CopyOps where
 m0 : Oper
 rg : Oper
 o1 : Oper
 o2 : Oper
 p1 : Oper
 p2 : Oper
 p3 : Oper
 p4 : Oper
 p5 : Oper
 p6 : Oper
 q1 : Oper
 q2 : Oper
 q3 : Oper
 q4 : Oper
variable {g : FuncId} {fn : Func} {C : CopyOps} {tM tT kt et : TypeId} {sz : Nat} {z : List Value}
end
section
variable {P : Program} {g : FuncId} {fn : Func} {C : CopyOps} {tM tT kt et : TypeId} {sz : Nat} {z : List Value}
end
end Go.Dam
namespace Go.Proofs.YtgkhemnmcgicnaaGreatDoor
open Go.RowKit Go.Dam
noncomputable def bodyOf (f : FuncId) : Code := match Tryz.prog.funcs[f]? with
 | some fn => (match fn.body with
  | some c => c
  | none => .skip)
 | none => .skip
def fsBig : Nat := 2 ^ 286 - 1
set_option maxRecDepth 1000000
theorem funcs_okB : okFuncs Tryz.prog Tryz.prog.funcs.size fsBig = true := by kernel_rfl
theorem size_ok : Tryz.prog.funcs.size = 286 := by kernel_rfl
theorem okFuncs_any {P : Program} {fs fs' : Nat} : ∀ {n : Nat}, okFuncs P n fs = true -> (∀ f, f < n -> Nat.testBit fs f = true) -> okFuncs P n fs' = true
 | 0, _, _ => rfl
 | n + 1, h, hb => by
  simp only [okFuncs, Bool.and_eq_true] at h ⊢
  have h1 := h.1
  rw [hb n (Nat.lt_succ_self n)] at h1
  simp only [Bool.not_true, Bool.false_or] at h1
  refine ⟨?_, okFuncs_any h.2 fun f hf => hb f (by omega)⟩
  rw [Bool.or_eq_true]
  exact .inr h1
theorem bits_ok : ((List.range 286).all fun f => Nat.testBit fsBig f) = true := by kernel_rfl
theorem ok_any (fs : Nat) : okFuncs Tryz.prog Tryz.prog.funcs.size fs = true :=
 okFuncs_any funcs_okB fun f hf => by
  rw [size_ok] at hf
  exact List.all_eq_true.1 bits_ok f (List.mem_range.2 hf)
noncomputable def CF : Fn -> List Value -> St -> Option (Value × St) := evCall noOrc Tryz.prog fsBig 400 12
def loopIn : Code -> Code
 | .loop b => b
 | .seq a b => match loopIn a with
  | .skip => loopIn b
  | c => c
 | .block _ b => loopIn b
 | _ => .skip
noncomputable def scanText : ByteArray := ⟨#[115,99,111,114,101,32,34,68,117,111,34,10,112,97,114,116,32,34,70,108,117,116,101,34,32,115,116,97,102,102,32,116,114,101,98,108,101,10,109,101,97,115,117,114,101,32,109,101,116,114,101,32,51,47,52,32,107,101,121,32,49,32,123,32,40,51,58,50,32,71,52,58,56,32,65,52,58,56,32,66,52,58,56,41,32,60,67,53,126,32,69,53,62,58,52,32,91,97,99,99,101,110,116,32,109,102,93,32,34,108,97,34,32,114,58,52,32,125,10,109,101,97,115,117,114,101,32,123,32,67,53,58,50,46,32,125,10]⟩
abbrev tkL : List Value := [I 1, .string ⟨#[115, 99, 111, 114, 101]⟩, I 0, .string ⟨#[]⟩, I 1, I 1, .bool false, I 3, .string ⟨#[34, 68, 117, 111, 34]⟩, I 0, .string ⟨#[68, 117, 111]⟩, I 1, I 7, .bool false, I 1, .string ⟨#[112, 97, 114, 116]⟩, I 0, .string ⟨#[]⟩, I 2, I 1, .bool false, I 3, .string ⟨#[34, 70, 108, 117, 116, 101, 34]⟩, I 0, .string ⟨#[70, 108, 117, 116, 101]⟩, I 2, I 6, .bool false, I 1, .string ⟨#[115, 116, 97, 102, 102]⟩, I 0, .string ⟨#[]⟩, I 2, I 14, .bool false, I 1, .string ⟨#[116, 114, 101, 98, 108, 101]⟩, I 0, .string ⟨#[]⟩, I 2, I 20, .bool false, I 1, .string ⟨#[109, 101, 97, 115, 117, 114, 101]⟩, I 0, .string ⟨#[]⟩, I 3, I 1, .bool false, I 1, .string ⟨#[109, 101, 116, 114, 101]⟩, I 0, .string ⟨#[]⟩, I 3, I 9, .bool false, I 2, .string ⟨#[51]⟩, I 3, .string ⟨#[]⟩, I 3, I 15, .bool false, I 4, .string ⟨#[47]⟩, I 0, .string ⟨#[]⟩, I 3, I 16, .bool true, I 2, .string ⟨#[52]⟩, I 4, .string ⟨#[]⟩, I 3, I 17, .bool true, I 1, .string ⟨#[107, 101, 121]⟩, I 0, .string ⟨#[]⟩, I 3, I 19, .bool false, I 2, .string ⟨#[49]⟩, I 1, .string ⟨#[]⟩, I 3, I 23, .bool false, I 4, .string ⟨#[123]⟩, I 0, .string ⟨#[]⟩, I 3, I 25, .bool false, I 4, .string ⟨#[40]⟩, I 0, .string ⟨#[]⟩, I 3, I 27, .bool false, I 2, .string ⟨#[51]⟩, I 3, .string ⟨#[]⟩, I 3, I 28, .bool true, I 4, .string ⟨#[58]⟩, I 0, .string ⟨#[]⟩, I 3, I 29, .bool true, I 2, .string ⟨#[50]⟩, I 2, .string ⟨#[]⟩, I 3, I 30, .bool true, I 1, .string ⟨#[71, 52]⟩, I 0, .string ⟨#[]⟩, I 3, I 32, .bool false, I 4, .string ⟨#[58]⟩, I 0, .string ⟨#[]⟩, I 3, I 34, .bool true, I 2, .string ⟨#[56]⟩, I 8, .string ⟨#[]⟩, I 3, I 35, .bool true, I 1, .string ⟨#[65, 52]⟩, I 0, .string ⟨#[]⟩, I 3, I 37, .bool false, I 4, .string ⟨#[58]⟩, I 0, .string ⟨#[]⟩, I 3, I 39, .bool true, I 2, .string ⟨#[56]⟩, I 8, .string ⟨#[]⟩, I 3, I 40, .bool true, I 1, .string ⟨#[66, 52]⟩, I 0, .string ⟨#[]⟩, I 3, I 42, .bool false, I 4, .string ⟨#[58]⟩, I 0, .string ⟨#[]⟩, I 3, I 44, .bool true, I 2, .string ⟨#[56]⟩, I 8, .string ⟨#[]⟩, I 3, I 45, .bool true, I 4, .string ⟨#[41]⟩, I 0, .string ⟨#[]⟩, I 3, I 46, .bool true, I 4, .string ⟨#[60]⟩, I 0, .string ⟨#[]⟩, I 3, I 48, .bool false, I 1, .string ⟨#[67, 53]⟩, I 0, .string ⟨#[]⟩, I 3, I 49, .bool true, I 4, .string ⟨#[126]⟩, I 0, .string ⟨#[]⟩, I 3, I 51, .bool true, I 1, .string ⟨#[69, 53]⟩, I 0, .string ⟨#[]⟩, I 3, I 53, .bool false, I 4, .string ⟨#[62]⟩, I 0, .string ⟨#[]⟩, I 3, I 55, .bool true, I 4, .string ⟨#[58]⟩, I 0, .string ⟨#[]⟩, I 3, I 56, .bool true, I 2, .string ⟨#[52]⟩, I 4, .string ⟨#[]⟩, I 3, I 57, .bool true, I 4, .string ⟨#[91]⟩, I 0, .string ⟨#[]⟩, I 3, I 59, .bool false, I 1, .string ⟨#[97, 99, 99, 101, 110, 116]⟩, I 0, .string ⟨#[]⟩, I 3, I 60, .bool true, I 1, .string ⟨#[109, 102]⟩, I 0, .string ⟨#[]⟩, I 3, I 67, .bool false, I 4, .string ⟨#[93]⟩, I 0, .string ⟨#[]⟩, I 3, I 69, .bool true, I 3, .string ⟨#[34, 108, 97, 34]⟩, I 0, .string ⟨#[108, 97]⟩, I 3, I 71, .bool false, I 1, .string ⟨#[114]⟩, I 0, .string ⟨#[]⟩, I 3, I 76, .bool false, I 4, .string ⟨#[58]⟩, I 0, .string ⟨#[]⟩, I 3, I 77, .bool true, I 2, .string ⟨#[52]⟩, I 4, .string ⟨#[]⟩, I 3, I 78, .bool true, I 4, .string ⟨#[125]⟩, I 0, .string ⟨#[]⟩, I 3, I 80, .bool false, I 1, .string ⟨#[109, 101, 97, 115, 117, 114, 101]⟩, I 0, .string ⟨#[]⟩, I 4, I 1, .bool false, I 4, .string ⟨#[123]⟩, I 0, .string ⟨#[]⟩, I 4, I 9, .bool false, I 1, .string ⟨#[67, 53]⟩, I 0, .string ⟨#[]⟩, I 4, I 11, .bool false, I 4, .string ⟨#[58]⟩, I 0, .string ⟨#[]⟩, I 4, I 13, .bool true, I 2, .string ⟨#[50]⟩, I 2, .string ⟨#[]⟩, I 4, I 14, .bool true, I 4, .string ⟨#[46]⟩, I 0, .string ⟨#[]⟩, I 4, I 15, .bool true, I 4, .string ⟨#[125]⟩, I 0, .string ⟨#[]⟩, I 4, I 17, .bool false, I 0, .string ⟨#[]⟩, I 0, .string ⟨#[]⟩, I 5, I 1, .bool false]
abbrev zeroT : Nat -> List Value
 | 0 => []
 | n + 1 => .int .i64 0 :: .string ⟨#[]⟩ :: .int .i64 0 :: .string ⟨#[]⟩ :: .int .i64 0 :: .int .i64 0 :: .bool false :: zeroT n
noncomputable def scanL : Go.Dam.Lit :=
 ⟨[.string scanText, undef, .slice none 0 0, I 0, I 0, I 0, .pointer (some ⟨108, 0, none⟩), I 136, .string scanText, I 137, .bool false, .string scanText, .slice (some ⟨106, 0, none⟩) 1 1, .agg #[.string scanText, I 0, .slice (some ⟨106, 0, none⟩) 1 1, .slice none 0 0, I 0, I 0], .pointer (some ⟨108, 0, none⟩), .string scanText, I 137, I 137, .bool false, I 136, .string scanText, I 136, .int .u8 10, .bool true, .pointer (some ⟨108, 0, none⟩), .pointer (some ⟨108, 0, none⟩), .pointer (some ⟨108, 0, none⟩), .pointer (some ⟨108, 2, none⟩), .slice (some ⟨121, 0, none⟩) 4 0, I 136, I 137, .slice (some ⟨122, 0, none⟩) 1 1, .slice (some ⟨125, 0, none⟩) 5 0, .pointer (some ⟨108, 0, none⟩), .pointer (some ⟨108, 2, none⟩), I 137] ++ List.replicate 26 undef,
  [(125, .cells #[I 0, I 12, I 38, I 119, I 137] 3 (0, 0)),
   (122, .cells #[I 137] 3 (0, 0)),
   (108, .cells #[.string scanText, I 0, .slice (some ⟨125, 0, none⟩) 5 0, .slice none 0 0, I 0, I 0] 108 (0, 0)),
   (106, .cells #[I 0] 3 (0, 0))], 126⟩
noncomputable def loopL0 : Go.Dam.Lit :=
 ⟨[.pointer (some ⟨108, 0, none⟩), .pointer (some ⟨126, 0, none⟩), .slice (some ⟨128, 0, none⟩) 4 4, undef, .slice (some ⟨128, 0, none⟩) 4 4] ++ List.replicate 48 undef,
  [(128, .cells #[.func (.func 81) #[] #[], .func (.func 82) #[] #[], .func (.func 83) #[] #[], .func (.func 84) #[] #[]] 153 (0, 0)),
   (126, .cells #[.pointer (some ⟨108, 0, none⟩)] 105 (0, 0)),
   (125, .cells #[I 0, I 12, I 38, I 119, I 137] 3 (0, 0)),
   (108, .cells #[.string scanText, I 0, .slice (some ⟨125, 0, none⟩) 5 0, .slice none 0 0, I 0, I 0] 108 (0, 0))], 130⟩
noncomputable def loopL1 : Go.Dam.Lit :=
 ⟨[.pointer (some ⟨108, 0, none⟩), .pointer (some ⟨126, 0, none⟩), .slice (some ⟨128, 0, none⟩) 4 4, .pointer (some ⟨240, 0, none⟩), .slice (some ⟨128, 0, none⟩) 4 4, .pointer (some ⟨108, 0, none⟩), .pointer (some ⟨108, 0, none⟩), .pointer (some ⟨108, 4, none⟩), I 0, .bool true, .pointer (some ⟨108, 0, none⟩), .bool false, .bool true, .pointer (some ⟨108, 0, none⟩), .pointer (some ⟨108, 0, none⟩), .pointer (some ⟨108, 1, none⟩), I 53, .pointer (some ⟨108, 0, none⟩), .pointer (some ⟨108, 0, none⟩), .pointer (some ⟨108, 0, none⟩), .string scanText, I 137, .bool false] ++ List.replicate 8 undef ++ [.pointer (some ⟨108, 0, none⟩), .pointer (some ⟨108, 0, none⟩), .pointer (some ⟨108, 3, none⟩), .slice (some ⟨239, 0, none⟩) 9 0, I 9, .bool false] ++ List.replicate 6 undef ++ [.slice (some ⟨128, 0, none⟩) 4 4, .func (.func 89) #[] #[.pointer (some ⟨126, 0, none⟩), .pointer (some ⟨240, 0, none⟩)], .bool true, .bool false] ++ List.replicate 6 undef,
  [(247, .cells (tkL.take 70).toArray 59 (0, 0)),
   (240, .cells #[.bool true] 4 (0, 0)),
   (128, .cells #[.func (.func 81) #[] #[], .func (.func 82) #[] #[], .func (.func 83) #[] #[], .func (.func 84) #[] #[]] 153 (0, 0)),
   (126, .cells #[.pointer (some ⟨108, 0, none⟩)] 105 (0, 0)),
   (125, .cells #[I 0, I 12, I 38, I 119, I 137] 3 (0, 0)),
   (108, .cells #[.string scanText, I 54, .slice (some ⟨125, 0, none⟩) 5 0, .slice (some ⟨247, 0, none⟩) 10 0, I 0, I 0] 108 (0, 0))], 248⟩
noncomputable def loopL2 : Go.Dam.Lit :=
 ⟨[.pointer (some ⟨108, 0, none⟩), .pointer (some ⟨126, 0, none⟩), .slice (some ⟨128, 0, none⟩) 4 4, .pointer (some ⟨328, 0, none⟩), .slice (some ⟨128, 0, none⟩) 4 4, .pointer (some ⟨108, 0, none⟩), .pointer (some ⟨108, 0, none⟩), .pointer (some ⟨108, 4, none⟩), I 0, .bool true, .pointer (some ⟨108, 0, none⟩), .bool false, .bool true, .pointer (some ⟨108, 0, none⟩), .pointer (some ⟨108, 0, none⟩), .pointer (some ⟨108, 1, none⟩), I 71, .pointer (some ⟨108, 0, none⟩), .pointer (some ⟨108, 0, none⟩), .pointer (some ⟨108, 0, none⟩), .string scanText, I 137, .bool false] ++ List.replicate 8 undef ++ [.pointer (some ⟨108, 0, none⟩), .pointer (some ⟨108, 0, none⟩), .pointer (some ⟨108, 3, none⟩), .slice (some ⟨327, 0, none⟩) 19 0, I 19, .bool false] ++ List.replicate 6 undef ++ [.slice (some ⟨128, 0, none⟩) 4 4, .func (.func 89) #[] #[.pointer (some ⟨126, 0, none⟩), .pointer (some ⟨328, 0, none⟩)], .bool true, .bool false] ++ List.replicate 6 undef,
  [(335, .cells (tkL.take 140).toArray 59 (0, 0)),
   (328, .cells #[.bool true] 4 (0, 0)),
   (128, .cells #[.func (.func 81) #[] #[], .func (.func 82) #[] #[], .func (.func 83) #[] #[], .func (.func 84) #[] #[]] 153 (0, 0)),
   (126, .cells #[.pointer (some ⟨108, 0, none⟩)] 105 (0, 0)),
   (125, .cells #[I 0, I 12, I 38, I 119, I 137] 3 (0, 0)),
   (108, .cells #[.string scanText, I 72, .slice (some ⟨125, 0, none⟩) 5 0, .slice (some ⟨335, 0, none⟩) 20 0, I 0, I 0] 108 (0, 0))], 336⟩
noncomputable def loopL3 : Go.Dam.Lit :=
 ⟨[.pointer (some ⟨108, 0, none⟩), .pointer (some ⟨126, 0, none⟩), .slice (some ⟨128, 0, none⟩) 4 4, .pointer (some ⟨414, 0, none⟩), .slice (some ⟨128, 0, none⟩) 4 4, .pointer (some ⟨108, 0, none⟩), .pointer (some ⟨108, 0, none⟩), .pointer (some ⟨108, 4, none⟩), I 0, .bool true, .pointer (some ⟨108, 0, none⟩), .bool false, .bool true, .pointer (some ⟨108, 0, none⟩), .pointer (some ⟨108, 0, none⟩), .pointer (some ⟨108, 1, none⟩), I 86, .pointer (some ⟨108, 0, none⟩), .pointer (some ⟨108, 0, none⟩), .pointer (some ⟨108, 0, none⟩), .string scanText, I 137, .bool false] ++ List.replicate 8 undef ++ [.pointer (some ⟨108, 0, none⟩), .pointer (some ⟨108, 0, none⟩), .pointer (some ⟨108, 3, none⟩), .slice (some ⟨413, 0, none⟩) 29 0, I 29, .bool false] ++ List.replicate 6 undef ++ [.slice (some ⟨128, 0, none⟩) 4 4, .func (.func 89) #[] #[.pointer (some ⟨126, 0, none⟩), .pointer (some ⟨414, 0, none⟩)], .bool true, .bool false] ++ List.replicate 6 undef,
  [(421, .cells (tkL.take 210).toArray 59 (0, 0)),
   (414, .cells #[.bool true] 4 (0, 0)),
   (128, .cells #[.func (.func 81) #[] #[], .func (.func 82) #[] #[], .func (.func 83) #[] #[], .func (.func 84) #[] #[]] 153 (0, 0)),
   (126, .cells #[.pointer (some ⟨108, 0, none⟩)] 105 (0, 0)),
   (125, .cells #[I 0, I 12, I 38, I 119, I 137] 3 (0, 0)),
   (108, .cells #[.string scanText, I 88, .slice (some ⟨125, 0, none⟩) 5 0, .slice (some ⟨421, 0, none⟩) 30 0, I 0, I 0] 108 (0, 0))], 422⟩
noncomputable def loopL4 : Go.Dam.Lit :=
 ⟨[.pointer (some ⟨108, 0, none⟩), .pointer (some ⟨126, 0, none⟩), .slice (some ⟨128, 0, none⟩) 4 4, .pointer (some ⟨496, 0, none⟩), .slice (some ⟨128, 0, none⟩) 4 4, .pointer (some ⟨108, 0, none⟩), .pointer (some ⟨108, 0, none⟩), .pointer (some ⟨108, 4, none⟩), I 0, .bool true, .pointer (some ⟨108, 0, none⟩), .bool true, .bool false, .pointer (some ⟨108, 0, none⟩), .pointer (some ⟨108, 0, none⟩), .pointer (some ⟨108, 1, none⟩), I 108, .pointer (some ⟨108, 0, none⟩), .pointer (some ⟨108, 0, none⟩), .pointer (some ⟨108, 0, none⟩), .string scanText, I 137, .bool false] ++ List.replicate 8 undef ++ [.pointer (some ⟨108, 0, none⟩), .pointer (some ⟨108, 0, none⟩), .pointer (some ⟨108, 3, none⟩), .slice (some ⟨495, 0, none⟩) 39 0, I 39, .bool false] ++ List.replicate 6 undef ++ [.slice (some ⟨128, 0, none⟩) 4 4, .func (.func 89) #[] #[.pointer (some ⟨126, 0, none⟩), .pointer (some ⟨496, 0, none⟩)], .bool true, .bool false] ++ List.replicate 6 undef,
  [(513, .cells (tkL.take 280).toArray 59 (0, 0)),
   (496, .cells #[.bool false] 4 (0, 0)),
   (128, .cells #[.func (.func 81) #[] #[], .func (.func 82) #[] #[], .func (.func 83) #[] #[], .func (.func 84) #[] #[]] 153 (0, 0)),
   (126, .cells #[.pointer (some ⟨108, 0, none⟩)] 105 (0, 0)),
   (125, .cells #[I 0, I 12, I 38, I 119, I 137] 3 (0, 0)),
   (108, .cells #[.string scanText, I 112, .slice (some ⟨125, 0, none⟩) 5 0, .slice (some ⟨513, 0, none⟩) 40 0, I 0, I 0] 108 (0, 0))], 514⟩
noncomputable def loopL5 : Go.Dam.Lit :=
 ⟨[.pointer (some ⟨108, 0, none⟩), .pointer (some ⟨126, 0, none⟩), .slice (some ⟨128, 0, none⟩) 4 4, .pointer (some ⟨590, 0, none⟩), .slice (some ⟨128, 0, none⟩) 4 4, .pointer (some ⟨108, 0, none⟩), .pointer (some ⟨108, 0, none⟩), .pointer (some ⟨108, 4, none⟩), I 0, .bool true, .pointer (some ⟨108, 0, none⟩), .bool false, .bool true, .pointer (some ⟨108, 0, none⟩), .pointer (some ⟨108, 0, none⟩), .pointer (some ⟨108, 1, none⟩), I 133, .pointer (some ⟨108, 0, none⟩), .pointer (some ⟨108, 0, none⟩), .pointer (some ⟨108, 0, none⟩), .string scanText, I 137, .bool false] ++ List.replicate 8 undef ++ [.pointer (some ⟨108, 0, none⟩), .pointer (some ⟨108, 0, none⟩), .pointer (some ⟨108, 3, none⟩), .slice (some ⟨589, 0, none⟩) 49 0, I 49, .bool false] ++ List.replicate 6 undef ++ [.slice (some ⟨128, 0, none⟩) 4 4, .func (.func 89) #[] #[.pointer (some ⟨126, 0, none⟩), .pointer (some ⟨590, 0, none⟩)], .bool true, .bool false] ++ List.replicate 6 undef,
  [(597, .cells (tkL.take 350).toArray 59 (0, 0)),
   (590, .cells #[.bool true] 4 (0, 0)),
   (128, .cells #[.func (.func 81) #[] #[], .func (.func 82) #[] #[], .func (.func 83) #[] #[], .func (.func 84) #[] #[]] 153 (0, 0)),
   (126, .cells #[.pointer (some ⟨108, 0, none⟩)] 105 (0, 0)),
   (125, .cells #[I 0, I 12, I 38, I 119, I 137] 3 (0, 0)),
   (108, .cells #[.string scanText, I 134, .slice (some ⟨125, 0, none⟩) 5 0, .slice (some ⟨597, 0, none⟩) 50 0, I 0, I 0] 108 (0, 0))], 598⟩
noncomputable def loopL6 : Go.Dam.Lit :=
 ⟨[.pointer (some ⟨108, 0, none⟩), .pointer (some ⟨126, 0, none⟩), .slice (some ⟨128, 0, none⟩) 4 4, .pointer (some ⟨598, 0, none⟩), .slice (some ⟨128, 0, none⟩) 4 4, .pointer (some ⟨108, 0, none⟩), .pointer (some ⟨108, 0, none⟩), .pointer (some ⟨108, 4, none⟩), I 0, .bool true, .pointer (some ⟨108, 0, none⟩), .bool true, .bool false, .pointer (some ⟨108, 0, none⟩), .pointer (some ⟨108, 0, none⟩), .pointer (some ⟨108, 1, none⟩), I 135, .pointer (some ⟨108, 0, none⟩), .pointer (some ⟨108, 0, none⟩), .pointer (some ⟨108, 0, none⟩), .string scanText, I 137, .bool false] ++ List.replicate 8 undef ++ [.pointer (some ⟨108, 0, none⟩), .pointer (some ⟨108, 0, none⟩), .pointer (some ⟨108, 3, none⟩), .slice (some ⟨597, 0, none⟩) 50 0, I 50, .bool false] ++ List.replicate 6 undef ++ [.slice (some ⟨128, 0, none⟩) 4 4, .func (.func 89) #[] #[.pointer (some ⟨126, 0, none⟩), .pointer (some ⟨598, 0, none⟩)], .bool true, .bool false] ++ List.replicate 6 undef,
  [(605, .cells (tkL.take 357).toArray 59 (0, 0)),
   (598, .cells #[.bool false] 4 (0, 0)),
   (128, .cells #[.func (.func 81) #[] #[], .func (.func 82) #[] #[], .func (.func 83) #[] #[], .func (.func 84) #[] #[]] 153 (0, 0)),
   (126, .cells #[.pointer (some ⟨108, 0, none⟩)] 105 (0, 0)),
   (125, .cells #[I 0, I 12, I 38, I 119, I 137] 3 (0, 0)),
   (108, .cells #[.string scanText, I 136, .slice (some ⟨125, 0, none⟩) 5 0, .slice (some ⟨605, 0, none⟩) 51 0, I 0, I 0] 108 (0, 0))], 606⟩
noncomputable def scanE : Go.Dam.Lit :=
 ⟨[.pointer (some ⟨108, 0, none⟩), .pointer (some ⟨126, 0, none⟩), .slice (some ⟨128, 0, none⟩) 4 4, .pointer (some ⟨606, 0, none⟩), .slice (some ⟨128, 0, none⟩) 4 4, .pointer (some ⟨108, 0, none⟩), .pointer (some ⟨108, 0, none⟩), .pointer (some ⟨108, 4, none⟩), I 0, .bool true, .pointer (some ⟨108, 0, none⟩), .bool true, .bool false, .pointer (some ⟨108, 0, none⟩), .pointer (some ⟨108, 0, none⟩), .pointer (some ⟨108, 1, none⟩), I 137, .pointer (some ⟨108, 0, none⟩), .pointer (some ⟨108, 0, none⟩), .pointer (some ⟨108, 0, none⟩), .string scanText, I 137, .bool true, .pointer (some ⟨108, 0, none⟩), .agg #[I 0, .string ⟨#[]⟩, I 0, .string ⟨#[]⟩, I 0, I 0, .bool false], .pointer (some ⟨108, 0, none⟩), .pointer (some ⟨108, 0, none⟩), .pointer (some ⟨108, 1, none⟩), I 137, .bool false, undef, .pointer (some ⟨108, 0, none⟩), .pointer (some ⟨108, 0, none⟩), .pointer (some ⟨108, 3, none⟩), .slice (some ⟨597, 0, none⟩) 50 0, I 50, .bool false] ++ List.replicate 6 undef ++ [.slice (some ⟨128, 0, none⟩) 4 4, .func (.func 89) #[] #[.pointer (some ⟨126, 0, none⟩), .pointer (some ⟨598, 0, none⟩)], .bool true, .bool false] ++ List.replicate 6 undef,
  [(613, .cells tkL.toArray 59 (0, 0)),
   (125, .cells #[I 0, I 12, I 38, I 119, I 137] 3 (0, 0)),
   (108, .cells #[.string scanText, I 137, .slice (some ⟨125, 0, none⟩) 5 0, .slice (some ⟨613, 0, none⟩) 52 0, I 0, I 0] 108 (0, 0))], 614⟩
noncomputable def scanV : Value := .tuple #[.slice (some ⟨613, 0, none⟩) 52 0, I 0, I 0, I 0]
noncomputable def scanF : Go.Dam.Lit :=
 ⟨[],
  [(613, .cells tkL.toArray 59 (0, 0))], 614⟩
def dTab : List (FuncId × List Value × Value) :=
 [(67, [.string ⟨#[56]⟩], .tuple #[.agg #[I 3, I 0], I 0]),
  (67, [.string ⟨#[52]⟩], .tuple #[.agg #[I 2, I 0], I 0]),
  (67, [.string ⟨#[50, 46]⟩], .tuple #[.agg #[I 1, I 1], I 0])]
def fsE : Nat := 2 ^ 286 - 1 - 2 ^ 67
def fsC : Nat := 2 ^ 286 - 1 - 2 ^ 67 - 2 ^ 20
def fsO : Nat := 2 ^ 286 - 1 - 2 ^ 67 - 2 ^ 20 - 2 ^ 136 - 2 ^ 16
noncomputable def runsTo (orc : FuncId -> List Value -> St -> Option (Value × St)) (fs : Nat) (t : Go.Dam.Told) : Bool :=
 match evCall orc Tryz.prog fs 3000 40 (.func t.f) t.args ⟨t.heap, t.nx⟩ with
 | some (v, S') => veq t.v v && Nat.beq t.nx' S'.next && within S'.heap t.out
 | none => false
noncomputable def told870x136 : Go.Dam.Told :=
 ⟨136, [.pointer (some ⟨104, 0, none⟩)],
  [(613, .cells tkL.toArray 59 (0, 0)), (104, .cells #[.slice (some ⟨613, 0, none⟩) 52 0, I 14, I 0, I 0, I 0, .bool false, I 0, I 3, .map (some 102)] 133 (0, 0)), (102, .map #[⟨I 0, I 3, 0⟩] 1)], 870,
  .agg #[.slice none 0 0, .slice (some ⟨1816, 0, none⟩) 1 1],
  [(1816, .cells #[.slice (some ⟨1781, 0, none⟩) 5 0, .slice (some ⟨905, 0, none⟩) 1 0] 48 (0, 0)), (1781, .cells #[I 0, I 4, I 1, I 3, I 0, .slice (some ⟨1024, 0, none⟩) 1 1, .slice none 0 0, I 0, I 0, I 0, .slice none 0 0, I 0, I 0, I 0, I 5, I 1, I 3, I 0, .slice (some ⟨1182, 0, none⟩) 1 1, .slice none 0 0, I 0, I 0, I 0, .slice none 0 0, I 0, I 0, I 0, I 6, I 1, I 3, I 0, .slice (some ⟨1340, 0, none⟩) 1 1, .slice none 0 0, I 0, I 0, I 0, .slice none 0 0, I 0, I 0, I 0, I 7, I 1, I 2, I 0, .slice (some ⟨1583, 0, none⟩) 2 0, .slice none 0 0, I 4, I 0, I 5, .slice (some ⟨1689, 0, none⟩) 1 0, I 0, I 0, I 0, I 8, I 2, I 2, I 0, .slice none 0 0, .slice none 0 0, I 0, I 0, I 0, .slice none 0 0, I 0, I 0] 31 (0, 0)), (1689, .cells #[.string ⟨#[108, 97]⟩, I 0] 147 (0, 0)), (1583, .cells #[I 0, I 0, I 5, .bool true, I 0, I 2, I 0, I 5, .bool false, I 0] 80 (0, 0)), (1340, .cells #[I 6, I 0, I 4, .bool false, I 0] 80 (0, 0)), (1182, .cells #[I 5, I 0, I 4, .bool false, I 0] 80 (0, 0)), (1024, .cells #[I 4, I 0, I 4, .bool false, I 0] 80 (0, 0)), (905, .cells #[I 0, I 3, I 3, I 2] 100 (0, 0)), (613, .cells tkL.toArray 59 (0, 0)), (104, .cells #[.slice (some ⟨613, 0, none⟩) 52 0, I 43, I 0, I 0, I 0, .bool false, I 0, I 8, .map (some 102)] 133 (0, 0)), (102, .map #[⟨I 0, I 8, 0⟩] 1)], 1822⟩
noncomputable def told940x20 : Go.Dam.Told :=
 ⟨20, [.pointer (some ⟨104, 0, none⟩)],
  [(613, .cells tkL.toArray 59 (0, 0)), (104, .cells #[.slice (some ⟨613, 0, none⟩) 52 0, I 18, I 0, I 0, I 0, .bool false, I 0, I 3, .map (some 102)] 133 (0, 0)), (102, .map #[⟨I 0, I 3, 0⟩] 1)], 940,
  .agg #[I 0, I 4, I 1, I 3, I 0, .slice (some ⟨1024, 0, none⟩) 1 1, .slice none 0 0, I 0, I 0, I 0, .slice none 0 0, I 0, I 0],
  [(1024, .cells #[I 4, I 0, I 4, .bool false, I 0] 80 (0, 0)), (613, .cells tkL.toArray 59 (0, 0)), (104, .cells #[.slice (some ⟨613, 0, none⟩) 52 0, I 21, I 0, I 0, I 0, .bool false, I 0, I 4, .map (some 102)] 133 (0, 0)), (102, .map #[⟨I 0, I 4, 0⟩] 1)], 1060⟩
noncomputable def told1098x20 : Go.Dam.Told :=
 ⟨20, [.pointer (some ⟨104, 0, none⟩)],
  [(613, .cells tkL.toArray 59 (0, 0)), (104, .cells #[.slice (some ⟨613, 0, none⟩) 52 0, I 21, I 0, I 0, I 0, .bool false, I 0, I 4, .map (some 102)] 133 (0, 0)), (102, .map #[⟨I 0, I 4, 0⟩] 1)], 1098,
  .agg #[I 0, I 5, I 1, I 3, I 0, .slice (some ⟨1182, 0, none⟩) 1 1, .slice none 0 0, I 0, I 0, I 0, .slice none 0 0, I 0, I 0],
  [(1182, .cells #[I 5, I 0, I 4, .bool false, I 0] 80 (0, 0)), (613, .cells tkL.toArray 59 (0, 0)), (104, .cells #[.slice (some ⟨613, 0, none⟩) 52 0, I 24, I 0, I 0, I 0, .bool false, I 0, I 5, .map (some 102)] 133 (0, 0)), (102, .map #[⟨I 0, I 5, 0⟩] 1)], 1218⟩
noncomputable def told1256x20 : Go.Dam.Told :=
 ⟨20, [.pointer (some ⟨104, 0, none⟩)],
  [(613, .cells tkL.toArray 59 (0, 0)), (104, .cells #[.slice (some ⟨613, 0, none⟩) 52 0, I 24, I 0, I 0, I 0, .bool false, I 0, I 5, .map (some 102)] 133 (0, 0)), (102, .map #[⟨I 0, I 5, 0⟩] 1)], 1256,
  .agg #[I 0, I 6, I 1, I 3, I 0, .slice (some ⟨1340, 0, none⟩) 1 1, .slice none 0 0, I 0, I 0, I 0, .slice none 0 0, I 0, I 0],
  [(1340, .cells #[I 6, I 0, I 4, .bool false, I 0] 80 (0, 0)), (613, .cells tkL.toArray 59 (0, 0)), (104, .cells #[.slice (some ⟨613, 0, none⟩) 52 0, I 27, I 0, I 0, I 0, .bool false, I 0, I 6, .map (some 102)] 133 (0, 0)), (102, .map #[⟨I 0, I 6, 0⟩] 1)], 1376⟩
noncomputable def told1436x20 : Go.Dam.Told :=
 ⟨20, [.pointer (some ⟨104, 0, none⟩)],
  [(613, .cells tkL.toArray 59 (0, 0)), (104, .cells #[.slice (some ⟨613, 0, none⟩) 52 0, I 28, I 0, I 0, I 0, .bool false, I 0, I 6, .map (some 102)] 133 (0, 0)), (102, .map #[⟨I 0, I 6, 0⟩] 1)], 1436,
  .agg #[I 0, I 7, I 1, I 2, I 0, .slice (some ⟨1583, 0, none⟩) 2 0, .slice none 0 0, I 4, I 0, I 5, .slice (some ⟨1689, 0, none⟩) 1 0, I 0, I 0],
  [(1689, .cells #[.string ⟨#[108, 97]⟩, I 0] 147 (0, 0)), (1583, .cells #[I 0, I 0, I 5, .bool true, I 0, I 2, I 0, I 5, .bool false, I 0] 80 (0, 0)), (613, .cells tkL.toArray 59 (0, 0)), (104, .cells #[.slice (some ⟨613, 0, none⟩) 52 0, I 40, I 0, I 0, I 0, .bool false, I 0, I 7, .map (some 102)] 133 (0, 0)), (102, .map #[⟨I 0, I 7, 0⟩] 1)], 1696⟩
noncomputable def told1722x20 : Go.Dam.Told :=
 ⟨20, [.pointer (some ⟨104, 0, none⟩)],
  [(613, .cells tkL.toArray 59 (0, 0)), (104, .cells #[.slice (some ⟨613, 0, none⟩) 52 0, I 40, I 0, I 0, I 0, .bool false, I 0, I 7, .map (some 102)] 133 (0, 0)), (102, .map #[⟨I 0, I 7, 0⟩] 1)], 1722,
  .agg #[I 0, I 8, I 2, I 2, I 0, .slice none 0 0, .slice none 0 0, I 0, I 0, I 0, .slice none 0 0, I 0, I 0],
  [(613, .cells tkL.toArray 59 (0, 0)), (104, .cells #[.slice (some ⟨613, 0, none⟩) 52 0, I 43, I 0, I 0, I 0, .bool false, I 0, I 8, .map (some 102)] 133 (0, 0)), (102, .map #[⟨I 0, I 8, 0⟩] 1)], 1778⟩
noncomputable def told1960x136 : Go.Dam.Told :=
 ⟨136, [.pointer (some ⟨104, 0, none⟩)],
  [(613, .cells tkL.toArray 59 (0, 0)), (104, .cells #[.slice (some ⟨613, 0, none⟩) 52 0, I 46, I 0, I 0, I 0, .bool false, I 0, I 9, .map (some 102)] 133 (0, 0)), (102, .map #[⟨I 0, I 9, 0⟩] 1)], 1960,
  .agg #[.slice none 0 0, .slice (some ⟨2164, 0, none⟩) 1 1],
  [(2164, .cells #[.slice (some ⟨2129, 0, none⟩) 1 0, .slice none 0 0] 48 (0, 0)), (2129, .cells #[I 0, I 10, I 1, I 1, I 1, .slice (some ⟨2088, 0, none⟩) 1 1, .slice none 0 0, I 0, I 0, I 0, .slice none 0 0, I 0, I 0] 31 (0, 0)), (2088, .cells #[I 0, I 0, I 5, .bool false, I 0] 80 (0, 0)), (613, .cells tkL.toArray 59 (0, 0)), (104, .cells #[.slice (some ⟨613, 0, none⟩) 52 0, I 50, I 0, I 0, I 0, .bool false, I 0, I 10, .map (some 102)] 133 (0, 0)), (102, .map #[⟨I 0, I 10, 0⟩] 1)], 2170⟩
noncomputable def told2004x20 : Go.Dam.Told :=
 ⟨20, [.pointer (some ⟨104, 0, none⟩)],
  [(613, .cells tkL.toArray 59 (0, 0)), (104, .cells #[.slice (some ⟨613, 0, none⟩) 52 0, I 46, I 0, I 0, I 0, .bool false, I 0, I 9, .map (some 102)] 133 (0, 0)), (102, .map #[⟨I 0, I 9, 0⟩] 1)], 2004,
  .agg #[I 0, I 10, I 1, I 1, I 1, .slice (some ⟨2088, 0, none⟩) 1 1, .slice none 0 0, I 0, I 0, I 0, .slice none 0 0, I 0, I 0],
  [(2088, .cells #[I 0, I 0, I 5, .bool false, I 0] 80 (0, 0)), (613, .cells tkL.toArray 59 (0, 0)), (104, .cells #[.slice (some ⟨613, 0, none⟩) 52 0, I 50, I 0, I 0, I 0, .bool false, I 0, I 10, .map (some 102)] 133 (0, 0)), (102, .map #[⟨I 0, I 10, 0⟩] 1)], 2126⟩
end Go.Proofs.YtgkhemnmcgicnaaGreatDoor
