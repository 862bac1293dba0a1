/- An own evaluator of closed runs of a program, proved sound against the model: one part of it. -/
import Derived.Test.YtgkhemnmcgicnaaGreatDoorG17
import Derived.KernelRfl
import Derived.TacticsIn
import Derived.OrdersIn
import Derived.RangeFuncSeq
namespace Go.Dam
def rM (P : Program) (E : bV) (A : Nat -> Prop) : Prop := ∀ g, g < P.globals.size -> E.β (2 * g) = g /\ E.σ (2 * g) = 0 /\ A (2 * g)
structure Tm (E : bV) (A : Nat -> Prop) (tm : List Value) (a : Act) : Prop where
 tmps : a.tmps = (tm.map (aK E)).toArray
 sc : ∀ x ∈ tm, Sc A x
def rd (r : Option Nat) : Fence := { Fence.wide with round := r }
theorem wM (r : Option Nat) : (rd r).depth.isSome = true -> 1 <= 0 := fun h => by simp [rd, Fence.wide] at h
theorem B8 {r : Option Nat} {P : Program} {f : FuncId} {args : Array Value} {w : World} {R : Ending -> World -> Prop} (h : Calls P f args w R) : CallsIn (rd r) 0 P f args w R :=
 (callsIn_wide (n := 0)).2 h
theorem TA {r : Option Nat} {P : Program} {l : Nat} {f : FuncId} {tmps : Array Value} {assign body : Code} {w : World} {R : Ending -> World -> Prop} (h : RoundIn Fence.wide 0 P l f tmps assign body w R) : RoundIn (rd r) 0 P l f tmps assign body w R := h
def TB (P : Program) (E : bV) (F : Fn) (args : Array Value) (w : World) (R : Ending -> World -> Prop) : Prop :=
 match F with
 | .func g => Calls P g args w R
 | .yield l => YieldAt Fence.wide 0 P (E.β l) args w R
 | _ => False
def gE (P : Program) (callF : Fn -> List Value -> St -> Option (Value × St)) : Prop :=
 ∀ f args S v S', callF f args S = some (v, S') -> ∀ (E : bV) (A : Nat -> Prop) (w : World), rM P E A -> S.next % 2 = 0 -> (∀ x ∈ args, Sc A x) -> aV P E A S.heap w ->
  (∀ n, A n -> ¬ (S.next <= n /\ n < S'.next)) ->
  TB P E f (args.map (aK E)).toArray w fun e w' => ∃ E', e = .returned (aK E' v) /\ aX P E A S.heap S.next w E' S'.heap S'.next w' /\ Sc (fun n => A n \/ (S.next <= n /\ n < S'.next)) v
section
variable {P : Program} {E : bV} {A : Nat -> Prop} {tm : List Value} {a : Act} {w : World}
theorem wN : ∀ (l : List Value) (n : Nat), tN l n = l[n]?.getD undef
 | [], _ => rfl
 | _ :: _, 0 => rfl
 | _ :: r, n + 1 => by simpa [tN] using wN r n
theorem wP (ht : Tm E A tm a) (hg : rM P E A) {x : Operand} (hx : pD P x = true) : a.eval x = aK E (aH tm x) /\ Sc A (aH tm x) := by
 cases x with
 | tmp t =>
  simp only [Act.eval, aH, wN, ht.tmps]
  cases hv : tm[t]? with
  | none => simp [hv, iV, l6]
  | some v => simp [hv]; exact ht.sc v (yyd hv)
 | const v => exact ⟨(iW E hx).symm, sE A hx⟩
 | global g =>
  obtain ⟨h1, h2, h3⟩ := hg g (ye hx)
  simp only [Act.eval, aH, cF, kZ, bV.addr, h1, h2]
  exact ⟨trivial, h3⟩
 | func f =>
  simp only [Act.eval, aH, fN, mR]
  exact ⟨by simp, by simp, by simp⟩
theorem nG {o : Oper} {r : Option Nat} {K : Act -> World -> Prop} {Q : Exit -> Act -> World -> Prop} (hd : ∀ c, o.op ≠ .defer c) (h : o.uponIn (rd r) 0 P a K Q ((execOp a.eval o).run P w)) : o.wpIn (rd r) 0 P a w K Q :=
 ⟨fun _ _ => trivial, by rw [Oper.semAt_eq _ _ _ hd]; exact h⟩
theorem upon_value {o : Oper} {r : Option Nat} {K : Act -> World -> Prop} {Q : Exit -> Act -> World -> Prop} {v : Value} {w' : World} (hd : ∀ c, o.op ≠ .defer c) (hr : (execOp a.eval o).run P w = .ok (.value v) w') (hK : K (a.put o.dst v) w') : o.wpIn (rd r) 0 P a w K Q :=
 nG hd (by rw [hr]; exact hK)
theorem RA {o : Oper} {r : Option Nat} {K : Act -> World -> Prop} {Q : Exit -> Act -> World -> Prop} {w' : World} (hd : ∀ c, o.op ≠ .defer c) (hr : (execOp a.eval o).run P w = .ok .skip w') (hK : K (a.put o.dst undef) w') : o.wpIn (rd r) 0 P a w K Q :=
 nG hd (by rw [hr]; exact hK)
def cG (P : Program) (E : bV) (A : Nat -> Prop) (o : Oper) (a : Act) (h : List (Nat × Obj)) (nx : Nat) (w : World) (v : Value) (h' : List (Nat × Obj)) (nx' : Nat) : Prop :=
 (∀ c, o.op ≠ .defer c) -> ∀ (r : Option Nat) (K : Act -> World -> Prop) (Q : Exit -> Act -> World -> Prop),
  (∀ E' w', aX P E A h nx w E' h' nx' w' -> Sc (fun n => A n \/ (nx <= n /\ n < nx')) v -> K (a.put o.dst (aK E' v)) w') -> o.wpIn (rd r) 0 P a w K Q
theorem cG.value {o : Oper} {h h' : List (Nat × Obj)} {nx nx' : Nat} {v : Value} {E' : bV} {w' : World} (hr : (execOp a.eval o).run P w = .ok (.value (aK E' v)) w') (hp : aX P E A h nx w E' h' nx' w') (hs : Sc (fun n => A n \/ (nx <= n /\ n < nx')) v) : cG P E A o a h nx w v h' nx' :=
 fun hd _ _ _ hK => upon_value hd hr (hK E' w' hp hs)
theorem cG.still {o : Oper} {h : List (Nat × Obj)} {nx : Nat} {v : Value} (H : aV P E A h w) (hr : (execOp a.eval o).run P w = .ok (.value (aK E v)) w) (hs : Sc A v) : cG P E A o a h nx w v h nx :=
 cG.value hr (aX.refl H) (kX hs)
theorem cG.skip {o : Oper} {h h' : List (Nat × Obj)} {nx nx' : Nat} {E' : bV} {w' : World} (hr : (execOp a.eval o).run P w = .ok .skip w') (hp : aX P E A h nx w E' h' nx' w') : cG P E A o a h nx w undef h' nx' :=
 fun hd _ _ _ hK => RA hd hr (by have := hK E' w' hp (l6 _); rw [iV] at this; exact this)
theorem RB {o : Oper} {v : Value} (hops : ∀ x ∈ o.op.operands, a.eval x = aH tm x) (hsel : ∀ cs b, o.op ≠ .select cs b) (hb : j8 P tm o = some v) (w : World) :
  (execOp a.eval o).run P w = .ok (.value v) w /\ plain v = true := by
 unfold j8 at hb
 split at hb
 ·rename_i v' hp
  simp only [yb, ya] at hb
  obtain ⟨h1, rfl⟩ := hb
  rw [execOp_congr o hsel hops]
  exact ⟨dW hp w, h1⟩
 ·simp at hb
theorem cG.pure {o : Oper} {h : List (Nat × Obj)} {nx : Nat} {v : Value} (H : aV P E A h w) (hops : ∀ x ∈ o.op.operands, a.eval x = aK E (aH tm x)) (hpl : ∀ x ∈ o.op.operands, plain (aH tm x) = true)
  (hsel : ∀ cs b, o.op ≠ .select cs b) (hb : j8 P tm o = some v) : cG P E A o a h nx w v h nx := by
 obtain ⟨h1, h2⟩ := RB (P := P) (a := a) (tm := tm) (fun x hx => by rw [hops x hx, iW E (hpl x hx)]) hsel hb w
 exact cG.still H (by rw [h1, iW E h2]) (sE A h2)
theorem EX {ps : Array (Nat × Operand)} (hops : ∀ p ∈ ps, a.eval p.2 = aK E (aH tm p.2)) : (ps.map fun (i, x) => (i, a.eval x)) = (jV tm ps).map (DX E) := by
 apply yl
 simp only [jV, yyj, List.map_map]
 refine yp fun p hp => ?_
 obtain ⟨i, x⟩ := p
 simp only [Function.comp_apply, DX]
 rw [hops (i, x) (by simpa using hp)]
theorem EY {ps : Array (Nat × Operand)} (hsc : ∀ p ∈ ps, Sc A (aH tm p.2)) : ∀ p ∈ jV tm ps, Sc A p.2 := by
 intro p hp
 simp only [jV, yyk, yw] at hp
 obtain ⟨q, hq, rfl⟩ := hp
 exact hsc q (by simpa using hq)
theorem tU {xs : Array Operand} (hops : ∀ x ∈ xs, a.eval x = aK E (aH tm x)) : xs.map a.eval = ((xs.toList.map (aH tm)).map (aK E)).toArray := by
 apply yl
 simp only [yyj, List.map_map]
 exact yp fun x hx => hops x (by simpa using hx)
theorem AY {c : Call} {b : Builtin} {t : TypeId} (hc : c.callee = .builtin b) (hops : ∀ x ∈ c.args, a.eval x = aK E (aH tm x)) :
  resolve a.eval c t = pure { target := .builtin b c.argTypes t (c.args.map fun | .const _ => true | _ => false), args := ((c.args.toList.map (aH tm)).map (aK E)).toArray } := by
 unfold resolve
 rw [tU hops, hc]
 rfl
theorem D2 {c : Call} {f : Operand} {t : TypeId} {l : Nat} (hc : c.callee = .value f) (hf : a.eval f = .func (.yield l) #[] #[]) (hops : ∀ x ∈ c.args, a.eval x = aK E (aH tm x)) :
  resolve a.eval c t = pure { target := .fn (.yield l) #[], args := ((c.args.toList.map (aH tm)).map (aK E)).toArray } := by
 unfold resolve
 rw [tU hops, hc]
 simp [hf, Deferred.ofValue]
theorem uG {c : Call} {f : Operand} {t : TypeId} {g : FuncId} {first captured : Array Value} (hc : c.callee = .value f) (hf : a.eval f = .func (.func g) first captured) (hops : ∀ x ∈ c.args, a.eval x = aK E (aH tm x)) :
  resolve a.eval c t = pure { target := .fn (.func g) captured, args := first ++ ((c.args.toList.map (aH tm)).map (aK E)).toArray } := by
 unfold resolve
 rw [tU hops, hc]
 simp only [hf, Deferred.ofValue]
def GU (fn : Func) : Bool := !(fn.name == "runtime.NumGoroutine")
theorem gZ {g : FuncId} {fn : Func} {args : Array Value} (hg : P.funcs[g]? = some fn) (hb : fn.body.isSome = true) (hn : GU fn = true) (w : World) :
  (callFunc g args).run P w = .ok (.enter g args) w := by
 have hb' : fn.body.isNone = false := by cases h : fn.body <;> simp_all
 have hn' : (fn.name == "runtime.NumGoroutine") = false := by simpa [GU] using hn
 simp only [callFunc, Sem.run_bind, run_program, Result.andThen_ok, hg, hn', hb', ym, if_false, Sem.run_pure]
theorem kD {α : Type} {l : List (String × α)} {k : String} (h : (l.lookup k).isNone = true) : l.lookup k = none := by simpa using h
theorem D4 : Extern.allNextRows.lookup "internal/abi.NoEscape" = none := kD (by kernel_rfl)
theorem B9 : Extern.allNextRows.lookup "" = none := kD (by kernel_rfl)
theorem yJ : Extern.allGenericRows.lookup "internal/abi.NoEscape" = none := kD (by kernel_rfl)
theorem CA : Extern.allTypedRows.lookup "internal/abi.NoEscape" = none := kD (by kernel_rfl)
theorem GV : Extern.allRows.lookup "internal/abi.NoEscape" = some Extern.AbiNoEscape.same := by kernel_rfl
theorem AZ : Extern.allNextRows.lookup "internal/bytealg.MakeNoZero" = none := kD (by kernel_rfl)
theorem vD : Extern.allGenericRows.lookup "internal/bytealg.MakeNoZero" = none := kD (by kernel_rfl)
theorem yK : Extern.allTypedRows.lookup "internal/bytealg.MakeNoZero" = some Extern.BytealgMakeNoZero.makeNoZero := by kernel_rfl
theorem rH {g : FuncId} {fn : Func} {x : Value} (hg : P.funcs[g]? = some fn) (hb : fn.body = none) (hn : fn.name = "internal/abi.NoEscape") (ho : fn.origin = "") (w : World) :
  (callFunc g #[x]).run P w = .ok (.value x) w := by
 have h1 : Extern.findNext fn = none := by simp [Extern.findNext, hn, ho, D4, B9]
 have h2 : Extern.find fn = some Extern.AbiNoEscape.same := by simp [Extern.find, hn, yJ, CA, GV]
 have hn' : (fn.name == "runtime.NumGoroutine") = false := by rw [hn]; decide
 simp only [callFunc, Sem.run_bind, run_program, Result.andThen_ok, hg, hn', ym, if_false, hb, Option.isNone_none, if_true, run_mark, h1, h2, Sem.run_pure]
 rfl
theorem pJ {g : FuncId} {fn : Func} {x v : Value} {w w' : World} (hg : P.funcs[g]? = some fn) (hb : fn.body = none) (hn : fn.name = "internal/bytealg.MakeNoZero") (ho : fn.origin = "")
  (hr : (Extern.BytealgMakeNoZero.makeNoZero fn.params fn.resultTypes #[x]).run P w = .ok v w') :
  (callFunc g #[x]).run P w = .ok (.value v) w' := by
 have h1 : Extern.findNext fn = none := by simp [Extern.findNext, hn, ho, AZ, B9]
 have h2 : Extern.find fn = some (Extern.BytealgMakeNoZero.makeNoZero fn.params fn.resultTypes) := by simp [Extern.find, hn, vD, yK]
 have hn' : (fn.name == "runtime.NumGoroutine") = false := by rw [hn]; decide
 simp only [callFunc, Sem.run_bind, run_program, Result.andThen_ok, hg, hn', ym, if_false, hb, Option.isNone_none, if_true, run_mark, h1, h2, Sem.run_pure, hr]
end
section
variable {P : Program} {E : bV} {A : Nat -> Prop} {tm : List Value} {a : Act} {w : World}
theorem CB {callF : Fn -> List Value -> St -> Option (Value × St)} (hcf : gE P callF) {o : Oper} {g : FuncId} {args : List Value} {S S' : St} {v : Value} (hg : rM P E A) (hev : S.next % 2 = 0) (H : aV P E A S.heap w)
  (hsc : ∀ x ∈ args, Sc A x) (hA : ∀ n, A n -> ¬ (S.next <= n /\ n < S'.next)) (hb : callF (.func g) args S = some (v, S')) (hr : (execOp a.eval o).run P w = .ok (.enter g (args.map (aK E)).toArray) w) :
  cG P E A o a S.heap S.next w v S'.heap S'.next := by
 intro hd r K Q hK
 refine nG hd ?_
 rw [hr]
 refine ⟨wM r, (B8 (hcf (.func g) args S v S' hb E A w hg hev hsc H hA)).mono ?_⟩
 rintro e w' ⟨E', rfl, h1, h2⟩
 exact hK E' w' h1 h2
theorem KF {callF : Fn -> List Value -> St -> Option (Value × St)} (hcf : gE P callF) {o : Oper} {l : Nat} {args : List Value} {S S' : St} {v : Value} (hg : rM P E A) (hev : S.next % 2 = 0) (H : aV P E A S.heap w)
  (hsc : ∀ x ∈ args, Sc A x) (hA : ∀ n, A n -> ¬ (S.next <= n /\ n < S'.next)) (hb : callF (.yield l) args S = some (v, S')) (hr : execOp a.eval o = Instr.yield (E.β l) (args.map (aK E)).toArray) :
  cG P E A o a S.heap S.next w v S'.heap S'.next := by
 intro hd r K Q hK
 refine nG hd ?_
 obtain ⟨fn, tmps, assign, body, hy, hR⟩ := hcf (.yield l) args S v S' hb E A w hg hev hsc H hA
 rw [hr, hy]
 refine ⟨wM r, (TA hR).mono ?_⟩
 rintro e w' ⟨E', rfl, h1, h2⟩
 exact hK E' w' h1 h2
theorem aR {o : Oper} {s : Sem Value} {v : Value} {w' : World} (he : execOp a.eval o = (do pure (.value (<- s)))) (hr : s.run P w = .ok v w') : (execOp a.eval o).run P w = .ok (.value v) w' := by
 rw [he]; simp [hr]
theorem sP {o : Oper} {s : Sem Unit} {w' : World} (he : execOp a.eval o = (do s; pure .skip)) (hr : s.run P w = .ok () w') : (execOp a.eval o).run P w = .ok .skip w' := by
 rw [he]; simp [hr]
theorem zW {op : BinOp} {t : TypeId} {x y : Operand} {u v : Value} (hu : ∀ cs, u ≠ .agg cs) (hn : u ≠ .nilIface) (w : World) : (eqGuard op t x y u v).run P w = .ok () w := by
 unfold eqGuard
 cases u <;> first | exact absurd rfl hn | exact absurd rfl (hu _) | (split <;> rfl)
theorem CC {t : TypeId} {x y : Value} {b : Bool} (h : SY P t x y = some b) : (∀ cs, aK E x ≠ .agg cs) /\ aK E x ≠ .nilIface /\
  binOp .eql t (aK E x) (aK E y) = (do pure (.bool (<- Op.equal t (aK E x) (aK E y)))) /\ binOp .neq t (aK E x) (aK E y) = (do pure (.bool (!(<- Op.equal t (aK E x) (aK E y))))) := by
 unfold SY at h
 have key : ∀ (u v : Value), ((∃ p, u = .pointer p) \/ (∃ p l c, u = .slice p l c) \/ (∃ p, u = .map p) \/ u = .nilFunc \/ (∃ f a b, u = .func f a b) \/ (∃ t v, u = .iface t v)) ->
   (∀ cs, u ≠ .agg cs) /\ u ≠ .nilIface /\ binOp .eql t u v = (do pure (.bool (<- Op.equal t u v))) /\ binOp .neq t u v = (do pure (.bool (!(<- Op.equal t u v)))) := by
  intro u v hu
  rcases hu with ⟨p, rfl⟩ | ⟨p, l, c, rfl⟩ | ⟨p, rfl⟩ | rfl | ⟨f, a, b, rfl⟩ | ⟨t, v, rfl⟩
  all_goals exact ⟨by simp, by simp, by simp [binOp], by simp [binOp]⟩
 split at h
 ·split at h <;> first | (simp at h; done) | skip
  all_goals exact key _ _ (.inl (by first | exact ⟨_, fD E⟩ | exact ⟨_, cF E _⟩))
 ·split at h <;> first | (simp at h; done) | skip
  all_goals exact key _ _ (.inr (.inl (by first | exact ⟨_, _, _, bY E _ _⟩ | exact ⟨_, _, _, bL E _ _ _⟩)))
 ·split at h <;> first | (simp at h; done) | skip
  all_goals exact key _ _ (.inr (.inr (.inl (by first | exact ⟨_, fE E⟩ | exact ⟨_, jL E _⟩))))
 ·split at h <;> first | (simp at h; done) | skip
  all_goals exact key _ _ (.inr (.inr (.inr (by first | exact .inl (iG E) | exact .inr (.inl ⟨_, _, _, fN E _ _ _⟩)))))
 ·split at h <;> first | (simp at h; done) | skip
  all_goals exact key _ _ (.inr (.inr (.inr (.inr (.inr ⟨_, _, gS E _ _⟩)))))
 ·simp at h
theorem CD {first captured : Array Value} {xs : List Value} {fn : Fn} (h1 : Sc A (.func fn first captured)) (h2 : ∀ x ∈ xs, Sc A x) : ∀ x ∈ first.toList ++ xs ++ captured.toList, Sc A x := by
 rw [mR] at h1
 intro x hx
 rcases yy.1 hx with hx | hx
 ·rcases yy.1 hx with hx | hx
  ·exact h1.2.1 x (by simpa using hx)
  ·exact h2 x hx
 ·exact h1.2.2 x (by simpa using hx)
theorem fQ : ∀ {l : List Operand}, cB tm l = true -> ∀ x ∈ l, plain (aH tm x) = true
 | [], _ => by simp
 | y :: r, h => by
  simp [cB] at h
  intro x hx
  rcases yk.1 hx with rfl | hx
  ·exact h.1
  ·exact fQ h.2 x hx
end
end Go.Dam
