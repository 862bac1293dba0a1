/- An own evaluator of closed runs of a program, proved sound against the model: one part of it. -/
import Derived.Test.YtgkhemnmcgicnaaGreatDoorG12
import Derived.Test.YtgkhemnmcgicnaaGreatDoorG19
namespace Go.Dam
def GC (n : Nat) : Bool := Nat.beq (n % 2) 0
def eG : List Nat -> Nat -> Nat
 | [], _ => 0
 | x :: _, 0 => x
 | _ :: r, n + 1 => eG r n
def kY : List (List (Nat × Obj)) -> Nat -> List (Nat × Obj)
 | [], _ => []
 | x :: _, 0 => x
 | _ :: r, n + 1 => kY r n
def p8 (f : Nat -> Oper -> Bool) : Nat -> List Oper -> Bool
 | _, [] => true
 | k, o :: r => f k o && p8 f (k + 1) r
def S8 : Nat -> (Nat -> Bool) -> Bool
 | 0, f => f 0
 | n + 1, f => f (n + 1) && S8 n f
def yB (ms : List Nat) (o : Oper) : Nat := o.after.toList.foldl (fun s e => if Region.binds .any e = true then s ||| (2 ^ e.on) ||| eG ms e.on else s) 0
def eA : List Oper -> List Nat -> List Nat
 | [], acc => acc
 | o :: r, acc => eA r (acc ++ [yB acc o])
def p9 (ms : List Nat) : List Nat -> Nat -> Nat -> Bool
 | e :: r, k + 1, j => Nat.testBit (eG ms e) j || p9 ms r k j
 | _, _, _ => false
def own (p : Nat -> Bool) : List (Nat × Nat × Obj) -> List (Nat × Obj)
 | [] => []
 | (j, n, o) :: r => if p j = true then (n, o) :: own p r else own p r
def vZ : Option Nat -> Option Nat -> Bool
 | some a, some b => Nat.beq a b
 | _, _ => false
def u9 (ms : List Nat) (ops : List Oper) (i t : Nat) : Bool :=
 p8 (fun l o => !(vZ o.dst (some t)) || Nat.beq l i || Nat.testBit (eG ms i) l || Nat.testBit (eG ms l) i) 0 ops
def ER (ms : List Nat) (ops : List Oper) (i : Nat) : Operand -> Bool
 | .tmp t => u9 ms ops i t
 | _ => true
def rZ (ms : List Nat) (ops : List Oper) (i : Nat) (o : Oper) : Bool :=
 match o.guard with
 | none => true
 | some (g, _) => match ops[g]? with
  | none => true
  | some p => match p.dst with
   | none => true
   | some d => u9 ms ops i d
def MU (ops : List Oper) : Bool :=
 let ms := eA ops []
 p8 (fun i o => Nat.beq (eG ms i) (yB ms o) && Nat.blt (eG ms i) (2 ^ i) &&
  (o.op.operands.toList.all (ER ms ops i) && rZ ms ops i o) && p8 (fun l o' => Nat.beq i l || !(vZ o.dst o'.dst)) 0 ops) 0 ops
def WD : Value -> Value -> Bool
 | .bool a, .bool b => a == b
 | .int k n, .int k' n' => k == k' && n == n'
 | .string a, .string b => a.data.toList == b.data.toList
 | .pointer none, .pointer none => true
 | .pointer (some ⟨m, off, none⟩), .pointer (some ⟨m', off', none⟩) => Nat.beq m m' && Nat.beq off off'
 | .slice none l c, .slice none l' c' => Nat.beq l l' && Nat.beq c c'
 | .slice (some ⟨m, off, none⟩) l c, .slice (some ⟨m', off', none⟩) l' c' => Nat.beq m m' && Nat.beq off off' && (Nat.beq l l' && Nat.beq c c')
 | .map none, .map none => true
 | .map (some m), .map (some m') => Nat.beq m m'
 | .nilFunc, .nilFunc => true
 | .nilIface, .nilIface => true
 | .iface t (.pointer (some ⟨m, off, none⟩)), .iface t' (.pointer (some ⟨m', off', none⟩)) => Nat.beq t t' && (Nat.beq m m' && Nat.beq off off')
 | .iface t (.int k n), .iface t' (.int k' n') => Nat.beq t t' && (k == k' && n == n')
 | _, _ => false
def GD : List Value -> List Value -> Bool
 | [], [] => true
 | a :: r, b :: s => WD a b && GD r s
 | _, _ => false
def MV : Fn -> Fn -> Bool
 | .func g, .func g' => Nat.beq g g'
 | .yield l, .yield l' => Nat.beq l l'
 | _, _ => false
def WE : Value -> Value -> Bool
 | .agg a, .agg b => GD a.toList b.toList
 | .func f a b, .func f' a' b' => MV f f' && (GD a.toList a'.toList && GD b.toList b'.toList)
 | a, b => WD a b
def wB : List Value -> List Value -> Bool
 | [], [] => true
 | a :: r, b :: s => WE a b && wB r s
 | _, _ => false
def VU : Value -> Value -> Bool
 | .tuple a, .tuple b => wB a.toList b.toList
 | a, b => WE a b
structure JY where
 on : Bool
 tm : List Value
 v : Value
 nx : Nat
 nx' : Nat
structure DR where
 tm : List Value
 nx : Nat
 recs : List JY
 al : List (Nat × Nat × Obj)
 es : List Nat
 hs : List (List (Nat × Obj))
def seen (ms : List Nat) (es : List Nat) (hs : List (List (Nat × Obj))) (al : List (Nat × Nat × Obj)) (i k : Nat) : List (Nat × Obj) :=
 own (fun j => Nat.testBit (eG ms i) j && !p9 ms es k j) al ++ kY hs k
def ES (callF : Fn -> List Value -> St -> Option (Value × St)) (P : Program) (ops : List Oper) (ms : List Nat) (i : Nat) (o : Oper) (R : DR) : Option DR :=
 if pZ ops R.tm o = true then
  match kind o.op with
  | 3 =>
   if (R.es.all fun e => Nat.testBit (eG ms i) e) = true then
    match bQ callF P R.tm ⟨seen ms R.es R.hs R.al i R.es.length, R.nx⟩ o with
    | some (v, S') => if (Nat.ble R.nx S'.next && GC S'.next) = true then some ⟨n7 R.tm o.dst v, S'.next, R.recs ++ [⟨true, R.tm, v, R.nx, S'.next⟩], R.al, R.es ++ [i], R.hs ++ [S'.heap]⟩ else none
    | none => none
   else none
  | 2 =>
   match bQ callF P R.tm ⟨[], R.nx⟩ o with
   | some (v, ⟨[(n, b)], nx⟩) => if (Nat.ble R.nx nx && GC nx) = true then some ⟨n7 R.tm o.dst v, nx, R.recs ++ [⟨true, R.tm, v, R.nx, nx⟩], R.al ++ [(i, n, b)], R.es, R.hs⟩ else none
   | _ => none
  | _ =>
   match bQ callF P R.tm ⟨seen ms R.es R.hs R.al i R.es.length, R.nx⟩ o with
   | some (v, _) => some ⟨n7 R.tm o.dst v, R.nx, R.recs ++ [⟨true, R.tm, v, R.nx, R.nx⟩], R.al, R.es, R.hs⟩
   | none => none
 else some ⟨n7 R.tm o.dst undef, R.nx, R.recs ++ [⟨false, R.tm, undef, R.nx, R.nx⟩], R.al, R.es, R.hs⟩
def JZ (callF : Fn -> List Value -> St -> Option (Value × St)) (P : Program) (ops : List Oper) (ms : List Nat) : Nat -> List Oper -> DR -> Option DR
 | _, [], R => some R
 | i, o :: r, R => match ES callF P ops ms i o R with
  | some R' => JZ callF P ops ms (i + 1) r R'
  | none => none
def GE (callF : Fn -> List Value -> St -> Option (Value × St)) (P : Program) (ms : List Nat) (F : DR) (i : Nat) (o : Oper) (r : JY) (k : Nat) : Bool :=
 p9 ms F.es k i || (F.es.drop k).any (fun e => Nat.testBit (eG ms i) e) ||
  (match bQ callF P r.tm ⟨seen ms F.es F.hs F.al i k, r.nx⟩ o with
   | some (v, _) => VU v r.v
   | none => false)
def wC (callF : Fn -> List Value -> St -> Option (Value × St)) (P : Program) (ms : List Nat) (F : DR) : Nat -> List Oper -> List JY -> Bool
 | _, [], _ => true
 | _, _ :: _, [] => false
 | i, o :: l, r :: rs => (!r.on || !(Nat.beq (kind o.op) 1) || S8 F.es.length (GE callF P ms F i o r)) && wC callF P ms F (i + 1) l rs
def GF (n : Nat) : List (Nat × Nat × Obj) -> Bool
 | [] => true
 | (_, m, _) :: r => !(Nat.beq n m) && GF n r
def qA : List (Nat × Nat × Obj) -> Bool
 | [] => true
 | (_, n, _) :: r => GF n r && qA r
def wD (ms : List Nat) (F : DR) : List (Nat × Nat × Obj) -> Bool
 | [] => true
 | (j, n, _) :: r => S8 F.es.length (fun k => p9 ms F.es k j || (aL (kY F.hs k) n).isNone) && wD ms F r
def sA (callF : Fn -> List Value -> St -> Option (Value × St)) (P : Program) (ops : List Oper) (tm : List Value) (S : St) : Option (List Value × St) :=
 match JZ callF P ops (eA ops []) 0 ops ⟨tm, S.next, [], [], [], [S.heap]⟩ with
 | some F =>
  if wC callF P (eA ops []) F 0 ops F.recs && qA F.al && wD (eA ops []) F F.al then
   some (F.tm, ⟨own (fun j => !p9 (eA ops []) F.es F.es.length j) F.al ++ kY F.hs F.es.length, F.nx⟩)
  else none
 | none => none
def kA : List MapEntry -> List MapEntry -> Bool
 | [], [] => true
 | a :: r, b :: s => VU a.key b.key && VU a.val b.val && Nat.beq a.born b.born && kA r s
 | _, _ => false
def BS : Obj -> Obj -> Bool
 | .map es c, .map es' c' => kA es.toList es'.toList && Nat.beq c c'
 | .cells c e fz, .cells c' e' fz' => wB c.toList c'.toList && Nat.beq e e' && (Nat.beq fz.1 fz'.1 && Nat.beq fz.2 fz'.2)
 | _, _ => false
def sB (h' : List (Nat × Obj)) : List (Nat × Obj) -> Bool
 | [] => true
 | (n, o) :: r => (match aL h' n with | some o' => BS o o' | none => false) && sB h' r
def MW : List Value -> List Value -> Bool
 | [], [] => true
 | a :: r, b :: s => VU a b && MW r s
 | _, _ => false
def tQ (n : Nat) : List (Nat × Obj) -> Bool
 | [] => false
 | (m, _) :: r => Nat.beq m n || tQ n r
def oD (h : List (Nat × Obj)) : List (Nat × Obj) -> List (Nat × Obj)
 | [] => []
 | (n, o) :: r => if tQ n h = true then oD h r else (n, o) :: oD h r
def nA (callF : Fn -> List Value -> St -> Option (Value × St)) (P : Program) (ops : List Oper) : List Oper -> List Value -> St -> Option (List Value × St)
 | [], tm, S => some (tm, S)
 | o :: r, tm, S =>
  if pZ ops tm o = true then
   match bQ callF P tm S o with
   | some (v, S') => if Nat.ble S.next S'.next = true then nA callF P ops r (n7 tm o.dst v) S' else none
   | none => none
  else nA callF P ops r (n7 tm o.dst undef) S
def P3 (P : Program) (l : List Oper) : Bool := p8 (fun _ o => o.op.operands.toList.all (pD P)) 0 l
def dE (P : Program) : Code -> Bool
 | .skip | .exit _ | .ret | .label _ => true
 | .region _ ops d => P3 P ops.toList && (!d || MU ops.toList)
 | .seq a b => dE P a && dE P b
 | .cond x a b => pD P x && (dE P a && dE P b)
 | .block _ b | .loop b | .scope b => dE P b
 | .rangeFunc g _ _ _ => pD P g
 | _ => true
def BT : Code -> Bool
 | .seq a b | .cond _ a b => BT a && BT b
 | .block _ b | .loop b | .scope b => BT b
 | .rangeFunc .. => false
 | _ => true
def GG : LoopState -> Bool
 | .ready => true
 | _ => false
def YF : LoopState -> Bool
 | .busy => true
 | _ => false
def tR (P : Program) (g : FuncId) : Bool :=
 match P.funcs[g]? with
 | some fn => fn.body.isSome
 | none => false
def GH : Option Code -> Option Exit
 | none => some .normal
 | some .ret => some .ret
 | some (.exit j) => some (.exit j)
 | _ => none
def BU : Exit -> Option (Option Code)
 | .normal => some none
 | .ret => some (some .ret)
 | .exit j => some (some (.exit j))
 | _ => none
def mK : List Tmp -> List Value -> List Value -> List Value
 | p :: ps, x :: xs, tm => mK ps xs (jA tm p x)
 | _, _, tm => tm
def evC (callF : Fn -> List Value -> St -> Option (Value × St)) (P : Program) : Nat -> Code -> List Value -> St -> Option (Exit × List Value × St)
 | 0, _, _, _ => none
 | f + 1, c, tm, S =>
  match c with
  | .skip => some (.normal, tm, S)
  | .region _ ops false =>
   match nA callF P ops.toList ops.toList tm S with
   | some (tm', S') => some (.normal, tm', S')
   | none => none
  | .region _ ops true =>
   match sA callF P ops.toList tm S with
   | some (tm', S') => some (.normal, tm', S')
   | none => none
  | .seq a b =>
   match evC callF P f a tm S with
   | some (.normal, tm', S') => evC callF P f b tm' S'
   | r => r
  | .cond x a b =>
   match aH tm x with
   | .bool true => evC callF P f a tm S
   | .bool false => evC callF P f b tm S
   | _ => none
  | .block id b =>
   match evC callF P f b tm S with
   | some (.exit j, tm', S') => if Nat.beq j id = true then some (.normal, tm', S') else some (.exit j, tm', S')
   | r => r
  | .loop b =>
   match evC callF P f b tm S with
   | some (.normal, tm', S') => evC callF P f (.loop b) tm' S'
   | r => r
  | .exit id => some (.exit id, tm, S)
  | .ret => some (.ret, tm, S)
  | .label _ => some (.normal, tm, S)
  | .scope b => evC callF P f b tm S
  | .rangeFunc g ps a9 b =>
   match aH tm g with
   | .func (.func gf) first captured =>
    if first.toList.isEmpty && tR P gf then
     match callF (.func gf) (.func (.yield S.next) #[] #[] :: captured.toList) ⟨(S.next, .loop ⟨.ready, none, 0, tm.toArray, ps, a9, b, 0⟩) :: S.heap, S.next + 2⟩ with
     | some (_, S2) =>
      if Nat.ble (S.next + 2) S2.next then
       match aL S2.heap S.next with
       | some (.loop r) =>
        if YF r.state then none else
        match GH r.pending with
        | some e => some (e, tm, ⟨DV S2.heap S.next, S2.next⟩)
        | none => none
       | _ => none
      else none
     | none => none
    else none
   | _ => none
  | _ => none
def GJ (callF : Fn -> List Value -> St -> Option (Value × St)) (P : Program) (fuel : Nat) (l : Nat) (args : List Value) (S : St) : Option (Value × St) :=
 match aL S.heap l with
 | some (.loop r) =>
  if GG r.state && Nat.beq args.length r.params.size && (BT r.assign && BT r.body) && (dE P r.assign && dE P r.body) then
   match evC callF P fuel r.assign (mK r.params.toList args r.tmps.toList) S with
   | some (.normal, tm1, S1) =>
    match aL S1.heap l with
    | some (.loop r1) =>
     if GG r1.state then
      match evC callF P fuel r.body tm1 ⟨rG S1.heap l (.loop { r1 with state := .busy }), S1.next⟩ with
      | some (e, _, S3) =>
       match aL S3.heap l, BU e with
       | some (.loop r3), some j => some (.bool j.isNone, ⟨rG S3.heap l (.loop { r3 with state := if j.isNone then .ready else .done, pending := j }), S3.next⟩)
       | _, _ => none
      | none => none
     else none
    | _ => none
   | _ => none
  else none
 | _ => none
def iF (orc : FuncId -> List Value -> St -> Option (Value × St)) (P : Program) (fs : Nat) (fuel : Nat) : Nat -> Fn -> List Value -> St -> Option (Value × St)
 | 0, _, _, _ => none
 | d + 1, .yield l, args, S => GJ (iF orc P fs fuel d) P fuel l args S
 | d + 1, .func f, args, S =>
  if Nat.testBit fs f = true then
   match P.funcs[f]? with
   | none => none
   | some fn =>
    match fn.body with
    | none => none
    | some c =>
     match evC (iF orc P fs fuel d) P fuel c (args ++ List.replicate (fn.ntmps - args.length) undef) S with
     | some (.normal, tm, S') | some (.ret, tm, S') =>
      match iE P S'.heap tm fn.results.toList with
      | some vs =>
       let v : Value := match vs with
        | [v] => v
        | vs => .tuple vs.toArray
       if plain v && vY args then some (v, ⟨p7 S.next S'.heap, S'.next⟩) else some (v, S')
      | none => none
     | _ => none
  else orc f args S
 | _ + 1, _, _, _ => none
def jK (P : Program) : Nat -> Nat -> Bool
 | 0, _ => true
 | f + 1, fs => (!(Nat.testBit fs f) || (match P.funcs[f]? with
  | some fn => match fn.body with
   | some c => dE P c
   | none => true
  | none => true)) && jK P f fs
section
variable {P : Program} {tm tm' : List Value} {callF : Fn -> List Value -> St -> Option (Value × St)}
theorem KN {o : Oper} (hsel : ∀ cs b, o.op ≠ .select cs b) (h : ∀ x ∈ o.op.operands, aH tm x = aH tm' x) : j8 P tm o = j8 P tm' o := by
 unfold j8
 rw [execOp_congr o hsel h]
theorem gC : ∀ {l : List Operand}, (∀ x ∈ l, aH tm x = aH tm' x) -> cB tm l = cB tm' l
 | [], _ => rfl
 | x :: r, h => by
  simp only [cB]
  rw [h x (by simp), gC fun y hy => h y (by simp [hy])]
theorem wQ {ps : Array (Nat × Operand)} (h : ∀ x ∈ ps.map (·.2), aH tm x = aH tm' x) : jV tm ps = jV tm' ps := by
 unfold jV
 congr 1
 refine yp fun p hp => ?_
 obtain ⟨i, x⟩ := p
 simp only [yc, true_and]
 exact h x (Array.mem_map.2 ⟨(i, x), by simpa using hp, rfl⟩)
theorem lL {xs : Array Operand} (h : ∀ x ∈ xs, aH tm x = aH tm' x) : xs.toList.map (aH tm) = xs.toList.map (aH tm') :=
 yp fun x hx => h x (by simpa using hx)
theorem wR {S : St} {t : TypeId} {n : Nat} {ps : Array (Nat × Operand)} (h : ∀ x ∈ ps.map (·.2), aH tm x = aH tm' x) : j9 P tm S t n ps = j9 P tm' S t n ps := by
 unfold j9
 rw [wQ h]
theorem KP {S : St} {o : Oper} (hsel : ∀ cs b, o.op ≠ .select cs b) (h : ∀ x ∈ o.op.operands, aH tm x = aH tm' x) : bQ callF P tm S o = bQ callF P tm' S o := by
 have hp : j8 P tm o = j8 P tm' o := KN hsel h
 obtain ⟨dst, op, ty, pos, after, guard⟩ := o
 cases op
 case call c =>
  have hargs : ∀ x ∈ c.args.toList, aH tm x = aH tm' x := fun x hx => h x (by
   simp only [Op.operands, Call.operands]
   cases c.callee <;> simp [by simpa using hx])
  simp only [bQ, hp]
  cases hc : c.callee with
  | builtin b =>
   generalize hxs : c.args.toList = xs at hargs |-
   have hpo := gC hargs
   rcases xs with _ | ⟨x, _ | ⟨y, _ | ⟨z, r⟩⟩⟩
   ·cases b <;> simp only [hpo]
   ·have hx := hargs x (by simp)
    cases b <;> simp only [hpo, hx]
   ·have hx := hargs x (by simp)
    have hy := hargs y (by simp)
    cases b <;> simp only [hpo, hx, hy]
   ·cases b <;> simp only [hpo]
  | value f =>
   have hf : aH tm f = aH tm' f := h f (by simp [Op.operands, Call.operands, hc])
   simp only [hf, gC hargs, lL (xs := c.args) (fun x hx => hargs x (by simpa using hx))]
   generalize hxs : c.args.toList = xs at hargs |-
   rcases xs with _ | ⟨x, _ | ⟨y, r⟩⟩
   ·rfl
   ·have hx := hargs x (by simp)
    simp only [hx]
    generalize aH tm' f = u
    cases u <;> try rfl
    rename_i fn first captured
    cases fn <;> try rfl
    rename_i g
    simp only
    cases P.funcs[g]? <;> try rfl
    rename_i fn
    simp only
    cases fn.body <;> try rfl
    simp only
    generalize fn.resultTypes.toList = l
    rcases l with _ | ⟨y, _ | ⟨z, r⟩⟩
    ·rfl
    ·simp only [hx]
    ·rfl
   ·rfl
  | invoke r m =>
   have hr : aH tm r = aH tm' r := h r (by simp [Op.operands, Call.operands, hc])
   have hm : c.args.toList.map (aH tm) = c.args.toList.map (aH tm') := lL fun x hx => h x (by simp [Op.operands, Call.operands, hx])
   simp only [hr, hm]
 case build t ps => simp only [bQ, wQ (tm := tm) (tm' := tm') fun x hx => h x (by simpa [Op.operands] using hx)]
 case buildSlice t n ps => simp only [bQ, wR (P := P) (tm := tm) (tm' := tm') fun x hx => h x (by simpa [Op.operands] using hx)]
 case makeFunc fn first captured =>
  simp only [bQ, lL (xs := first) fun x hx => h x (by simp [Op.operands, hx]), lL (xs := captured) fun x hx => h x (by simp [Op.operands, hx])]
 case makeMap t r => cases r <;> rfl
 case slice t x lo hi mx =>
  cases mx with
  | some m => rfl
  | none =>
   have hx : aH tm x = aH tm' x := h x (by simp [Op.operands])
   have hl : lo.map (aH tm) = lo.map (aH tm') := by cases lo with | none => rfl | some l => simp [h l (by simp [Op.operands])]
   have hh : hi.map (aH tm) = hi.map (aH tm') := by cases hi with | none => rfl | some l => simp [h l (by simp [Op.operands])]
   have hpo : cB tm (x :: (lo.toList ++ hi.toList)) = cB tm' (x :: (lo.toList ++ hi.toList)) := gC fun y hy => h y (by
    simp only [yk, yy, Option.mem_toList] at hy
    rcases hy with rfl | hy | hy
    ·simp [Op.operands]
    ·cases lo <;> simp_all [Op.operands]
    ·cases hi <;> simp_all [Op.operands])
   simp only [bQ, hx, hl, hh, hp, hpo]
 all_goals (simp only [Op.operands] at h; first | rfl | (simp only [bQ]; simp_all; done))
theorem zZ {S S' : St} {o : Oper} {v : Value} (hk : kind o.op = 0 \/ kind o.op = 1) (h : bQ callF P tm S o = some (v, S')) : S' = S := by
 obtain ⟨dst, op, ty, pos, after, guard⟩ := o
 cases op
 case call c =>
  obtain ⟨callee, args, at'⟩ := c
  cases callee with
  | builtin b =>
   cases b <;> simp only [kind] at hk <;> first | (simp at hk; done) | skip
   all_goals (simp only [bQ] at h; repeat' split at h) <;> simp_all
  | _ => simp [kind] at hk
 case makeMap t r => cases r <;> simp [kind] at hk
 all_goals first | (simp [kind] at hk; done) | skip
 all_goals (simp only [bQ] at h; (repeat' split at h) <;> simp_all)
theorem NB {S S' S₂ : St} {o : Oper} {v : Value} (hk : kind o.op = 0) (h : bQ callF P tm S o = some (v, S')) : bQ callF P tm S₂ o = some (v, S₂) := by
 obtain ⟨dst, op, ty, pos, after, guard⟩ := o
 cases op
 case call c =>
  obtain ⟨callee, args, at'⟩ := c
  cases callee with
  | builtin b =>
   cases b <;> simp only [kind] at hk <;> first | (simp at hk; done) | skip
   all_goals (simp only [bQ] at h |-; repeat' split at h) <;> simp_all
  | _ => simp [kind] at hk
 case makeMap t r => cases r <;> simp [kind] at hk
 all_goals first | (simp [kind] at hk; done) | skip
 all_goals (simp only [bQ] at h |-; (repeat' split at h) <;> simp_all)
end
theorem kN {f : Nat -> Oper -> Bool} : ∀ {l : List Oper} {k : Nat}, p8 f k l = true -> ∀ j o, l[j]? = some o -> f (k + j) o = true
 | [], _, _, j, o, h => by simp at h
 | p :: r, k, hf, j, o, h => by
  simp only [p8, yd] at hf
  cases j with
  | zero => simp only [List.getElem?_cons_zero, ya] at h; subst h; exact hf.1
  | succ j =>
   have := kN hf.2 j o (by simpa using h)
   rwa [yx, Nat.add_comm 1 j] at this
theorem yN {f : Nat -> Bool} : ∀ {n : Nat}, S8 n f = true -> ∀ k, k <= n -> f k = true
 | 0, h, k, hk => by obtain rfl : k = 0 := by omega
                     exact h
 | n + 1, h, k, hk => by
  simp only [S8, yd] at h
  rcases Nat.lt_or_ge n k with h' | h'
  ·obtain rfl : k = n + 1 := by omega
   exact h.1
  ·exact yN h.2 k h'
theorem AA {n : Nat} (h : GC n = true) : n % 2 = 0 := by simpa [GC] using h
theorem testBit_or {a b j : Nat} : Nat.testBit (a ||| b) j = (Nat.testBit a j || Nat.testBit b j) := Nat.testBit_or a b j
theorem E5 (ms : List Nat) : ∀ (l : List Edge) (s j : Nat), Nat.testBit (l.foldl (fun s e => if Region.binds .any e = true then s ||| (2 ^ e.on) ||| eG ms e.on else s) s) j = true ->
  Nat.testBit s j = true \/ ∃ e ∈ l, Region.binds .any e = true /\ (j = e.on \/ Nat.testBit (eG ms e.on) j = true)
 | [], s, j, h => .inl h
 | e :: l, s, j, h => by
  simp only [List.foldl_cons] at h
  rcases E5 ms l _ j h with h | ⟨e', he, h⟩
  ·split at h
   ·rename_i hb
    rw [testBit_or, testBit_or, Nat.testBit_two_pow] at h
    simp only [yu, decide_eq_true_eq] at h
    rcases h with (h | h) | h
    ·exact .inl h
    ·exact .inr ⟨e, by simp, hb, .inl h.symm⟩
    ·exact .inr ⟨e, by simp, hb, .inr h⟩
   ·exact .inl h
  ·exact .inr ⟨e', by simp [he], h⟩
theorem uH {a b : Option Nat} (h : vZ a b = false) {d : Nat} (ha : a = some d) : b ≠ some d := by
 subst ha
 rintro rfl
 simp [vZ] at h
structure ZM (ops : List Oper) (ms : List Nat) : Prop where
 mask : ∀ (i : Nat) (o : Oper) (j : Nat), ops[i]? = some o -> Nat.testBit (eG ms i) j = true -> j < i /\ ∃ e ∈ o.after, Region.binds .any e = true /\ (j = e.on \/ Nat.testBit (eG ms e.on) j = true)
 early : ∀ (i : Nat) (o : Oper) (e : Edge), ops[i]? = some o -> e ∈ o.after -> Region.binds .any e = true -> e.on < i
 slot : ∀ (i : Nat) (o : Oper) (x : Operand) (t : Nat), ops[i]? = some o -> x ∈ o.op.operands -> x = .tmp t -> u9 ms ops i t = true
 guard : ∀ (i : Nat) (o : Oper) (g : Nat) (want : Bool) (p : Oper) (d : Nat), ops[i]? = some o -> o.guard = some (g, want) -> ops[g]? = some p -> p.dst = some d -> u9 ms ops i d = true
 dst : ∀ (i l : Nat) (o o' : Oper) (d : Nat), ops[i]? = some o -> ops[l]? = some o' -> i ≠ l -> o.dst = some d -> o'.dst ≠ some d
theorem uJ (ms : List Nat) : ∀ (l : List Edge) (s j : Nat), (Nat.testBit s j = true \/ ∃ e ∈ l, Region.binds .any e = true /\ j = e.on) ->
  Nat.testBit (l.foldl (fun s e => if Region.binds .any e = true then s ||| (2 ^ e.on) ||| eG ms e.on else s) s) j = true
 | [], s, j, h => by
  rcases h with h | ⟨e, he, _⟩
  ·exact h
  ·cases he
 | e :: l, s, j, h => by
  simp only [List.foldl_cons]
  refine uJ ms l _ j ?_
  rcases h with h | ⟨e', he, hb, rfl⟩
  ·left
   split
   ·rw [testBit_or, testBit_or, h]; rfl
   ·exact h
  ·rcases yk.1 he with rfl | he
   ·left; rw [if_pos hb, testBit_or, testBit_or, Nat.testBit_two_pow]; simp
   ·exact .inr ⟨e', he, hb, rfl⟩
theorem KQ {ops : List Oper} (h : MU ops = true) : ZM ops (eA ops []) := by
 have key : ∀ i o, ops[i]? = some o -> eG (eA ops []) i = yB (eA ops []) o /\ eG (eA ops []) i < 2 ^ i /\ (∀ x ∈ o.op.operands, ER (eA ops []) ops i x = true) /\
   rZ (eA ops []) ops i o = true /\ ∀ l o', ops[l]? = some o' -> i = l \/ vZ o.dst o'.dst = false := by
  intro i o ho
  have := kN h i o ho
  simp only [yym, yd, List.all_eq_true] at this
  obtain ⟨⟨⟨h1, h2⟩, h3, h4⟩, h5⟩ := this
  refine ⟨yf h1, ye h2, fun x hx => h3 x (by simpa using hx), h4, fun l o' hl => ?_⟩
  have := kN h5 l o' hl
  simp only [yym, yu, yyb] at this
  exact this.imp yf id
 have small : ∀ i o j, ops[i]? = some o -> Nat.testBit (eG (eA ops []) i) j = true -> j < i := by
  intro i o j ho hj
  rcases Nat.lt_or_ge j i with h' | h'
  ·exact h'
  ·have := Nat.testBit_lt_two_pow (Nat.lt_of_lt_of_le (key i o ho).2.1 (Nat.pow_le_pow_right (by decide) h'))
   rw [this] at hj; cases hj
 constructor
 ·intro i o j ho hj
  refine ⟨small i o j ho hj, ?_⟩
  rw [(key i o ho).1] at hj
  rcases E5 _ _ _ _ hj with h | ⟨e, he, h⟩
  ·simp at h
  ·exact ⟨e, by simpa using he, h⟩
 ·intro i o e ho he hb
  refine small i o _ ho ?_
  rw [(key i o ho).1]
  exact uJ _ _ _ _ (.inr ⟨e, by simpa using he, hb, rfl⟩)
 ·rintro i o _ t ho hx rfl
  exact (key i o ho).2.2.1 _ hx
 ·intro i o g want p d ho hg hp hd
  have := (key i o ho).2.2.2.1
  simpa [rZ, hg, hp, hd] using this
 ·intro i l o o' d ho hl hne hd
  rcases (key i o ho).2.2.2.2 l o' hl with h | h
  ·exact absurd h hne
  ·exact uH h hd
theorem KR {ms : List Nat} {ops : List Oper} {i t : Nat} (h : u9 ms ops i t = true) {l : Nat} {o : Oper} (ho : ops[l]? = some o) (hd : o.dst = some t) :
  l = i \/ Nat.testBit (eG ms i) l = true \/ Nat.testBit (eG ms l) i = true := by
 have := kN h l o ho
 simp only [yym, yu, yyb] at this
 rcases this with ((h | h) | h) | h
 ·exact absurd rfl (uH (b := some t) h hd)
 ·exact .inl (yf h)
 ·exact .inr (.inl h)
 ·exact .inr (.inr h)
theorem E6 {a b : Value} (h : WD a b = true) : a = b := by
 unfold WD at h
 split at h
 case h_3 a b =>
  have : a.data.toList = b.data.toList := by simpa using h
  congr 1
  cases a; cases b
  congr 1
  exact yl this
 all_goals simp_all
theorem pK : ∀ {a b : List Value}, GD a b = true -> a = b
 | [], [], _ => rfl
 | [], _ :: _, h => by simp [GD] at h
 | _ :: _, [], h => by simp [GD] at h
 | a :: r, b :: s, h => by
  simp only [GD, yd] at h
  rw [E6 h.1, pK h.2]
theorem KS {a b : Fn} (h : MV a b = true) : a = b := by
 unfold MV at h
 split at h
 ·rw [yf h]
 ·rw [yf h]
 ·cases h
theorem E7 {a b : Value} (h : WE a b = true) : a = b := by
 unfold WE at h
 split at h
 ·congr 1; exact yl (pK h)
 ·simp only [yd] at h
  rw [KS h.1, yl (pK h.2.1), yl (pK h.2.2)]
 ·exact E6 h
theorem nH : ∀ {a b : List Value}, wB a b = true -> a = b
 | [], [], _ => rfl
 | a :: r, b :: s, h => by
  simp only [wB, yd] at h
  rw [E7 h.1, nH h.2]
 | [], _ :: _, h => by simp [wB] at h
 | _ :: _, [], h => by simp [wB] at h
theorem nJ {a b : Value} (h : VU a b = true) : a = b := by
 unfold VU at h
 split at h
 ·congr 1; exact yl (nH h)
 ·exact E7 h
theorem oG {p : Nat -> Bool} {n : Nat} {o : Obj} : ∀ {al : List (Nat × Nat × Obj)}, aL (own p al) n = some o -> ∃ j, (j, n, o) ∈ al /\ p j = true
 | [], h => by simp [own, aL] at h
 | (j, m, x) :: r, h => by
  simp only [own] at h
  split at h
  ·rename_i hp
   simp only [aL] at h
   split at h
   ·rename_i hm
    obtain rfl := yf hm
    obtain rfl := yg h
    exact ⟨j, by simp, hp⟩
   ·obtain ⟨j', h1, h2⟩ := oG h
    exact ⟨j', by simp [h1], h2⟩
  ·obtain ⟨j', h1, h2⟩ := oG h
   exact ⟨j', by simp [h1], h2⟩
theorem oH {n : Nat} : ∀ {al : List (Nat × Nat × Obj)}, GF n al = true -> ∀ x ∈ al, x.2.1 ≠ n
 | [], _, x, hx => by cases hx
 | (j, m, y) :: r, h, x, hx => by
  simp only [GF, yd, yyb] at h
  rcases yk.1 hx with rfl | hx
  ·intro e; subst e; simp at h
  ·exact oH h.2 x hx
theorem qE {p : Nat -> Bool} {n j : Nat} {o : Obj} : ∀ {al : List (Nat × Nat × Obj)}, qA al = true -> (j, n, o) ∈ al -> p j = true -> aL (own p al) n = some o
 | [], _, h, _ => by cases h
 | (i, m, x) :: r, hn, h, hp => by
  simp only [qA, yd] at hn
  rcases yk.1 h with h | h
  ·obtain ⟨rfl, rfl, rfl⟩ : j = i /\ n = m /\ o = x := by simpa using h
   simp [own, hp, aL]
  ·have hne : n ≠ m := fun e => oH hn.1 _ h e
   simp only [own]
   split
   ·simp only [aL]
    rw [if_neg (by simpa using fun e => hne e.symm)]
    exact qE hn.2 h hp
   ·exact qE hn.2 h hp
theorem wS : ∀ {al : List (Nat × Nat × Obj)}, qA al = true -> ∀ {i j n : Nat} {o o' : Obj}, (i, n, o) ∈ al -> (j, n, o') ∈ al -> i = j /\ o = o'
 | [], _, _, _, _, _, _, h, _ => by cases h
 | (k, m, x) :: r, hn, i, j, n, o, o', h1, h2 => by
  simp only [qA, yd] at hn
  rcases yk.1 h1 with e1 | m1 <;> rcases yk.1 h2 with e2 | m2
  ·simp only [yc] at e1 e2
   obtain ⟨rfl, rfl, rfl⟩ := e1
   obtain ⟨rfl, _, rfl⟩ := e2
   exact ⟨rfl, rfl⟩
  ·simp only [yc] at e1
   obtain ⟨rfl, rfl, rfl⟩ := e1
   exact absurd rfl (oH hn.1 (_, _, _) m2)
  ·simp only [yc] at e2
   obtain ⟨rfl, rfl, rfl⟩ := e2
   exact absurd rfl (oH hn.1 (_, _, _) m1)
  ·exact wS hn.2 m1 m2
theorem qF {ms : List Nat} {F : DR} : ∀ {al : List (Nat × Nat × Obj)}, wD ms F al = true -> ∀ j n o k, (j, n, o) ∈ al -> k <= F.es.length -> p9 ms F.es k j = false -> aL (kY F.hs k) n = none
 | [], _, _, _, _, _, h, _, _ => by cases h
 | (i, m, x) :: r, ha, j, n, o, k, h, hk, hab => by
  simp only [wD, yd] at ha
  rcases yk.1 h with e | h
  ·simp only [yc] at e
   obtain ⟨rfl, rfl, rfl⟩ := e
   have := yN ha.1 k hk
   simpa [hab] using this
  ·exact qF ha.2 j n o k h hk hab
theorem sV (a b : List (Nat × Obj)) (n : Nat) : aL (a ++ b) n = match aL a n with | some o => some o | none => aL b n := by
 induction a with
 | nil => rfl
 | cons x r ih =>
  obtain ⟨m, o⟩ := x
  simp only [List.cons_append, aL]
  split
  ·rfl
  ·exact ih
theorem E8 {ms : List Nat} {j : Nat} : ∀ {es : List Nat} {k : Nat}, p9 ms es k j = true -> ∃ t e, t < k /\ es[t]? = some e /\ Nat.testBit (eG ms e) j = true
 | [], _, h => by simp [p9] at h
 | _ :: _, 0, h => by simp [p9] at h
 | e :: r, k + 1, h => by
  simp only [p9, yu] at h
  rcases h with h | h
  ·exact ⟨0, e, by omega, rfl, h⟩
  ·obtain ⟨t, e', h1, h2, h3⟩ := E8 h
   exact ⟨t + 1, e', by omega, by simpa using h2, h3⟩
theorem E9 {ms : List Nat} {j e : Nat} : ∀ {es : List Nat} {k : Nat}, es[k]? = some e -> p9 ms es (k + 1) j = (p9 ms es k j || Nat.testBit (eG ms e) j)
 | [], _, h => by simp at h
 | x :: r, 0, h => by
  obtain rfl : x = e := by simpa using h
  cases r <;> simp [p9]
 | x :: r, k + 1, h => by
  have ih := E9 (ms := ms) (j := j) (es := r) (k := k) (by simpa using h)
  rw [p9.eq_1, ih, p9.eq_1, Bool.or_assoc]
theorem AB {ms : List Nat} {j : Nat} : ∀ {es es' : List Nat} {k : Nat}, k <= es.length -> p9 ms (es ++ es') k j = p9 ms es k j
 | [], es', k, h => by
  obtain rfl : k = 0 := by simpa using h
  cases es' <;> simp [p9]
 | x :: r, es', 0, _ => by simp [p9]
 | x :: r, es', k + 1, h => by
  simp only [List.cons_append, p9]
  rw [AB (by simpa using h)]
theorem o6 : ∀ {hs hs' : List (List (Nat × Obj))} {k : Nat}, k < hs.length -> kY (hs ++ hs') k = kY hs k
 | [], _, k, h => by simp at h
 | x :: r, hs', 0, _ => rfl
 | x :: r, hs', k + 1, h => by
  simp only [List.cons_append, kY]
  exact o6 (by simpa using h)
theorem CQ {p : Nat -> Bool} : ∀ {al al' : List (Nat × Nat × Obj)}, (∀ x ∈ al', p x.1 = false) -> own p (al ++ al') = own p al
 | [], al', h => by
  induction al' with
  | nil => rfl
  | cons x r ih =>
   obtain ⟨j, n, o⟩ := x
   have hx := h (j, n, o) (by simp)
   simp only at hx
   simp only [List.nil_append, own] at ih |-
   rw [if_neg (by simp [hx])]
   exact ih fun y hy => h y (by simp [hy])
 | (j, n, o) :: r, al', h => by
  simp only [List.cons_append, own]
  rw [CQ h]
theorem AC {ms : List Nat} {es es' : List Nat} {hs hs' : List (List (Nat × Obj))} {al al' : List (Nat × Nat × Obj)} {i k : Nat} (hal : ∀ x ∈ al', Nat.testBit (eG ms i) x.1 = false) (hk : k <= es.length) (hh : k < hs.length) :
  seen ms (es ++ es') (hs ++ hs') (al ++ al') i k = seen ms es hs al i k := by
 unfold seen
 rw [o6 hh, CQ fun x hx => by simp [hal x hx]]
 congr 2
 funext j
 rw [AB hk]
theorem pL : ∀ {a b : List MapEntry}, kA a b = true -> a = b
 | [], [], _ => rfl
 | a :: r, b :: s, h => by
  simp only [kA, yd] at h
  obtain ⟨⟨⟨h1, h2⟩, h3⟩, h4⟩ := h
  rw [pL h4]
  congr 1
  obtain ⟨k, v, b0⟩ := a
  obtain ⟨k', v', b0'⟩ := b
  simp only at h1 h2 h3
  rw [nJ h1, nJ h2, yf h3]
 | [], _ :: _, h => by simp [kA] at h
 | _ :: _, [], h => by simp [kA] at h
theorem D5 {o o' : Obj} (h : BS o o' = true) : o = o' := by
 unfold BS at h
 split at h
 ·simp only [yd] at h
  congr 1
  ·exact yl (pL h.1)
  ·exact yf h.2
 ·rename_i c e fz c' e' fz'
  simp only [yd] at h
  obtain ⟨⟨h1, h2⟩, h3, h4⟩ := h
  congr 1
  ·exact yl (nH h1)
  ·exact yf h2
  ·exact Prod.ext (yf h3) (yf h4)
 ·cases h
theorem oJ {h' : List (Nat × Obj)} : ∀ {h : List (Nat × Obj)}, sB h' h = true -> ∀ n o, aL h n = some o -> aL h' n = some o
 | [], _, n, o, hg => by cases hg
 | (m, x) :: r, hs, n, o, hg => by
  simp only [sB, yd] at hs
  simp only [aL] at hg
  split at hg
  ·rename_i hm
   obtain rfl := yf hm
   obtain rfl := yg hg
   have := hs.1
   split at this
   ·rename_i o' ho'
    rw [ho', D5 this]
   ·cases this
  ·exact oJ hs.2 n o hg
theorem yP : ∀ {a b : List Value}, MW a b = true -> a = b
 | [], [], _ => rfl
 | a :: r, b :: s, h => by
  simp only [MW, yd] at h
  rw [nJ h.1, yP h.2]
 | [], _ :: _, h => by simp [MW] at h
 | _ :: _, [], h => by simp [MW] at h
end Go.Dam
