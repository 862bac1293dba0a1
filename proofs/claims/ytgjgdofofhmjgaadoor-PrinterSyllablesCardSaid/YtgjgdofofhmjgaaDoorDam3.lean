/-
  An own evaluator of closed runs of a program, proved sound against the model for every order of draws and every capacity of append. This text is one part of it; the last part's theorem 'closed' says what a run in the kernel proves. Used for the law's closed self-test.
-/
import Derived.Test.YtgjgdofofhmjgaaDoorDam2
namespace Go.Dam

/-! a region that draws its order: it is run once in the text's order, and checked to come to the same in every other -/

def isEven (n : Nat) : Bool := Nat.beq (n % 2) 0

def natAt : List Nat → Nat → Nat
  | [], _ => 0
  | x :: _, 0 => x
  | _ :: r, n + 1 => natAt r n

def heapAt : List (List (Nat × Obj)) → Nat → List (Nat × Obj)
  | [], _ => []
  | x :: _, 0 => x
  | _ :: r, n + 1 => heapAt r n

def allFrom (f : Nat → Oper → Bool) : Nat → List Oper → Bool
  | _, [] => true
  | k, o :: r => f k o && allFrom f (k + 1) r

def upTo : Nat → (Nat → Bool) → Bool
  | 0, f => f 0
  | n + 1, f => f (n + 1) && upTo n f

/-- The operations that must come before, a bit each. -/
def afterMask (ms : List Nat) (o : Oper) : Nat := o.after.toList.foldl (fun s e => if Region.binds .any e = true then s ||| (2 ^ e.on) ||| natAt ms e.on else s) 0

def maskList : List Oper → List Nat → List Nat
  | [], acc => acc
  | o :: r, acc => maskList r (acc ++ [afterMask acc o])

/-- Has operation j been taken by one of the first k effects? -/
def absd (ms : List Nat) : List Nat → Nat → Nat → Bool
  | e :: r, k + 1, j => Nat.testBit (natAt ms e) j || absd ms r k j
  | _, _, _ => false

def own (p : Nat → Bool) : List (Nat × Nat × Obj) → List (Nat × Obj)
  | [] => []
  | (j, n, o) :: r => if p j = true then (n, o) :: own p r else own p r

def sameDst : Option Nat → Option Nat → Bool
  | some a, some b => Nat.beq a b
  | _, _ => false

/-- The slot t means the same to operation i in every order. -/
def slotOk (ms : List Nat) (ops : List Oper) (i t : Nat) : Bool :=
  allFrom (fun l o => !(sameDst o.dst (some t)) || Nat.beq l i || Nat.testBit (natAt ms i) l || Nat.testBit (natAt ms l) i) 0 ops

def opdSlotOk (ms : List Nat) (ops : List Oper) (i : Nat) : Operand → Bool
  | .tmp t => slotOk ms ops i t
  | _ => true

def guardSlotOk (ms : List Nat) (ops : List Oper) (i : Nat) (o : Oper) : Bool :=
  match o.guard with
  | none => true
  | some (g, _) => match ops[g]? with
    | none => true
    | some p => match p.dst with
      | none => true
      | some d => slotOk ms ops i d

def okDraw (ops : List Oper) : Bool :=
  let ms := maskList ops []
  allFrom (fun i o => Nat.beq (natAt ms i) (afterMask ms o) && Nat.blt (natAt ms i) (2 ^ i) &&
    (o.op.operands.toList.all (opdSlotOk ms ops i) && guardSlotOk ms ops i o) && allFrom (fun l o' => Nat.beq i l || !(sameDst o.dst o'.dst)) 0 ops) 0 ops

def veq1 : Value → Value → Bool
  | .bool a, .bool b => a == b
  | .int k n, .int k' n' => k == k' && n == n'
  | .string a, .string b => a.data.toList == b.data.toList
  | .pointer none, .pointer none => true
  | .pointer (some ⟨m, off, none⟩), .pointer (some ⟨m', off', none⟩) => Nat.beq m m' && Nat.beq off off'
  | .slice none l c, .slice none l' c' => Nat.beq l l' && Nat.beq c c'
  | .slice (some ⟨m, off, none⟩) l c, .slice (some ⟨m', off', none⟩) l' c' => Nat.beq m m' && Nat.beq off off' && (Nat.beq l l' && Nat.beq c c')
  | .map none, .map none => true
  | .map (some m), .map (some m') => Nat.beq m m'
  | .nilFunc, .nilFunc => true
  | .nilIface, .nilIface => true
  | _, _ => false

def veqL : List Value → List Value → Bool
  | [], [] => true
  | a :: r, b :: s => veq1 a b && veqL r s
  | _, _ => false

def veq : Value → Value → Bool
  | .agg a, .agg b => veqL a.toList b.toList
  | a, b => veq1 a b

structure Rec where
  on : Bool
  tm : List Value
  v : Value
  nx : Nat
  nx' : Nat

structure DR where
  tm : List Value
  nx : Nat
  recs : List Rec
  al : List (Nat × Nat × Obj)
  es : List Nat
  hs : List (List (Nat × Obj))

/-- The blocks that operation i may see when k effects are done. -/
def seen (ms : List Nat) (es : List Nat) (hs : List (List (Nat × Obj))) (al : List (Nat × Nat × Obj)) (i k : Nat) : List (Nat × Obj) :=
  own (fun j => Nat.testBit (natAt ms i) j && !absd ms es k j) al ++ heapAt hs k

def dStep (callF : FuncId → List Value → St → Option (Value × St)) (P : Program) (ops : List Oper) (ms : List Nat) (i : Nat) (o : Oper) (R : DR) : Option DR :=
  if aguard ops R.tm o = true then
    match kind o.op with
    | 3 =>
      if (R.es.all fun e => Nat.testBit (natAt ms i) e) = true then
        match astep callF P R.tm ⟨seen ms R.es R.hs R.al i R.es.length, R.nx⟩ o with
        | some (v, S') => if (Nat.ble R.nx S'.next && isEven S'.next) = true then some ⟨putD R.tm o.dst v, S'.next, R.recs ++ [⟨true, R.tm, v, R.nx, S'.next⟩], R.al, R.es ++ [i], R.hs ++ [S'.heap]⟩ else none
        | none => none
      else none
    | 2 =>
      match astep callF P R.tm ⟨[], R.nx⟩ o with
      | some (v, ⟨[(n, b)], nx⟩) => if (Nat.ble R.nx nx && isEven nx) = true then some ⟨putD R.tm o.dst v, nx, R.recs ++ [⟨true, R.tm, v, R.nx, nx⟩], R.al ++ [(i, n, b)], R.es, R.hs⟩ else none
      | _ => none
    | _ =>
      match astep callF P R.tm ⟨seen ms R.es R.hs R.al i R.es.length, R.nx⟩ o with
      | some (v, _) => some ⟨putD R.tm o.dst v, R.nx, R.recs ++ [⟨true, R.tm, v, R.nx, R.nx⟩], R.al, R.es, R.hs⟩
      | none => none
  else some ⟨putD R.tm o.dst undef, R.nx, R.recs ++ [⟨false, R.tm, undef, R.nx, R.nx⟩], R.al, R.es, R.hs⟩

def dRun (callF : FuncId → List Value → St → Option (Value × St)) (P : Program) (ops : List Oper) (ms : List Nat) : Nat → List Oper → DR → Option DR
  | _, [], R => some R
  | i, o :: r, R => match dStep callF P ops ms i o R with
    | some R' => dRun callF P ops ms (i + 1) r R'
    | none => none

/-- Operation i reads the same wherever it may stand. -/
def readOk (callF : FuncId → List Value → St → Option (Value × St)) (P : Program) (ms : List Nat) (F : DR) (i : Nat) (o : Oper) (r : Rec) (k : Nat) : Bool :=
  absd ms F.es k i || (F.es.drop k).any (fun e => Nat.testBit (natAt ms i) e) ||
    (match astep callF P r.tm ⟨seen ms F.es F.hs F.al i k, r.nx⟩ o with
     | some (v, _) => veq v r.v
     | none => false)

def readsOk (callF : FuncId → List Value → St → Option (Value × St)) (P : Program) (ms : List Nat) (F : DR) : Nat → List Oper → List Rec → Bool
  | _, [], _ => true
  | _, _ :: _, [] => false
  | i, o :: l, r :: rs => (!r.on || !(Nat.beq (kind o.op) 1) || upTo F.es.length (readOk callF P ms F i o r)) && readsOk callF P ms F (i + 1) l rs

def fresh1 (n : Nat) : List (Nat × Nat × Obj) → Bool
  | [] => true
  | (_, m, _) :: r => !(Nat.beq n m) && fresh1 n r
def noTwice : List (Nat × Nat × Obj) → Bool
  | [] => true
  | (_, n, _) :: r => fresh1 n r && noTwice r
def apartOk (ms : List Nat) (F : DR) : List (Nat × Nat × Obj) → Bool
  | [] => true
  | (j, n, _) :: r => upTo F.es.length (fun k => absd ms F.es k j || (getB (heapAt F.hs k) n).isNone) && apartOk ms F r

def evalDraw (callF : FuncId → List Value → St → Option (Value × St)) (P : Program) (ops : List Oper) (tm : List Value) (S : St) : Option (List Value × St) :=
  match dRun callF P ops (maskList ops []) 0 ops ⟨tm, S.next, [], [], [], [S.heap]⟩ with
  | some F =>
    if readsOk callF P (maskList ops []) F 0 ops F.recs && noTwice F.al && apartOk (maskList ops []) F F.al then
      some (F.tm, ⟨own (fun j => !absd (maskList ops []) F.es F.es.length j) F.al ++ heapAt F.hs F.es.length, F.nx⟩)
    else none
  | none => none

def evOps (callF : FuncId → List Value → St → Option (Value × St)) (P : Program) (ops : List Oper) : List Oper → List Value → St → Option (List Value × St)
  | [], tm, S => some (tm, S)
  | o :: r, tm, S =>
    if aguard ops tm o = true then
      match astep callF P tm S o with
      | some (v, S') => if Nat.ble S.next S'.next = true then evOps callF P ops r (putD tm o.dst v) S' else none
      | none => none
    else evOps callF P ops r (putD tm o.dst undef) S

def evC (callF : FuncId → List Value → St → Option (Value × St)) (P : Program) : Nat → Code → List Value → St → Option (Exit × List Value × St)
  | 0, _, _, _ => none
  | f + 1, c, tm, S =>
    match c with
    | .skip => some (.normal, tm, S)
    | .region _ ops false =>
      match evOps callF P ops.toList ops.toList tm S with
      | some (tm', S') => some (.normal, tm', S')
      | none => none
    | .region _ ops true =>
      match evalDraw callF P ops.toList tm S with
      | some (tm', S') => some (.normal, tm', S')
      | none => none
    | .seq a b =>
      match evC callF P f a tm S with
      | some (.normal, tm', S') => evC callF P f b tm' S'
      | r => r
    | .cond x a b =>
      match aeval tm x with
      | .bool true => evC callF P f a tm S
      | .bool false => evC callF P f b tm S
      | _ => none
    | .block id b =>
      match evC callF P f b tm S with
      | some (.exit j, tm', S') => if Nat.beq j id = true then some (.normal, tm', S') else some (.exit j, tm', S')
      | r => r
    | .loop b =>
      match evC callF P f b tm S with
      | some (.normal, tm', S') => evC callF P f (.loop b) tm' S'
      | r => r
    | .exit id => some (.exit id, tm, S)
    | .ret => some (.ret, tm, S)
    | .label _ => some (.normal, tm, S)
    | _ => none

/-- The functions of which the evaluator may ask: a bit each. -/
def evCall (P : Program) (fs : Nat) (fuel : Nat) : Nat → FuncId → List Value → St → Option (Value × St)
  | 0, _, _, _ => none
  | d + 1, f, args, S =>
    if Nat.testBit fs f = true then
      match P.funcs[f]? with
      | none => none
      | some fn =>
        match fn.body with
        | none => none
        | some c =>
          match evC (evCall P fs fuel d) P fuel c (args ++ List.replicate (fn.ntmps - args.length) undef) S with
          | some (.normal, tm, S') | some (.ret, tm, S') =>
            match aresults P S'.heap tm fn.results.toList with
            | some vs =>
              let v : Value := match vs with
                | [v] => v
                | vs => .tuple vs.toArray
              if plain v && noPtrAll args then some (v, ⟨dropNew S.next S'.heap, S'.next⟩) else some (v, S')
            | none => none
          | _ => none
    else none

/-- What the evaluator asks of a body once for all. -/
def okOps (P : Program) (l : List Oper) : Bool := allFrom (fun _ o => o.op.operands.toList.all (okOpd P)) 0 l

def okCode (P : Program) : Code → Bool
  | .skip | .exit _ | .ret | .label _ => true
  | .region _ ops d => okOps P ops.toList && (!d || okDraw ops.toList)
  | .seq a b => okCode P a && okCode P b
  | .cond x a b => okOpd P x && (okCode P a && okCode P b)
  | .block _ b | .loop b => okCode P b
  | _ => true

def okFuncs (P : Program) : Nat → Nat → Bool
  | 0, _ => true
  | f + 1, fs => (!(Nat.testBit fs f) || (match P.funcs[f]? with
    | some fn => match fn.body with
      | some c => okCode P c
      | none => true
    | none => true)) && okFuncs P f fs

end Go.Dam
