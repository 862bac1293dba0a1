/-
  An own evaluator of closed runs of a program, proved sound against the model for every order of draws and every capacity of append. This text is one part of it; the last part's theorem 'closed' says what a run in the kernel proves. Used for the law's closed self-test.
-/
import Derived.Control
import Derived.Calls
import Derived.Orders
namespace Go.Dam

/-! The abstract machine: blocks have names; an even name is a block known whole, an odd name a row of which a beginning is known. -/

structure St where
  heap : List (Nat × Obj)
  next : Nat

def getB : List (Nat × Obj) → Nat → Option Obj
  | [], _ => none
  | (m, o) :: r, n => if Nat.beq m n = true then some o else getB r n

def setB : List (Nat × Obj) → Nat → Obj → List (Nat × Obj)
  | [], _, _ => []
  | (m, o) :: r, n, x => if Nat.beq m n = true then (m, x) :: r else (m, o) :: setB r n x

def delB : List (Nat × Obj) → Nat → List (Nat × Obj)
  | [], _ => []
  | (m, o) :: r, n => if Nat.beq m n = true then delB r n else (m, o) :: delB r n

def isRow (n : Nat) : Bool := Nat.beq (n % 2) 1

/-- A value that bears no address. -/
def plain1 : Value → Bool
  | .bool _ | .int _ _ | .string _ | .pointer none | .slice none _ _ | .map none | .nilFunc | .nilIface => true
  | .func _ a b => a.toList.isEmpty && b.toList.isEmpty
  | _ => false
def plainAll : List Value → Bool
  | [] => true
  | v :: r => plain1 v && plainAll r
def plain2 : Value → Bool
  | .agg cs => plainAll cs.toList
  | v => plain1 v
def plainAll2 : List Value → Bool
  | [] => true
  | v :: r => plain2 v && plainAll2 r
def plain : Value → Bool
  | .tuple vs => plainAll2 vs.toList
  | v => plain2 v

def nth : List Value → Nat → Value
  | [], _ => undef
  | v :: _, 0 => v
  | _ :: r, n + 1 => nth r n
def setNth : List Value → Nat → Value → List Value
  | [], _, _ => []
  | _ :: r, 0, x => x :: r
  | v :: r, n + 1, x => v :: setNth r n x

def putD (tm : List Value) (dst : Option Tmp) (v : Value) : List Value :=
  match dst with
  | some d => setNth tm d v
  | none => tm

def aeval (tm : List Value) : Operand → Value
  | .tmp t => nth tm t
  | .const v => v
  | .global g => .pointer (some ⟨2 * g, 0, none⟩)
  | .func f => .func (.func f) #[] #[]

/-- May the operand stand? (a constant bears no address; a global is there) -/
def okOpd (P : Program) : Operand → Bool
  | .const v => plain v
  | .global g => Nat.blt g P.globals.size
  | _ => true

/-- What a computation gives that asks nothing of the world. -/
def purely {α : Type} (P : Program) : Sem α → Option α
  | .pure a => some a
  | .program k => purely P (k P)
  | .mark _ k => purely P k
  | _ => none

def sizeT (P : Program) (t : TypeId) : Option Nat := (P.info? t).map (·.size)
def aggT (P : Program) (t : TypeId) : Option Bool :=
  match P.underlying t with
  | some (.struct _) | some (.array _ _) => some true
  | some _ => some false
  | none => none
def elemT (P : Program) (t : TypeId) : Option TypeId :=
  match P.underlying t with
  | some (.slice e) => some e
  | _ => none

/-- One cell's value. -/
def one : Value → Bool
  | .agg _ | .tuple _ => false
  | _ => true
def allOne : List Value → Bool
  | [] => true
  | v :: r => one v && allOne r

def cellsOf (h : List (Nat × Obj)) (n : Nat) : Option (List Value) :=
  match getB h n with
  | some (.cells c _ _) => some c.toList
  | _ => none

def aload (P : Program) (h : List (Nat × Obj)) (t : TypeId) (v : Value) : Option Value :=
  match v with
  | .pointer (some ⟨n, off, none⟩) =>
    match cellsOf h n, aggT P t, sizeT P t with
    | some c, some true, some s => if Nat.ble (off + s) c.length = true then some (.agg ((c.drop off).take s).toArray) else none
    | some c, some false, _ => c[off]?
    | _, _, _ => none
  | _ => none

/-- Lay values over a list from a place on. -/
def over : List Value → Nat → List Value → List Value
  | c, 0, vs => vs ++ c.drop vs.length
  | [], _ + 1, _ => []
  | x :: c, n + 1, vs => x :: over c n vs

/-- May cells from 'off' on be written? (of a block known whole: none is frozen; of a row: from the second number on) -/
def mayWrite (n off : Nat) (fz : Nat × Nat) : Bool :=
  if isRow n = true then Nat.ble fz.2 off else Nat.beq fz.1 fz.2 || Nat.ble fz.2 off

def astoreCells (h : List (Nat × Obj)) (n off : Nat) (vs : List Value) : Option (List (Nat × Obj)) :=
  match vs with
  | [] => some h
  | _ =>
    match getB h n with
    | some (.cells c e fz) =>
      if Nat.ble (off + vs.length) c.size && allOne vs && mayWrite n off fz then some (setB h n (.cells (over c.toList off vs).toArray e fz)) else none
    | _ => none

def astore (P : Program) (h : List (Nat × Obj)) (t : TypeId) (a v : Value) : Option (List (Nat × Obj)) :=
  match a with
  | .pointer (some ⟨n, off, none⟩) =>
    match sizeT P t with
    | some s => if Nat.beq v.cells.size s = true then astoreCells h n off v.cells.toList else none
    | none => none
  | _ => none

def newExact (S : St) (o : Obj) : Nat × St := (S.next, ⟨(S.next, o) :: S.heap, S.next + 2⟩)
def newRowA (S : St) (o : Obj) : Nat × St := (S.next + 1, ⟨(S.next + 1, o) :: S.heap, S.next + 2⟩)

/-- What the operation comes to as a value, where the operands bear no address. -/
def apure (P : Program) (tm : List Value) (o : Oper) : Option Value :=
  match purely P (execOp (aeval tm) o) with
  | some (.value v) => if plain v = true then some v else none
  | _ => none

def plainOperands (tm : List Value) : List Operand → Bool
  | [] => true
  | x :: r => plain (aeval tm x) && plainOperands tm r

def natOf : Value → Option Nat
  | .int _ n => if 0 ≤ n then some n.toNat else none
  | _ => none

/-- the bounds of a slice expression: low, high, against a length and a capacity that is known to be at least 'm' -/
def bound (v : Option Value) (d : Nat) (m : Nat) : Option Nat :=
  match v with
  | none => some d
  | some x => match natOf x with
    | some k => if Nat.ble k m = true then some k else none
    | none => none

def aslice (P : Program) (h : List (Nat × Obj)) (t : TypeId) (x : Value) (lo hi : Option Value) : Option Value :=
  match P.underlying t, x with
  | some (.slice e), .slice (some ⟨n, off, none⟩) len cap =>
    match sizeT P e with
    | none => none
    | some s =>
    if isRow n = true then
      -- 'cap' counts the elements dropped ahead
      match bound hi len len with
      | none => none
      | some h' => match bound lo 0 h' with
        | none => none
        | some l =>
          match getB h n with
          | some (.cells c e' _) =>
            if Nat.ble (off + h' * s) c.size && Nat.beq off (cap * s) && Nat.blt 0 s && (Nat.beq l 0 || Nat.blt l h') && Nat.beq e' e then some (.slice (some ⟨n, off + l * s, none⟩) (h' - l) (cap + l)) else none
          | _ => none
    else
      match bound hi len cap with
      | none => none
      | some h' => match bound lo 0 h' with
        | none => none
        | some l => some (.slice (some (if Nat.beq cap l = true then ⟨n, off, none⟩ else ⟨n, off + l * s, none⟩)) (h' - l) (cap - l))
  | some (.array k e), .pointer (some ⟨n, off, none⟩) =>
    match sizeT P e with
    | none => none
    | some s =>
    if isRow n = true then none else
      match bound hi k k with
      | none => none
      | some h' => match bound lo 0 h' with
        | none => none
        | some l => some (.slice (some (if Nat.beq k l = true then ⟨n, off, none⟩ else ⟨n, off + l * s, none⟩)) (h' - l) (k - l))
  | _, _ => none

def afieldAddr (P : Program) (t : TypeId) (x : Value) (f : Nat) : Option Value :=
  match P.underlying t, x with
  | some (.struct fs), .pointer (some ⟨n, off, none⟩) =>
    match fs[f]? with
    | some fd => match sizeT P fd.type with
      | some s => if Nat.beq s 0 = true then none else some (.pointer (some ⟨n, off + fd.offset, none⟩))
      | none => none
    | none => none
  | _, _ => none

def aindexAddr (P : Program) (t : TypeId) (x i : Value) : Option Value :=
  match P.underlying t, x, natOf i with
  | some (.slice e), .slice (some ⟨n, off, none⟩) len _, some k =>
    match sizeT P e with
    | some s => if Nat.blt k len = true then some (.pointer (some ⟨n, off + k * s, none⟩)) else none
    | none => none
  | some (.array m e), .pointer (some ⟨n, off, none⟩), some k =>
    match sizeT P e with
    | some s => if Nat.blt k m = true then some (.pointer (some ⟨n, off + k * s, none⟩)) else none
    | none => none
  | _, _, _ => none

/-- the elements' cells of an appended or copied source -/
def firstA (h : List (Nat × Obj)) (s n : Nat) : Value → Option (List Value)
  | .slice none _ _ => some []
  | .slice (some ⟨m, off, none⟩) _ _ =>
    if Nat.beq (n * s) 0 = true then some [] else
    match cellsOf h m with
    | some c => if Nat.ble (off + n * s) c.length = true then some ((c.drop off).take (n * s)) else none
    | none => none
  | .string b => some ((b.data.toList.take n).map fun x => .int .u8 x.toNat)
  | _ => none

def lenA : Value → Option Nat
  | .slice _ n _ => some n
  | .string s => some s.size
  | _ => none

def appendMax : Nat := 1048576

def appOk (ti : TypeInfo) (m : Nat) : Bool :=
  match ti.zero with
  | some z => Nat.beq z.cells.size ti.size && Nat.blt 0 ti.size && Nat.ble m appendMax && Nat.ble ti.bytes 65536
  | none => false

def isInt : TypeDesc → Bool
  | .int _ => true
  | _ => false

def aappend (P : Program) (S : St) (args : Array TypeId) (s x : Value) : Option (Value × St) :=
  match args.toList with
  | [sT, xT] =>
    match elemT P sT, P.underlying xT, lenA x with
    | some e, some xd, some n =>
      if isInt xd = true then none else
      match (P.info? e), s with
      | some ti, .slice base len cap =>
        let sz := ti.size
        if appOk ti (len + n) = false then none else
        match firstA S.heap sz n x with
        | none => none
        | some new =>
        if Nat.beq new.length (n * sz) = false then none else
        match base with
        | none =>
          if Nat.beq len 0 && Nat.beq cap 0 then
            if Nat.beq n 0 = true then some (s, S) else
              if allOne new then
              let (m, S') := newRowA S (.cells new.toArray e (0, 0))
              some (.slice (some ⟨m, 0, none⟩) n 0, S')
              else none
          else none
        | some ⟨b, off, none⟩ =>
          if isRow b = true then
            match getB S.heap b with
            | some (.cells c e' fz) =>
              if !(Nat.ble (off + len * sz) c.size && Nat.beq e' e && Nat.beq off (cap * sz)) then none else
              if Nat.beq n 0 = true then some (s, S) else
              if Nat.ble (off + (len + n) * sz) c.size = true then
                match astoreCells S.heap b (off + len * sz) new with
                | some h' => some (.slice base (len + n) cap, ⟨h', S.next⟩)
                | none => none
              else
                if allOne new && Nat.ble fz.2 (off + len * sz) && Nat.beq fz.1 0 then
                  let keep := (c.toList.drop off).take (len * sz)
                  let (m, S') := newRowA ⟨delB S.heap b, S.next⟩ (.cells (keep ++ new).toArray e (0, fz.2 - off))
                  some (.slice (some ⟨m, 0, none⟩) (len + n) 0, S')
                else none
            | _ => none
          else
            if Nat.ble (len + n) cap = true then
              match astoreCells S.heap b (off + len * sz) new with
              | some h' => some (.slice base (len + n) cap, ⟨h', S.next⟩)
              | none => none
            else
              match firstA S.heap sz len s with
              | some old =>
                if allOne new && Nat.beq old.length (len * sz) then
                let (m, S') := newRowA S (.cells (old ++ new).toArray e (0, 0))
                some (.slice (some ⟨m, 0, none⟩) (len + n) 0, S')
                else none
              | none => none
        | _ => none
      | _, _ => none
    | _, _, _ => none
  | _ => none

end Go.Dam
