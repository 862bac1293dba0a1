/- An own evaluator of closed runs of a program, proved sound against the model: one part of it. -/
import Derived.Control
import Derived.Calls
import Derived.Orders
import Derived.Laws.World
import Derived.Laws.Cells
import Derived.Laws.CopyRow
import Derived.Laws.Rows
namespace Go.Dam
structure St where
 heap : List (Nat × Obj)
 next : Nat
def getB : List (Nat × Obj) -> Nat -> Option Obj
 | [], _ => none
 | (m, o) :: r, n => if Nat.beq m n = true then some o else getB r n
def setB : List (Nat × Obj) -> Nat -> Obj -> List (Nat × Obj)
 | [], _, _ => []
 | (m, o) :: r, n, x => if Nat.beq m n = true then (m, x) :: r else (m, o) :: setB r n x
def delB : List (Nat × Obj) -> Nat -> List (Nat × Obj)
 | [], _ => []
 | (m, o) :: r, n => if Nat.beq m n = true then delB r n else (m, o) :: delB r n
def isRow (n : Nat) : Bool := Nat.beq (n % 2) 1
def plain1 : Value -> Bool
 | .bool _ | .int _ _ | .string _ | .pointer none | .slice none _ _ | .map none | .nilFunc | .nilIface => true
 | .func (.yield _) _ _ => false
 | .func _ a b => a.toList.isEmpty && b.toList.isEmpty
 | _ => false
def plainAll : List Value -> Bool
 | [] => true
 | v :: r => plain1 v && plainAll r
def plain2 : Value -> Bool
 | .agg cs => plainAll cs.toList
 | v => plain1 v
def plainAll2 : List Value -> Bool
 | [] => true
 | v :: r => plain2 v && plainAll2 r
def plain : Value -> Bool
 | .tuple vs => plainAll2 vs.toList
 | v => plain2 v
def nth : List Value -> Nat -> Value
 | [], _ => undef
 | v :: _, 0 => v
 | _ :: r, n + 1 => nth r n
def setNth : List Value -> Nat -> Value -> List Value
 | [], _, _ => []
 | _ :: r, 0, x => x :: r
 | v :: r, n + 1, x => v :: setNth r n x
def putD (tm : List Value) (dst : Option Tmp) (v : Value) : List Value :=
 match dst with
 | some d => setNth tm d v
 | none => tm
def aeval (tm : List Value) : Operand -> Value
 | .tmp t => nth tm t
 | .const v => v
 | .global g => .pointer (some ⟨2 * g, 0, none⟩)
 | .func f => .func (.func f) #[] #[]
def okOpd (P : Program) : Operand -> Bool
 | .const v => plain v
 | .global g => Nat.blt g P.globals.size
 | _ => true
def purely {α : Type} (P : Program) : Sem α -> Option α
 | .pure a => some a
 | .program k => purely P (k P)
 | .mark _ k => purely P k
 | _ => none
def sizeT (P : Program) (t : TypeId) : Option Nat := (P.info? t).map (·.size)
def aggT (P : Program) (t : TypeId) : Option Bool :=
 match P.underlying t with
 | some (.struct _) | some (.array _ _) => some true
 | some _ => some false
 | none => none
def elemT (P : Program) (t : TypeId) : Option TypeId :=
 match P.underlying t with
 | some (.slice e) => some e
 | _ => none
def one : Value -> Bool
 | .agg _ | .tuple _ => false
 | _ => true
def allOne : List Value -> Bool
 | [] => true
 | v :: r => one v && allOne r
def cellsOf (h : List (Nat × Obj)) (n : Nat) : Option (List Value) :=
 match getB h n with
 | some (.cells c _ _) => some c.toList
 | _ => none
def aload (P : Program) (h : List (Nat × Obj)) (t : TypeId) (v : Value) : Option Value :=
 match v with
 | .pointer (some ⟨n, off, none⟩) =>
  match cellsOf h n, aggT P t, sizeT P t with
  | some c, some true, some s => if Nat.ble (off + s) c.length = true then some (.agg ((c.drop off).take s).toArray) else none
  | some c, some false, _ => c[off]?
  | _, _, _ => none
 | _ => none
def over : List Value -> Nat -> List Value -> List Value
 | c, 0, vs => vs ++ c.drop vs.length
 | [], _ + 1, _ => []
 | x :: c, n + 1, vs => x :: over c n vs
def mayWrite (n off : Nat) (fz : Nat × Nat) : Bool :=
 if isRow n = true then Nat.ble fz.2 off else Nat.beq fz.1 fz.2 || Nat.ble fz.2 off
def astoreCells (h : List (Nat × Obj)) (n off : Nat) (vs : List Value) : Option (List (Nat × Obj)) :=
 match vs with
 | [] => some h
 | _ =>
  match getB h n with
  | some (.cells c e fz) =>
   if Nat.ble (off + vs.length) c.size && allOne vs && mayWrite n off fz then some (setB h n (.cells (over c.toList off vs).toArray e fz)) else none
  | _ => none
def astore (P : Program) (h : List (Nat × Obj)) (t : TypeId) (a v : Value) : Option (List (Nat × Obj)) :=
 match a with
 | .pointer (some ⟨n, off, none⟩) =>
  match sizeT P t with
  | some s => if Nat.beq v.cells.size s = true then astoreCells h n off v.cells.toList else none
  | none => none
 | _ => none
def newExact (S : St) (o : Obj) : Nat × St := (S.next, ⟨(S.next, o) :: S.heap, S.next + 2⟩)
def newRowA (S : St) (o : Obj) : Nat × St := (S.next + 1, ⟨(S.next + 1, o) :: S.heap, S.next + 2⟩)
def apure (P : Program) (tm : List Value) (o : Oper) : Option Value :=
 match purely P (execOp (aeval tm) o) with
 | some (.value v) => if plain v = true then some v else none
 | _ => none
def plainOperands (tm : List Value) : List Operand -> Bool
 | [] => true
 | x :: r => plain (aeval tm x) && plainOperands tm r
def natOf : Value -> Option Nat
 | .int _ n => if 0 <= n then some n.toNat else none
 | _ => none
def bound (v : Option Value) (d : Nat) (m : Nat) : Option Nat :=
 match v with
 | none => some d
 | some x => match natOf x with
  | some k => if Nat.ble k m = true then some k else none
  | none => none
def aslice (P : Program) (h : List (Nat × Obj)) (t : TypeId) (x : Value) (lo hi : Option Value) : Option Value :=
 match P.underlying t, x with
 | some (.slice e), .slice (some ⟨n, off, none⟩) len cap =>
  match sizeT P e with
  | none => none
  | some s =>
  if isRow n = true then
   match bound hi len len with
   | none => none
   | some h' => match bound lo 0 h' with
    | none => none
    | some l =>
     match getB h n with
     | some (.cells c e' _) =>
      if Nat.ble (off + h' * s) c.size && Nat.beq off (cap * s) && Nat.blt 0 s && (Nat.beq l 0 || Nat.blt l h') && Nat.beq e' e then some (.slice (some ⟨n, off + l * s, none⟩) (h' - l) (cap + l)) else none
     | _ => none
  else
   match bound hi len cap with
   | none => none
   | some h' => match bound lo 0 h' with
    | none => none
    | some l => some (.slice (some (if Nat.beq cap l = true then ⟨n, off, none⟩ else ⟨n, off + l * s, none⟩)) (h' - l) (cap - l))
 | some (.array k e), .pointer (some ⟨n, off, none⟩) =>
  match sizeT P e with
  | none => none
  | some s =>
  if isRow n = true then none else
   match bound hi k k with
   | none => none
   | some h' => match bound lo 0 h' with
    | none => none
    | some l => some (.slice (some (if Nat.beq k l = true then ⟨n, off, none⟩ else ⟨n, off + l * s, none⟩)) (h' - l) (k - l))
 | _, _ => none
def afieldAddr (P : Program) (t : TypeId) (x : Value) (f : Nat) : Option Value :=
 match P.underlying t, x with
 | some (.struct fs), .pointer (some ⟨n, off, none⟩) =>
  match fs[f]? with
  | some fd => match sizeT P fd.type with
   | some s => if Nat.beq s 0 = true then none else some (.pointer (some ⟨n, off + fd.offset, none⟩))
   | none => none
  | none => none
 | _, _ => none
def aindexAddr (P : Program) (t : TypeId) (x i : Value) : Option Value :=
 match P.underlying t, x, natOf i with
 | some (.slice e), .slice (some ⟨n, off, none⟩) len _, some k =>
  match sizeT P e with
  | some s => if Nat.blt k len = true then some (.pointer (some ⟨n, off + k * s, none⟩)) else none
  | none => none
 | some (.array m e), .pointer (some ⟨n, off, none⟩), some k =>
  match sizeT P e with
  | some s => if Nat.blt k m = true then some (.pointer (some ⟨n, off + k * s, none⟩)) else none
  | none => none
 | _, _, _ => none
def firstA (h : List (Nat × Obj)) (s n : Nat) : Value -> Option (List Value)
 | .slice none _ _ => some []
 | .slice (some ⟨m, off, none⟩) _ _ =>
  if Nat.beq (n * s) 0 = true then some [] else
  match cellsOf h m with
  | some c => if Nat.ble (off + n * s) c.length = true then some ((c.drop off).take (n * s)) else none
  | none => none
 | .string b => some ((b.data.toList.take n).map fun x => .int .u8 x.toNat)
 | _ => none
def lenA : Value -> Option Nat
 | .slice _ n _ => some n
 | .string s => some s.size
 | _ => none
def appendMax : Nat := 1048576
def appOk (ti : TypeInfo) (m : Nat) : Bool :=
 match ti.zero with
 | some z => Nat.beq z.cells.size ti.size && Nat.blt 0 ti.size && Nat.ble m appendMax && Nat.ble ti.bytes 65536
 | none => false
def isInt : TypeDesc -> Bool
 | .int _ => true
 | _ => false
def aappend (P : Program) (S : St) (args : Array TypeId) (s x : Value) : Option (Value × St) :=
 match args.toList with
 | [sT, xT] =>
  match elemT P sT, P.underlying xT, lenA x with
  | some e, some xd, some n =>
   if isInt xd = true then none else
   match (P.info? e), s with
   | some ti, .slice base len cap =>
    let sz := ti.size
    if appOk ti (len + n) = false then none else
    match firstA S.heap sz n x with
    | none => none
    | some new =>
    if Nat.beq new.length (n * sz) = false then none else
    match base with
    | none =>
     if Nat.beq len 0 && Nat.beq cap 0 then
      if Nat.beq n 0 = true then some (s, S) else
       if allOne new then
       let (m, S') := newRowA S (.cells new.toArray e (0, 0))
       some (.slice (some ⟨m, 0, none⟩) n 0, S')
       else none
     else none
    | some ⟨b, off, none⟩ =>
     if isRow b = true then
      match getB S.heap b with
      | some (.cells c e' fz) =>
       if !(Nat.ble (off + len * sz) c.size && Nat.beq e' e && Nat.beq off (cap * sz)) then none else
       if Nat.beq n 0 = true then some (s, S) else
       if Nat.ble (off + (len + n) * sz) c.size = true then
        match astoreCells S.heap b (off + len * sz) new with
        | some h' => some (.slice base (len + n) cap, ⟨h', S.next⟩)
        | none => none
       else
        if allOne new && Nat.ble fz.2 (off + len * sz) && Nat.beq fz.1 0 then
         let keep := (c.toList.drop off).take (len * sz)
         let (m, S') := newRowA ⟨delB S.heap b, S.next⟩ (.cells (keep ++ new).toArray e (0, fz.2 - off))
         some (.slice (some ⟨m, 0, none⟩) (len + n) 0, S')
        else none
      | _ => none
     else
      if Nat.ble (len + n) cap = true then
       match astoreCells S.heap b (off + len * sz) new with
       | some h' => some (.slice base (len + n) cap, ⟨h', S.next⟩)
       | none => none
      else
       match firstA S.heap sz len s with
       | some old =>
        if allOne new && Nat.beq old.length (len * sz) then
        let (m, S') := newRowA S (.cells (old ++ new).toArray e (0, 0))
        some (.slice (some ⟨m, 0, none⟩) (len + n) 0, S')
        else none
       | none => none
    | _ => none
   | _, _ => none
  | _, _, _ => none
 | _ => none
def aeql (P : Program) (t : TypeId) (x y : Value) : Option Bool :=
 match P.underlying t with
 | some (.pointer e) =>
  match x, y with
  | .pointer none, .pointer b => some b.isNone
  | .pointer (some _), .pointer none => some false
  | .pointer (some ⟨m, i, none⟩), .pointer (some ⟨n, j, none⟩) =>
   match sizeT P e with
   | some s => if Nat.beq s 0 = true then none else if Nat.beq m n = true then some (Nat.beq i j) else none
   | none => none
  | _, _ => none
 | some (.slice _) =>
  match x, y with
  | .slice none _ _, .slice b _ _ => some b.isNone
  | .slice (some _) _ _, .slice none _ _ => some false
  | _, _ => none
 | some (.map _ _) =>
  match x, y with
  | .map none, .map b => some b.isNone
  | .map (some _), .map none => some false
  | _, _ => none
 | some (.func _ _ _) =>
  match x, y with
  | .nilFunc, .nilFunc => some true
  | .nilFunc, .func _ _ _ => some false
  | .func _ _ _, .nilFunc => some false
  | _, _ => none
 | some (.interface _) =>
  match x, y with
  | .iface _ _, .nilIface => some false
  | .iface tx (.int k a), .iface ty (.int k' b) =>
   match P.info? tx, P.underlying tx with
   | some i, some (.int _) => if Nat.beq tx ty && (i.comparable && decide (k = k')) then some (a == b) else none
   | _, _ => none
  | _, _ => none
 | _ => none
def aparts (tm : List Value) (ps : Array (Nat × Operand)) : Array (Nat × Value) := (ps.toList.map fun (i, x) => (i, aeval tm x)).toArray
def zeroT (P : Program) (t : TypeId) : Option Value :=
 match P.info? t with
 | some i => i.zero
 | none => none
def repL : Nat -> List Value -> List Value
 | 0, _ => []
 | n + 1, z => z ++ repL n z
def aallocCells (P : Program) (t : TypeId) : Option (List Value) :=
 match zeroT P t with
 | some z => some z.cells.toList
 | none => none
def fillL (s : Nat) : List Value -> List (Nat × Value) -> Option (List Value)
 | c, [] => some c
 | c, (i, v) :: r =>
  if Nat.beq v.cells.size s && Nat.ble (i * s + s) c.length then fillL s (over c (i * s) v.cells.toList) r else none
def abuildSlice (P : Program) (tm : List Value) (S : St) (t : TypeId) (n : Nat) (ps : Array (Nat × Operand)) : Option (Value × St) :=
 match elemT P t with
 | some e =>
  match sizeT P e, zeroT P e with
  | some s, some z =>
   if Nat.beq z.cells.size s && Nat.ble (n * s) 1048576 && Nat.blt 0 s && plainAll z.cells.toList then
   match fillL s (repL n z.cells.toList) (aparts tm ps).toList with
   | some cs =>
    let (m, S') := newExact S (.cells cs.toArray e)
    some (.slice (some ⟨m, 0, none⟩) n n, S')
   | none => none
   else none
  | _, _ => none
 | none => none
def amakeSlice (P : Program) (S : St) (t : TypeId) (l c : Value) : Option (Value × St) :=
 match elemT P t with
 | some e =>
  match P.info? e, natOf l, natOf c with
  | some ti, some l, some c =>
   match ti.zero with
   | some z =>
    if Nat.ble l c && Nat.ble c 1048576 && Nat.ble ti.bytes 65536 && Nat.ble (c * ti.size) 16777216 && Nat.beq z.cells.size ti.size && Nat.blt 0 ti.size && plainAll z.cells.toList then
     let (m, S') := newExact S (.cells (repL c z.cells.toList).toArray e)
     some (.slice (some ⟨m, 0, none⟩) l c, S')
    else none
   | none => none
  | _, _, _ => none
 | none => none
def acopy (P : Program) (S : St) (args : Array TypeId) (dst src : Value) : Option (Value × St) :=
 match args.toList with
 | dT :: _ =>
  match elemT P dT, dst, lenA src with
  | some e, .slice base dl _, some sl =>
   match sizeT P e with
   | none => none
   | some s =>
    let n := if Nat.ble sl dl = true then sl else dl
    match firstA S.heap s n src with
    | none => none
    | some cs =>
     match base with
     | none => if Nat.beq n 0 = true then some (.int .i64 0, S) else none
     | some ⟨b, off, none⟩ =>
      match astoreCells S.heap b off cs with
      | some h' => some (.int .i64 n, ⟨h', S.next⟩)
      | none => none
     | _ => none
  | _, _, _ => none
 | _ => none
def afind (P : Program) (k : TypeId) (key : Value) (es : Array MapEntry) : Option (Option (Nat × Value)) :=
 purely P (do Instr.checkKey es.isEmpty 10000 k key; Instr.findKey k key es.toList)
def keysPlain : List MapEntry -> Bool
 | [] => true
 | e :: r => plain2 e.key && keysPlain r
def loose (es : Array MapEntry) (clock : Nat) : Bool := Nat.blt clock es.size
def notStr (s : ByteArray) : List MapEntry -> Bool
 | [] => true
 | e :: r => (match e.key with
  | .string t => !(s == t)
  | _ => false) && notStr s r
def strDistinct : List MapEntry -> Bool
 | [] => true
 | e :: r => (match e.key with
  | .string s => notStr s r
  | _ => false) && strDistinct r
def isStrT (P : Program) (k : TypeId) : Bool := match P.underlying k with
 | some .string => true
 | _ => false
def isStrV : Value -> Bool
 | .string _ => true
 | _ => false
def askOk (P : Program) (k : TypeId) (i : Value) (es : Array MapEntry) (clock : Nat) : Bool :=
 !(loose es clock) || (isStrT P k && isStrV i && strDistinct es.toList)
def alookup (P : Program) (h : List (Nat × Obj)) (t : TypeId) (x i : Value) (ok : Bool) : Option Value :=
 match P.underlying t with
 | some (.map k e) =>
  if plain2 i then
  match x with
  | .map none =>
   match zeroT P e with
   | some z => if plain2 z then (match purely P (Instr.checkKey true 10000 k i) with | some _ => some (if ok then .tuple #[z, .bool false] else z) | none => none) else none
   | none => none
  | .map (some n) =>
   match getB h n with
   | some (.map es clock) =>
    if askOk P k i es clock = false then none else
    if keysPlain es.toList then
    match afind P k i es with
    | some (some (_, v)) => some (if ok then .tuple #[v, .bool true] else v)
    | some none =>
     match zeroT P e with
     | some z => if plain2 z then some (if ok then .tuple #[z, .bool false] else z) else none
     | none => none
    | none => none
    else none
   | _ => none
  | _ => none
  else none
 | _ => none
def modL : List MapEntry -> Nat -> Value -> Value -> List MapEntry
 | [], _, _, _ => []
 | e :: r, 0, k, v => { e with key := k, val := v } :: r
 | e :: r, n + 1, k, v => e :: modL r n k v
def keyAt : List MapEntry -> Nat -> Value
 | [], _ => undef
 | e :: _, 0 => e.key
 | _ :: r, n + 1 => keyAt r n
def amapUpdate (P : Program) (S : St) (t : TypeId) (m i v : Value) : Option St :=
 match P.underlying t with
 | some (.map k _) =>
  if plain2 i then
  match m with
  | .map (some n) =>
   match getB S.heap n with
   | some (.map es clock) =>
    if loose es clock = true then none else
    if keysPlain es.toList then
    match purely P (do Instr.checkKey false 10000 k i; Instr.findKey k i es.toList) with
    | some (some (j, _)) =>
     if Instr.sameBits 10000 (keyAt es.toList j) i && Nat.blt j es.size then some ⟨setB S.heap n (.map (modL es.toList j i v).toArray clock), S.next⟩ else none
    | some none => some ⟨setB S.heap n (.map (es.push { key := i, val := v, born := clock }) (clock + 1)), S.next⟩
    | none => none
    else none
   | _ => none
  | _ => none
  else none
 | _ => none
def bytesOfCells : List Value -> Option (List UInt8)
 | [] => some []
 | .int .u8 n :: r => match bytesOfCells r with
  | some l => if 0 <= n /\ n < 256 then some (n.toNat.toUInt8 :: l) else none
  | none => none
 | _ => none
def atoString (h : List (Nat × Obj)) (x : Value) : Option Value :=
 match x with
 | .slice none _ _ => some (.string .empty)
 | .slice (some ⟨n, off, none⟩) len _ =>
  match cellsOf h n with
  | some c => if Nat.ble (off + len) c.length then
    match bytesOfCells ((c.drop off).take len) with
    | some l => some (.string ⟨l.toArray⟩)
    | none => none
   else none
  | none => none
 | _ => none
def atoBytes (S : St) (e : TypeId) (s : ByteArray) : Value × St :=
 let (m, S') := newRowA S (.cells (s.data.toList.map fun b => .int .u8 b.toNat).toArray e (1, 0))
 (.slice (some ⟨m, 0, none⟩) s.size 0, S')
def aunsafeString (P : Program) (S : St) (args : Array TypeId) (x l : Value) : Option (Value × St) :=
 match args.toList with
 | [pt, _] =>
  match P.underlying pt with
  | some (.pointer u) =>
   match x, natOf l with
   | .pointer none, some 0 => some (.string .empty, S)
   | .pointer (some ⟨n, off, none⟩), some len =>
    if Nat.beq len 0 = true then some (.string .empty, S) else
    match getB S.heap n with
    | some (.cells c e (0, hi)) =>
     if isRow n && Nat.ble (off + len) c.size && Nat.beq e u && Nat.ble len 1048576 then
      match bytesOfCells ((c.toList.drop off).take len), sizeT P e with
      | some b, some 1 => some (.string ⟨b.toArray⟩, ⟨setB S.heap n (.cells c e (0, max hi (off + len))), S.next⟩)
      | _, _ => none
     else none
    | _ => none
   | _, _ => none
  | _ => none
 | _ => none
def amakeNoZero (P : Program) (S : St) (t : TypeId) (x : Value) : Option (Value × St) :=
 match x, elemT P t with
 | .int .i64 _, some e =>
  match natOf x, sizeT P e with
  | some n, some 1 => if Nat.ble n 1048576 then (let (m, S') := newRowA S (.cells #[] e (0, 0)); some (.slice (some ⟨m, 0, none⟩) n 0, S')) else none
  | _, _ => none
 | _, _ => none
def alen (P : Program) (h : List (Nat × Obj)) (args : Array TypeId) (x : Value) : Option Value :=
 match args.toList with
 | [t] =>
  match x, P.underlying t with
  | .slice (some _) n _, some (.slice _) => some (.int .i64 n)
  | .map (some n), some (.map _ _) => match getB h n with
   | some (.map es clock) => if loose es clock = true then none else some (.int .i64 es.size)
   | _ => none
  | _, _ => none
 | _ => none
def acap (P : Program) (args : Array TypeId) (x : Value) : Option Value :=
 match args.toList with
 | [t] =>
  match x, P.underlying t with
  | .slice (some q) _ cp, some (.slice _) => if isRow q.block = true then none else some (.int .i64 cp)
  | _, _ => none
 | _ => none
def asliceData (P : Program) (h : List (Nat × Obj)) (x : Value) : Option Value :=
 match x with
 | .slice none _ _ => some (.pointer none)
 | .slice (some ⟨n, off, none⟩) _ cp =>
  if isRow n = true then
   match getB h n with
   | some (.cells c e _) =>
    match sizeT P e with
    | some 1 => if Nat.blt off c.size && Nat.beq off cp then some (.pointer (some ⟨n, off, none⟩)) else none
    | _ => none
   | _ => none
  else if Nat.blt 0 cp then some (.pointer (some ⟨n, off, none⟩)) else none
 | _ => none
def atoUnsafe (P : Program) (h : List (Nat × Obj)) (t : TypeId) (x : Value) : Option Value :=
 match x with
 | .pointer (some ⟨n, off, none⟩) =>
  match getB h n, sizeT P t with
  | some (.cells c _ _), some s => if Nat.blt off c.size && Nat.blt 0 s then some x else none
  | _, _ => none
 | _ => none
def afromUnsafe (P : Program) (h : List (Nat × Obj)) (u : TypeId) (x : Value) : Option Value :=
 match x with
 | .pointer (some ⟨n, 0, none⟩) =>
  match getB h n, sizeT P u with
  | some (.cells c e _), some s => if !(isRow n) && Nat.beq e u && Nat.blt 0 s && Nat.ble s c.size then some x else none
  | _, _ => none
 | _ => none
def arange (P : Program) (S : St) (t : TypeId) (x : Value) : Option (Value × St) :=
 match P.underlying t, x with
 | some .string, .string s => let (m, S') := newExact S (.stringIter s 0); some (.pointer (some ⟨m, 0, none⟩), S')
 | some (.map _ _), .map none => let (m, S') := newExact S (.mapIter none 0 #[] 0); some (.pointer (some ⟨m, 0, none⟩), S')
 | some (.map _ _), .map (some n) =>
  match getB S.heap n with
  | some (.map es clock) => if loose es clock = true then none else (let (m, S') := newExact S (.mapIter (some n) clock #[] clock); some (.pointer (some ⟨m, 0, none⟩), S'))
  | _ => none
 | _, _ => none
def leftA (es : List MapEntry) (seen : List Nat) : List MapEntry := es.filter fun e => !seen.contains e.born
def anext (S : St) (it : Value) (isString : Bool) : Option (Value × St) :=
 match it with
 | .pointer (some ⟨r, 0, none⟩) =>
  match getB S.heap r, isString with
  | some (.stringIter s pos), true =>
   if Nat.blt pos s.size = true then
    some (.tuple #[.bool true, goInt pos, .int .i32 (Utf8.decode s pos).1], ⟨setB S.heap r (.stringIter s (pos + (Utf8.decode s pos).2)), S.next⟩)
   else some (.tuple #[.bool false], S)
  | some (.mapIter none _ _ _), false => some (.tuple #[.bool false], S)
  | some (.mapIter (some m) since seen last), false =>
   match getB S.heap m with
   | some (.map es clock) =>
    if loose es clock = true then none else
    if !seen.isEmpty && !es.isEmpty && es.all (·.born ≥ last) then none else
    match leftA es.toList seen.toList with
    | [] => some (.tuple #[.bool false], S)
    | [e] => if Nat.blt e.born since = true then some (.tuple #[.bool true, e.key, e.val], ⟨setB S.heap r (.mapIter (some m) since (seen.push e.born) clock), S.next⟩) else none
    | _ => none
   | _ => none
  | _, _ => none
 | _ => none
def lastL : List Nat -> Option Nat
 | [] => none
 | [x] => some x
 | _ :: r => lastL r
def findBorn (b : Nat) : List MapEntry -> Option MapEntry
 | [] => none
 | e :: r => if Nat.beq e.born b = true then some e else findBorn b r
def aentry (S : St) (it : Value) : Option Value :=
 match it with
 | .pointer (some ⟨r, 0, none⟩) =>
  match getB S.heap r with
  | some (.mapIter (some m) _ seen last) =>
   match getB S.heap m, lastL seen.toList with
   | some (.map es clock), some b =>
    if Nat.beq clock last && !(loose es clock) then
     match findBorn b es.toList with
     | some e => some (.tuple #[e.key, e.val])
     | none => none
    else none
   | _, _ => none
  | _ => none
 | _ => none
def methodA (P : Program) (t : TypeId) (name : String) : Option FuncId :=
 match P.underlying t, P.info? t with
 | some (.pointer _), some i =>
  match i.methods.find? (·.name == name) with
  | some m => (match m.func with
   | some (f, true) => if m.path.toList.isEmpty then some f else none
   | _ => none)
  | none => none
 | _, _ => none
def hasBodyA (P : Program) (f : FuncId) : Bool := match P.funcs[f]? with
 | some fn => fn.body.isSome
 | none => false
def astep (callF : Fn -> List Value -> St -> Option (Value × St)) (P : Program) (tm : List Value) (S : St) (o : Oper) : Option (Value × St) :=
 match o.op with
 | .move x | .assign x => some (aeval tm x, S)
 | .pick c a b =>
  match aeval tm c with
  | .bool d => some (if d = true then aeval tm a else aeval tm b, S)
  | _ => none
 | .alloc t =>
  match aallocCells P t with
  | some cs => if plainAll cs then (let (m, S') := newExact S (.cells cs.toArray t); some (.pointer (some ⟨m, 0, none⟩), S')) else none
  | none => none
 | .box t x => let (m, S') := newExact S (.cells (aeval tm x).cells t); some (.pointer (some ⟨m, 0, none⟩), S')
 | .build t ps =>
  match zeroT P t, purely P (Instr.build t (aparts tm ps)) with
  | some z, some v => if plainAll z.cells.toList then some (v, S) else none
  | _, _ => none
 | .buildSlice t n ps => abuildSlice P tm S t n ps
 | .load t a => match aload P S.heap t (aeval tm a) with
  | some v => some (v, S)
  | none => none
 | .store t a x => match astore P S.heap t (aeval tm a) (aeval tm x) with
  | some h' => some (undef, ⟨h', S.next⟩)
  | none => none
 | .nilCheck x => match aeval tm x with
  | .pointer (some a) => some (.pointer (some a), S)
  | _ => none
 | .binOp op t x y _ =>
  if plain (aeval tm x) && plain (aeval tm y) then
   match apure P tm o with
   | some v => some (v, S)
   | none => none
  else
   match op, aeql P t (aeval tm x) (aeval tm y) with
   | .eql, some b => some (.bool b, S)
   | .neq, some b => some (.bool !b, S)
   | _, _ => none
 | .convert s d x =>
  match aeval tm x, P.underlying s, P.underlying d with
  | .string b, some .string, some (.slice e) =>
   match P.underlying e, sizeT P e with
   | some (.int .u8), some 1 => some (atoBytes S e b)
   | _, _ => none
  | x, some (.slice e), some .string =>
   match P.underlying e with
   | some (.int .u8) => match atoString S.heap x with
    | some v => some (v, S)
    | none => none
   | _ => none
  | x, some (.pointer t), some .unsafePointer => match atoUnsafe P S.heap t x with
   | some v => some (v, S)
   | none => none
  | x, some .unsafePointer, some (.pointer u) => match afromUnsafe P S.heap u x with
   | some v => some (v, S)
   | none => none
  | x, _, _ => if plain x then (match apure P tm o with
   | some v => some (v, S)
   | none => none) else none
 | .makeInterface t x =>
  match P.underlying t with
  | some (.interface _) => none
  | some _ => some (.iface t (aeval tm x), S)
  | none => none
 | .makeFunc fn first captured =>
  match fn with
  | .yield _ => none
  | fn => some (.func fn (first.toList.map (aeval tm)).toArray (captured.toList.map (aeval tm)).toArray, S)
 | .makeMap _ none => let (m, S') := newExact S (.map #[] 0); some (.map (some m), S')
 | .makeSlice t l c => amakeSlice P S t (aeval tm l) (aeval tm c)
 | .slice t x lo hi none =>
  match aeval tm x with
  | .string _ => if plainOperands tm (x :: (lo.toList ++ hi.toList)) then (match apure P tm o with
   | some v => some (v, S)
   | none => none) else none
  | .slice none _ _ => if plainOperands tm (x :: (lo.toList ++ hi.toList)) then (match apure P tm o with
   | some v => some (v, S)
   | none => none) else none
  | v => match aslice P S.heap t v (lo.map (aeval tm)) (hi.map (aeval tm)) with
   | some v => some (v, S)
   | none => none
 | .fieldAddr t x f => match afieldAddr P t (aeval tm x) f with
  | some v => some (v, S)
  | none => none
 | .indexAddr t x i => match aindexAddr P t (aeval tm x) (aeval tm i) with
  | some v => some (v, S)
  | none => none
 | .field t x f => match purely P (Instr.field t (aeval tm x) f) with
  | some v => some (v, S)
  | none => none
 | .index t x i => match purely P (Instr.index t (aeval tm x) (aeval tm i)) with
  | some v => some (v, S)
  | none => none
 | .extract x i => match purely P (Instr.extract (aeval tm x) i) with
  | some v => some (v, S)
  | none => none
 | .lookup t x i ok => match alookup P S.heap t (aeval tm x) (aeval tm i) ok with
  | some v => some (v, S)
  | none => none
 | .mapUpdate t m k x | .insert t m k x => match amapUpdate P S t (aeval tm m) (aeval tm k) (aeval tm x) with
  | some S' => some (undef, S')
  | none => none
 | .range t x => arange P S t (aeval tm x)
 | .next x b => anext S (aeval tm x) b
 | .entry x => match aentry S (aeval tm x) with
  | some v => some (v, S)
  | none => none
 | .unOp _ _ x => if plain (aeval tm x) then (match apure P tm o with
  | some v => some (v, S)
  | none => none) else none
 | .call c =>
  match c.callee, c.args.toList with
  | .builtin .append, [x, y] => aappend P S c.argTypes (aeval tm x) (aeval tm y)
  | .builtin .copy, [x, y] => acopy P S c.argTypes (aeval tm x) (aeval tm y)
  | .builtin .len, [x] =>
   match alen P S.heap c.argTypes (aeval tm x) with
   | some v => some (v, S)
   | none => if plainOperands tm [x] then (match apure P tm o with
    | some v => some (v, S)
    | none => none) else none
  | .builtin .cap, [x] =>
   match acap P c.argTypes (aeval tm x) with
   | some v => some (v, S)
   | none => if plainOperands tm [x] then (match apure P tm o with
    | some v => some (v, S)
    | none => none) else none
  | .builtin .unsafeSliceData, [x] =>
   match asliceData P S.heap (aeval tm x) with
   | some p => some (p, S)
   | none => none
  | .builtin .unsafeString, [x, y] => aunsafeString P S c.argTypes (aeval tm x) (aeval tm y)
  | .builtin .min, xs | .builtin .max, xs => if plainOperands tm xs then (match apure P tm o with
   | some v => some (v, S)
   | none => none) else none
  | .value f, xs =>
   match aeval tm f with
   | .func (.func g) first captured =>
    match P.funcs[g]? with
    | none => none
    | some fn =>
     match fn.body with
     | some _ => callF (.func g) (first.toList ++ xs.map (aeval tm) ++ captured.toList) S
     | none =>
      if first.toList.isEmpty && captured.toList.isEmpty && fn.name == "internal/abi.NoEscape" && fn.origin == "" then
       match xs with
       | [x] => some (aeval tm x, S)
       | _ => none
      else if first.toList.isEmpty && captured.toList.isEmpty && fn.name == "internal/bytealg.MakeNoZero" && fn.origin == "" then
       match xs, fn.resultTypes.toList with
       | [x], [t] => amakeNoZero P S t (aeval tm x)
       | _, _ => none
      else if plainOperands tm xs && first.toList.isEmpty && captured.toList.isEmpty then (match apure P tm o with
       | some v => some (v, S)
       | none => none) else none
   | .func (.yield l) first captured => if first.toList.isEmpty && captured.toList.isEmpty then callF (.yield l) (xs.map (aeval tm)) S else none
   | _ => none
  | .invoke r name, xs =>
   match aeval tm r with
   | .iface t v =>
    match methodA P t name with
    | some f =>
     if hasBodyA P f then callF (.func f) (v :: xs.map (aeval tm)) S else none
    | none => none
   | _ => none
  | _, _ => none
 | _ => none
def aguard (ops : List Oper) (tm : List Value) (o : Oper) : Bool :=
 match o.guard with
 | none => true
 | some (j, want) =>
  match ops[j]? with
  | some p => (match p.dst with
   | some d => (match nth tm d with
    | .bool b => b == want
    | _ => false)
   | none => false)
  | none => false
def kind : Op -> Nat
 | .move _ | .assign _ | .pick .. | .build .. | .nilCheck _ | .binOp .. | .unOp .. | .fieldAddr .. | .field .. | .indexAddr .. | .index .. | .extract .. | .makeInterface .. | .makeFunc .. => 0
 | .load .. | .slice .. | .lookup .. => 1
 | .alloc _ | .box .. | .buildSlice .. | .makeMap _ none => 2
 | .call { callee := .builtin .len, .. } => 1
 | .call { callee := .builtin .min, .. } | .call { callee := .builtin .max, .. } => 0
 | _ => 3
def aresults (P : Program) (h : List (Nat × Obj)) (tm : List Value) : List ResultVar -> Option (List Value)
 | [] => some []
 | .tmp t :: r => match aresults P h tm r with
  | some l => some (nth tm t :: l)
  | none => none
 | .cell a t :: r => match aload P h t (nth tm a), aresults P h tm r with
  | some v, some l => some (v :: l)
  | _, _ => none
def noPtr1 : Value -> Bool
 | .pointer (some _) | .map (some _) | .func _ _ _ => false
 | _ => true
def noPtrAll : List Value -> Bool
 | [] => true
 | .agg cs :: r => cs.toList.all noPtr1 && noPtrAll r
 | v :: r => noPtr1 v && noPtrAll r
def dropNew (base : Nat) : List (Nat × Obj) -> List (Nat × Obj)
 | [] => []
 | (n, o) :: r => if Nat.ble base n = true then dropNew base r else (n, o) :: dropNew base r
structure Env where
 β : Nat -> Nat
 σ : Nat -> Nat
 κ : Nat -> Nat
def Env.addr (E : Env) (a : Addr) : Addr := ⟨E.β a.block, E.σ a.block + a.off, a.spot⟩
def renFn (E : Env) : Fn -> Fn
 | .yield n => .yield (E.β n)
 | f => f
def ScFn (A : Nat -> Prop) : Fn -> Prop
 | .yield n => A n
 | _ => True
def ren (E : Env) : Value -> Value
 | .pointer (some a) => .pointer (some (E.addr a))
 | .slice (some a) len cap => .slice (some (E.addr a)) len (if isRow a.block = true then E.κ a.block - cap else cap)
 | .map (some r) => .map (some (E.β r))
 | .func fn a b => .func (renFn E fn) (a.attach.map fun ⟨x, _⟩ => ren E x) (b.attach.map fun ⟨x, _⟩ => ren E x)
 | .iface t v => .iface t (ren E v)
 | .agg cs => .agg (cs.attach.map fun ⟨x, _⟩ => ren E x)
 | .tuple cs => .tuple (cs.attach.map fun ⟨x, _⟩ => ren E x)
 | v => v
termination_by v => SizeOf.sizeOf v
decreasing_by
 all_goals simp_wf
 all_goals first | omega | (rename_i h; have := Array.sizeOf_lt_of_mem h; omega)
def Sc (A : Nat -> Prop) : Value -> Prop
 | .pointer (some a) => A a.block
 | .slice (some a) _ _ => A a.block
 | .map (some r) => A r
 | .func fn a b => ScFn A fn /\ (∀ x, (h : x ∈ a) -> Sc A x) /\ (∀ x, (h : x ∈ b) -> Sc A x)
 | .iface _ v => Sc A v
 | .agg cs => ∀ x, (h : x ∈ cs) -> Sc A x
 | .tuple cs => ∀ x, (h : x ∈ cs) -> Sc A x
 | _ => True
termination_by v => SizeOf.sizeOf v
decreasing_by
 all_goals simp_wf
 all_goals first | omega | (have := Array.sizeOf_lt_of_mem h; omega)
section
variable (E : Env)
theorem ren_agg (cs : Array Value) : ren E (.agg cs) = .agg (cs.map (ren E)) := by rw [ren]; simp
theorem ren_tuple (cs : Array Value) : ren E (.tuple cs) = .tuple (cs.map (ren E)) := by rw [ren]; simp
theorem ren_func (fn : Fn) (a b : Array Value) : ren E (.func fn a b) = .func (renFn E fn) (a.map (ren E)) (b.map (ren E)) := by rw [ren]; simp
@[simp] theorem renFn_func (f : FuncId) : renFn E (.func f) = .func f := rfl
@[simp] theorem renFn_yield (l : Nat) : renFn E (.yield l) = .yield (E.β l) := rfl
theorem ren_iface (t : TypeId) (v : Value) : ren E (.iface t v) = .iface t (ren E v) := by rw [ren]
theorem ren_ptr (a : Addr) : ren E (.pointer (some a)) = .pointer (some (E.addr a)) := by rw [ren]
theorem ren_slice (a : Addr) (l c : Nat) : ren E (.slice (some a) l c) = .slice (some (E.addr a)) l (if isRow a.block = true then E.κ a.block - c else c) := by rw [ren]
theorem ren_map (r : Nat) : ren E (.map (some r)) = .map (some (E.β r)) := by rw [ren]
theorem ren_bool (b : Bool) : ren E (.bool b) = .bool b := by rw [ren] <;> simp
theorem ren_int (k : IntKind) (n : Int) : ren E (.int k n) = .int k n := by rw [ren] <;> simp
theorem ren_string (s : ByteArray) : ren E (.string s) = .string s := by rw [ren] <;> simp
theorem ren_nilptr : ren E (.pointer none) = .pointer none := by rw [ren] <;> simp
theorem ren_nilslice (l c : Nat) : ren E (.slice none l c) = .slice none l c := by rw [ren] <;> simp
theorem ren_nilmap : ren E (.map none) = .map none := by rw [ren] <;> simp
theorem ren_nilfunc : ren E .nilFunc = .nilFunc := by rw [ren] <;> simp
theorem ren_niliface : ren E .nilIface = .nilIface := by rw [ren] <;> simp
theorem ren_float (k : FloatKind) (n : Nat) : ren E (.float k n) = .float k n := by rw [ren] <;> simp
theorem ren_complex (k : FloatKind) (n m : Nat) : ren E (.complex k n m) = .complex k n m := by rw [ren] <;> simp
theorem ren_chan (r : Option Nat) : ren E (.chan r) = .chan r := by rw [ren] <;> simp
theorem ren_undef : ren E undef = undef := by rw [undef, ren_tuple]; simp
end
section
variable (A : Nat -> Prop)
theorem Sc_agg (cs : Array Value) : Sc A (.agg cs) ↔ ∀ x ∈ cs, Sc A x := by rw [Sc]
theorem Sc_tuple (cs : Array Value) : Sc A (.tuple cs) ↔ ∀ x ∈ cs, Sc A x := by rw [Sc]
theorem Sc_func (fn : Fn) (a b : Array Value) : Sc A (.func fn a b) ↔ ScFn A fn /\ (∀ x ∈ a, Sc A x) /\ (∀ x ∈ b, Sc A x) := by rw [Sc]
@[simp] theorem ScFn_func (f : FuncId) : ScFn A (.func f) := trivial
theorem Sc_iface (t : TypeId) (v : Value) : Sc A (.iface t v) ↔ Sc A v := by rw [Sc]
theorem Sc_ptr (a : Addr) : Sc A (.pointer (some a)) ↔ A a.block := by rw [Sc]
theorem Sc_slice (a : Addr) (l c : Nat) : Sc A (.slice (some a) l c) ↔ A a.block := by rw [Sc]
theorem Sc_map (r : Nat) : Sc A (.map (some r)) ↔ A r := by rw [Sc]
theorem Sc_bool (b : Bool) : Sc A (.bool b) := by rw [Sc] <;> simp
theorem Sc_int (k : IntKind) (n : Int) : Sc A (.int k n) := by rw [Sc] <;> simp
theorem Sc_string (s : ByteArray) : Sc A (.string s) := by rw [Sc] <;> simp
theorem Sc_nilptr : Sc A (.pointer none) := by rw [Sc] <;> simp
theorem Sc_nilslice (l c : Nat) : Sc A (.slice none l c) := by rw [Sc] <;> simp
theorem Sc_nilmap : Sc A (.map none) := by rw [Sc] <;> simp
theorem Sc_nilfunc : Sc A .nilFunc := by rw [Sc] <;> simp
theorem Sc_niliface : Sc A .nilIface := by rw [Sc] <;> simp
theorem Sc_undef : Sc A undef := by rw [undef, Sc_tuple]; simp
end
def Agree (A : Nat -> Prop) (E E' : Env) : Prop := ∀ n, A n -> E'.β n = E.β n /\ E'.σ n = E.σ n /\ E'.κ n = E.κ n
theorem ScFn_mono {A B : Nat -> Prop} (h : ∀ n, A n -> B n) (f : Fn) : ScFn A f -> ScFn B f := by
 cases f <;> first | exact h _ | exact fun _ => trivial
theorem renFn_agree {A : Nat -> Prop} {E E' : Env} (h : Agree A E E') (f : Fn) (hs : ScFn A f) : renFn E' f = renFn E f := by
 cases f <;> first | rfl | (simp only [renFn]; rw [(h _ hs).1])
theorem Sc_mono {A B : Nat -> Prop} (h : ∀ n, A n -> B n) (v : Value) : Sc A v -> Sc B v := by
 induction hk : SizeOf.sizeOf v using Nat.strongRecOn generalizing v with
 | _ k ih =>
  subst hk
  cases v with
  | agg cs =>
   rw [Sc_agg, Sc_agg]
   exact fun hs x hx => ih _ (by have := Array.sizeOf_lt_of_mem hx; simp; omega) x rfl (hs x hx)
  | tuple cs =>
   rw [Sc_tuple, Sc_tuple]
   exact fun hs x hx => ih _ (by have := Array.sizeOf_lt_of_mem hx; simp; omega) x rfl (hs x hx)
  | func fn a b =>
   rw [Sc_func, Sc_func]
   exact fun hs => ⟨ScFn_mono h fn hs.1, fun x hx => ih _ (by have := Array.sizeOf_lt_of_mem hx; simp; omega) x rfl (hs.2.1 x hx), fun x hx => ih _ (by have := Array.sizeOf_lt_of_mem hx; simp; omega) x rfl (hs.2.2 x hx)⟩
  | iface t v => rw [Sc_iface, Sc_iface]; exact ih _ (by simp; omega) v rfl
  | pointer a =>
   cases a with
   | none => exact fun _ => Sc_nilptr _
   | some a => rw [Sc_ptr, Sc_ptr]; exact h _
  | slice a l c =>
   cases a with
   | none => exact fun _ => Sc_nilslice _ _ _
   | some a => rw [Sc_slice, Sc_slice]; exact h _
  | map r =>
   cases r with
   | none => exact fun _ => Sc_nilmap _
   | some a => rw [Sc_map, Sc_map]; exact h _
  | _ => intro _; rw [Sc] <;> simp
theorem ren_agree {A : Nat -> Prop} {E E' : Env} (h : Agree A E E') (v : Value) : Sc A v -> ren E' v = ren E v := by
 induction hk : SizeOf.sizeOf v using Nat.strongRecOn generalizing v with
 | _ k ih =>
  subst hk
  cases v with
  | agg cs =>
   rw [Sc_agg, ren_agg, ren_agg]
   intro hs
   rw [Array.map_congr_left fun x hx => ih _ (by have := Array.sizeOf_lt_of_mem hx; simp; omega) x rfl (hs x hx)]
  | tuple cs =>
   rw [Sc_tuple, ren_tuple, ren_tuple]
   intro hs
   rw [Array.map_congr_left fun x hx => ih _ (by have := Array.sizeOf_lt_of_mem hx; simp; omega) x rfl (hs x hx)]
  | func fn a b =>
   rw [Sc_func, ren_func, ren_func]
   intro hs
   rw [Array.map_congr_left fun x hx => ih _ (by have := Array.sizeOf_lt_of_mem hx; simp; omega) x rfl (hs.2.1 x hx),
    Array.map_congr_left (xs := b) fun x hx => ih _ (by have := Array.sizeOf_lt_of_mem hx; simp; omega) x rfl (hs.2.2 x hx), renFn_agree h fn hs.1]
  | iface t v => rw [Sc_iface, ren_iface, ren_iface]; intro hs; rw [ih _ (by simp; omega) v rfl hs]
  | pointer a =>
   cases a with
   | none => intro _; rw [ren_nilptr, ren_nilptr]
   | some a => rw [Sc_ptr, ren_ptr, ren_ptr]; intro hs; obtain ⟨h1, h2, h3⟩ := h _ hs; simp [Env.addr, h1, h2]
  | slice a l c =>
   cases a with
   | none => intro _; rw [ren_nilslice, ren_nilslice]
   | some a => rw [Sc_slice, ren_slice, ren_slice]; intro hs; obtain ⟨h1, h2, h3⟩ := h _ hs; simp [Env.addr, h1, h2, h3]
  | map r =>
   cases r with
   | none => intro _; rw [ren_nilmap, ren_nilmap]
   | some a => rw [Sc_map, ren_map, ren_map]; intro hs; obtain ⟨h1, h2, h3⟩ := h _ hs; simp [h1]
  | _ => intro _; rw [ren, ren] <;> simp
theorem plain1_ren {v : Value} (E : Env) (h : plain1 v = true) : ren E v = v := by
 cases v with
 | bool b => exact ren_bool _ _
 | int k n => exact ren_int _ _ _
 | string s => exact ren_string _ _
 | pointer a => cases a with
  | none => exact ren_nilptr _
  | some a => simp [plain1] at h
 | slice a l c => cases a with
  | none => exact ren_nilslice _ _ _
  | some a => simp [plain1] at h
 | map r => cases r with
  | none => exact ren_nilmap _
  | some a => simp [plain1] at h
 | func fn a b =>
  cases fn <;> first
   | (simp [plain1] at h; done)
   | (simp [plain1] at h; rw [ren_func, h.1, h.2]; simp [renFn])
 | nilFunc => exact ren_nilfunc _
 | nilIface => exact ren_niliface _
 | _ => simp [plain1] at h
theorem plain1_Sc {v : Value} (A : Nat -> Prop) (h : plain1 v = true) : Sc A v := by
 cases v with
 | bool b => exact Sc_bool _ _
 | int k n => exact Sc_int _ _ _
 | string s => exact Sc_string _ _
 | pointer a => cases a with
  | none => exact Sc_nilptr _
  | some a => simp [plain1] at h
 | slice a l c => cases a with
  | none => exact Sc_nilslice _ _ _
  | some a => simp [plain1] at h
 | map r => cases r with
  | none => exact Sc_nilmap _
  | some a => simp [plain1] at h
 | func fn a b =>
  cases fn <;> first
   | (simp [plain1] at h; done)
   | (simp [plain1] at h; rw [Sc_func, h.1, h.2]; simp [ScFn])
 | nilFunc => exact Sc_nilfunc _
 | nilIface => exact Sc_niliface _
 | _ => simp [plain1] at h
theorem plainAll_mem {l : List Value} (h : plainAll l = true) : ∀ v ∈ l, plain1 v = true := by
 induction l with
 | nil => simp
 | cons a r ih => simp [plainAll] at h; intro v hv; rcases List.mem_cons.1 hv with rfl | hv; exact h.1; exact ih h.2 v hv
theorem plain2_ren {v : Value} (E : Env) (h : plain2 v = true) : ren E v = v := by
 cases v with
 | agg cs =>
  have := plainAll_mem (l := cs.toList) h
  have e : cs.map (ren E) = cs := by
   have := Array.map_congr_left (xs := cs) (f := ren E) (g := id) (fun x hx => plain1_ren E (this x (by simpa using hx)))
   simpa using this
  rw [ren_agg, e]
 | _ => exact plain1_ren E h
theorem plain2_Sc {v : Value} (A : Nat -> Prop) (h : plain2 v = true) : Sc A v := by
 cases v with
 | agg cs =>
  have := plainAll_mem (l := cs.toList) h
  rw [Sc_agg]; exact fun x hx => plain1_Sc A (this x (by simpa using hx))
 | _ => exact plain1_Sc A h
theorem plainAll2_mem {l : List Value} (h : plainAll2 l = true) : ∀ v ∈ l, plain2 v = true := by
 induction l with
 | nil => simp
 | cons a r ih => simp [plainAll2] at h; intro v hv; rcases List.mem_cons.1 hv with rfl | hv; exact h.1; exact ih h.2 v hv
theorem plain_ren {v : Value} (E : Env) (h : plain v = true) : ren E v = v := by
 cases v with
 | tuple cs =>
  have := plainAll2_mem (l := cs.toList) h
  have e : cs.map (ren E) = cs := by
   have := Array.map_congr_left (xs := cs) (f := ren E) (g := id) (fun x hx => plain2_ren E (this x (by simpa using hx)))
   simpa using this
  rw [ren_tuple, e]
 | _ => exact plain2_ren E h
theorem plain_Sc {v : Value} (A : Nat -> Prop) (h : plain v = true) : Sc A v := by
 cases v with
 | tuple cs =>
  have := plainAll2_mem (l := cs.toList) h
  rw [Sc_tuple]; exact fun x hx => plain2_Sc A (this x (by simpa using hx))
 | _ => exact plain2_Sc A h
theorem cells_ren (E : Env) (v : Value) : (ren E v).cells = v.cells.map (ren E) := by
 cases v with
 | agg cs => rw [ren_agg]; rfl
 | pointer a => cases a <;> simp [Value.cells, ren_ptr, ren_nilptr]
 | slice a => cases a <;> simp [Value.cells, ren_slice, ren_nilslice]
 | map a => cases a <;> simp [Value.cells, ren_map, ren_nilmap]
 | func => simp [Value.cells, ren_func]
 | iface => simp [Value.cells, ren_iface]
 | tuple => simp [Value.cells, ren_tuple]
 | bool => simp [Value.cells, ren_bool]
 | int => simp [Value.cells, ren_int]
 | string => simp [Value.cells, ren_string]
 | float => simp [Value.cells, ren_float]
 | complex => simp [Value.cells, ren_complex]
 | chan => simp [Value.cells, ren_chan]
 | nilFunc => simp [Value.cells, ren_nilfunc]
 | nilIface => simp [Value.cells, ren_niliface]
theorem Sc_cells {A : Nat -> Prop} {v : Value} (h : Sc A v) : ∀ x ∈ v.cells, Sc A x := by
 cases v with
 | agg cs => exact (Sc_agg A cs).1 h
 | _ => intro x hx; simp [Value.cells] at hx; subst hx; exact h
theorem one_ren (E : Env) (v : Value) : one (ren E v) = one v := by
 cases v with
 | agg cs => rw [ren_agg]; rfl
 | pointer a => cases a <;> simp [one, ren_ptr, ren_nilptr]
 | slice a => cases a <;> simp [one, ren_slice, ren_nilslice]
 | map a => cases a <;> simp [one, ren_map, ren_nilmap]
 | func => simp [one, ren_func]
 | iface => simp [one, ren_iface]
 | tuple => simp [one, ren_tuple]
 | bool => simp [one, ren_bool]
 | int => simp [one, ren_int]
 | string => simp [one, ren_string]
 | float => simp [one, ren_float]
 | complex => simp [one, ren_complex]
 | chan => simp [one, ren_chan]
 | nilFunc => simp [one, ren_nilfunc]
 | nilIface => simp [one, ren_niliface]
theorem run_purely {α : Type} {P : Program} {s : Sem α} {v : α} (h : purely P s = some v) (w : World) : s.run P w = .ok v w := by
 induction s with
 | pure a => simp [purely] at h; subst h; rfl
 | program k ih => exact ih P h
 | mark m k ih => exact ih h
 | _ => simp [purely] at h
def renEntry (E : Env) (x : MapEntry) : MapEntry := { key := ren E x.key, val := ren E x.val, born := x.born }
def SameKV (es es' : Array MapEntry) : Prop := (es.toList.map fun x => (x.key, x.val)).Perm (es'.toList.map fun x => (x.key, x.val))
theorem SameKV.all {es es' : Array MapEntry} (h : SameKV es es') {p : Value -> Value -> Prop} (hp : ∀ x ∈ es', p x.key x.val) : ∀ x ∈ es, p x.key x.val := by
 intro x hx
 have h1 : (x.key, x.val) ∈ es.toList.map fun x => (x.key, x.val) := List.mem_map.2 ⟨x, by simpa using hx, rfl⟩
 obtain ⟨y, hy, e⟩ := List.mem_map.1 (h.mem_iff.1 h1)
 have := hp y (by simpa using hy)
 simp only [Prod.mk.injEq] at e
 rw [e.1, e.2] at this
 exact this
def BlkRel (P : Program) (E : Env) (n : Nat) (o oc : Obj) : Prop :=
 match o with
 | .cells c e fz =>
  if isRow n = true then
   ∃ (cc : Array Value) (fzc : Nat × Nat) (s : Nat), oc = .cells cc e fzc /\ sizeT P e = some s /\
    (∀ i v, c[i]? = some v -> cc[E.σ n + i]? = some (ren E v)) /\ cc.size = E.σ n + E.κ n * s /\ c.size <= E.κ n * s /\
    (∀ off, fz.2 <= off -> off < E.κ n * s -> ¬ (fzc.1 <= E.σ n + off /\ E.σ n + off < fzc.2)) /\ (fz.1 = 0 -> fzc.1 = fzc.2 \/ fzc.2 <= E.σ n + fz.2)
  else E.σ n = 0 /\ oc = .cells (c.map (ren E)) e fz
 | .map es clock => if loose es clock = true then ∃ (esl : Array MapEntry) (c' : Nat), SameKV esl es /\ esl.size <= c' /\ oc = .map (esl.map (renEntry E)) c' else oc = .map (es.map (renEntry E)) clock
 | .stringIter s p => E.σ n = 0 /\ oc = .stringIter s p
 | .mapIter m s seen c => E.σ n = 0 /\ oc = .mapIter (m.map E.β) s seen c
 | .loop r => ∃ f d, oc = .loop { r with fn := f, defers := d, tmps := r.tmps.map (ren E) }
 | _ => False
def ScObj (A : Nat -> Prop) : Obj -> Prop
 | .cells c _ _ => ∀ x ∈ c, Sc A x
 | .map es _ => ∀ x ∈ es, Sc A x.key /\ Sc A x.val
 | .loop r => ∀ x ∈ r.tmps, Sc A x
 | .mapIter m _ _ _ => ∀ n, m = some n -> A n
 | _ => True
theorem ScObj_mono {A B : Nat -> Prop} (h : ∀ n, A n -> B n) (o : Obj) : ScObj A o -> ScObj B o := by
 cases o with
 | cells c e fz => exact fun hs x hx => Sc_mono h x (hs x hx)
 | map es cl => exact fun hs x hx => ⟨Sc_mono h _ (hs x hx).1, Sc_mono h _ (hs x hx).2⟩
 | loop r => exact fun hs x hx => Sc_mono h _ (hs x hx)
 | mapIter m s seen c => exact fun hs n hn => h n (hs n hn)
 | _ => exact fun _ => trivial
theorem BlkRel.agree {P : Program} {A : Nat -> Prop} {E E' : Env} (h : Agree A E E') {n : Nat} (hn : A n) {o oc : Obj} (hs : ScObj A o) :
  BlkRel P E n o oc -> BlkRel P E' n o oc := by
 obtain ⟨h1, h2, h3⟩ := h n hn
 cases o with
 | cells c e fz =>
  simp only [BlkRel]
  split
  ·rintro ⟨cc, fzc, s, e1, e2, e3, e4, e5, e6, e7⟩
   refine ⟨cc, fzc, s, e1, e2, ?_, by rw [h2, h3]; exact e4, by rw [h3]; exact e5, by rw [h2, h3]; exact e6, by rw [h2]; exact e7⟩
   intro i v hv
   rw [h2, e3 i v hv, ren_agree h v (hs v (Array.mem_of_getElem? hv))]
  ·rintro ⟨e1, e2⟩
   refine ⟨by rw [h2]; exact e1, ?_⟩
   rw [e2, Array.map_congr_left fun x hx => (ren_agree h x (hs x hx))]
 | map es cl =>
  simp only [BlkRel]
  split
  ·rintro ⟨esl, c', k1, k2, e1⟩
   refine ⟨esl, c', k1, k2, ?_⟩
   rw [e1]
   congr 1
   have hs' := k1.all (p := fun k v => Sc A k /\ Sc A v) hs
   exact Array.map_congr_left fun x hx => by simp [renEntry, ren_agree h _ (hs' x hx).1, ren_agree h _ (hs' x hx).2]
  ·intro e1
   rw [e1]
   congr 1
   exact Array.map_congr_left fun x hx => by simp [renEntry, ren_agree h _ (hs x hx).1, ren_agree h _ (hs x hx).2]
 | stringIter s p =>
  simp only [BlkRel]
  rw [h2]; exact id
 | mapIter m s seen c =>
  simp only [BlkRel]
  rintro ⟨e0, e1⟩
  refine ⟨by rw [h2]; exact e0, ?_⟩
  rw [e1]
  cases m with
  | none => rfl
  | some k => simp only [Option.map_some]; rw [(h k (hs k rfl)).1]
 | loop r =>
  simp only [BlkRel]
  rintro ⟨f, d, e1⟩
  refine ⟨f, d, ?_⟩
  rw [e1, Array.map_congr_left fun x hx => (ren_agree h x (hs x hx))]
 | _ => exact id
structure Holds (P : Program) (E : Env) (A : Nat -> Prop) (h : List (Nat × Obj)) (w : World) : Prop where
 blk : ∀ n o, getB h n = some o -> A n /\ ScObj A o /\ ∃ oc, w.heap[E.β n]? = some oc /\ BlkRel P E n o oc
 inj : ∀ n m o o', getB h n = some o -> getB h m = some o' -> E.β n = E.β m -> n = m
theorem Holds.sub {P : Program} {E : Env} {A : Nat -> Prop} {h h' : List (Nat × Obj)} {w : World} (H : Holds P E A h w) (hs : ∀ n o, getB h' n = some o -> getB h n = some o) : Holds P E A h' w :=
 ⟨fun n o hn => H.blk n o (hs n o hn), fun n m o o' hn hm => H.inj n m o o' (hs n o hn) (hs m o' hm)⟩
theorem Holds.mono {P : Program} {E : Env} {A B : Nat -> Prop} {h : List (Nat × Obj)} {w : World} (H : Holds P E A h w) (hAB : ∀ n, A n -> B n) : Holds P E B h w :=
 ⟨fun n o hn => let ⟨a, b, c⟩ := H.blk n o hn; ⟨hAB n a, ScObj_mono hAB o b, c⟩, H.inj⟩
theorem Holds.world {P : Program} {E : Env} {A : Nat -> Prop} {h : List (Nat × Obj)} {w w' : World} (H : Holds P E A h w) (hw : w'.heap = w.heap) : Holds P E A h w' :=
 ⟨fun n o hn => by rw [hw]; exact H.blk n o hn, H.inj⟩
structure Post (P : Program) (E : Env) (A : Nat -> Prop) (h : List (Nat × Obj)) (nx : Nat) (w : World) (E' : Env) (h' : List (Nat × Obj)) (nx' : Nat) (w' : World) : Prop where
 le : nx <= nx'
 even : nx' % 2 = nx % 2
 agree : ∀ n, ¬ (nx <= n /\ n < nx') -> E'.β n = E.β n /\ E'.σ n = E.σ n /\ E'.κ n = E.κ n
 holds : Holds P E' (fun n => A n \/ (nx <= n /\ n < nx')) h' w'
 os : w'.os = w.os
 tape : w'.tape = w.tape
 output : w'.output = w.output
 size : w.heap.size <= w'.heap.size
 same : ∀ b, b < w.heap.size -> (∀ n o, getB h n = some o -> E.β n ≠ b) -> w'.heap[b]? = w.heap[b]?
 img : ∀ n o, getB h' n = some o -> (∃ m o', getB h m = some o' /\ E'.β n = E.β m) \/ w.heap.size <= E'.β n
section
variable {P : Program} {E E' E₁ E₂ : Env} {A : Nat -> Prop} {h h' h₁ h₂ : List (Nat × Obj)} {nx nx' nx₁ nx₂ : Nat} {w w' w₁ w₂ : World}
theorem Post.refl (H : Holds P E A h w) : Post P E A h nx w E h nx w :=
 ⟨Nat.le_refl _, rfl, fun _ _ => ⟨rfl, rfl, rfl⟩, H.mono fun _ hn => .inl hn, rfl, rfl, rfl, Nat.le_refl _, fun _ _ _ => rfl, fun n o hn => .inl ⟨n, o, hn, rfl⟩⟩
theorem Post.trans (p : Post P E A h nx w E₁ h₁ nx₁ w₁) (q : Post P E₁ (fun n => A n \/ (nx <= n /\ n < nx₁)) h₁ nx₁ w₁ E₂ h₂ nx₂ w₂) : Post P E A h nx w E₂ h₂ nx₂ w₂ where
 le := Nat.le_trans p.le q.le
 even := q.even.trans p.even
 agree n hn := by
  have h1 := p.le; have h2 := q.le
  obtain ⟨a1, a2, a3⟩ := p.agree n (by omega)
  obtain ⟨b1, b2, b3⟩ := q.agree n (by omega)
  exact ⟨b1.trans a1, b2.trans a2, b3.trans a3⟩
 holds := q.holds.mono fun n hn => by have h1 := p.le; have h2 := q.le; rcases hn with (hn | hn) | hn; exact .inl hn; exact .inr (by omega); exact .inr (by omega)
 os := q.os.trans p.os
 tape := q.tape.trans p.tape
 output := q.output.trans p.output
 size := Nat.le_trans p.size q.size
 same b hb hnot := by
  have hp := p.same b hb hnot
  rw [<- hp]
  refine q.same b (Nat.lt_of_lt_of_le hb p.size) fun n o hn he => ?_
  rcases p.img n o hn with ⟨m, o', hm, e⟩ | e
  ·exact hnot m o' hm (by rw [<- e]; exact he)
  ·omega
 img n o hn := by
  rcases q.img n o hn with ⟨m, o', hm, e⟩ | e
  ·rcases p.img m o' hm with ⟨k, o'', hk, e'⟩ | e'
   ·exact .inl ⟨k, o'', hk, e.trans e'⟩
   ·exact .inr (by rw [e]; exact e')
  ·exact .inr (Nat.le_trans p.size e)
theorem Post.drop (p : Post P E A h nx w E' h' nx' w') (hs : ∀ n o, getB h₁ n = some o -> getB h' n = some o) : Post P E A h nx w E' h₁ nx' w' :=
 ⟨p.le, p.even, p.agree, p.holds.sub hs, p.os, p.tape, p.output, p.size, p.same, fun n o hn => p.img n o (hs n o hn)⟩
theorem Post.world (p : Post P E A h nx w E' h' nx' w') (h1 : w₁.heap = w'.heap) (h2 : w₁.os = w'.os) (h3 : w₁.tape = w'.tape) (h4 : w₁.output = w'.output) : Post P E A h nx w E' h' nx' w₁ :=
 ⟨p.le, p.even, p.agree, p.holds.world h1, h2.trans p.os, h3.trans p.tape, h4.trans p.output, by rw [h1]; exact p.size, fun b hb hn => by rw [h1]; exact p.same b hb hn, p.img⟩
theorem Post.agreeA (p : Post P E A h nx w E' h' nx' w') (hA : ∀ n, A n -> ¬ (nx <= n /\ n < nx')) : Agree A E E' := fun n hn => p.agree n (hA n hn)
theorem Post.put {m b : Nat} {o' oc' : Obj} (H : Holds P E A h w) (hle : nx <= nx') (hev : nx' % 2 = nx % 2)
  (hE : ∀ k, ¬ (nx <= k /\ k < nx') -> E'.β k = E.β k /\ E'.σ k = E.σ k /\ E'.κ k = E.κ k) (hEm : ∀ k, k ≠ m -> E'.β k = E.β k)
  (hA : ∀ n, A n -> ¬ (nx <= n /\ n < nx')) (hAm : A m \/ (nx <= m /\ m < nx')) (hβ : E'.β m = b)
  (hh : ∀ k x, getB h' k = some x -> (k = m /\ x = o') \/ (k ≠ m /\ getB h k = some x /\ E.β k ≠ b))
  (hsc : ScObj (fun n => A n \/ (nx <= n /\ n < nx')) o') (hrel : BlkRel P E' m o' oc') (hb : w'.heap[b]? = some oc') (hother : ∀ k, k ≠ b -> k < w.heap.size -> w'.heap[k]? = w.heap[k]?)
  (hsize : w.heap.size <= w'.heap.size) (h2 : w'.os = w.os) (h3 : w'.tape = w.tape) (h4 : w'.output = w.output)
  (himg : (∃ k x, getB h k = some x /\ E.β k = b) \/ w.heap.size <= b) : Post P E A h nx w E' h' nx' w' where
 le := hle
 even := hev
 agree := hE
 holds := by
  have hag : Agree A E E' := fun n hn => hE n (hA n hn)
  refine ⟨fun n o hn => ?_, fun n k o x hn hk he => ?_⟩
  ·rcases hh n o hn with ⟨rfl, rfl⟩ | ⟨hne, hg, hnb⟩
   ·exact ⟨hAm, hsc, oc', by rw [hβ]; exact hb, hrel⟩
   ·obtain ⟨a, s, oc, hc, hr⟩ := H.blk n o hg
    refine ⟨.inl a, ScObj_mono (fun _ h => .inl h) o s, oc, ?_, BlkRel.agree hag a s hr⟩
    have hlt : E.β n < w.heap.size := by
     rcases Nat.lt_or_ge (E.β n) w.heap.size with h' | h'
     ·exact h'
     ·rw [Array.getElem?_eq_none h'] at hc; cases hc
    rw [hEm n hne, hother _ hnb hlt]; exact hc
  ·rcases hh n o hn with ⟨rfl, rfl⟩ | ⟨hne, hg, hnb⟩ <;> rcases hh k x hk with ⟨rfl, rfl⟩ | ⟨hne', hg', hnb'⟩
   ·rfl
   ·rw [hβ, hEm k hne'] at he; exact absurd he.symm hnb'
   ·rw [hβ, hEm n hne] at he; exact absurd he hnb
   ·rw [hEm n hne, hEm k hne'] at he; exact H.inj n k o x hg hg' he
 os := h2
 tape := h3
 output := h4
 size := hsize
 same c hc hnot := by
  by_cases hcb : c = b
  ·subst hcb
   rcases himg with ⟨k, x, hk, e⟩ | e
   ·exact absurd e (hnot k x hk)
   ·omega
  ·exact hother c hcb hc
 img n o hn := by
  rcases hh n o hn with ⟨rfl, rfl⟩ | ⟨hne, hg, hnb⟩
  ·rw [hβ]
   exact himg.imp (fun ⟨k, x, hk, e⟩ => ⟨k, x, hk, e.symm⟩) id
  ·exact .inl ⟨n, o, hg, hEm n hne⟩
theorem getB_setB (h : List (Nat × Obj)) (n k : Nat) (o x : Obj) : getB (setB h n o) k = some x -> (k = n /\ x = o) \/ (k ≠ n /\ getB h k = some x) := by
 induction h with
 | nil => simp [setB, getB]
 | cons a r ih =>
  obtain ⟨m, y⟩ := a
  simp only [setB]
  by_cases hmn : m = n
  ·subst hmn
   rw [if_pos (by simp)]
   simp only [getB]
   by_cases hk : m = k
   ·subst hk; rw [if_pos (by simp)]; intro e; exact .inl ⟨rfl, (Option.some.inj e).symm⟩
   ·rw [if_neg (by simpa using hk), if_neg (by simpa using hk)]; intro e; exact .inr ⟨fun e => hk e.symm, e⟩
  ·rw [if_neg (by simpa using hmn)]
   simp only [getB]
   by_cases hk : m = k
   ·subst hk; rw [if_pos (by simp), if_pos (by simp)]; intro e; exact .inr ⟨hmn, e⟩
   ·rw [if_neg (by simpa using hk), if_neg (by simpa using hk)]; exact ih
theorem getB_delB (h : List (Nat × Obj)) (n k : Nat) (x : Obj) : getB (delB h n) k = some x -> k ≠ n /\ getB h k = some x := by
 induction h with
 | nil => simp [delB, getB]
 | cons a r ih =>
  obtain ⟨m, y⟩ := a
  simp only [delB]
  by_cases hmn : m = n
  ·subst hmn
   rw [if_pos (by simp)]
   intro e
   obtain ⟨h1, h2⟩ := ih e
   exact ⟨h1, by simp only [getB]; rw [if_neg (by simpa using fun e => h1 e.symm)]; exact h2⟩
  ·rw [if_neg (by simpa using hmn)]
   simp only [getB]
   by_cases hk : m = k
   ·subst hk; rw [if_pos (by simp), if_pos (by simp)]; intro e; exact ⟨hmn, e⟩
   ·rw [if_neg (by simpa using hk), if_neg (by simpa using hk)]; exact ih
theorem getB_dropNew (b : Nat) (h : List (Nat × Obj)) (k : Nat) (x : Obj) : getB (dropNew b h) k = some x -> getB h k = some x /\ k < b := by
 induction h with
 | nil => simp [dropNew, getB]
 | cons a r ih =>
  obtain ⟨m, y⟩ := a
  simp only [dropNew]
  by_cases hmn : b <= m
  ·rw [if_pos (by simpa using hmn)]
   intro e
   obtain ⟨h1, h2⟩ := ih e
   exact ⟨by simp only [getB]; rw [if_neg (by simp; omega)]; exact h1, h2⟩
  ·rw [if_neg (by simpa using hmn)]
   simp only [getB]
   by_cases hk : m = k
   ·subst hk; rw [if_pos (by simp), if_pos (by simp)]; intro e; exact ⟨e, by omega⟩
   ·rw [if_neg (by simpa using hk), if_neg (by simpa using hk)]; exact ih
end
theorem run_isAggT {P : Program} {t : TypeId} {b : Bool} (h : aggT P t = some b) (w : World) : (isAgg t).run P w = .ok b w := by
 unfold aggT at h
 cases hu : P.underlying t with
 | none => simp [hu] at h
 | some d =>
  have := run_underlying hu w
  simp only [isAgg, Sem.run_bind, this, Result.andThen_ok]
  cases d <;> simp [hu] at h <;> subst h <;> rfl
theorem run_sizeT {P : Program} {t : TypeId} {s : Nat} (h : sizeT P t = some s) (w : World) : (Go.sizeOf t).run P w = .ok s w := by
 unfold sizeT at h
 cases hi : P.info? t with
 | none => simp [hi] at h
 | some i =>
  simp [hi] at h; subst h
  simp [Go.sizeOf, typeInfo, hi]
theorem run_zeroT {P : Program} {t : TypeId} {z : Value} (h : zeroT P t = some z) (w : World) : (zeroValue t).run P w = .ok z w := by
 unfold zeroT at h
 cases hi : P.info? t with
 | none => simp [hi] at h
 | some i =>
  simp [hi] at h
  simp [zeroValue, typeInfo, hi, h]
theorem elemT_under {P : Program} {t e : TypeId} (h : elemT P t = some e) : P.underlying t = some (.slice e) := by
 unfold elemT at h
 split at h
 ·rename_i e' hu; simp at h; subst h; exact hu
 ·simp at h
theorem addr_add (b o k : Nat) : (⟨b, o, none⟩ : Addr).add k = ⟨b, o + k, none⟩ := by
 unfold Addr.add; split <;> simp_all
section
variable {P : Program} {E : Env} {A : Nat -> Prop} {h h' : List (Nat × Obj)} {w : World}
theorem cellsOf_some {n : Nat} {c : List Value} (hc : cellsOf h n = some c) : ∃ cs e fz, getB h n = some (.cells cs e fz) /\ cs.toList = c := by
 unfold cellsOf at hc
 split at hc
 ·rename_i cs e fz hg; simp at hc; exact ⟨cs, e, fz, hg, hc⟩
 ·simp at hc
theorem Holds.cells (H : Holds P E A h w) {n : Nat} {c : Array Value} {e : TypeId} {fz : Nat × Nat} (hg : getB h n = some (.cells c e fz)) :
  ∃ cc fzc, w.heap[E.β n]? = some (.cells cc e fzc) /\ (∀ i v, c[i]? = some v -> cc[E.σ n + i]? = some (ren E v)) /\ (∀ x ∈ c, Sc A x) /\ A n /\
   (∀ off k, mayWrite n off fz = true -> off <= k -> E.σ n + k < cc.size -> ¬ (fzc.1 <= E.σ n + k /\ E.σ n + k < fzc.2)) /\ E.σ n + c.size <= cc.size := by
 obtain ⟨ha, hs, oc, hoc, hr⟩ := H.blk n _ hg
 simp only [BlkRel] at hr
 split at hr
 ·rename_i hrow
  obtain ⟨cc, fzc, s, rfl, h2, h3, h4, h5, h6, h7⟩ := hr
  refine ⟨cc, fzc, hoc, h3, hs, ha, fun off k hm hk hlt => h6 k ?_ (by omega), by omega⟩
  simp only [mayWrite, hrow, if_true] at hm
  exact Nat.le_trans (Nat.le_of_ble_eq_true hm) hk
 ·rename_i hrow
  obtain ⟨h1, rfl⟩ := hr
  refine ⟨c.map (ren E), fz, hoc, fun i v hv => by rw [h1, Nat.zero_add, Array.getElem?_map, hv]; rfl, hs, ha, fun off k hm hk hlt => ?_, by rw [h1]; simp⟩
  simp only [mayWrite, hrow] at hm
  simp at hm
  rcases hm with hm | hm <;> omega
theorem Holds.cellAt (H : Holds P E A h w) {n i : Nat} {c : List Value} {v : Value} (hc : cellsOf h n = some c) (hi : c[i]? = some v) :
  w.cell? ⟨E.β n, E.σ n + i, none⟩ = some (ren E v) /\ Sc A v := by
 obtain ⟨cs, e, fz, hg, rfl⟩ := cellsOf_some hc
 obtain ⟨cc, fzc, h1, h2, h3, _⟩ := H.cells hg
 have hi' : cs[i]? = some v := by simpa using hi
 exact ⟨by simp [World.cell?, h1, h2 i v hi'], h3 v (Array.mem_of_getElem? hi')⟩
theorem run_cellsOf (H : Holds P E A h w) {n off k : Nat} {c : List Value} (hc : cellsOf h n = some c) (hle : off + k <= c.length) :
  (loadCells ⟨E.β n, E.σ n + off, none⟩ k).run P w = .ok (((c.drop off).take k).map (ren E)).toArray w /\ ∀ x ∈ (c.drop off).take k, Sc A x := by
 have hlen : (((c.drop off).take k).map (ren E)).length = k := by simp; omega
 have hcell : ∀ j v, ((c.drop off).take k)[j]? = some v -> w.cell? ⟨E.β n, E.σ n + off + j, none⟩ = some (ren E v) /\ Sc A v := by
  intro j v hv
  rw [List.getElem?_take] at hv
  split at hv
  ·rw [List.getElem?_drop] at hv
   have := H.cellAt hc hv
   rw [Nat.add_assoc]; exact this
  ·cases hv
 constructor
 ·have := run_loadCells_list (P := P) w ⟨E.β n, E.σ n + off, none⟩ (((c.drop off).take k).map (ren E)) (fun j v hv => by
   rw [List.getElem?_map] at hv
   cases hx : ((c.drop off).take k)[j]? with
   | none => simp [hx] at hv
   | some x => simp [hx] at hv; subst hv; rw [addr_add]; exact (hcell j x hx).1)
  rw [hlen] at this
  exact this
 ·intro x hx
  obtain ⟨j, hj⟩ := List.getElem?_of_mem hx
  exact (hcell j x hj).2
theorem aload_sound (H : Holds P E A h w) {t : TypeId} {v r : Value} (hl : aload P h t v = some r) :
  (Instr.loadAt t (ren E v)).run P w = .ok (ren E r) w /\ Sc A r := by
 unfold aload at hl
 split at hl
 ·rename_i n off
  rw [ren_ptr]
  split at hl
  ·rename_i c s hc hagg hsz
   simp only [Option.ite_none_right_eq_some, Option.some.injEq] at hl
   obtain ⟨hle, rfl⟩ := hl
   have hle := Nat.le_of_ble_eq_true hle
   obtain ⟨h1, h2⟩ := run_cellsOf H hc hle
   constructor
   ·simp only [Instr.loadAt, Instr.sureAddr, Sem.run_bind, Sem.run_pure, Result.andThen_ok, loadVar, run_isAggT hagg, if_true, run_sizeT hsz, Env.addr, h1]
    rw [ren_agg]; simp
   ·rw [Sc_agg]; intro x hx; exact h2 x (by simpa using hx)
  ·rename_i _ c hc hagg
   obtain ⟨h1, h2⟩ := H.cellAt hc hl
   refine ⟨?_, h2⟩
   simp only [Instr.loadAt, Instr.sureAddr, Sem.run_bind, Sem.run_pure, Result.andThen_ok, loadVar, run_isAggT hagg, Bool.false_eq_true, if_false, run_load, Env.addr, h1]
  ·simp at hl
 ·simp at hl
theorem over_get : ∀ (c : List Value) (off : Nat) (vs : List Value), off + vs.length <= c.length -> ∀ i, (over c off vs)[i]? = if i < off then c[i]? else if i < off + vs.length then vs[i - off]? else c[i]?
 | c, 0, vs, hl, i => by
  have : over c 0 vs = vs ++ c.drop vs.length := by cases c <;> rfl
  rw [this]
  simp only [Nat.not_lt_zero, if_false, Nat.zero_add, Nat.sub_zero]
  by_cases hi : i < vs.length
  ·rw [if_pos hi, List.getElem?_append_left hi]
  ·rw [if_neg hi, List.getElem?_append_right (by omega), List.getElem?_drop]
   congr 1; omega
 | [], n + 1, vs, hl, i => by simp at hl
 | x :: c, n + 1, vs, hl, i => by
  cases i with
  | zero => simp [over]
  | succ i =>
   simp only [over, List.getElem?_cons_succ]
   rw [over_get c n vs (by simp at hl; omega) i]
   simp only [Nat.add_lt_add_iff_right]
   by_cases h1 : i < n
   ·rw [if_pos h1, if_pos h1]
   ·rw [if_neg h1, if_neg h1]
    by_cases h2 : i < n + vs.length
    ·rw [if_pos h2, if_pos (by omega)]; congr 1; omega
    ·rw [if_neg h2, if_neg (by omega)]
theorem over_length (c : List Value) (off : Nat) (vs : List Value) (hl : off + vs.length <= c.length) : (over c off vs).length = c.length := by
 have h1 := over_get c off vs hl
 rcases Nat.lt_trichotomy (over c off vs).length c.length with h | h | h
 ·have := h1 (over c off vs).length
  rw [List.getElem?_eq_none (Nat.le_refl _)] at this
  split at this
  ·rw [eq_comm, List.getElem?_eq_none_iff] at this; omega
  ·split at this
   ·rw [eq_comm, List.getElem?_eq_none_iff] at this; omega
   ·rw [eq_comm, List.getElem?_eq_none_iff] at this; omega
 ·exact h
 ·have := h1 c.length
  rw [if_neg (by omega), if_neg (by omega), List.getElem?_eq_none (Nat.le_refl _), List.getElem?_eq_none_iff] at this
  omega
theorem run_storeCells_any (g o : Nat) (t : TypeId) (fz : Nat × Nat) : ∀ (vs : List Value) (i : Nat) (cur : Array Value) (w : World), w.heap[g]? = some (.cells cur t fz) ->
  (∀ j, o + i <= j -> j < o + i + vs.length -> ¬ (fz.1 <= j /\ j < fz.2)) -> o + i + vs.length <= cur.size -> (∀ v ∈ vs, v.oneCell' = true) ->
  (storeCells ⟨g, o, none⟩ vs i).run P w = .ok () (w.setRow g (cur.toList.take (o + i) ++ vs ++ cur.toList.drop (o + i + vs.length)).toArray)
 | [], i, cur, w, hg, _, _, _ => by
  simp only [storeCells, List.append_nil, List.length_nil, Nat.add_zero, List.take_append_drop, Array.toArray_toList]
  rw [setRow_self w g cur t fz hg]
  rfl
 | v :: rest, i, cur, w, hg, hfz, hl, h1 => by
  have hi : o + i < cur.size := by simp at hl; omega
  have hcell : w.cell? ⟨g, o + i, none⟩ = some cur[o + i] := by simp [World.cell?, hg, hi]
  have hfro : w.frozen? ⟨g, o + i, none⟩ = false := by
   have := hfz (o + i) (Nat.le_refl _) (by simp)
   obtain ⟨lo, hi'⟩ := fz
   simp only [World.frozen?, hg, Bool.and_eq_false_iff, decide_eq_false_iff_not]
   simp only at this
   omega
  have hst : (store ((⟨g, o, none⟩ : Addr).add i) v).run P w = .ok () (w.setRow g (cur.setIfInBounds (o + i) v)) := by
   rw [addr_add, run_store P w _ v _ (h1 v (by simp)), hcell]
   simp [hfro, setCell_eq_setRow w g (o + i) cur t fz v hg]
  have ih := run_storeCells_any g o t fz rest (i + 1) (cur.setIfInBounds (o + i) v) (w.setRow g (cur.setIfInBounds (o + i) v)) (setRow_heap w g cur _ t _ hg) (fun j hj1 hj2 => hfz j (by omega) (by simp; omega)) (by simp at hl ⊢; omega) (fun x hx => h1 x (by simp [hx]))
  simp only [storeCells, Sem.run_bind, hst, Result.andThen_ok, ih, setRow_setRow]
  congr 3
  have e := list_seg_step cur.toList (o + i) v rest (by simp at hl ⊢; omega)
  simpa [Array.toList_setIfInBounds, Nat.add_assoc] using e
theorem one_oneCell (v : Value) : one v = v.oneCell' := by cases v <;> rfl
theorem allOne_mem {l : List Value} (h : allOne l = true) : ∀ v ∈ l, one v = true := by
 induction l with
 | nil => simp
 | cons a r ih => simp [allOne] at h; intro v hv; rcases List.mem_cons.1 hv with rfl | hv; exact h.1; exact ih h.2 v hv
theorem seg_get (l vs : List Value) (k i : Nat) (hk : k + vs.length <= l.length) : (l.take k ++ vs ++ l.drop (k + vs.length))[i]? = if i < k then l[i]? else if i < k + vs.length then vs[i - k]? else l[i]? := by
 have hlt : (l.take k).length = k := by simp; omega
 by_cases h1 : i < k
 ·rw [if_pos h1, List.append_assoc, List.getElem?_append_left (by omega), List.getElem?_take, if_pos h1]
 ·rw [if_neg h1]
  by_cases h2 : i < k + vs.length
  ·rw [if_pos h2, List.getElem?_append_left (by simp; omega), List.getElem?_append_right (by omega), hlt]
  ·rw [if_neg h2, List.getElem?_append_right (by simp; omega), List.getElem?_drop]
   congr 1; simp; omega
theorem astoreCells_sound (H : Holds P E A h w) {n off : Nat} {vs : List Value} (hs : astoreCells h n off vs = some h') (hsc : ∀ v ∈ vs, Sc A v) (nx : Nat) :
  ∃ w', (storeCells ⟨E.β n, E.σ n + off, none⟩ (vs.map (ren E))).run P w = .ok () w' /\ Post P E A h nx w E h' nx w' := by
 unfold astoreCells at hs
 split at hs
 ·simp at hs; subst hs
  exact ⟨w, rfl, Post.refl H⟩
 ·split at hs
  ·rename_i _ c e fz hg
   simp only [Option.ite_none_right_eq_some, Option.some.injEq, Bool.and_eq_true] at hs
   obtain ⟨⟨⟨hle, hone⟩, hmay⟩, rfl⟩ := hs
   have hle := Nat.le_of_ble_eq_true hle
   obtain ⟨cc, fzc, h1, h2, h3, h4, h5, h6⟩ := H.cells hg
   have hrun := run_storeCells_any (P := P) (E.β n) (E.σ n + off) e fzc (vs.map (ren E)) 0 cc w h1 (fun j hj1 hj2 => by
     have := h5 off (j - E.σ n) hmay (by omega) (by simp at hj2; omega)
     rw [show E.σ n + (j - E.σ n) = j by omega] at this
     exact this) (by simp; omega) (fun v hv => by
     obtain ⟨x, hx, rfl⟩ := List.mem_map.1 hv
     rw [<- one_oneCell, one_ren]; exact allOne_mem hone x hx)
   refine ⟨_, hrun, ?_⟩
   have hov := over_get c.toList off vs (by simpa using hle)
   have hget : ∀ i, (cc.toList.take (E.σ n + off + 0) ++ vs.map (ren E) ++ cc.toList.drop (E.σ n + off + 0 + (vs.map (ren E)).length))[i]? = if i < E.σ n + off then cc.toList[i]? else if i < E.σ n + off + vs.length then (vs.map (ren E))[i - (E.σ n + off)]? else cc.toList[i]? := by
    intro i
    have := seg_get cc.toList (vs.map (ren E)) (E.σ n + off) i (by simp; omega)
    simpa using this
   have hlen : (cc.toList.take (E.σ n + off + 0) ++ vs.map (ren E) ++ cc.toList.drop (E.σ n + off + 0 + (vs.map (ren E)).length)).length = cc.size := by simp; omega
   generalize cc.toList.take (E.σ n + off + 0) ++ vs.map (ren E) ++ cc.toList.drop (E.σ n + off + 0 + (vs.map (ren E)).length) = nc at *
   have hnew : ∀ i v, (over c.toList off vs)[i]? = some v -> nc[E.σ n + i]? = some (ren E v) := by
    intro i v hv
    rw [hov] at hv
    rw [hget]
    by_cases g1 : i < off
    ·rw [if_pos g1] at hv; rw [if_pos (by omega)]; have := h2 i v (by simpa using hv); simpa using this
    ·rw [if_neg g1] at hv; rw [if_neg (by omega)]
     by_cases g2 : i < off + vs.length
     ·rw [if_pos g2] at hv; rw [if_pos (by omega), List.getElem?_map, show E.σ n + i - (E.σ n + off) = i - off by omega, hv]; rfl
     ·rw [if_neg g2] at hv; rw [if_neg (by omega)]; have := h2 i v (by simpa using hv); simpa using this
   have hscn : ∀ x ∈ (over c.toList off vs).toArray, Sc A x := by
    intro x hx
    obtain ⟨i, hi⟩ := List.getElem?_of_mem (show x ∈ over c.toList off vs by simpa using hx)
    rw [hov] at hi
    split at hi
    ·exact h3 x (Array.mem_of_getElem? (by simpa using hi))
    ·split at hi
     ·exact hsc x (List.mem_of_getElem? hi)
     ·exact h3 x (Array.mem_of_getElem? (by simpa using hi))
   have hbr : BlkRel P E n (.cells (over c.toList off vs).toArray e fz) (.cells nc.toArray e fzc) := by
    obtain ⟨_, _, oc, hoc, hr⟩ := H.blk n _ hg
    rw [h1] at hoc; obtain rfl := Option.some.inj hoc
    have hol := over_length c.toList off vs (by simpa using hle)
    simp only [BlkRel] at hr ⊢
    split at hr
    ·rename_i hrow
     rw [if_pos hrow]
     obtain ⟨cc', fzc', s, e1, e2, e3, e4, e5, e6, e7⟩ := hr
     simp at e1; obtain ⟨rfl, rfl⟩ := e1
     exact ⟨nc.toArray, fzc, s, rfl, e2, fun i v hv => by simpa using hnew i v (by simpa using hv), by simp [hlen]; exact e4, by simp [hol]; exact e5, e6, e7⟩
    ·rename_i hrow
     rw [if_neg hrow]
     obtain ⟨e1, e2⟩ := hr
     simp at e2; obtain ⟨e2, e3⟩ := e2
     refine ⟨e1, ?_⟩
     subst e3
     congr 1
     apply Array.ext'
     simp only [Array.toList_map]
     apply List.ext_getElem?
     intro i
     rw [List.getElem?_map]
     cases hx : (over c.toList off vs)[i]? with
     | some v => have := hnew i v hx; rw [e1, Nat.zero_add] at this; rw [this]; rfl
     | none =>
      rw [List.getElem?_eq_none_iff] at hx
      simp only [Option.map_none]
      rw [List.getElem?_eq_none_iff, hlen, e2]; simp; simpa [hol] using hx
   refine Post.put (m := n) (b := E.β n) (o' := .cells (over c.toList off vs).toArray e fz) (oc' := .cells nc.toArray e fzc) H (Nat.le_refl _) rfl (fun _ _ => ⟨rfl, rfl, rfl⟩) (fun _ _ => rfl) (fun k _ hk => by omega) (.inl h4) rfl ?_ (fun x hx => Sc_mono (fun _ h => .inl h) x (hscn x hx)) hbr ?_ ?_ (by simp) rfl rfl rfl (.inl ⟨n, _, hg, rfl⟩)
   ·intro k x hk
    rcases getB_setB _ _ _ _ _ hk with ⟨rfl, rfl⟩ | ⟨hne, hgk⟩
    ·exact .inl ⟨rfl, rfl⟩
    ·exact .inr ⟨hne, hgk, fun he => hne (H.inj k n _ _ hgk hg he)⟩
   ·exact setRow_heap w _ cc _ e fzc h1
   ·intro k hk _; exact setRow_other w _ k _ hk
  ·simp at hs
theorem astore_sound (H : Holds P E A h w) {t : TypeId} {a v : Value} (hs : astore P h t a v = some h') (hsc : Sc A v) (nx : Nat) :
  ∃ w', (Instr.storeAt t (ren E a) (ren E v)).run P w = .ok () w' /\ Post P E A h nx w E h' nx w' := by
 unfold astore at hs
 split at hs
 ·rename_i n off
  split at hs
  ·rename_i s hsz
   simp only [Option.ite_none_right_eq_some] at hs
   obtain ⟨hsize, hs⟩ := hs
   obtain ⟨w', h1, h2⟩ := astoreCells_sound H hs (fun x hx => Sc_cells hsc x (by simpa using hx)) nx
   refine ⟨w', ?_, h2⟩
   have hsize : v.cells.size = s := by simpa using hsize
   have hc : (ren E v).cells.size = s := by rw [cells_ren]; simpa using hsize
   have hcl : (ren E v).cells.toList = v.cells.toList.map (ren E) := by rw [cells_ren]; simp
   rw [ren_ptr]
   simp only [Instr.storeAt, Instr.sureAddr, Sem.run_bind, Sem.run_pure, Result.andThen_ok, storeVar, run_sizeT hsz, hc, ne_eq, not_true_eq_false, if_false, Env.addr, hcl, h1]
  ·simp at hs
 ·simp at hs
end
end Go.Dam
