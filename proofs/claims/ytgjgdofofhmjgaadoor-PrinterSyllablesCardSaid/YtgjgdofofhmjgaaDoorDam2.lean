/-
  An own evaluator of closed runs of a program, proved sound against the model for every order of draws and every capacity of append. This text is one part of it; the last part's theorem 'closed' says what a run in the kernel proves. Used for the law's closed self-test.
-/
import Derived.Test.YtgjgdofofhmjgaaDoorDam1
namespace Go.Dam

/-- nil tests, and the equality of two pointers of one block -/
def aeql (P : Program) (t : TypeId) (x y : Value) : Option Bool :=
  match P.underlying t with
  | some (.pointer e) =>
    match x, y with
    | .pointer none, .pointer b => some b.isNone
    | .pointer (some _), .pointer none => some false
    | .pointer (some ⟨m, i, none⟩), .pointer (some ⟨n, j, none⟩) =>
      match sizeT P e with
      | some s => if Nat.beq s 0 = true then none else if Nat.beq m n = true then some (Nat.beq i j) else none
      | none => none
    | _, _ => none
  | some (.slice _) =>
    match x, y with
    | .slice none _ _, .slice b _ _ => some b.isNone
    | .slice (some _) _ _, .slice none _ _ => some false
    | _, _ => none
  | some (.map _ _) =>
    match x, y with
    | .map none, .map b => some b.isNone
    | .map (some _), .map none => some false
    | _, _ => none
  | some (.func _ _ _) =>
    match x, y with
    | .nilFunc, .nilFunc => some true
    | .nilFunc, .func _ _ _ => some false
    | .func _ _ _, .nilFunc => some false
    | _, _ => none
  | _ => none

def aparts (tm : List Value) (ps : Array (Nat × Operand)) : Array (Nat × Value) := (ps.toList.map fun (i, x) => (i, aeval tm x)).toArray

def zeroT (P : Program) (t : TypeId) : Option Value :=
  match P.info? t with
  | some i => i.zero
  | none => none

def repL : Nat → List Value → List Value
  | 0, _ => []
  | n + 1, z => z ++ repL n z

def aallocCells (P : Program) (t : TypeId) : Option (List Value) :=
  match zeroT P t with
  | some z => some z.cells.toList
  | none => none

/-- 'fill' over lists, for parts all of one size -/
def fillL (s : Nat) : List Value → List (Nat × Value) → Option (List Value)
  | c, [] => some c
  | c, (i, v) :: r =>
    if Nat.beq v.cells.size s && Nat.ble (i * s + s) c.length then fillL s (over c (i * s) v.cells.toList) r else none

def abuildSlice (P : Program) (tm : List Value) (S : St) (t : TypeId) (n : Nat) (ps : Array (Nat × Operand)) : Option (Value × St) :=
  match elemT P t with
  | some e =>
    match sizeT P e, zeroT P e with
    | some s, some z =>
      if Nat.beq z.cells.size s && Nat.ble (n * s) 1048576 && Nat.blt 0 s && plainAll z.cells.toList then
      match fillL s (repL n z.cells.toList) (aparts tm ps).toList with
      | some cs =>
        let (m, S') := newExact S (.cells cs.toArray e)
        some (.slice (some ⟨m, 0, none⟩) n n, S')
      | none => none
      else none
    | _, _ => none
  | none => none

def amakeSlice (P : Program) (S : St) (t : TypeId) (l c : Value) : Option (Value × St) :=
  match elemT P t with
  | some e =>
    match P.info? e, natOf l, natOf c with
    | some ti, some l, some c =>
      match ti.zero with
      | some z =>
        if Nat.ble l c && Nat.ble c 1048576 && Nat.ble ti.bytes 65536 && Nat.ble (c * ti.size) 16777216 && Nat.beq z.cells.size ti.size && Nat.blt 0 ti.size && plainAll z.cells.toList then
          let (m, S') := newExact S (.cells (repL c z.cells.toList).toArray e)
          some (.slice (some ⟨m, 0, none⟩) l c, S')
        else none
      | none => none
    | _, _, _ => none
  | none => none

def acopy (P : Program) (S : St) (args : Array TypeId) (dst src : Value) : Option (Value × St) :=
  match args.toList with
  | dT :: _ =>
    match elemT P dT, dst, lenA src with
    | some e, .slice base dl _, some sl =>
      match sizeT P e with
      | none => none
      | some s =>
        let n := if Nat.ble sl dl = true then sl else dl
        match firstA S.heap s n src with
        | none => none
        | some cs =>
          match base with
          | none => if Nat.beq n 0 = true then some (.int .i64 0, S) else none
          | some ⟨b, off, none⟩ =>
            match astoreCells S.heap b off cs with
            | some h' => some (.int .i64 n, ⟨h', S.next⟩)
            | none => none
          | _ => none
    | _, _, _ => none
  | _ => none

/-- the entry of a map that a key finds -/
def afind (P : Program) (k : TypeId) (key : Value) (es : Array MapEntry) : Option (Option (Nat × Value)) :=
  purely P (do Instr.checkKey es.isEmpty 10000 k key; Instr.findKey k key es.toList)

def keysPlain : List MapEntry → Bool
  | [] => true
  | e :: r => plain2 e.key && keysPlain r

def alookup (P : Program) (h : List (Nat × Obj)) (t : TypeId) (x i : Value) (ok : Bool) : Option Value :=
  match P.underlying t with
  | some (.map k e) =>
    if plain2 i then
    match x with
    | .map none =>
      match zeroT P e with
      | some z => if plain2 z then (match purely P (Instr.checkKey true 10000 k i) with | some _ => some (if ok then .tuple #[z, .bool false] else z) | none => none) else none
      | none => none
    | .map (some n) =>
      match getB h n with
      | some (.map es _) =>
        if keysPlain es.toList then
        match afind P k i es with
        | some (some (_, v)) => some (if ok then .tuple #[v, .bool true] else v)
        | some none =>
          match zeroT P e with
          | some z => if plain2 z then some (if ok then .tuple #[z, .bool false] else z) else none
          | none => none
        | none => none
        else none
      | _ => none
    | _ => none
    else none
  | _ => none

def modL : List MapEntry → Nat → Value → Value → List MapEntry
  | [], _, _, _ => []
  | e :: r, 0, k, v => { e with key := k, val := v } :: r
  | e :: r, n + 1, k, v => e :: modL r n k v

def keyAt : List MapEntry → Nat → Value
  | [], _ => undef
  | e :: _, 0 => e.key
  | _ :: r, n + 1 => keyAt r n

def amapUpdate (P : Program) (S : St) (t : TypeId) (m i v : Value) : Option St :=
  match P.underlying t with
  | some (.map k _) =>
    if plain2 i then
    match m with
    | .map (some n) =>
      match getB S.heap n with
      | some (.map es clock) =>
        if keysPlain es.toList then
        match purely P (do Instr.checkKey false 10000 k i; Instr.findKey k i es.toList) with
        | some (some (j, _)) =>
          if Instr.sameBits 10000 (keyAt es.toList j) i && Nat.blt j es.size then some ⟨setB S.heap n (.map (modL es.toList j i v).toArray clock), S.next⟩ else none
        | some none => some ⟨setB S.heap n (.map (es.push { key := i, val := v, born := clock }) (clock + 1)), S.next⟩
        | none => none
        else none
      | _ => none
    | _ => none
    else none
  | _ => none

def bytesOfCells : List Value → Option (List UInt8)
  | [] => some []
  | .int .u8 n :: r => match bytesOfCells r with
    | some l => if 0 ≤ n ∧ n < 256 then some (n.toNat.toUInt8 :: l) else none
    | none => none
  | _ => none

/-- []byte to string -/
def atoString (h : List (Nat × Obj)) (x : Value) : Option Value :=
  match x with
  | .slice none _ _ => some (.string .empty)
  | .slice (some ⟨n, off, none⟩) len _ =>
    match cellsOf h n with
    | some c => if Nat.ble (off + len) c.length then
        match bytesOfCells ((c.drop off).take len) with
        | some l => some (.string ⟨l.toArray⟩)
        | none => none
      else none
    | none => none
  | _ => none

/-- string to []byte: a new row whose end is marked -/
def atoBytes (S : St) (e : TypeId) (s : ByteArray) : Value × St :=
  let (m, S') := newRowA S (.cells (s.data.toList.map fun b => .int .u8 b.toNat).toArray e (1, 0))
  (.slice (some ⟨m, 0, none⟩) s.size 0, S')

def aunsafeString (P : Program) (S : St) (args : Array TypeId) (x l : Value) : Option (Value × St) :=
  match args.toList with
  | [pt, _] =>
    match P.underlying pt with
    | some (.pointer u) =>
      match x, natOf l with
      | .pointer none, some 0 => some (.string .empty, S)
      | .pointer (some ⟨n, off, none⟩), some len =>
        if Nat.beq len 0 = true then some (.string .empty, S) else
        match getB S.heap n with
        | some (.cells c e (0, hi)) =>
          if isRow n && Nat.ble (off + len) c.size && Nat.beq e u && Nat.ble len 1048576 then
            match bytesOfCells ((c.toList.drop off).take len), sizeT P e with
            | some b, some 1 => some (.string ⟨b.toArray⟩, ⟨setB S.heap n (.cells c e (0, max hi (off + len))), S.next⟩)
            | _, _ => none
          else none
        | _ => none
      | _, _ => none
    | _ => none
  | _ => none

def amakeNoZero (P : Program) (S : St) (t : TypeId) (x : Value) : Option (Value × St) :=
  match x, elemT P t with
  | .int .i64 _, some e =>
    match natOf x, sizeT P e with
    | some n, some 1 => if Nat.ble n 1048576 then (let (m, S') := newRowA S (.cells #[] e (0, 0)); some (.slice (some ⟨m, 0, none⟩) n 0, S')) else none
    | _, _ => none
  | _, _ => none

def alen (P : Program) (h : List (Nat × Obj)) (args : Array TypeId) (x : Value) : Option Value :=
  match args.toList with
  | [t] =>
    match x, P.underlying t with
    | .slice (some _) n _, some (.slice _) => some (.int .i64 n)
    | .map (some n), some (.map _ _) => match getB h n with
      | some (.map es _) => some (.int .i64 es.size)
      | _ => none
    | _, _ => none
  | _ => none

def acap (P : Program) (args : Array TypeId) (x : Value) : Option Value :=
  match args.toList with
  | [t] =>
    match x, P.underlying t with
    | .slice (some q) _ cp, some (.slice _) => if isRow q.block = true then none else some (.int .i64 cp)
    | _, _ => none
  | _ => none

def asliceData (P : Program) (h : List (Nat × Obj)) (x : Value) : Option Value :=
  match x with
  | .slice none _ _ => some (.pointer none)
  | .slice (some ⟨n, off, none⟩) _ cp =>
    if isRow n = true then
      match getB h n with
      | some (.cells c e _) =>
        match sizeT P e with
        | some 1 => if Nat.blt off c.size && Nat.beq off cp then some (.pointer (some ⟨n, off, none⟩)) else none
        | _ => none
      | _ => none
    else if Nat.blt 0 cp then some (.pointer (some ⟨n, off, none⟩)) else none
  | _ => none

/-- a pointer as an unsafe.Pointer, and back -/
def atoUnsafe (P : Program) (h : List (Nat × Obj)) (t : TypeId) (x : Value) : Option Value :=
  match x with
  | .pointer (some ⟨n, off, none⟩) =>
    match getB h n, sizeT P t with
    | some (.cells c _ _), some s => if Nat.blt off c.size && Nat.blt 0 s then some x else none
    | _, _ => none
  | _ => none

def afromUnsafe (P : Program) (h : List (Nat × Obj)) (u : TypeId) (x : Value) : Option Value :=
  match x with
  | .pointer (some ⟨n, 0, none⟩) =>
    match getB h n, sizeT P u with
    | some (.cells c e _), some s => if !(isRow n) && Nat.beq e u && Nat.blt 0 s && Nat.ble s c.size then some x else none
    | _, _ => none
  | _ => none

/-- What an operation comes to. 'callF' answers for the functions of the program. -/
def astep (callF : FuncId → List Value → St → Option (Value × St)) (P : Program) (tm : List Value) (S : St) (o : Oper) : Option (Value × St) :=
  match o.op with
  | .move x | .assign x => some (aeval tm x, S)
  | .pick c a b =>
    match aeval tm c with
    | .bool d => some (if d = true then aeval tm a else aeval tm b, S)
    | _ => none
  | .alloc t =>
    match aallocCells P t with
    | some cs => if plainAll cs then (let (m, S') := newExact S (.cells cs.toArray t); some (.pointer (some ⟨m, 0, none⟩), S')) else none
    | none => none
  | .box t x => let (m, S') := newExact S (.cells (aeval tm x).cells t); some (.pointer (some ⟨m, 0, none⟩), S')
  | .build t ps =>
    match zeroT P t, purely P (Instr.build t (aparts tm ps)) with
    | some z, some v => if plainAll z.cells.toList then some (v, S) else none
    | _, _ => none
  | .buildSlice t n ps => abuildSlice P tm S t n ps
  | .load t a => match aload P S.heap t (aeval tm a) with
    | some v => some (v, S)
    | none => none
  | .store t a x => match astore P S.heap t (aeval tm a) (aeval tm x) with
    | some h' => some (undef, ⟨h', S.next⟩)
    | none => none
  | .nilCheck x => match aeval tm x with
    | .pointer (some a) => some (.pointer (some a), S)
    | _ => none
  | .binOp op t x y _ =>
    if plain (aeval tm x) && plain (aeval tm y) then
      match apure P tm o with
      | some v => some (v, S)
      | none => none
    else
      match op, aeql P t (aeval tm x) (aeval tm y) with
      | .eql, some b => some (.bool b, S)
      | .neq, some b => some (.bool !b, S)
      | _, _ => none
  | .convert s d x =>
    match aeval tm x, P.underlying s, P.underlying d with
    | .string b, some .string, some (.slice e) =>
      match P.underlying e, sizeT P e with
      | some (.int .u8), some 1 => some (atoBytes S e b)
      | _, _ => none
    | x, some (.slice e), some .string =>
      match P.underlying e with
      | some (.int .u8) => match atoString S.heap x with
        | some v => some (v, S)
        | none => none
      | _ => none
    | x, some (.pointer t), some .unsafePointer => match atoUnsafe P S.heap t x with
      | some v => some (v, S)
      | none => none
    | x, some .unsafePointer, some (.pointer u) => match afromUnsafe P S.heap u x with
      | some v => some (v, S)
      | none => none
    | x, _, _ => if plain x then (match apure P tm o with
      | some v => some (v, S)
      | none => none) else none
  | .makeInterface t x =>
    match P.underlying t with
    | some (.interface _) => none
    | some _ => some (.iface t (aeval tm x), S)
    | none => none
  | .makeFunc fn first captured => some (.func fn (first.toList.map (aeval tm)).toArray (captured.toList.map (aeval tm)).toArray, S)
  | .makeMap _ none => let (m, S') := newExact S (.map #[] 0); some (.map (some m), S')
  | .makeSlice t l c => amakeSlice P S t (aeval tm l) (aeval tm c)
  | .slice t x lo hi none =>
    match aeval tm x with
    | .string _ => if plainOperands tm (x :: (lo.toList ++ hi.toList)) then (match apure P tm o with
      | some v => some (v, S)
      | none => none) else none
    | .slice none _ _ => if plainOperands tm (x :: (lo.toList ++ hi.toList)) then (match apure P tm o with
      | some v => some (v, S)
      | none => none) else none
    | v => match aslice P S.heap t v (lo.map (aeval tm)) (hi.map (aeval tm)) with
      | some v => some (v, S)
      | none => none
  | .fieldAddr t x f => match afieldAddr P t (aeval tm x) f with
    | some v => some (v, S)
    | none => none
  | .indexAddr t x i => match aindexAddr P t (aeval tm x) (aeval tm i) with
    | some v => some (v, S)
    | none => none
  | .field t x f => match purely P (Instr.field t (aeval tm x) f) with
    | some v => some (v, S)
    | none => none
  | .index t x i => match purely P (Instr.index t (aeval tm x) (aeval tm i)) with
    | some v => some (v, S)
    | none => none
  | .extract x i => match purely P (Instr.extract (aeval tm x) i) with
    | some v => some (v, S)
    | none => none
  | .lookup t x i ok => match alookup P S.heap t (aeval tm x) (aeval tm i) ok with
    | some v => some (v, S)
    | none => none
  | .mapUpdate t m k x | .insert t m k x => match amapUpdate P S t (aeval tm m) (aeval tm k) (aeval tm x) with
    | some S' => some (undef, S')
    | none => none
  | .unOp _ _ x => if plain (aeval tm x) then (match apure P tm o with
    | some v => some (v, S)
    | none => none) else none
  | .call c =>
    match c.callee, c.args.toList with
    | .builtin .append, [x, y] => aappend P S c.argTypes (aeval tm x) (aeval tm y)
    | .builtin .copy, [x, y] => acopy P S c.argTypes (aeval tm x) (aeval tm y)
    | .builtin .len, [x] =>
      match alen P S.heap c.argTypes (aeval tm x) with
      | some v => some (v, S)
      | none => if plainOperands tm [x] then (match apure P tm o with
        | some v => some (v, S)
        | none => none) else none
    | .builtin .cap, [x] =>
      match acap P c.argTypes (aeval tm x) with
      | some v => some (v, S)
      | none => if plainOperands tm [x] then (match apure P tm o with
        | some v => some (v, S)
        | none => none) else none
    | .builtin .unsafeSliceData, [x] =>
      match asliceData P S.heap (aeval tm x) with
      | some p => some (p, S)
      | none => none
    | .builtin .unsafeString, [x, y] => aunsafeString P S c.argTypes (aeval tm x) (aeval tm y)
    | .builtin .min, xs | .builtin .max, xs => if plainOperands tm xs then (match apure P tm o with
      | some v => some (v, S)
      | none => none) else none
    | .value f, xs =>
      match aeval tm f with
      | .func (.func g) first captured =>
        match P.funcs[g]? with
        | none => none
        | some fn =>
          match fn.body with
          | some _ => callF g (first.toList ++ xs.map (aeval tm) ++ captured.toList) S
          | none =>
            if first.toList.isEmpty && captured.toList.isEmpty && fn.name == "internal/abi.NoEscape" && fn.origin == "" then
              match xs with
              | [x] => some (aeval tm x, S)
              | _ => none
            else if first.toList.isEmpty && captured.toList.isEmpty && fn.name == "internal/bytealg.MakeNoZero" && fn.origin == "" then
              match xs, fn.resultTypes.toList with
              | [x], [t] => amakeNoZero P S t (aeval tm x)
              | _, _ => none
            else if plainOperands tm xs && first.toList.isEmpty && captured.toList.isEmpty then (match apure P tm o with
              | some v => some (v, S)
              | none => none) else none
      | _ => none
    | _, _ => none
  | _ => none

/-! the region -/

def aguard (ops : List Oper) (tm : List Value) (o : Oper) : Bool :=
  match o.guard with
  | none => true
  | some (j, want) =>
    match ops[j]? with
    | some p => (match p.dst with
      | some d => (match nth tm d with
        | .bool b => b == want
        | _ => false)
      | none => false)
    | none => false

def evalOps (callF : FuncId → List Value → St → Option (Value × St)) (P : Program) (ops : List Oper) : List Oper → List Value → St → Option (List Value × St)
  | [], tm, S => some (tm, S)
  | o :: r, tm, S =>
    if aguard ops tm o = true then
      match astep callF P tm S o with
      | some (v, S') => evalOps callF P ops r (putD tm o.dst v) S'
      | none => none
    else evalOps callF P ops r (putD tm o.dst undef) S

/-- 0: asks nothing of the heap · 1: reads it · 2: lays one block · 3: all else -/
def kind : Op → Nat
  | .move _ | .assign _ | .pick .. | .build .. | .nilCheck _ | .binOp .. | .unOp .. | .fieldAddr .. | .field .. | .indexAddr .. | .index .. | .extract .. | .makeInterface .. | .makeFunc .. => 0
  | .load .. | .slice .. | .lookup .. => 1
  | .alloc _ | .box .. | .buildSlice .. | .makeMap _ none => 2
  | .call { callee := .builtin .len, .. } => 1
  | .call { callee := .builtin .min, .. } | .call { callee := .builtin .max, .. } => 0
  | _ => 3

/-- the operations before each one: a bit each -/
def masks : List Oper → List Nat → List Nat
  | [], acc => acc
  | o :: r, acc => masks r (acc ++ [o.after.toList.foldl (fun s e => if Region.binds .any e then s ||| (2 ^ e.on) ||| acc.getD e.on 0 else s) 0])

structure RS where
  tm : List Value
  heff : List (Nat × Obj)
  pend : List (Nat × Nat × Obj)
  next : Nat
  effs : List (Nat × List (Nat × Obj))     -- the effects so far, the latest first, each with the heap behind it
  reads : List (Nat × Value × List Value × List (Nat × Obj))     -- an operation that read, what it gave, the slots, the blocks of the region's own before it

def splitP (m : Nat) : List (Nat × Nat × Obj) → List (Nat × Obj) × List (Nat × Nat × Obj)
  | [] => ([], [])
  | (j, n, o) :: r => let (a, b) := splitP m r; if Nat.testBit m j then ((n, o) :: a, b) else (a, (j, n, o) :: b)

def drawStep (callF : FuncId → List Value → St → Option (Value × St)) (P : Program) (ops : List Oper) (ms : List Nat) (i : Nat) (o : Oper) (R : RS) : Option RS :=
  if aguard ops R.tm o = true then
    let m := ms.getD i 0
    match kind o.op with
    | 3 =>
      let (a, b) := splitP m R.pend
      if (match R.effs with | [] => true | (e, _) :: _ => Nat.testBit m e) then
        match astep callF P R.tm ⟨a ++ R.heff, R.next⟩ o with
        | some (v, S') => some { R with tm := putD R.tm o.dst v, heff := S'.heap, pend := b, next := S'.next, effs := (i, S'.heap) :: R.effs }
        | none => none
      else none
    | 2 =>
      match astep callF P R.tm ⟨[], R.next⟩ o with
      | some (v, ⟨[(n, b)], nx⟩) => some { R with tm := putD R.tm o.dst v, pend := (i, n, b) :: R.pend, next := nx }
      | _ => none
    | 1 =>
      let (a, _) := splitP m R.pend
      match astep callF P R.tm ⟨a ++ R.heff, R.next⟩ o with
      | some (v, _) => some { R with tm := putD R.tm o.dst v, reads := (i, v, R.tm, a) :: R.reads }
      | none => none
    | _ =>
      match astep callF P R.tm ⟨[], R.next⟩ o with
      | some (v, _) => some { R with tm := putD R.tm o.dst v }
      | none => none
  else some { R with tm := putD R.tm o.dst undef }

def drawOps (callF : FuncId → List Value → St → Option (Value × St)) (P : Program) (ops : List Oper) (ms : List Nat) : Nat → List Oper → RS → Option RS
  | _, [], R => some R
  | i, o :: r, R => match drawStep callF P ops ms i o R with
    | some R' => drawOps callF P ops ms (i + 1) r R'
    | none => none

def evalCode (callF : FuncId → List Value → St → Option (Value × St)) (P : Program) : Nat → Code → List Value → St → Option (Exit × List Value × St)
  | 0, _, _, _ => none
  | f + 1, c, tm, S =>
    match c with
    | .skip => some (.normal, tm, S)
    | .region _ ops false =>
      match evalOps callF P ops.toList ops.toList tm S with
      | some (tm', S') => some (.normal, tm', S')
      | none => none
    | .region _ ops true =>
      let l := ops.toList
      match drawOps callF P l (masks l []) 0 l ⟨tm, S.heap, [], S.next, [], []⟩ with
      | some R => some (.normal, R.tm, ⟨(R.pend.map fun x => x.2) ++ R.heff, R.next⟩)
      | none => none
    | .seq a b =>
      match evalCode callF P f a tm S with
      | some (.normal, tm', S') => evalCode callF P f b tm' S'
      | r => r
    | .cond x a b =>
      match aeval tm x with
      | .bool true => evalCode callF P f a tm S
      | .bool false => evalCode callF P f b tm S
      | _ => none
    | .block id b =>
      match evalCode callF P f b tm S with
      | some (.exit j, tm', S') => if Nat.beq j id = true then some (.normal, tm', S') else some (.exit j, tm', S')
      | r => r
    | .loop b =>
      match evalCode callF P f b tm S with
      | some (.normal, tm', S') => evalCode callF P f (.loop b) tm' S'
      | r => r
    | .exit id => some (.exit id, tm, S)
    | .ret => some (.ret, tm, S)
    | .label _ => some (.normal, tm, S)
    | _ => none

def aresults (P : Program) (h : List (Nat × Obj)) (tm : List Value) : List ResultVar → Option (List Value)
  | [] => some []
  | .tmp t :: r => match aresults P h tm r with
    | some l => some (nth tm t :: l)
    | none => none
  | .cell a t :: r => match aload P h t (nth tm a), aresults P h tm r with
    | some v, some l => some (v :: l)
    | _, _ => none

def noPtr1 : Value → Bool
  | .pointer (some _) | .map (some _) | .func _ _ _ => false
  | _ => true
def noPtrAll : List Value → Bool
  | [] => true
  | .agg cs :: r => cs.toList.all noPtr1 && noPtrAll r
  | v :: r => noPtr1 v && noPtrAll r

def dropNew (base : Nat) : List (Nat × Obj) → List (Nat × Obj)
  | [] => []
  | (n, o) :: r => if Nat.ble base n = true then dropNew base r else (n, o) :: dropNew base r

def evalCall (P : Program) (fuel : Nat) : Nat → FuncId → List Value → St → Option (Value × St)
  | 0, _, _, _ => none
  | d + 1, f, args, S =>
    match P.funcs[f]? with
    | none => none
    | some fn =>
      match fn.body with
      | none => none
      | some c =>
        match evalCode (evalCall P fuel d) P fuel c (args ++ List.replicate (fn.ntmps - args.length) undef) S with
        | some (.normal, tm, S') | some (.ret, tm, S') =>
          match aresults P S'.heap tm fn.results.toList with
          | some vs =>
            let v : Value := match vs with
              | [v] => v
              | vs => .tuple vs.toArray
            if plain v && noPtrAll args then some (v, ⟨dropNew S.next S'.heap, S'.next⟩) else some (v, S')
          | none => none
        | _ => none

end Go.Dam
