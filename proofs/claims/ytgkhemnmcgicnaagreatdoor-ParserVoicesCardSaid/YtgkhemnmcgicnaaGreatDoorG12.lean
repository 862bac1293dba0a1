/- An own evaluator of closed runs of a program, proved sound against the model: one part of it. -/
import Derived.Control
import Derived.Calls
import Derived.Orders
namespace Go.Dam
theorem ya : type_of% @Option.some.injEq := @Option.some.injEq
theorem yb : type_of% @Option.ite_none_right_eq_some := @Option.ite_none_right_eq_some
theorem yc : type_of% @Prod.mk.injEq := @Prod.mk.injEq
theorem yd : type_of% @Bool.and_eq_true := @Bool.and_eq_true
theorem ye : type_of% @Nat.le_of_ble_eq_true := @Nat.le_of_ble_eq_true
theorem yf : type_of% @Nat.eq_of_beq_eq_true := @Nat.eq_of_beq_eq_true
theorem yg : type_of% @Option.some.inj := @Option.some.inj
theorem yh : type_of% @Nat.le_refl := @Nat.le_refl
theorem yi : type_of% @List.getElem?_eq_some_iff := @List.getElem?_eq_some_iff
theorem yj : type_of% @Option.bind_some := @Option.bind_some
theorem yk : type_of% @List.mem_cons := @List.mem_cons
theorem yl : type_of% @Array.ext' := @Array.ext'
theorem ym : type_of% @Bool.false_eq_true := @Bool.false_eq_true
theorem yn : type_of% @Array.map_congr_left := @Array.map_congr_left
theorem yo : type_of% @List.mem_cons_of_mem := @List.mem_cons_of_mem
theorem yp : type_of% @List.map_congr_left := @List.map_congr_left
theorem yq : type_of% @Array.sizeOf_lt_of_mem := @Array.sizeOf_lt_of_mem
theorem yr : type_of% @Option.map_some := @Option.map_some
theorem yu : type_of% @Bool.or_eq_true := @Bool.or_eq_true
theorem yw : type_of% @List.mem_map := @List.mem_map
theorem yx : type_of% @Nat.add_assoc := @Nat.add_assoc
theorem yy : type_of% @List.mem_append := @List.mem_append
theorem yz : type_of% @Array.getElem?_eq_some_iff := @Array.getElem?_eq_some_iff
theorem yya : type_of% @Nat.le_trans := @Nat.le_trans
theorem yyb : type_of% @Bool.not_eq_true' := @Bool.not_eq_true'
theorem yyc : type_of% @List.getElem?_append_right := @List.getElem?_append_right
theorem yyd : type_of% @List.mem_of_getElem? := @List.mem_of_getElem?
theorem yye : type_of% @Array.getElem?_eq_none := @Array.getElem?_eq_none
theorem yyf : type_of% @List.getElem?_append_left := @List.getElem?_append_left
theorem yyg : type_of% @List.getElem?_eq_none_iff := @List.getElem?_eq_none_iff
theorem yyh : type_of% @Array.mem_of_getElem? := @Array.mem_of_getElem?
theorem yyi : type_of% @List.getElem?_eq_getElem := @List.getElem?_eq_getElem
theorem yyj : type_of% @Array.toList_map := @Array.toList_map
theorem yyk : type_of% @List.mem_toArray := @List.mem_toArray
theorem yyl : type_of% @List.getElem?_map := @List.getElem?_map
theorem yym : type_of% @Nat.zero_add := @Nat.zero_add
theorem yyn : type_of% @List.map_cons := @List.map_cons
structure St where
 heap : List (Nat × Obj)
 next : Nat
def aL : List (Nat × Obj) -> Nat -> Option Obj
 | [], _ => none
 | (m, o) :: r, n => if Nat.beq m n = true then some o else aL r n
def rG : List (Nat × Obj) -> Nat -> Obj -> List (Nat × Obj)
 | [], _, _ => []
 | (m, o) :: r, n, x => if Nat.beq m n = true then (m, x) :: r else (m, o) :: rG r n x
def DV : List (Nat × Obj) -> Nat -> List (Nat × Obj)
 | [], _ => []
 | (m, o) :: r, n => if Nat.beq m n = true then DV r n else (m, o) :: DV r n
def iC (n : Nat) : Bool := Nat.beq (n % 2) 1
def fV : Value -> Bool
 | .bool _ | .int _ _ | .string _ | .pointer none | .slice none _ _ | .map none | .nilFunc | .nilIface => true
 | .func (.yield _) _ _ => false
 | .func _ a b => a.toList.isEmpty && b.toList.isEmpty
 | _ => false
def dQ : List Value -> Bool
 | [] => true
 | v :: r => fV v && dQ r
def jU : Value -> Bool
 | .agg cs => dQ cs.toList
 | v => fV v
def tM : List Value -> Bool
 | [] => true
 | v :: r => jU v && tM r
def plain : Value -> Bool
 | .tuple vs => tM vs.toList
 | v => jU v
def tN : List Value -> Nat -> Value
 | [], _ => undef
 | v :: _, 0 => v
 | _ :: r, n + 1 => tN r n
def jA : List Value -> Nat -> Value -> List Value
 | [], _, _ => []
 | _ :: r, 0, x => x :: r
 | v :: r, n + 1, x => v :: jA r n x
def n7 (tm : List Value) (dst : Option Tmp) (v : Value) : List Value :=
 match dst with
 | some d => jA tm d v
 | none => tm
def aH (tm : List Value) : Operand -> Value
 | .tmp t => tN tm t
 | .const v => v
 | .global g => .pointer (some ⟨2 * g, 0, none⟩)
 | .func f => .func (.func f) #[] #[]
def pD (P : Program) : Operand -> Bool
 | .const v => plain v
 | .global g => Nat.blt g P.globals.size
 | _ => true
def bC {α : Type} (P : Program) : Sem α -> Option α
 | .pure a => some a
 | .program k => bC P (k P)
 | .mark _ k => bC P k
 | _ => none
def fC (P : Program) (t : TypeId) : Option Nat := (P.info? t).map (·.size)
def Q3 (P : Program) (t : TypeId) : Option Bool :=
 match P.underlying t with
 | some (.struct _) | some (.array _ _) => some true
 | some _ => some false
 | none => none
def BR (P : Program) (t : TypeId) : Option TypeId :=
 match P.underlying t with
 | some (.slice e) => some e
 | _ => none
def one : Value -> Bool
 | .agg _ | .tuple _ => false
 | _ => true
def uU : List Value -> Bool
 | [] => true
 | v :: r => one v && uU r
def cellsOf (h : List (Nat × Obj)) (n : Nat) : Option (List Value) :=
 match aL h n with
 | some (.cells c _ _) => some c.toList
 | _ => none
def JU (P : Program) (h : List (Nat × Obj)) (t : TypeId) (v : Value) : Option Value :=
 match v with
 | .pointer (some ⟨n, off, none⟩) =>
  match cellsOf h n, Q3 P t, fC P t with
  | some c, some true, some s => if Nat.ble (off + s) c.length = true then some (.agg ((c.drop off).take s).toArray) else none
  | some c, some false, _ => c[off]?
  | _, _, _ => none
 | _ => none
def mP : List Value -> Nat -> List Value -> List Value
 | c, 0, vs => vs ++ c.drop vs.length
 | [], _ + 1, _ => []
 | x :: c, n + 1, vs => x :: mP c n vs
def vW (n off : Nat) (fz : Nat × Nat) : Bool :=
 if iC n = true then Nat.ble fz.2 off else Nat.beq fz.1 fz.2 || Nat.ble fz.2 off
def j7 (h : List (Nat × Obj)) (n off : Nat) (vs : List Value) : Option (List (Nat × Obj)) :=
 match vs with
 | [] => some h
 | _ =>
  match aL h n with
  | some (.cells c e fz) =>
   if Nat.ble (off + vs.length) c.size && uU vs && vW n off fz then some (rG h n (.cells (mP c.toList off vs).toArray e fz)) else none
  | _ => none
def MP (P : Program) (h : List (Nat × Obj)) (t : TypeId) (a v : Value) : Option (List (Nat × Obj)) :=
 match a with
 | .pointer (some ⟨n, off, none⟩) =>
  match fC P t with
  | some s => if Nat.beq v.cells.size s = true then j7 h n off v.cells.toList else none
  | none => none
 | _ => none
def d9 (S : St) (o : Obj) : Nat × St := (S.next, ⟨(S.next, o) :: S.heap, S.next + 2⟩)
def jJ (S : St) (o : Obj) : Nat × St := (S.next + 1, ⟨(S.next + 1, o) :: S.heap, S.next + 2⟩)
def j8 (P : Program) (tm : List Value) (o : Oper) : Option Value :=
 match bC P (execOp (aH tm) o) with
 | some (.value v) => if plain v = true then some v else none
 | _ => none
def cB (tm : List Value) : List Operand -> Bool
 | [] => true
 | x :: r => plain (aH tm x) && cB tm r
def vX : Value -> Option Nat
 | .int _ n => if 0 <= n then some n.toNat else none
 | _ => none
def oC (v : Option Value) (d : Nat) (m : Nat) : Option Nat :=
 match v with
 | none => some d
 | some x => match vX x with
  | some k => if Nat.ble k m = true then some k else none
  | none => none
def MQ (P : Program) (h : List (Nat × Obj)) (t : TypeId) (x : Value) (lo hi : Option Value) : Option Value :=
 match P.underlying t, x with
 | some (.slice e), .slice (some ⟨n, off, none⟩) len cap =>
  match fC P e with
  | none => none
  | some s =>
  if iC n = true then
   match oC hi len len with
   | none => none
   | some h' => match oC lo 0 h' with
    | none => none
    | some l =>
     match aL h n with
     | some (.cells c e' _) =>
      if Nat.ble (off + h' * s) c.size && Nat.beq off (cap * s) && Nat.blt 0 s && (Nat.beq l 0 || Nat.blt l h') && Nat.beq e' e then some (.slice (some ⟨n, off + l * s, none⟩) (h' - l) (cap + l)) else none
     | _ => none
  else
   match oC hi len cap with
   | none => none
   | some h' => match oC lo 0 h' with
    | none => none
    | some l => some (.slice (some (if Nat.beq cap l = true then ⟨n, off, none⟩ else ⟨n, off + l * s, none⟩)) (h' - l) (cap - l))
 | some (.array k e), .pointer (some ⟨n, off, none⟩) =>
  match fC P e with
  | none => none
  | some s =>
  if iC n = true then none else
   match oC hi k k with
   | none => none
   | some h' => match oC lo 0 h' with
    | none => none
    | some l => some (.slice (some (if Nat.beq k l = true then ⟨n, off, none⟩ else ⟨n, off + l * s, none⟩)) (h' - l) (k - l))
 | _, _ => none
def uV (P : Program) (t : TypeId) (x : Value) (f : Nat) : Option Value :=
 match P.underlying t, x with
 | some (.struct fs), .pointer (some ⟨n, off, none⟩) =>
  match fs[f]? with
  | some fd => match fC P fd.type with
   | some s => if Nat.beq s 0 = true then none else some (.pointer (some ⟨n, off + fd.offset, none⟩))
   | none => none
  | none => none
 | _, _ => none
def uW (P : Program) (t : TypeId) (x i : Value) : Option Value :=
 match P.underlying t, x, vX i with
 | some (.slice e), .slice (some ⟨n, off, none⟩) len _, some k =>
  match fC P e with
  | some s => if Nat.blt k len = true then some (.pointer (some ⟨n, off + k * s, none⟩)) else none
  | none => none
 | some (.array m e), .pointer (some ⟨n, off, none⟩), some k =>
  match fC P e with
  | some s => if Nat.blt k m = true then some (.pointer (some ⟨n, off + k * s, none⟩)) else none
  | none => none
 | _, _, _ => none
def uX (h : List (Nat × Obj)) (s n : Nat) : Value -> Option (List Value)
 | .slice none _ _ => some []
 | .slice (some ⟨m, off, none⟩) _ _ =>
  if Nat.beq (n * s) 0 = true then some [] else
  match cellsOf h m with
  | some c => if Nat.ble (off + n * s) c.length = true then some ((c.drop off).take (n * s)) else none
  | none => none
 | .string b => some ((b.data.toList.take n).map fun x => .int .u8 x.toNat)
 | _ => none
def Q4 : Value -> Option Nat
 | .slice _ n _ => some n
 | .string s => some s.size
 | _ => none
def mW : Nat := 1048576
def PY (ti : TypeInfo) (m : Nat) : Bool :=
 match ti.zero with
 | some z => Nat.beq z.cells.size ti.size && Nat.blt 0 ti.size && Nat.ble m mW && Nat.ble ti.bytes 65536
 | none => false
def rV : TypeDesc -> Bool
 | .int _ => true
 | _ => false
def F8 (P : Program) (S : St) (args : Array TypeId) (s x : Value) : Option (Value × St) :=
 match args.toList with
 | [sT, xT] =>
  match BR P sT, P.underlying xT, Q4 x with
  | some e, some xd, some n =>
   if rV xd = true then none else
   match (P.info? e), s with
   | some ti, .slice base len cap =>
    let sz := ti.size
    if PY ti (len + n) = false then none else
    match uX S.heap sz n x with
    | none => none
    | some new =>
    if Nat.beq new.length (n * sz) = false then none else
    match base with
    | none =>
     if Nat.beq len 0 && Nat.beq cap 0 then
      if Nat.beq n 0 = true then some (s, S) else
       if uU new then
       let (m, S') := jJ S (.cells new.toArray e (0, 0))
       some (.slice (some ⟨m, 0, none⟩) n 0, S')
       else none
     else none
    | some ⟨b, off, none⟩ =>
     if iC b = true then
      match aL S.heap b with
      | some (.cells c e' fz) =>
       if !(Nat.ble (off + len * sz) c.size && Nat.beq e' e && Nat.beq off (cap * sz)) then none else
       if Nat.beq n 0 = true then some (s, S) else
       if Nat.ble (off + (len + n) * sz) c.size = true then
        match j7 S.heap b (off + len * sz) new with
        | some h' => some (.slice base (len + n) cap, ⟨h', S.next⟩)
        | none => none
       else
        if uU new && Nat.ble fz.2 (off + len * sz) && Nat.beq fz.1 0 then
         let keep := (c.toList.drop off).take (len * sz)
         let (m, S') := jJ ⟨DV S.heap b, S.next⟩ (.cells (keep ++ new).toArray e (0, fz.2 - off))
         some (.slice (some ⟨m, 0, none⟩) (len + n) 0, S')
        else none
      | _ => none
     else
      if Nat.ble (len + n) cap = true then
       match j7 S.heap b (off + len * sz) new with
       | some h' => some (.slice base (len + n) cap, ⟨h', S.next⟩)
       | none => none
      else
       match uX S.heap sz len s with
       | some old =>
        if uU new && Nat.beq old.length (len * sz) then
        let (m, S') := jJ S (.cells (old ++ new).toArray e (0, 0))
        some (.slice (some ⟨m, 0, none⟩) (len + n) 0, S')
        else none
       | none => none
    | _ => none
   | _, _ => none
  | _, _, _ => none
 | _ => none
def SY (P : Program) (t : TypeId) (x y : Value) : Option Bool :=
 match P.underlying t with
 | some (.pointer e) =>
  match x, y with
  | .pointer none, .pointer b => some b.isNone
  | .pointer (some _), .pointer none => some false
  | .pointer (some ⟨m, i, none⟩), .pointer (some ⟨n, j, none⟩) =>
   match fC P e with
   | some s => if Nat.beq s 0 = true then none else if Nat.beq m n = true then some (Nat.beq i j) else none
   | none => none
  | _, _ => none
 | some (.slice _) =>
  match x, y with
  | .slice none _ _, .slice b _ _ => some b.isNone
  | .slice (some _) _ _, .slice none _ _ => some false
  | _, _ => none
 | some (.map _ _) =>
  match x, y with
  | .map none, .map b => some b.isNone
  | .map (some _), .map none => some false
  | _, _ => none
 | some (.func _ _ _) =>
  match x, y with
  | .nilFunc, .nilFunc => some true
  | .nilFunc, .func _ _ _ => some false
  | .func _ _ _, .nilFunc => some false
  | _, _ => none
 | some (.interface _) =>
  match x, y with
  | .iface _ _, .nilIface => some false
  | .iface tx (.int k a), .iface ty (.int k' b) =>
   match P.info? tx, P.underlying tx with
   | some i, some (.int _) => if Nat.beq tx ty && (i.comparable && decide (k = k')) then some (a == b) else none
   | _, _ => none
  | _, _ => none
 | _ => none
def jV (tm : List Value) (ps : Array (Nat × Operand)) : Array (Nat × Value) := (ps.toList.map fun (i, x) => (i, aH tm x)).toArray
def pE (P : Program) (t : TypeId) : Option Value :=
 match P.info? t with
 | some i => i.zero
 | none => none
def pG : Nat -> List Value -> List Value
 | 0, _ => []
 | n + 1, z => z ++ pG n z
def rW (P : Program) (t : TypeId) : Option (List Value) :=
 match pE P t with
 | some z => some z.cells.toList
 | none => none
def JV (s : Nat) : List Value -> List (Nat × Value) -> Option (List Value)
 | c, [] => some c
 | c, (i, v) :: r =>
  if Nat.beq v.cells.size s && Nat.ble (i * s + s) c.length then JV s (mP c (i * s) v.cells.toList) r else none
def j9 (P : Program) (tm : List Value) (S : St) (t : TypeId) (n : Nat) (ps : Array (Nat × Operand)) : Option (Value × St) :=
 match BR P t with
 | some e =>
  match fC P e, pE P e with
  | some s, some z =>
   if Nat.beq z.cells.size s && Nat.ble (n * s) 1048576 && Nat.blt 0 s && dQ z.cells.toList then
   match JV s (pG n z.cells.toList) (jV tm ps).toList with
   | some cs =>
    let (m, S') := d9 S (.cells cs.toArray e)
    some (.slice (some ⟨m, 0, none⟩) n n, S')
   | none => none
   else none
  | _, _ => none
 | none => none
def uY (P : Program) (S : St) (t : TypeId) (l c : Value) : Option (Value × St) :=
 match BR P t with
 | some e =>
  match P.info? e, vX l, vX c with
  | some ti, some l, some c =>
   match ti.zero with
   | some z =>
    if Nat.ble l c && Nat.ble c 1048576 && Nat.ble ti.bytes 65536 && Nat.ble (c * ti.size) 16777216 && Nat.beq z.cells.size ti.size && Nat.blt 0 ti.size && dQ z.cells.toList then
     let (m, S') := d9 S (.cells (pG c z.cells.toList).toArray e)
     some (.slice (some ⟨m, 0, none⟩) l c, S')
    else none
   | none => none
  | _, _, _ => none
 | none => none
def PZ (P : Program) (S : St) (args : Array TypeId) (dst src : Value) : Option (Value × St) :=
 match args.toList with
 | dT :: _ =>
  match BR P dT, dst, Q4 src with
  | some e, .slice base dl _, some sl =>
   match fC P e with
   | none => none
   | some s =>
    let n := if Nat.ble sl dl = true then sl else dl
    match uX S.heap s n src with
    | none => none
    | some cs =>
     match base with
     | none => if Nat.beq n 0 = true then some (.int .i64 0, S) else none
     | some ⟨b, off, none⟩ =>
      match j7 S.heap b off cs with
      | some h' => some (.int .i64 n, ⟨h', S.next⟩)
      | none => none
     | _ => none
  | _, _, _ => none
 | _ => none
def P0 (P : Program) (k : TypeId) (key : Value) (es : Array MapEntry) : Option (Option (Nat × Value)) :=
 bC P (do Instr.checkKey es.isEmpty 10000 k key; Instr.findKey k key es.toList)
def eY : List MapEntry -> Bool
 | [] => true
 | e :: r => jU e.key && eY r
def q8 (es : Array MapEntry) (clock : Nat) : Bool := Nat.blt clock es.size
def F9 (s : ByteArray) : List MapEntry -> Bool
 | [] => true
 | e :: r => (match e.key with
  | .string t => !(s == t)
  | _ => false) && F9 s r
def iD : List MapEntry -> Bool
 | [] => true
 | e :: r => (match e.key with
  | .string s => F9 s r
  | _ => false) && iD r
def SZ (P : Program) (k : TypeId) : Bool := match P.underlying k with
 | some .string => true
 | _ => false
def S4 : Value -> Bool
 | .string _ => true
 | _ => false
def S5 (P : Program) (k : TypeId) (i : Value) (es : Array MapEntry) (clock : Nat) : Bool :=
 !(q8 es clock) || (SZ P k && S4 i && iD es.toList)
def GA (P : Program) (h : List (Nat × Obj)) (t : TypeId) (x i : Value) (ok : Bool) : Option Value :=
 match P.underlying t with
 | some (.map k e) =>
  if jU i then
  match x with
  | .map none =>
   match pE P e with
   | some z => if jU z then (match bC P (Instr.checkKey true 10000 k i) with | some _ => some (if ok then .tuple #[z, .bool false] else z) | none => none) else none
   | none => none
  | .map (some n) =>
   match aL h n with
   | some (.map es clock) =>
    if S5 P k i es clock = false then none else
    if eY es.toList then
    match P0 P k i es with
    | some (some (_, v)) => some (if ok then .tuple #[v, .bool true] else v)
    | some none =>
     match pE P e with
     | some z => if jU z then some (if ok then .tuple #[z, .bool false] else z) else none
     | none => none
    | none => none
    else none
   | _ => none
  | _ => none
  else none
 | _ => none
def xZ : List MapEntry -> Nat -> Value -> Value -> List MapEntry
 | [], _, _, _ => []
 | e :: r, 0, k, v => { e with key := k, val := v } :: r
 | e :: r, n + 1, k, v => e :: xZ r n k v
def JW : List MapEntry -> Nat -> Value
 | [], _ => undef
 | e :: _, 0 => e.key
 | _ :: r, n + 1 => JW r n
def uZ (P : Program) (S : St) (t : TypeId) (m i v : Value) : Option St :=
 match P.underlying t with
 | some (.map k _) =>
  if jU i then
  match m with
  | .map (some n) =>
   match aL S.heap n with
   | some (.map es clock) =>
    if q8 es clock = true then none else
    if eY es.toList then
    match bC P (do Instr.checkKey false 10000 k i; Instr.findKey k i es.toList) with
    | some (some (j, _)) =>
     if Instr.sameBits 10000 (JW es.toList j) i && Nat.blt j es.size then some ⟨rG S.heap n (.map (xZ es.toList j i v).toArray clock), S.next⟩ else none
    | some none => some ⟨rG S.heap n (.map (es.push { key := i, val := v, born := clock }) (clock + 1)), S.next⟩
    | none => none
    else none
   | _ => none
  | _ => none
  else none
 | _ => none
def iU : List Value -> Option (List UInt8)
 | [] => some []
 | .int .u8 n :: r => match iU r with
  | some l => if 0 <= n /\ n < 256 then some (n.toNat.toUInt8 :: l) else none
  | none => none
 | _ => none
def tP (h : List (Nat × Obj)) (x : Value) : Option Value :=
 match x with
 | .slice none _ _ => some (.string .empty)
 | .slice (some ⟨n, off, none⟩) len _ =>
  match cellsOf h n with
  | some c => if Nat.ble (off + len) c.length then
    match iU ((c.drop off).take len) with
    | some l => some (.string ⟨l.toArray⟩)
    | none => none
   else none
  | none => none
 | _ => none
def jD (S : St) (e : TypeId) (s : ByteArray) : Value × St :=
 let (m, S') := jJ S (.cells (s.data.toList.map fun b => .int .u8 b.toNat).toArray e (1, 0))
 (.slice (some ⟨m, 0, none⟩) s.size 0, S')
def oW (P : Program) (S : St) (args : Array TypeId) (x l : Value) : Option (Value × St) :=
 match args.toList with
 | [pt, _] =>
  match P.underlying pt with
  | some (.pointer u) =>
   match x, vX l with
   | .pointer none, some 0 => some (.string .empty, S)
   | .pointer (some ⟨n, off, none⟩), some len =>
    if Nat.beq len 0 = true then some (.string .empty, S) else
    match aL S.heap n with
    | some (.cells c e (0, hi)) =>
     if iC n && Nat.ble (off + len) c.size && Nat.beq e u && Nat.ble len 1048576 then
      match iU ((c.toList.drop off).take len), fC P e with
      | some b, some 1 => some (.string ⟨b.toArray⟩, ⟨rG S.heap n (.cells c e (0, max hi (off + len))), S.next⟩)
      | _, _ => none
     else none
    | _ => none
   | _, _ => none
  | _ => none
 | _ => none
def rX (P : Program) (S : St) (t : TypeId) (x : Value) : Option (Value × St) :=
 match x, BR P t with
 | .int .i64 _, some e =>
  match vX x, fC P e with
  | some n, some 1 => if Nat.ble n 1048576 then (let (m, S') := jJ S (.cells #[] e (0, 0)); some (.slice (some ⟨m, 0, none⟩) n 0, S')) else none
  | _, _ => none
 | _, _ => none
def YD (P : Program) (h : List (Nat × Obj)) (args : Array TypeId) (x : Value) : Option Value :=
 match args.toList with
 | [t] =>
  match x, P.underlying t with
  | .slice (some _) n _, some (.slice _) => some (.int .i64 n)
  | .map (some n), some (.map _ _) => match aL h n with
   | some (.map es clock) => if q8 es clock = true then none else some (.int .i64 es.size)
   | _ => none
  | _, _ => none
 | _ => none
def YE (P : Program) (args : Array TypeId) (x : Value) : Option Value :=
 match args.toList with
 | [t] =>
  match x, P.underlying t with
  | .slice (some q) _ cp, some (.slice _) => if iC q.block = true then none else some (.int .i64 cp)
  | _, _ => none
 | _ => none
def u7 (P : Program) (h : List (Nat × Obj)) (x : Value) : Option Value :=
 match x with
 | .slice none _ _ => some (.pointer none)
 | .slice (some ⟨n, off, none⟩) _ cp =>
  if iC n = true then
   match aL h n with
   | some (.cells c e _) =>
    match fC P e with
    | some 1 => if Nat.blt off c.size && Nat.beq off cp then some (.pointer (some ⟨n, off, none⟩)) else none
    | _ => none
   | _ => none
  else if Nat.blt 0 cp then some (.pointer (some ⟨n, off, none⟩)) else none
 | _ => none
def yA (P : Program) (h : List (Nat × Obj)) (t : TypeId) (x : Value) : Option Value :=
 match x with
 | .pointer (some ⟨n, off, none⟩) =>
  match aL h n, fC P t with
  | some (.cells c _ _), some s => if Nat.blt off c.size && Nat.blt 0 s then some x else none
  | _, _ => none
 | _ => none
def rY (P : Program) (h : List (Nat × Obj)) (u : TypeId) (x : Value) : Option Value :=
 match x with
 | .pointer (some ⟨n, 0, none⟩) =>
  match aL h n, fC P u with
  | some (.cells c e _), some s => if !(iC n) && Nat.beq e u && Nat.blt 0 s && Nat.ble s c.size then some x else none
  | _, _ => none
 | _ => none
def MR (P : Program) (S : St) (t : TypeId) (x : Value) : Option (Value × St) :=
 match P.underlying t, x with
 | some .string, .string s => let (m, S') := d9 S (.stringIter s 0); some (.pointer (some ⟨m, 0, none⟩), S')
 | some (.map _ _), .map none => let (m, S') := d9 S (.mapIter none 0 #[] 0); some (.pointer (some ⟨m, 0, none⟩), S')
 | some (.map _ _), .map (some n) =>
  match aL S.heap n with
  | some (.map es clock) => if q8 es clock = true then none else (let (m, S') := d9 S (.mapIter (some n) clock #[] clock); some (.pointer (some ⟨m, 0, none⟩), S'))
  | _ => none
 | _, _ => none
def P1 (es : List MapEntry) (seen : List Nat) : List MapEntry := es.filter fun e => !seen.contains e.born
def S6 (S : St) (it : Value) (isString : Bool) : Option (Value × St) :=
 match it with
 | .pointer (some ⟨r, 0, none⟩) =>
  match aL S.heap r, isString with
  | some (.stringIter s pos), true =>
   if Nat.blt pos s.size = true then
    some (.tuple #[.bool true, goInt pos, .int .i32 (Utf8.decode s pos).1], ⟨rG S.heap r (.stringIter s (pos + (Utf8.decode s pos).2)), S.next⟩)
   else some (.tuple #[.bool false], S)
  | some (.mapIter none _ _ _), false => some (.tuple #[.bool false], S)
  | some (.mapIter (some m) since seen last), false =>
   match aL S.heap m with
   | some (.map es clock) =>
    if q8 es clock = true then none else
    if !seen.isEmpty && !es.isEmpty && es.all (·.born ≥ last) then none else
    match P1 es.toList seen.toList with
    | [] => some (.tuple #[.bool false], S)
    | [e] => if Nat.blt e.born since = true then some (.tuple #[.bool true, e.key, e.val], ⟨rG S.heap r (.mapIter (some m) since (seen.push e.born) clock), S.next⟩) else none
    | _ => none
   | _ => none
  | _, _ => none
 | _ => none
def P2 : List Nat -> Option Nat
 | [] => none
 | [x] => some x
 | _ :: r => P2 r
def m9 (b : Nat) : List MapEntry -> Option MapEntry
 | [] => none
 | e :: r => if Nat.beq e.born b = true then some e else m9 b r
def MT (S : St) (it : Value) : Option Value :=
 match it with
 | .pointer (some ⟨r, 0, none⟩) =>
  match aL S.heap r with
  | some (.mapIter (some m) _ seen last) =>
   match aL S.heap m, P2 seen.toList with
   | some (.map es clock), some b =>
    if Nat.beq clock last && !(q8 es clock) then
     match m9 b es.toList with
     | some e => some (.tuple #[e.key, e.val])
     | none => none
    else none
   | _, _ => none
  | _ => none
 | _ => none
def GB (P : Program) (t : TypeId) (name : String) : Option FuncId :=
 match P.underlying t, P.info? t with
 | some (.pointer _), some i =>
  match i.methods.find? (·.name == name) with
  | some m => (match m.func with
   | some (f, true) => if m.path.toList.isEmpty then some f else none
   | _ => none)
  | none => none
 | _, _ => none
def JX (P : Program) (f : FuncId) : Bool := match P.funcs[f]? with
 | some fn => fn.body.isSome
 | none => false
def bQ (callF : Fn -> List Value -> St -> Option (Value × St)) (P : Program) (tm : List Value) (S : St) (o : Oper) : Option (Value × St) :=
 match o.op with
 | .move x | .assign x => some (aH tm x, S)
 | .pick c a b =>
  match aH tm c with
  | .bool d => some (if d = true then aH tm a else aH tm b, S)
  | _ => none
 | .alloc t =>
  match rW P t with
  | some cs => if dQ cs then (let (m, S') := d9 S (.cells cs.toArray t); some (.pointer (some ⟨m, 0, none⟩), S')) else none
  | none => none
 | .box t x => let (m, S') := d9 S (.cells (aH tm x).cells t); some (.pointer (some ⟨m, 0, none⟩), S')
 | .build t ps =>
  match pE P t, bC P (Instr.build t (jV tm ps)) with
  | some z, some v => if dQ z.cells.toList then some (v, S) else none
  | _, _ => none
 | .buildSlice t n ps => j9 P tm S t n ps
 | .load t a => match JU P S.heap t (aH tm a) with
  | some v => some (v, S)
  | none => none
 | .store t a x => match MP P S.heap t (aH tm a) (aH tm x) with
  | some h' => some (undef, ⟨h', S.next⟩)
  | none => none
 | .nilCheck x => match aH tm x with
  | .pointer (some a) => some (.pointer (some a), S)
  | _ => none
 | .binOp op t x y _ =>
  if plain (aH tm x) && plain (aH tm y) then
   match j8 P tm o with
   | some v => some (v, S)
   | none => none
  else
   match op, SY P t (aH tm x) (aH tm y) with
   | .eql, some b => some (.bool b, S)
   | .neq, some b => some (.bool !b, S)
   | _, _ => none
 | .convert s d x =>
  match aH tm x, P.underlying s, P.underlying d with
  | .string b, some .string, some (.slice e) =>
   match P.underlying e, fC P e with
   | some (.int .u8), some 1 => some (jD S e b)
   | _, _ => none
  | x, some (.slice e), some .string =>
   match P.underlying e with
   | some (.int .u8) => match tP S.heap x with
    | some v => some (v, S)
    | none => none
   | _ => none
  | x, some (.pointer t), some .unsafePointer => match yA P S.heap t x with
   | some v => some (v, S)
   | none => none
  | x, some .unsafePointer, some (.pointer u) => match rY P S.heap u x with
   | some v => some (v, S)
   | none => none
  | x, _, _ => if plain x then (match j8 P tm o with
   | some v => some (v, S)
   | none => none) else none
 | .makeInterface t x =>
  match P.underlying t with
  | some (.interface _) => none
  | some _ => some (.iface t (aH tm x), S)
  | none => none
 | .makeFunc fn first captured =>
  match fn with
  | .yield _ => none
  | fn => some (.func fn (first.toList.map (aH tm)).toArray (captured.toList.map (aH tm)).toArray, S)
 | .makeMap _ none => let (m, S') := d9 S (.map #[] 0); some (.map (some m), S')
 | .makeSlice t l c => uY P S t (aH tm l) (aH tm c)
 | .slice t x lo hi none =>
  match aH tm x with
  | .string _ => if cB tm (x :: (lo.toList ++ hi.toList)) then (match j8 P tm o with
   | some v => some (v, S)
   | none => none) else none
  | .slice none _ _ => if cB tm (x :: (lo.toList ++ hi.toList)) then (match j8 P tm o with
   | some v => some (v, S)
   | none => none) else none
  | v => match MQ P S.heap t v (lo.map (aH tm)) (hi.map (aH tm)) with
   | some v => some (v, S)
   | none => none
 | .fieldAddr t x f => match uV P t (aH tm x) f with
  | some v => some (v, S)
  | none => none
 | .indexAddr t x i => match uW P t (aH tm x) (aH tm i) with
  | some v => some (v, S)
  | none => none
 | .field t x f => match bC P (Instr.field t (aH tm x) f) with
  | some v => some (v, S)
  | none => none
 | .index t x i => match bC P (Instr.index t (aH tm x) (aH tm i)) with
  | some v => some (v, S)
  | none => none
 | .extract x i => match bC P (Instr.extract (aH tm x) i) with
  | some v => some (v, S)
  | none => none
 | .lookup t x i ok => match GA P S.heap t (aH tm x) (aH tm i) ok with
  | some v => some (v, S)
  | none => none
 | .mapUpdate t m k x | .insert t m k x => match uZ P S t (aH tm m) (aH tm k) (aH tm x) with
  | some S' => some (undef, S')
  | none => none
 | .range t x => MR P S t (aH tm x)
 | .next x b => S6 S (aH tm x) b
 | .entry x => match MT S (aH tm x) with
  | some v => some (v, S)
  | none => none
 | .unOp _ _ x => if plain (aH tm x) then (match j8 P tm o with
  | some v => some (v, S)
  | none => none) else none
 | .call c =>
  match c.callee, c.args.toList with
  | .builtin .append, [x, y] => F8 P S c.argTypes (aH tm x) (aH tm y)
  | .builtin .copy, [x, y] => PZ P S c.argTypes (aH tm x) (aH tm y)
  | .builtin .len, [x] =>
   match YD P S.heap c.argTypes (aH tm x) with
   | some v => some (v, S)
   | none => if cB tm [x] then (match j8 P tm o with
    | some v => some (v, S)
    | none => none) else none
  | .builtin .cap, [x] =>
   match YE P c.argTypes (aH tm x) with
   | some v => some (v, S)
   | none => if cB tm [x] then (match j8 P tm o with
    | some v => some (v, S)
    | none => none) else none
  | .builtin .unsafeSliceData, [x] =>
   match u7 P S.heap (aH tm x) with
   | some p => some (p, S)
   | none => none
  | .builtin .unsafeString, [x, y] => oW P S c.argTypes (aH tm x) (aH tm y)
  | .builtin .min, xs | .builtin .max, xs => if cB tm xs then (match j8 P tm o with
   | some v => some (v, S)
   | none => none) else none
  | .value f, xs =>
   match aH tm f with
   | .func (.func g) first captured =>
    match P.funcs[g]? with
    | none => none
    | some fn =>
     match fn.body with
     | some _ => callF (.func g) (first.toList ++ xs.map (aH tm) ++ captured.toList) S
     | none =>
      if first.toList.isEmpty && captured.toList.isEmpty && fn.name == "internal/abi.NoEscape" && fn.origin == "" then
       match xs with
       | [x] => some (aH tm x, S)
       | _ => none
      else if first.toList.isEmpty && captured.toList.isEmpty && fn.name == "internal/bytealg.MakeNoZero" && fn.origin == "" then
       match xs, fn.resultTypes.toList with
       | [x], [t] => rX P S t (aH tm x)
       | _, _ => none
      else if cB tm xs && first.toList.isEmpty && captured.toList.isEmpty then (match j8 P tm o with
       | some v => some (v, S)
       | none => none) else none
   | .func (.yield l) first captured => if first.toList.isEmpty && captured.toList.isEmpty then callF (.yield l) (xs.map (aH tm)) S else none
   | _ => none
  | .invoke r name, xs =>
   match aH tm r with
   | .iface t v =>
    match GB P t name with
    | some f =>
     if JX P f then callF (.func f) (v :: xs.map (aH tm)) S else none
    | none => none
   | _ => none
  | _, _ => none
 | _ => none
def pZ (ops : List Oper) (tm : List Value) (o : Oper) : Bool :=
 match o.guard with
 | none => true
 | some (j, want) =>
  match ops[j]? with
  | some p => (match p.dst with
   | some d => (match tN tm d with
    | .bool b => b == want
    | _ => false)
   | none => false)
  | none => false
def kind : Op -> Nat
 | .move _ | .assign _ | .pick .. | .build .. | .nilCheck _ | .binOp .. | .unOp .. | .fieldAddr .. | .field .. | .indexAddr .. | .index .. | .extract .. | .makeInterface .. | .makeFunc .. => 0
 | .load .. | .slice .. | .lookup .. => 1
 | .alloc _ | .box .. | .buildSlice .. | .makeMap _ none => 2
 | .call { callee := .builtin .len, .. } => 1
 | .call { callee := .builtin .min, .. } | .call { callee := .builtin .max, .. } => 0
 | _ => 3
def iE (P : Program) (h : List (Nat × Obj)) (tm : List Value) : List ResultVar -> Option (List Value)
 | [] => some []
 | .tmp t :: r => match iE P h tm r with
  | some l => some (tN tm t :: l)
  | none => none
 | .cell a t :: r => match JU P h t (tN tm a), iE P h tm r with
  | some v, some l => some (v :: l)
  | _, _ => none
def S7 : Value -> Bool
 | .pointer (some _) | .map (some _) | .func _ _ _ => false
 | _ => true
def vY : List Value -> Bool
 | [] => true
 | .agg cs :: r => cs.toList.all S7 && vY r
 | v :: r => S7 v && vY r
def p7 (base : Nat) : List (Nat × Obj) -> List (Nat × Obj)
 | [] => []
 | (n, o) :: r => if Nat.ble base n = true then p7 base r else (n, o) :: p7 base r
end Go.Dam
