/- Towards the law ParserBlanks, true for every text and all blanks (no condition): one part of the proof. -/
import Derived.Test.YtgkhemnmcgicnaaGreatDoorRows
import Derived.Below
import Derived.Deep.RegionHeld3
import Derived.KernelRfl
import Derived.Control
import Derived.Calls
import Derived.Orders
import Derived.Laws.World
import Derived.Laws.Cells
import Derived.Laws.CopyRow
import Derived.Laws.Rows
/- Short forms of steps that recur in regions: the normal form of a told row, an operation that is taken. -/
namespace Go
abbrev Z(n:Int):Value:=.int .i64 n
end Go
namespace Go.Proofs.YtgkhemnmcgicnaaGreatDoor
theorem qa:type_of% @Nat.le_refl:=@Nat.le_refl
theorem qb:type_of% @Go.RowKit.Below.refl:=@Go.RowKit.Below.refl
theorem qd:type_of% @Go.heap_alloc_new:=@Go.heap_alloc_new
theorem qe:type_of% @Array.getElem?_eq_some_iff:=@Array.getElem?_eq_some_iff
theorem qf:type_of% @List.length_append:=@List.length_append
theorem qg:type_of% @Go.bodyPost_ret:=@Go.bodyPost_ret
theorem qh:type_of% @Go.RowKit.Below.heap_setCell:=@Go.RowKit.Below.heap_setCell
theorem qi:type_of% @Option.some.inj:=@Option.some.inj
theorem qj:type_of% @Nat.le_of_eq:=@Nat.le_of_eq
theorem qk:type_of% @List.length_cons:=@List.length_cons
theorem ql:type_of% @Nat.zero_le:=@Nat.zero_le
theorem qo:type_of% @Go.World.block_lt_of_cell?:=@Go.World.block_lt_of_cell?
theorem qp:type_of% @Go.results_cell_row:=@Go.results_cell_row
theorem qr:type_of% @List.getElem?_eq_getElem:=@List.getElem?_eq_getElem
theorem qu:type_of% @Prod.mk.injEq:=@Prod.mk.injEq
theorem qv:type_of% @Option.some.injEq:=@Option.some.injEq
theorem qw:type_of% @Go.World.ownsRow_nil:=@Go.World.ownsRow_nil
theorem qx:type_of% @Nat.le_trans:=@Nat.le_trans
theorem qy:type_of% @List.getElem?_eq_some_iff:=@List.getElem?_eq_some_iff
theorem qz:type_of% @List.length_singleton:=@List.length_singleton
theorem qqa:type_of% @Nat.lt_of_lt_of_le:=@Nat.lt_of_lt_of_le
theorem qqb:type_of% @Go.results_tmp2:=@Go.results_tmp2
theorem qqc:type_of% @List.length_map:=@List.length_map
theorem qqd:type_of% @Go.World.new_ne:=@Go.World.new_ne
theorem qqe:type_of% @List.append_nil:=@List.append_nil
theorem qqf:type_of% @List.getD_eq_getElem?_getD:=@List.getD_eq_getElem?_getD
theorem qqg:type_of% @Go.run_underlying:=@Go.run_underlying
theorem qqh:type_of% @ByteArray.size_extract:=@ByteArray.size_extract
theorem qqi:type_of% @Go.wp_region_held_drew:=@Go.wp_region_held_drew
theorem qqj:type_of% @Nat.le_of_ble_eq_true:=@Nat.le_of_ble_eq_true
theorem qqk:type_of% @List.append_assoc:=@List.append_assoc
theorem qql:type_of% @List.length_nil:=@List.length_nil
theorem qqm:type_of% @List.all_eq_true:=@List.all_eq_true
theorem qqn:type_of% @Go.Sem.run_bind:=@Go.Sem.run_bind
theorem qqo:type_of% @Go.wp_region_noPanic:=@Go.wp_region_noPanic
theorem qqp:type_of% @decide_eq_false:=@decide_eq_false
theorem qqq:type_of% @List.mem_singleton:=@List.mem_singleton
theorem qqr:type_of% @decide_eq_true:=@decide_eq_true
theorem qqs:type_of% @Nat.eq_of_beq_eq_true:=@Nat.eq_of_beq_eq_true
theorem qqt:type_of% @List.mem_cons:=@List.mem_cons
theorem qqu:type_of% @Option.map_some:=@Option.map_some
theorem qqv:type_of% @Go.wpList_load_row:=@Go.wpList_load_row
theorem qqw:type_of% @List.length_drop:=@List.length_drop
theorem qqx:type_of% @Go.NoPanic.normal:=@Go.NoPanic.normal
theorem qqy:type_of% @decide_eq_true_eq:=@decide_eq_true_eq
theorem qqz:type_of% @List.mem_cons_of_mem:=@List.mem_cons_of_mem
open Go.RowKit

universe u
theorem nm {α : Type u} : (∀ (l : List α) (i : Nat) (h : i < l.toArray.size), l.toArray[i] = l[i]'(by simpa using h)) /\
    (∀(a:α)(l:List α)(i:Nat)(h:i+1<(a::l).length),(a::l)[i+1]=l[i]'(Nat.lt_of_succ_lt_succ h)) /\
    (∀(a:α)(l:List α)(h:0<(a::l).length),(a::l)[0]=a) /\
    (∀(l:List α)(i:Nat)(a:α),l.toArray.setIfInBounds i a=(l.set i a).toArray) /\
    (∀(x:α)(xs:List α)(a:α),(x::xs).set 0 a=a::xs) /\
    (∀(x:α)(xs:List α)(i:Nat)(a:α),(x::xs).set (i+1) a=x::xs.set i a) :=
  ⟨fun _ _ _=>by simp,fun _ _ _ _=>rfl,fun _ _ _=>rfl,fun _ _ _=>by simp,fun _ _ _=>rfl,fun _ _ _ _=>rfl⟩
theorem ap:(∀(a:Act)(d:Tmp)(v:Value),a.put (some d) v={ a with tmps:=a.tmps.setIfInBounds d v })/\(∀(a:Act)(v:Value),a.put none v=a) :=
  ⟨fun _ _ _=>rfl,fun _ _=>rfl⟩

section
variable{P:Program}{ops:Array Oper}{Q:Exit->Act->World->Prop}{md:Region.Mode}{S:World->Prop}
theorem oB(i:Nat){oi:Oper}{fuel:Nat}{listed:Array Bool}{a:Act}{w:World}(hi:ops[i]?=some oi)
    (h:wpAnyH P md ops Q S fuel (listed.setIfInBounds i true) (a.put oi.dst undef) w)
    (hs:Region.noSelect ops=true:=by kernel_rfl) (hf:Region.free md ops listed i=true:=by kernel_rfl)
    (hr:(Region.ready md ops listed).contains i=true:=by kernel_rfl)
    (hQ:∀c a w,Q (.panic c) (a.put oi.dst undef) w->Q (.panic c) a w:=by exact fun _ _ _ h=>h)
    (hy:Region.wanted oi (yielded ops a.tmps)=false:=by rfl) (hS:S w:=by assumption) :
    wpAnyH P md ops Q S (fuel+1) listed a w :=
  wpAnyH_take hi hs hf hr hQ (Or.inr ⟨hy,rfl⟩) hS h
theorem gQ(i:Nat)(v:Value){oi:Oper}{fuel:Nat}{listed:Array Bool}{a:Act}{w:World}(hi:ops[i]?=some oi)
    (hy:∀w,S w->(execOp a.eval oi).run P w=.ok (.value v) w)
    (h:wpAnyH P md ops Q S fuel (listed.setIfInBounds i true) (a.put oi.dst v) w)
    (hs:Region.noSelect ops=true:=by kernel_rfl) (hf:Region.free md ops listed i=true:=by kernel_rfl)
    (hr:(Region.ready md ops listed).contains i=true:=by kernel_rfl)
    (hQ:∀c a w,Q (.panic c) (a.put oi.dst v) w->Q (.panic c) a w:=by exact fun _ _ _ h=>h)
    (hw:Region.wanted oi (yielded ops a.tmps)=true:=by rfl) (hS:S w:=by assumption) :
    wpAnyH P md ops Q S (fuel+1) listed a w :=
  wpAnyH_take hi hs hf hr hQ (Or.inl ⟨hw,hy⟩) hS h
theorem fB(i:Nat)(v:Value){oi:Oper}{fuel:Nat}{listed:Array Bool}{a:Act}{w:World}(hi:ops[i]?=some oi)
    (h:wpAnyH P md ops Q S fuel (listed.setIfInBounds i true) (a.put oi.dst v) w)
    (hy:∀w,S w->(execOp a.eval oi).run P w=.ok (.value v) w:=by(intro wq hSw;go_simp;try rfl))
    (hs:Region.noSelect ops=true:=by kernel_rfl) (hf:Region.free md ops listed i=true:=by kernel_rfl)
    (hr:(Region.ready md ops listed).contains i=true:=by kernel_rfl)
    (hQ:∀c a w,Q (.panic c) (a.put oi.dst v) w->Q (.panic c) a w:=by exact fun _ _ _ h=>h)
    (hw:Region.wanted oi (yielded ops a.tmps)=true:=by rfl) (hS:S w:=by assumption) :
    wpAnyH P md ops Q S (fuel+1) listed a w :=
  wpAnyH_take hi hs hf hr hQ (Or.inl ⟨hw,hy⟩) hS h
theorem tkr(i:Nat)(v:Value){oi:Oper}{fuel:Nat}{listed:Array Bool}{a:Act}{w:World}(hi:ops[i]?=some oi)
    (h:wpAnyH P md ops Q S fuel (listed.setIfInBounds i true) (a.put oi.dst v) w)
    (hy:∀w,S w->(execOp a.eval oi).run P w=.ok (.value v) w:=by(intro wq hSw;go_simp;try(with_reducible rfl)))
    (hs:Region.noSelect ops=true:=by kernel_rfl) (hf:Region.free md ops listed i=true:=by kernel_rfl)
    (hr:(Region.ready md ops listed).contains i=true:=by kernel_rfl)
    (hQ:∀c a w,Q (.panic c) (a.put oi.dst v) w->Q (.panic c) a w:=by exact fun _ _ _ h=>h)
    (hw:Region.wanted oi (yielded ops a.tmps)=true:=by rfl) (hS:S w:=by assumption) :
    wpAnyH P md ops Q S (fuel+1) listed a w :=
  wpAnyH_take hi hs hf hr hQ (Or.inl ⟨hw,hy⟩) hS h
theorem yE(r:Nat){o:Oper}{fuel:Nat}{listed:Array Bool}{a:Act}{w:World}(ho:ops[r]?=some o)
    (h:∀K':Act->World->Prop,Shut (∀a w,S w->(S w->wpAnyH P md ops Q S fuel (listed.setIfInBounds r true) a w)->K' a w)->if Region.wanted o (yielded ops a.tmps)=true then Oper.wp P o a w K' Q else K' (a.put o.dst undef) w)
    (hr:Region.ready md ops listed=[r]:=by kernel_rfl):wpAnyH P md ops Q S (fuel+1) listed a w :=
  wpAnyH_ready hr (by simp) (AllReadyH.cons ho h AllReadyH.nil)
end
end Go.Proofs.YtgkhemnmcgicnaaGreatDoor
namespace Go.Dam
theorem ya:type_of% @Option.some.injEq:=@Option.some.injEq
theorem yb:type_of% @Option.ite_none_right_eq_some:=@Option.ite_none_right_eq_some
theorem yc:type_of% @Prod.mk.injEq:=@Prod.mk.injEq
theorem yd:type_of% @Bool.and_eq_true:=@Bool.and_eq_true
theorem ye:type_of% @Nat.le_of_ble_eq_true:=@Nat.le_of_ble_eq_true
theorem yf:type_of% @Nat.eq_of_beq_eq_true:=@Nat.eq_of_beq_eq_true
theorem yg:type_of% @Option.some.inj:=@Option.some.inj
theorem yh:type_of% @Nat.le_refl:=@Nat.le_refl
theorem yi:type_of% @List.getElem?_eq_some_iff:=@List.getElem?_eq_some_iff
theorem yj:type_of% @Option.bind_some:=@Option.bind_some
theorem yk:type_of% @List.mem_cons:=@List.mem_cons
theorem yl:type_of% @Array.ext':=@Array.ext'
theorem ym:type_of% @Bool.false_eq_true:=@Bool.false_eq_true
theorem yn:type_of% @Array.map_congr_left:=@Array.map_congr_left
theorem yo:type_of% @List.mem_cons_of_mem:=@List.mem_cons_of_mem
theorem yp:type_of% @List.map_congr_left:=@List.map_congr_left
theorem yq:type_of% @Array.sizeOf_lt_of_mem:=@Array.sizeOf_lt_of_mem
theorem yr:type_of% @Option.map_some:=@Option.map_some
theorem yu:type_of% @Bool.or_eq_true:=@Bool.or_eq_true
theorem yw:type_of% @List.mem_map:=@List.mem_map
theorem yx:type_of% @Nat.add_assoc:=@Nat.add_assoc
theorem yy:type_of% @List.mem_append:=@List.mem_append
theorem yz:type_of% @Array.getElem?_eq_some_iff:=@Array.getElem?_eq_some_iff
theorem yya:type_of% @Nat.le_trans:=@Nat.le_trans
theorem yyb:type_of% @Bool.not_eq_true':=@Bool.not_eq_true'
theorem yyc:type_of% @List.getElem?_append_right:=@List.getElem?_append_right
theorem yyd:type_of% @List.mem_of_getElem?:=@List.mem_of_getElem?
theorem yye:type_of% @Array.getElem?_eq_none:=@Array.getElem?_eq_none
theorem yyf:type_of% @List.getElem?_append_left:=@List.getElem?_append_left
theorem yyg:type_of% @List.getElem?_eq_none_iff:=@List.getElem?_eq_none_iff
theorem yyh:type_of% @Array.mem_of_getElem?:=@Array.mem_of_getElem?
theorem yyi:type_of% @List.getElem?_eq_getElem:=@List.getElem?_eq_getElem
theorem yyj:type_of% @Array.toList_map:=@Array.toList_map
theorem yyk:type_of% @List.mem_toArray:=@List.mem_toArray
theorem yyl:type_of% @List.getElem?_map:=@List.getElem?_map
theorem yym:type_of% @Nat.zero_add:=@Nat.zero_add
theorem yyn:type_of% @List.map_cons:=@List.map_cons
structure St where
 heap:List (Nat×Obj)
 next:Nat
def aQ:List (Nat×Obj)->Nat->Option Obj
 | [],_=>none
 |(m,o)::r,n=>if Nat.beq m n=true then some o else aQ r n
def u9:List (Nat×Obj)->Nat->Obj->List (Nat×Obj)
 | [],_,_=>[]
 |(m,o)::r,n,x=>if Nat.beq m n=true then(m,x)::r else(m,o)::u9 r n x
def J8:List (Nat×Obj)->Nat->List (Nat×Obj)
 | [],_=>[]
 |(m,o)::r,n=>if Nat.beq m n=true then J8 r n else(m,o)::J8 r n
def jZ(n:Nat):Bool:=Nat.beq (n % 2) 1
def iB:Value->Bool
 | .bool _ | .int _ _ | .string _ | .pointer none | .slice none _ _ | .map none | .nilFunc | .nilIface=>true
 | .func (.yield _) _ _=>false
 | .func _ a b=>a.toList.isEmpty && b.toList.isEmpty
 | _=>false
def eB:List Value->Bool
 | []=>true
 |v::r=>iB v && eB r
def mK:Value->Bool
 | .agg cs=>eB cs.toList
 |v=>iB v
def xL:List Value->Bool
 | []=>true
 |v::r=>mK v && xL r
def plain:Value->Bool
 | .tuple vs=>xL vs.toList
 |v=>mK v
def xM:List Value->Nat->Value
 | [],_=>undef
 |v::_,0=>v
 | _::r,n+1=>xM r n
def kX:List Value->Nat->Value->List Value
 | [],_,_=>[]
 | _::r,0,x=>x::r
 |v::r,n+1,x=>v::kX r n x
def rJ(tm:List Value)(dst:Option Tmp)(v:Value):List Value :=
 match dst with
 |some d=>kX tm d v
 |none=>tm
def aE(tm:List Value):Operand->Value
 | .tmp t=>xM tm t
 | .const v=>v
 | .global g=>.pointer (some ⟨2*g,0,none⟩)
 | .func f=>.func (.func f) #[] #[]
def tC(P:Program):Operand->Bool
 | .const v=>plain v
 | .global g=>Nat.blt g P.globals.size
 | _=>true
def bH{α:Type}(P:Program):Sem α->Option α
 | .pure a=>some a
 | .program k=>bH P (k P)
 | .mark _ k=>bH P k
 | _=>none
def gG(P:Program)(t:TypeId):Option Nat:=(P.info? t).map (·.size)
def YK(P:Program)(t:TypeId):Option Bool :=
 match P.underlying t with
 |some (.struct _)|some (.array _ _)=>some true
 |some _=>some false
 |none=>none
def FX(P:Program)(t:TypeId):Option TypeId :=
 match P.underlying t with
 |some (.slice e)=>some e
 | _=>none
def one:Value->Bool
 | .agg _ | .tuple _=>false
 | _=>true
def zA:List Value->Bool
 | []=>true
 |v::r=>one v && zA r
def cellsOf(h:List (Nat×Obj))(n:Nat):Option (List Value) :=
 match aQ h n with
 |some (.cells c _ _)=>some c.toList
 | _=>none
def PU(P:Program)(h:List (Nat×Obj))(t:TypeId)(v:Value):Option Value :=
 match v with
 | .pointer (some ⟨n,off,none⟩) =>
  match cellsOf h n,YK P t,gG P t with
  |some c,some true,some s=>if Nat.ble (off+s) c.length=true then some (.agg ((c.drop off).take s).toArray)else none
  |some c,some false,_=>c[off]?
  | _,_,_=>none
 | _=>none
def pX:List Value->Nat->List Value->List Value
 |c,0,vs=>vs++c.drop vs.length
 | [],_+1,_=>[]
 |x::c,n+1,vs=>x::pX c n vs
def AH(n off:Nat)(fz:Nat×Nat):Bool :=
 if jZ n=true then Nat.ble fz.2 off else Nat.beq fz.1 fz.2 || Nat.ble fz.2 off
def mT(h:List (Nat×Obj))(n off:Nat)(vs:List Value):Option (List (Nat×Obj)) :=
 match vs with
 | []=>some h
 | _ =>
  match aQ h n with
  |some (.cells c e fz) =>
   if Nat.ble (off+vs.length) c.size && zA vs && AH n off fz then some (u9 h n (.cells (pX c.toList off vs).toArray e fz))else none
  | _=>none
def TE(P:Program)(h:List (Nat×Obj))(t:TypeId)(a v:Value):Option (List (Nat×Obj)) :=
 match a with
 | .pointer (some ⟨n,off,none⟩) =>
  match gG P t with
  |some s=>if Nat.beq v.cells.size s=true then mT h n off v.cells.toList else none
  |none=>none
 | _=>none
def eR(S:St)(o:Obj):Nat×St:=(S.next,⟨(S.next,o)::S.heap,S.next+2⟩)
def l6(S:St)(o:Obj):Nat×St:=(S.next+1,⟨(S.next+1,o)::S.heap,S.next+2⟩)
def mU(P:Program)(tm:List Value)(o:Oper):Option Value :=
 match bH P (execOp (aE tm) o)with
 |some (.value v)=>if plain v=true then some v else none
 | _=>none
def cN(tm:List Value):List Operand->Bool
 | []=>true
 |x::r=>plain (aE tm x) && cN tm r
def AJ:Value->Option Nat
 | .int _ n=>if 0<=n then some n.toNat else none
 | _=>none
def rR(v:Option Value)(d:Nat)(m:Nat):Option Nat :=
 match v with
 |none=>some d
 |some x=>match AJ x with
  |some k=>if Nat.ble k m=true then some k else none
  |none=>none
def TF(P:Program)(h:List (Nat×Obj))(t:TypeId)(x:Value)(lo hi:Option Value):Option Value :=
 match P.underlying t,x with
 |some (.slice e),.slice (some ⟨n,off,none⟩) len cap =>
  match gG P e with
  |none=>none
  |some s =>
  if jZ n=true then
   match rR hi len len with
   |none=>none
   |some h'=>match rR lo 0 h' with
    |none=>none
    |some l =>
     match aQ h n with
     |some (.cells c e' _) =>
      if Nat.ble (off+h'*s) c.size && Nat.beq off (cap*s) && Nat.blt 0 s && (Nat.beq l 0 || Nat.blt l h') && Nat.beq e' e then some (.slice (some ⟨n,off+l*s,none⟩) (h'-l) (cap+l))else none
     | _=>none
  else
   match rR hi len cap with
   |none=>none
   |some h'=>match rR lo 0 h' with
    |none=>none
    |some l=>some (.slice (some (if Nat.beq cap l=true then⟨n,off,none⟩else⟨n,off+l*s,none⟩)) (h'-l) (cap-l))
 |some (.array k e),.pointer (some ⟨n,off,none⟩) =>
  match gG P e with
  |none=>none
  |some s =>
  if jZ n=true then none else
   match rR hi k k with
   |none=>none
   |some h'=>match rR lo 0 h' with
    |none=>none
    |some l=>some (.slice (some (if Nat.beq k l=true then⟨n,off,none⟩else⟨n,off+l*s,none⟩)) (h'-l) (k-l))
 | _,_=>none
def zB(P:Program)(t:TypeId)(x:Value)(f:Nat):Option Value :=
 match P.underlying t,x with
 |some (.struct fs),.pointer (some ⟨n,off,none⟩) =>
  match fs[f]? with
  |some fd=>match gG P fd.type with
   |some s=>if Nat.beq s 0=true then none else some (.pointer (some ⟨n,off+fd.offset,none⟩))
   |none=>none
  |none=>none
 | _,_=>none
def zC(P:Program)(t:TypeId)(x i:Value):Option Value :=
 match P.underlying t,x,AJ i with
 |some (.slice e),.slice (some ⟨n,off,none⟩) len _,some k =>
  match gG P e with
  |some s=>if Nat.blt k len=true then some (.pointer (some ⟨n,off+k*s,none⟩))else none
  |none=>none
 |some (.array m e),.pointer (some ⟨n,off,none⟩),some k =>
  match gG P e with
  |some s=>if Nat.blt k m=true then some (.pointer (some ⟨n,off+k*s,none⟩))else none
  |none=>none
 | _,_,_=>none
def zD(h:List (Nat×Obj))(s n:Nat):Value->Option (List Value)
 | .slice none _ _=>some []
 | .slice (some ⟨m,off,none⟩) _ _ =>
  if Nat.beq (n*s) 0=true then some []else
  match cellsOf h m with
  |some c=>if Nat.ble (off+n*s) c.length=true then some ((c.drop off).take (n*s))else none
  |none=>none
 | .string b=>some ((b.data.toList.take n).map fun x=>.int .u8 x.toNat)
 | _=>none
def YL:Value->Option Nat
 | .slice _ n _=>some n
 | .string s=>some s.size
 | _=>none
def qE:Nat:=1048576
def WS(ti:TypeInfo)(m:Nat):Bool :=
 match ti.zero with
 |some z=>Nat.beq z.cells.size ti.size && Nat.blt 0 ti.size && Nat.ble m qE && Nat.ble ti.bytes 65536
 |none=>false
def vK:TypeDesc->Bool
 | .int _=>true
 | _=>false
def MJ(P:Program)(S:St)(args:Array TypeId)(s x:Value):Option (Value×St) :=
 match args.toList with
 | [sT,xT] =>
  match FX P sT,P.underlying xT,YL x with
  |some e,some xd,some n =>
   if vK xd=true then none else
   match (P.info? e),s with
   |some ti,.slice base len cap =>
    let sz:=ti.size
    if WS ti (len+n)=false then none else
    match zD S.heap sz n x with
    |none=>none
    |some new =>
    if Nat.beq new.length (n*sz)=false then none else
    match base with
    |none =>
     if Nat.beq len 0 && Nat.beq cap 0 then
      if Nat.beq n 0=true then some (s,S)else
       if zA new then
       let (m,S'):=l6 S (.cells new.toArray e (0,0))
       some (.slice (some ⟨m,0,none⟩) n 0,S')
       else none
     else none
    |some ⟨b,off,none⟩ =>
     if jZ b=true then
      match aQ S.heap b with
      |some (.cells c e' fz) =>
       if !(Nat.ble (off+len*sz) c.size && Nat.beq e' e && Nat.beq off (cap*sz))then none else
       if Nat.beq n 0=true then some (s,S)else
       if Nat.ble (off+(len+n)*sz) c.size=true then
        match mT S.heap b (off+len*sz) new with
        |some h'=>some (.slice base (len+n) cap,⟨h',S.next⟩)
        |none=>none
       else
        if zA new && Nat.ble fz.2 (off+len*sz) && Nat.beq fz.1 0 then
         let keep:=(c.toList.drop off).take (len*sz)
         let (m,S'):=l6 ⟨J8 S.heap b,S.next⟩ (.cells (keep++new).toArray e (0,fz.2-off))
         some (.slice (some ⟨m,0,none⟩) (len+n) 0,S')
        else none
      | _=>none
     else
      if Nat.ble (len+n) cap=true then
       match mT S.heap b (off+len*sz) new with
       |some h'=>some (.slice base (len+n) cap,⟨h',S.next⟩)
       |none=>none
      else
       match zD S.heap sz len s with
       |some old =>
        if zA new && Nat.beq old.length (len*sz)then
        let (m,S'):=l6 S (.cells (old++new).toArray e (0,0))
        some (.slice (some ⟨m,0,none⟩) (len+n) 0,S')
        else none
       |none=>none
    | _=>none
   | _,_=>none
  | _,_,_=>none
 | _=>none
def aBH(P:Program)(t:TypeId)(x y:Value):Option Bool :=
 match P.underlying t with
 |some (.pointer e) =>
  match x,y with
  | .pointer none,.pointer b=>some b.isNone
  | .pointer (some _),.pointer none=>some false
  | .pointer (some ⟨m,i,none⟩),.pointer (some ⟨n,j,none⟩) =>
   match gG P e with
   |some s=>if Nat.beq s 0=true then none else if Nat.beq m n=true then some (Nat.beq i j)else none
   |none=>none
  | _,_=>none
 |some (.slice _) =>
  match x,y with
  | .slice none _ _,.slice b _ _=>some b.isNone
  | .slice (some _) _ _,.slice none _ _=>some false
  | _,_=>none
 |some (.map _ _) =>
  match x,y with
  | .map none,.map b=>some b.isNone
  | .map (some _),.map none=>some false
  | _,_=>none
 |some (.func _ _ _) =>
  match x,y with
  | .nilFunc,.nilFunc=>some true
  | .nilFunc,.func _ _ _=>some false
  | .func _ _ _,.nilFunc=>some false
  | _,_=>none
 |some (.interface _) =>
  match x,y with
  | .iface _ _,.nilIface=>some false
  | .iface tx (.int k a),.iface ty (.int k' b) =>
   match P.info? tx,P.underlying tx with
   |some i,some (.int _)=>if Nat.beq tx ty && (i.comparable && decide (k=k'))then some (a==b)else none
   | _,_=>none
  | _,_=>none
 | _=>none
def mL(tm:List Value)(ps:Array (Nat×Operand)):Array (Nat×Value):=(ps.toList.map fun(i,x)=>(i,aE tm x)).toArray
def tD(P:Program)(t:TypeId):Option Value :=
 match P.info? t with
 |some i=>i.zero
 |none=>none
def tE:Nat->List Value->List Value
 |0,_=>[]
 |n+1,z=>z++tE n z
def vL(P:Program)(t:TypeId):Option (List Value) :=
 match tD P t with
 |some z=>some z.cells.toList
 |none=>none
def PV(s:Nat):List Value->List (Nat×Value)->Option (List Value)
 |c,[]=>some c
 |c,(i,v)::r =>
  if Nat.beq v.cells.size s && Nat.ble (i*s+s) c.length then PV s (pX c (i*s) v.cells.toList) r else none
def mV(P:Program)(tm:List Value)(S:St)(t:TypeId)(n:Nat)(ps:Array (Nat×Operand)):Option (Value×St) :=
 match FX P t with
 |some e =>
  match gG P e,tD P e with
  |some s,some z =>
   if Nat.beq z.cells.size s && Nat.ble (n*s) 1048576 && Nat.blt 0 s && eB z.cells.toList then
   match PV s (tE n z.cells.toList) (mL tm ps).toList with
   |some cs =>
    let (m,S'):=eR S (.cells cs.toArray e)
    some (.slice (some ⟨m,0,none⟩) n n,S')
   |none=>none
   else none
  | _,_=>none
 |none=>none
def zE(P:Program)(S:St)(t:TypeId)(l c:Value):Option (Value×St) :=
 match FX P t with
 |some e =>
  match P.info? e,AJ l,AJ c with
  |some ti,some l,some c =>
   match ti.zero with
   |some z =>
    if Nat.ble l c && Nat.ble c 1048576 && Nat.ble ti.bytes 65536 && Nat.ble (c*ti.size) 16777216 && Nat.beq z.cells.size ti.size && Nat.blt 0 ti.size && eB z.cells.toList then
     let (m,S'):=eR S (.cells (tE c z.cells.toList).toArray e)
     some (.slice (some ⟨m,0,none⟩) l c,S')
    else none
   |none=>none
  | _,_,_=>none
 |none=>none
def WT(P:Program)(S:St)(args:Array TypeId)(dst src:Value):Option (Value×St) :=
 match args.toList with
 |dT::_ =>
  match FX P dT,dst,YL src with
  |some e,.slice base dl _,some sl =>
   match gG P e with
   |none=>none
   |some s =>
    let n:=if Nat.ble sl dl=true then sl else dl
    match zD S.heap s n src with
    |none=>none
    |some cs =>
     match base with
     |none=>if Nat.beq n 0=true then some (.int .i64 0,S)else none
     |some ⟨b,off,none⟩ =>
      match mT S.heap b off cs with
      |some h'=>some (.int .i64 n,⟨h',S.next⟩)
      |none=>none
     | _=>none
  | _,_,_=>none
 | _=>none
def WU(P:Program)(k:TypeId)(key:Value)(es:Array MapEntry):Option (Option (Nat×Value)) :=
 bH P (do Instr.checkKey es.isEmpty 10000 k key;Instr.findKey k key es.toList)
def gD:List MapEntry->Bool
 | []=>true
 |e::r=>mK e.key && gD r
def uT(es:Array MapEntry)(clock:Nat):Bool:=Nat.blt clock es.size
def MK(s:ByteArray):List MapEntry->Bool
 | []=>true
 |e::r=>(match e.key with
  | .string t=>!(s==t)
  | _=>false) && MK s r
def j2:List MapEntry->Bool
 | []=>true
 |e::r=>(match e.key with
  | .string s=>MK s r
  | _=>false) && j2 r
def aBJ(P:Program)(k:TypeId):Bool:=match P.underlying k with
 |some .string=>true
 | _=>false
def aBK:Value->Bool
 | .string _=>true
 | _=>false
def aBL(P:Program)(k:TypeId)(i:Value)(es:Array MapEntry)(clock:Nat):Bool :=
 !(uT es clock) ||(aBJ P k && aBK i && j2 es.toList)
def ML(P:Program)(h:List (Nat×Obj))(t:TypeId)(x i:Value)(ok:Bool):Option Value :=
 match P.underlying t with
 |some (.map k e) =>
  if mK i then
  match x with
  | .map none =>
   match tD P e with
   |some z=>if mK z then(match bH P (Instr.checkKey true 10000 k i)with|some _=>some (if ok then .tuple #[z,.bool false]else z)|none=>none)else none
   |none=>none
  | .map (some n) =>
   match aQ h n with
   |some (.map es clock) =>
    if aBL P k i es clock=false then none else
    if gD es.toList then
    match WU P k i es with
    |some (some (_,v))=>some (if ok then .tuple #[v,.bool true]else v)
    |some none =>
     match tD P e with
     |some z=>if mK z then some (if ok then .tuple #[z,.bool false]else z)else none
     |none=>none
    |none=>none
    else none
   | _=>none
  | _=>none
  else none
 | _=>none
def B9:List MapEntry->Nat->Value->Value->List MapEntry
 | [],_,_,_=>[]
 |e::r,0,k,v=>{ e with key:=k,val:=v }::r
 |e::r,n+1,k,v=>e::B9 r n k v
def PW:List MapEntry->Nat->Value
 | [],_=>undef
 |e::_,0=>e.key
 | _::r,n+1=>PW r n
def zF(P:Program)(S:St)(t:TypeId)(m i v:Value):Option St :=
 match P.underlying t with
 |some (.map k _) =>
  if mK i then
  match m with
  | .map (some n) =>
   match aQ S.heap n with
   |some (.map es clock) =>
    if uT es clock=true then none else
    if gD es.toList then
    match bH P (do Instr.checkKey false 10000 k i;Instr.findKey k i es.toList)with
    |some (some (j,_)) =>
     if Instr.sameBits 10000 (PW es.toList j) i && Nat.blt j es.size then some ⟨u9 S.heap n (.map (B9 es.toList j i v).toArray clock),S.next⟩else none
    |some none=>some ⟨u9 S.heap n (.map (es.push { key:=i,val:=v,born:=clock }) (clock+1)),S.next⟩
    |none=>none
    else none
   | _=>none
  | _=>none
  else none
 | _=>none
def kH:List Value->Option (List UInt8)
 | []=>some []
 | .int .u8 n::r=>match kH r with
  |some l=>if 0<=n/\n<256 then some (n.toNat.toUInt8::l)else none
  |none=>none
 | _=>none
def xN(h:List (Nat×Obj))(x:Value):Option Value :=
 match x with
 | .slice none _ _=>some (.string .empty)
 | .slice (some ⟨n,off,none⟩) len _ =>
  match cellsOf h n with
  | some c => if Nat.ble (off + len) c.length then
    match kH ((c.drop off).take len)with
    |some l=>some (.string ⟨l.toArray⟩)
    |none=>none
   else none
  |none=>none
 | _=>none
def lA(S:St)(e:TypeId)(s:ByteArray):Value×St :=
 let (m,S'):=l6 S (.cells (s.data.toList.map fun b=>.int .u8 b.toNat).toArray e (1,0))
 (.slice (some ⟨m,0,none⟩) s.size 0,S')
def sL(P:Program)(S:St)(args:Array TypeId)(x l:Value):Option (Value×St) :=
 match args.toList with
 | [pt,_] =>
  match P.underlying pt with
  |some (.pointer u) =>
   match x,AJ l with
   | .pointer none,some 0=>some (.string .empty,S)
   | .pointer (some ⟨n,off,none⟩),some len =>
    if Nat.beq len 0=true then some (.string .empty,S)else
    match aQ S.heap n with
    |some (.cells c e (0,hi)) =>
     if jZ n && Nat.ble (off+len) c.size && Nat.beq e u && Nat.ble len 1048576 then
      match kH ((c.toList.drop off).take len),gG P e with
      |some b,some 1=>some (.string ⟨b.toArray⟩,⟨u9 S.heap n (.cells c e (0,max hi (off+len))),S.next⟩)
      | _,_=>none
     else none
    | _=>none
   | _,_=>none
  | _=>none
 | _=>none
def vM(P:Program)(S:St)(t:TypeId)(x:Value):Option (Value×St) :=
 match x,FX P t with
 | .int .i64 _,some e =>
  match AJ x,gG P e with
  |some n,some 1=>if Nat.ble n 1048576 then(let (m,S'):=l6 S (.cells #[] e (0,0));some (.slice (some ⟨m,0,none⟩) n 0,S'))else none
  | _,_=>none
 | _,_=>none
def aHN(P:Program)(h:List (Nat×Obj))(args:Array TypeId)(x:Value):Option Value :=
 match args.toList with
 | [t] =>
  match x,P.underlying t with
  | .slice (some _) n _,some (.slice _)=>some (.int .i64 n)
  | .map (some n),some (.map _ _)=>match aQ h n with
   |some (.map es clock)=>if uT es clock=true then none else some (.int .i64 es.size)
   | _=>none
  | _,_=>none
 | _=>none
def aHP(P:Program)(args:Array TypeId)(x:Value):Option Value :=
 match args.toList with
 | [t] =>
  match x,P.underlying t with
  | .slice (some q) _ cp,some (.slice _)=>if jZ q.block=true then none else some (.int .i64 cp)
  | _,_=>none
 | _=>none
def zG(P:Program)(h:List (Nat×Obj))(x:Value):Option Value :=
 match x with
 | .slice none _ _=>some (.pointer none)
 | .slice (some ⟨n,off,none⟩) _ cp =>
  if jZ n=true then
   match aQ h n with
   |some (.cells c e _) =>
    match gG P e with
    |some 1=>if Nat.blt off c.size && Nat.beq off cp then some (.pointer (some ⟨n,off,none⟩))else none
    | _=>none
   | _=>none
  else if Nat.blt 0 cp then some (.pointer (some ⟨n,off,none⟩))else none
 | _=>none
def CA(P:Program)(h:List (Nat×Obj))(t:TypeId)(x:Value):Option Value :=
 match x with
 | .pointer (some ⟨n,off,none⟩) =>
  match aQ h n,gG P t with
  |some (.cells c _ _),some s=>if Nat.blt off c.size && Nat.blt 0 s then some x else none
  | _,_=>none
 | _=>none
def vN(P:Program)(h:List (Nat×Obj))(u:TypeId)(x:Value):Option Value :=
 match x with
 | .pointer (some ⟨n,0,none⟩) =>
  match aQ h n,gG P u with
  |some (.cells c e _),some s=>if !(jZ n) && Nat.beq e u && Nat.blt 0 s && Nat.ble s c.size then some x else none
  | _,_=>none
 | _=>none
def TG(P:Program)(S:St)(t:TypeId)(x:Value):Option (Value×St) :=
 match P.underlying t,x with
 |some .string,.string s=>let (m,S'):=eR S (.stringIter s 0);some (.pointer (some ⟨m,0,none⟩),S')
 |some (.map _ _),.map none=>let (m,S'):=eR S (.mapIter none 0 #[] 0);some (.pointer (some ⟨m,0,none⟩),S')
 |some (.map _ _),.map (some n) =>
  match aQ S.heap n with
  |some (.map es clock)=>if uT es clock=true then none else(let (m,S'):=eR S (.mapIter (some n) clock #[] clock);some (.pointer (some ⟨m,0,none⟩),S'))
  | _=>none
 | _,_=>none
def WV(es:List MapEntry)(seen:List Nat):List MapEntry:=es.filter fun e=>!seen.contains e.born
def aBM(S:St)(it:Value)(isString:Bool):Option (Value×St) :=
 match it with
 | .pointer (some ⟨r,0,none⟩) =>
  match aQ S.heap r,isString with
  |some (.stringIter s pos),true =>
   if Nat.blt pos s.size=true then
    some (.tuple #[.bool true,goInt pos,.int .i32 (Utf8.decode s pos).1],⟨u9 S.heap r (.stringIter s (pos+(Utf8.decode s pos).2)),S.next⟩)
   else some (.tuple #[.bool false],S)
  |some (.mapIter none _ _ _),false=>some (.tuple #[.bool false],S)
  |some (.mapIter (some m) since seen last),false =>
   match aQ S.heap m with
   |some (.map es clock) =>
    if uT es clock=true then none else
    if !seen.isEmpty && !es.isEmpty && es.all (·.born ≥ last)then none else
    match WV es.toList seen.toList with
    | []=>some (.tuple #[.bool false],S)
    | [e]=>if Nat.blt e.born since=true then some (.tuple #[.bool true,e.key,e.val],⟨u9 S.heap r (.mapIter (some m) since (seen.push e.born) clock),S.next⟩)else none
    | _=>none
   | _=>none
  | _,_=>none
 | _=>none
def WW:List Nat->Option Nat
 | []=>none
 | [x]=>some x
 | _::r=>WW r
def qN(b:Nat):List MapEntry->Option MapEntry
 | []=>none
 |e::r=>if Nat.beq e.born b=true then some e else qN b r
def TH(S:St)(it:Value):Option Value :=
 match it with
 | .pointer (some ⟨r,0,none⟩) =>
  match aQ S.heap r with
  |some (.mapIter (some m) _ seen last) =>
   match aQ S.heap m,WW seen.toList with
   |some (.map es clock),some b =>
    if Nat.beq clock last && !(uT es clock)then
     match qN b es.toList with
     |some e=>some (.tuple #[e.key,e.val])
     |none=>none
    else none
   | _,_=>none
  | _=>none
 | _=>none
def MM(P:Program)(t:TypeId)(name:String):Option FuncId :=
 match P.underlying t,P.info? t with
 |some (.pointer _),some i =>
  match i.methods.find? (·.name==name)with
  |some m=>(match m.func with
   |some (f,true)=>if m.path.toList.isEmpty then some f else none
   | _=>none)
  |none=>none
 | _,_=>none
def PX(P:Program)(f:FuncId):Bool:=match P.funcs[f]? with
 |some fn=>fn.body.isSome
 |none=>false
def bX(callF:Fn->List Value->St->Option (Value×St))(P:Program)(tm:List Value)(S:St)(o:Oper):Option (Value×St) :=
 match o.op with
 | .move x | .assign x=>some (aE tm x,S)
 | .pick c a b =>
  match aE tm c with
  | .bool d=>some (if d=true then aE tm a else aE tm b,S)
  | _=>none
 | .alloc t =>
  match vL P t with
  |some cs=>if eB cs then(let (m,S'):=eR S (.cells cs.toArray t);some (.pointer (some ⟨m,0,none⟩),S'))else none
  |none=>none
 | .box t x=>let (m,S'):=eR S (.cells (aE tm x).cells t);some (.pointer (some ⟨m,0,none⟩),S')
 | .build t ps =>
  match tD P t,bH P (Instr.build t (mL tm ps))with
  |some z,some v=>if eB z.cells.toList then some (v,S)else none
  | _,_=>none
 | .buildSlice t n ps=>mV P tm S t n ps
 | .load t a=>match PU P S.heap t (aE tm a)with
  |some v=>some (v,S)
  |none=>none
 | .store t a x=>match TE P S.heap t (aE tm a) (aE tm x)with
  |some h'=>some (undef,⟨h',S.next⟩)
  |none=>none
 | .nilCheck x=>match aE tm x with
  | .pointer (some a)=>some (.pointer (some a),S)
  | _=>none
 | .binOp op t x y _ =>
  if plain (aE tm x) && plain (aE tm y)then
   match mU P tm o with
   |some v=>some (v,S)
   |none=>none
  else
   match op,aBH P t (aE tm x) (aE tm y)with
   | .eql,some b=>some (.bool b,S)
   | .neq,some b=>some (.bool !b,S)
   | _,_=>none
 | .convert s d x =>
  match aE tm x,P.underlying s,P.underlying d with
  | .string b,some .string,some (.slice e) =>
   match P.underlying e,gG P e with
   |some (.int .u8),some 1=>some (lA S e b)
   | _,_=>none
  |x,some (.slice e),some .string =>
   match P.underlying e with
   |some (.int .u8)=>match xN S.heap x with
    |some v=>some (v,S)
    |none=>none
   | _=>none
  |x,some (.pointer t),some .unsafePointer=>match CA P S.heap t x with
   |some v=>some (v,S)
   |none=>none
  |x,some .unsafePointer,some (.pointer u)=>match vN P S.heap u x with
   |some v=>some (v,S)
   |none=>none
  |x,_,_=>if plain x then(match mU P tm o with
   |some v=>some (v,S)
   |none=>none)else none
 | .makeInterface t x =>
  match P.underlying t with
  |some (.interface _)=>none
  |some _=>some (.iface t (aE tm x),S)
  |none=>none
 | .makeFunc fn first captured =>
  match fn with
  | .yield _=>none
  |fn=>some (.func fn (first.toList.map (aE tm)).toArray (captured.toList.map (aE tm)).toArray,S)
 | .makeMap _ none=>let (m,S'):=eR S (.map #[] 0);some (.map (some m),S')
 | .makeSlice t l c=>zE P S t (aE tm l) (aE tm c)
 | .slice t x lo hi none =>
  match aE tm x with
  | .string _=>if cN tm (x::(lo.toList++hi.toList))then(match mU P tm o with
   |some v=>some (v,S)
   |none=>none)else none
  | .slice none _ _=>if cN tm (x::(lo.toList++hi.toList))then(match mU P tm o with
   |some v=>some (v,S)
   |none=>none)else none
  |v=>match TF P S.heap t v (lo.map (aE tm)) (hi.map (aE tm))with
   |some v=>some (v,S)
   |none=>none
 | .fieldAddr t x f=>match zB P t (aE tm x) f with
  |some v=>some (v,S)
  |none=>none
 | .indexAddr t x i=>match zC P t (aE tm x) (aE tm i)with
  |some v=>some (v,S)
  |none=>none
 | .field t x f=>match bH P (Instr.field t (aE tm x) f)with
  |some v=>some (v,S)
  |none=>none
 | .index t x i=>match bH P (Instr.index t (aE tm x) (aE tm i))with
  |some v=>some (v,S)
  |none=>none
 | .extract x i=>match bH P (Instr.extract (aE tm x) i)with
  |some v=>some (v,S)
  |none=>none
 | .lookup t x i ok=>match ML P S.heap t (aE tm x) (aE tm i) ok with
  |some v=>some (v,S)
  |none=>none
 | .mapUpdate t m k x | .insert t m k x=>match zF P S t (aE tm m) (aE tm k) (aE tm x)with
  |some S'=>some (undef,S')
  |none=>none
 | .range t x=>TG P S t (aE tm x)
 | .next x b=>aBM S (aE tm x) b
 | .entry x=>match TH S (aE tm x)with
  |some v=>some (v,S)
  |none=>none
 | .unOp _ _ x=>if plain (aE tm x)then(match mU P tm o with
  |some v=>some (v,S)
  |none=>none)else none
 | .call c =>
  match c.callee,c.args.toList with
  | .builtin .append,[x,y]=>MJ P S c.argTypes (aE tm x) (aE tm y)
  | .builtin .copy,[x,y]=>WT P S c.argTypes (aE tm x) (aE tm y)
  | .builtin .len,[x] =>
   match aHN P S.heap c.argTypes (aE tm x)with
   |some v=>some (v,S)
   |none=>if cN tm [x]then(match mU P tm o with
    |some v=>some (v,S)
    |none=>none)else none
  | .builtin .cap,[x] =>
   match aHP P c.argTypes (aE tm x)with
   |some v=>some (v,S)
   |none=>if cN tm [x]then(match mU P tm o with
    |some v=>some (v,S)
    |none=>none)else none
  | .builtin .unsafeSliceData,[x] =>
   match zG P S.heap (aE tm x)with
   |some p=>some (p,S)
   |none=>none
  | .builtin .unsafeString,[x,y]=>sL P S c.argTypes (aE tm x) (aE tm y)
  | .builtin .min,xs | .builtin .max,xs=>if cN tm xs then(match mU P tm o with
   |some v=>some (v,S)
   |none=>none)else none
  | .value f,xs =>
   match aE tm f with
   | .func (.func g) first captured =>
    match P.funcs[g]? with
    |none=>none
    |some fn =>
     match fn.body with
     |some _=>callF (.func g) (first.toList++xs.map (aE tm)++captured.toList) S
     |none =>
      if first.toList.isEmpty && captured.toList.isEmpty && fn.name=="internal/abi.NoEscape" && fn.origin=="" then
       match xs with
       | [x]=>some (aE tm x,S)
       | _=>none
      else if first.toList.isEmpty && captured.toList.isEmpty && fn.name=="internal/bytealg.MakeNoZero" && fn.origin=="" then
       match xs,fn.resultTypes.toList with
       | [x],[t]=>vM P S t (aE tm x)
       | _,_=>none
      else if cN tm xs && first.toList.isEmpty && captured.toList.isEmpty then(match mU P tm o with
       |some v=>some (v,S)
       |none=>none)else none
   | .func (.yield l) first captured=>if first.toList.isEmpty && captured.toList.isEmpty then callF (.yield l) (xs.map (aE tm)) S else none
   | _=>none
  | .invoke r name,xs =>
   match aE tm r with
   | .iface t v =>
    match MM P t name with
    |some f =>
     if PX P f then callF (.func f) (v::xs.map (aE tm)) S else none
    |none=>none
   | _=>none
  | _,_=>none
 | _=>none
def tT(ops:List Oper)(tm:List Value)(o:Oper):Bool :=
 match o.guard with
 |none=>true
 |some (j,want) =>
  match ops[j]? with
  |some p=>(match p.dst with
   |some d=>(match xM tm d with
    | .bool b=>b==want
    | _=>false)
   |none=>false)
  |none=>false
def kind:Op->Nat
 | .move _ | .assign _ | .pick .. | .build .. | .nilCheck _ | .binOp .. | .unOp .. | .fieldAddr .. | .field .. | .indexAddr .. | .index .. | .extract .. | .makeInterface .. | .makeFunc ..=>0
 | .load .. | .slice .. | .lookup ..=>1
 | .alloc _ | .box .. | .buildSlice .. | .makeMap _ none=>2
 | .call { callee:=.builtin .len,.. }=>1
 | .call { callee:=.builtin .min,.. } | .call { callee:=.builtin .max,.. }=>0
 | _=>3
def j3(P:Program)(h:List (Nat×Obj))(tm:List Value):List ResultVar->Option (List Value)
 | []=>some []
 | .tmp t::r=>match j3 P h tm r with
  |some l=>some (xM tm t::l)
  |none=>none
 | .cell a t::r=>match PU P h t (xM tm a),j3 P h tm r with
  |some v,some l=>some (v::l)
  | _,_=>none
def aBN:Value->Bool
 | .pointer (some _) | .map (some _) | .func _ _ _=>false
 | _=>true
def AK:List Value->Bool
 | []=>true
 | .agg cs::r=>cs.toList.all aBN && AK r
 |v::r=>aBN v && AK r
def tU(base:Nat):List (Nat×Obj)->List (Nat×Obj)
 | []=>[]
 |(n,o)::r=>if Nat.ble base n=true then tU base r else(n,o)::tU base r
structure cA where
 β:Nat->Nat
 σ:Nat->Nat
 κ:Nat->Nat
def cA.addr(E:cA)(a:Addr):Addr:=⟨E.β a.block,E.σ a.block+a.off,a.spot⟩
def AR(E:cA):Fn->Fn
 | .yield n=>.yield (E.β n)
 |f=>f
def QA(A:Nat->Prop):Fn->Prop
 | .yield n=>A n
 | _=>True
def aN(E:cA):Value->Value
 | .pointer (some a)=>.pointer (some (E.addr a))
 | .slice (some a) len cap=>.slice (some (E.addr a)) len (if jZ a.block=true then E.κ a.block-cap else cap)
 | .map (some r)=>.map (some (E.β r))
 | .func fn a b=>.func (AR E fn) (a.attach.map fun⟨x,_⟩=>aN E x) (b.attach.map fun⟨x,_⟩=>aN E x)
 | .iface t v=>.iface t (aN E v)
 | .agg cs=>.agg (cs.attach.map fun⟨x,_⟩=>aN E x)
 | .tuple cs=>.tuple (cs.attach.map fun⟨x,_⟩=>aN E x)
 |v=>v
termination_by v=>SizeOf.sizeOf v
decreasing_by
 all_goals simp_wf
 all_goals first|omega |(rename_i h;have:=yq h;omega)
def Sc(A:Nat->Prop):Value->Prop
 | .pointer (some a)=>A a.block
 | .slice (some a) _ _=>A a.block
 | .map (some r)=>A r
 | .func fn a b=>QA A fn/\(∀x,(h:x∈a)->Sc A x)/\(∀x,(h:x∈b)->Sc A x)
 | .iface _ v=>Sc A v
 | .agg cs=>∀x,(h:x∈cs)->Sc A x
 | .tuple cs=>∀x,(h:x∈cs)->Sc A x
 | _=>True
termination_by v=>SizeOf.sizeOf v
decreasing_by
 all_goals simp_wf
 all_goals first|omega |(have:=yq h;omega)
section
variable(E:cA)
theorem nA(cs:Array Value):aN E (.agg cs)=.agg (cs.map (aN E)):=by rw[aN];simp
theorem gV(cs:Array Value):aN E (.tuple cs)=.tuple (cs.map (aN E)):=by rw[aN];simp
theorem gW(fn:Fn)(a b:Array Value):aN E (.func fn a b)=.func (AR E fn) (a.map (aN E)) (b.map (aN E)):=by rw[aN];simp
@[simp] theorem F1(f:FuncId):AR E (.func f)=.func f:=rfl
@[simp] theorem DB(l:Nat):AR E (.yield l)=.yield (E.β l):=rfl
theorem jK(t:TypeId)(v:Value):aN E (.iface t v)=.iface t (aN E v):=by rw[aN]
theorem cT(a:Addr):aN E (.pointer (some a))=.pointer (some (E.addr a)):=by rw[aN]
theorem bQ(a:Addr)(l c:Nat):aN E (.slice (some a) l c)=.slice (some (E.addr a)) l (if jZ a.block=true then E.κ a.block-c else c):=by rw[aN]
theorem mC(r:Nat):aN E (.map (some r))=.map (some (E.β r)):=by rw[aN]
theorem gX(b:Bool):aN E (.bool b)=.bool b:=by rw[aN]<;>simp
theorem fZ(k:IntKind)(n:Int):aN E (.int k n)=.int k n:=by rw[aN]<;>simp
theorem eJ(s:ByteArray):aN E (.string s)=.string s:=by rw[aN]<;>simp
theorem gH:aN E (.pointer none)=.pointer none:=by rw[aN]<;>simp
theorem cF(l c:Nat):aN E (.slice none l c)=.slice none l c:=by rw[aN]<;>simp
theorem gJ:aN E (.map none)=.map none:=by rw[aN]<;>simp
theorem j6:aN E .nilFunc=.nilFunc:=by rw[aN]<;>simp
theorem pY:aN E .nilIface=.nilIface:=by rw[aN]<;>simp
theorem K7(k:FloatKind)(n:Nat):aN E (.float k n)=.float k n:=by rw[aN]<;>simp
theorem DC(k:FloatKind)(n m:Nat):aN E (.complex k n m)=.complex k n m:=by rw[aN]<;>simp
theorem QB(r:Option Nat):aN E (.chan r)=.chan r:=by rw[aN]<;>simp
theorem kJ:aN E undef=undef:=by rw[undef,gV];simp
end
section
variable(A:Nat->Prop)
theorem qR(cs:Array Value):Sc A (.agg cs)↔∀x∈cs,Sc A x:=by rw[Sc]
theorem j7(cs:Array Value):Sc A (.tuple cs)↔∀x∈cs,Sc A x:=by rw[Sc]
theorem pZ(fn:Fn)(a b:Array Value):Sc A (.func fn a b)↔QA A fn/\(∀x∈a,Sc A x)/\(∀x∈b,Sc A x):=by rw[Sc]
@[simp] theorem aJ8(f:FuncId):QA A (.func f):=trivial
theorem vS(t:TypeId)(v:Value):Sc A (.iface t v)↔Sc A v:=by rw[Sc]
theorem oG(a:Addr):Sc A (.pointer (some a))↔A a.block:=by rw[Sc]
theorem dX(a:Addr)(l c:Nat):Sc A (.slice (some a) l c)↔A a.block:=by rw[Sc]
theorem MV(r:Nat):Sc A (.map (some r))↔A r:=by rw[Sc]
theorem rT(b:Bool):Sc A (.bool b):=by rw[Sc]<;>simp
theorem qS(k:IntKind)(n:Int):Sc A (.int k n):=by rw[Sc]<;>simp
theorem oH(s:ByteArray):Sc A (.string s):=by rw[Sc]<;>simp
theorem CC:Sc A (.pointer none):=by rw[Sc]<;>simp
theorem vT(l c:Nat):Sc A (.slice none l c):=by rw[Sc]<;>simp
theorem K8:Sc A (.map none):=by rw[Sc]<;>simp
theorem TM:Sc A .nilFunc:=by rw[Sc]<;>simp
theorem QC:Sc A .nilIface:=by rw[Sc]<;>simp
theorem oW:Sc A undef:=by rw[undef,j7];simp
end
def kR(A:Nat->Prop)(E E':cA):Prop:=∀n,A n->E'.β n=E.β n/\E'.σ n=E.σ n/\E'.κ n=E.κ n
theorem YM{A B:Nat->Prop}(h:∀n,A n->B n)(f:Fn):QA A f->QA B f:=by
 cases f<;>first|exact h _ | exact fun _=>trivial
theorem QD{A:Nat->Prop}{E E':cA}(h:kR A E E')(f:Fn)(hs:QA A f):AR E' f=AR E f:=by
 cases f<;>first|rfl |(simp only[AR];rw[(h _ hs).1])
theorem iH{A B:Nat->Prop}(h:∀n,A n->B n)(v:Value):Sc A v->Sc B v:=by
 induction hk:SizeOf.sizeOf v using Nat.strongRecOn generalizing v with
 | _ k ih =>
  subst hk;cases v with
  |agg cs =>
   rw[qR,qR];exact fun hs x hx=>ih _ (by have:=yq hx;simp;omega) x rfl (hs x hx)
  |tuple cs =>
   rw[j7,j7];exact fun hs x hx=>ih _ (by have:=yq hx;simp;omega) x rfl (hs x hx)
  |func fn a b =>
   rw[pZ,pZ];exact fun hs=>⟨YM h fn hs.1,fun x hx=>ih _ (by have:=yq hx;simp;omega) x rfl (hs.2.1 x hx),fun x hx=>ih _ (by have:=yq hx;simp;omega) x rfl (hs.2.2 x hx)⟩
  |iface t v=>rw[vS,vS];exact ih _ (by simp;omega) v rfl
  |pointer a =>
   cases a with
   |none=>exact fun _=>CC _
   |some a=>rw[oG,oG];exact h _
  |slice a l c =>
   cases a with
   |none=>exact fun _=>vT _ _ _
   |some a=>rw[dX,dX];exact h _
  |map r =>
   cases r with
   |none=>exact fun _=>K8 _
   |some a=>rw[MV,MV];exact h _
  | _=>intro _;rw[Sc]<;>simp
theorem fH{A:Nat->Prop}{E E':cA}(h:kR A E E')(v:Value):Sc A v->aN E' v=aN E v:=by
 induction hk:SizeOf.sizeOf v using Nat.strongRecOn generalizing v with
 | _ k ih =>
  subst hk;cases v with
  |agg cs =>
   rw[qR,nA,nA];intro hs;rw[yn fun x hx=>ih _ (by have:=yq hx;simp;omega) x rfl (hs x hx)]
  |tuple cs =>
   rw[j7,gV,gV];intro hs;rw[yn fun x hx=>ih _ (by have:=yq hx;simp;omega) x rfl (hs x hx)]
  |func fn a b =>
   rw[pZ,gW,gW];intro hs;rw[yn fun x hx=>ih _ (by have:=yq hx;simp;omega) x rfl (hs.2.1 x hx),
    yn (xs:=b) fun x hx=>ih _ (by have:=yq hx;simp;omega) x rfl (hs.2.2 x hx),QD h fn hs.1]
  |iface t v=>rw[vS,jK,jK];intro hs;rw[ih _ (by simp;omega) v rfl hs]
  |pointer a =>
   cases a with
   |none=>intro _;rw[gH,gH]
   |some a=>rw[oG,cT,cT];intro hs;obtain⟨h1,h2,h3⟩:=h _ hs;simp[cA.addr,h1,h2]
  |slice a l c =>
   cases a with
   |none=>intro _;rw[cF,cF]
   |some a=>rw[dX,bQ,bQ];intro hs;obtain⟨h1,h2,h3⟩:=h _ hs;simp[cA.addr,h1,h2,h3]
  |map r =>
   cases r with
   |none=>intro _;rw[gJ,gJ]
   |some a=>rw[MV,mC,mC];intro hs;obtain⟨h1,h2,h3⟩:=h _ hs;simp[h1]
  | _=>intro _;rw[aN,aN]<;>simp
theorem tX{v:Value}(E:cA)(h:iB v=true):aN E v=v:=by
 cases v with
 |bool b=>exact gX _ _
 |int k n=>exact fZ _ _ _
 |string s=>exact eJ _ _
 |pointer a=>cases a with
  |none=>exact gH _
  |some a=>simp[iB]at h
 |slice a l c=>cases a with
  |none=>exact cF _ _ _
  |some a=>simp[iB]at h
 |map r=>cases r with
  |none=>exact gJ _
  |some a=>simp[iB]at h
 |func fn a b =>
  cases fn<;>first
   |(simp[iB]at h;done)
   |(simp[iB]at h;rw[gW,h.1,h.2];simp[AR])
 |nilFunc=>exact j6 _
 |nilIface=>exact pY _
 | _=>simp[iB]at h
theorem qF{v:Value}(A:Nat->Prop)(h:iB v=true):Sc A v:=by
 cases v with
 |bool b=>exact rT _ _
 |int k n=>exact qS _ _ _
 |string s=>exact oH _ _
 |pointer a=>cases a with
  |none=>exact CC _
  |some a=>simp[iB]at h
 |slice a l c=>cases a with
  |none=>exact vT _ _ _
  |some a=>simp[iB]at h
 |map r=>cases r with
  |none=>exact K8 _
  |some a=>simp[iB]at h
 |func fn a b =>
  cases fn<;>first
   |(simp[iB]at h;done)
   |(simp[iB]at h;rw[pZ,h.1,h.2];simp[QA])
 |nilFunc=>exact TM _
 |nilIface=>exact QC _
 | _=>simp[iB]at h
theorem fC{l:List Value}(h:eB l=true):∀v∈l,iB v=true:=by
 induction l with
 |nil=>simp
 |cons a r ih=>simp[eB]at h;intro v hv;rcases yk.1 hv with rfl|hv;exact h.1;exact ih h.2 v hv
theorem iC{v:Value}(E:cA)(h:mK v=true):aN E v=v:=by
 cases v with
 |agg cs =>
  have:=fC (l:=cs.toList) h;have e:cs.map (aN E)=cs:=by
   have:=yn (xs:=cs) (f:=aN E) (g:=id) (fun x hx=>tX E (this x (by simpa using hx)));simpa using this
  rw[nA,e]
 | _=>exact tX E h
theorem qG{v:Value}(A:Nat->Prop)(h:mK v=true):Sc A v:=by
 cases v with
 |agg cs =>
  have:=fC (l:=cs.toList) h;rw[qR];exact fun x hx=>qF A (this x (by simpa using hx))
 | _=>exact qF A h
theorem yH{l:List Value}(h:xL l=true):∀v∈l,mK v=true:=by
 induction l with
 |nil=>simp
 |cons a r ih=>simp[xL]at h;intro v hv;rcases yk.1 hv with rfl|hv;exact h.1;exact ih h.2 v hv
theorem kK{v:Value}(E:cA)(h:plain v=true):aN E v=v:=by
 cases v with
 |tuple cs =>
  have:=yH (l:=cs.toList) h;have e:cs.map (aN E)=cs:=by
   have:=yn (xs:=cs) (f:=aN E) (g:=id) (fun x hx=>iC E (this x (by simpa using hx)));simpa using this
  rw[gV,e]
 | _=>exact iC E h
theorem vU{v:Value}(A:Nat->Prop)(h:plain v=true):Sc A v:=by
 cases v with
 |tuple cs =>
  have:=yH (l:=cs.toList) h;rw[j7];exact fun x hx=>qG A (this x (by simpa using hx))
 | _=>exact qG A h
theorem xU(E:cA)(v:Value):(aN E v).cells=v.cells.map (aN E):=by
 cases v with
 |agg cs=>rw[nA];rfl
 |pointer a=>cases a<;>simp[Value.cells,cT,gH]
 |slice a=>cases a<;>simp[Value.cells,bQ,cF]
 |map a=>cases a<;>simp[Value.cells,mC,gJ]
 |func=>simp[Value.cells,gW]
 |iface=>simp[Value.cells,jK]
 |tuple=>simp[Value.cells,gV]
 |bool=>simp[Value.cells,gX]
 |int=>simp[Value.cells,fZ]
 |string=>simp[Value.cells,eJ]
 |float=>simp[Value.cells,K7]
 |complex=>simp[Value.cells,DC]
 |chan=>simp[Value.cells,QB]
 |nilFunc=>simp[Value.cells,j6]
 |nilIface=>simp[Value.cells,pY]
theorem F2{A:Nat->Prop}{v:Value}(h:Sc A v):∀x∈v.cells,Sc A x:=by
 cases v with
 |agg cs=>exact(qR A cs).1 h
 | _=>intro x hx;simp[Value.cells]at hx;subst hx;exact h
theorem WY(E:cA)(v:Value):one (aN E v)=one v:=by
 cases v with
 |agg cs=>rw[nA];rfl
 |pointer a=>cases a<;>simp[one,cT,gH]
 |slice a=>cases a<;>simp[one,bQ,cF]
 |map a=>cases a<;>simp[one,mC,gJ]
 |func=>simp[one,gW]
 |iface=>simp[one,jK]
 |tuple=>simp[one,gV]
 |bool=>simp[one,gX]
 |int=>simp[one,fZ]
 |string=>simp[one,eJ]
 |float=>simp[one,K7]
 |complex=>simp[one,DC]
 |chan=>simp[one,QB]
 |nilFunc=>simp[one,j6]
 |nilIface=>simp[one,pY]
theorem eL{α:Type}{P:Program}{s:Sem α}{v:α}(h:bH P s=some v)(w:World):s.run P w=.ok v w:=by
 induction s with
 |pure a=>simp[bH]at h;subst h;rfl
 |program k ih=>exact ih P h
 |mark m k ih=>exact ih h
 | _=>simp[bH]at h
def bP(E:cA)(x:MapEntry):MapEntry:={ key:=aN E x.key,val:=aN E x.val,born:=x.born }
def oJ(es es':Array MapEntry):Prop:=(es.toList.map fun x=>(x.key,x.val)).Perm (es'.toList.map fun x=>(x.key,x.val))
theorem oJ.all{es es':Array MapEntry}(h:oJ es es'){p:Value->Value->Prop}(hp:∀x∈es',p x.key x.val):∀x∈es,p x.key x.val:=by
 intro x hx;have h1:(x.key,x.val)∈es.toList.map fun x=>(x.key,x.val):=yw.2 ⟨x,by simpa using hx,rfl⟩;obtain⟨y,hy,e⟩:=yw.1 (h.mem_iff.1 h1);have:=hp y (by simpa using hy);simp only[yc]at e;rw[e.1,e.2]at this;exact this
def cV(P:Program)(E:cA)(n:Nat)(o oc:Obj):Prop :=
 match o with
 | .cells c e fz =>
  if jZ n=true then
   ∃(cc:Array Value)(fzc:Nat×Nat)(s:Nat),oc=.cells cc e fzc/\gG P e=some s /\
    (∀i v,c[i]?=some v->cc[E.σ n+i]?=some (aN E v))/\cc.size=E.σ n+E.κ n*s/\c.size<=E.κ n*s /\
    (∀off,fz.2<=off->off<E.κ n*s->¬(fzc.1<=E.σ n+off/\E.σ n+off<fzc.2))/\(fz.1=0->fzc.1=fzc.2\/fzc.2<=E.σ n+fz.2)
  else E.σ n=0/\oc=.cells (c.map (aN E)) e fz
 | .map es clock=>if uT es clock=true then ∃(esl:Array MapEntry)(c':Nat),oJ esl es/\esl.size<=c'/\oc=.map (esl.map (bP E)) c' else oc=.map (es.map (bP E)) clock
 | .stringIter s p=>E.σ n=0/\oc=.stringIter s p
 | .mapIter m s seen c=>E.σ n=0/\oc=.mapIter (m.map E.β) s seen c
 | .loop r=>∃f d,oc=.loop { r with fn:=f,defers:=d,tmps:=r.tmps.map (aN E) }
 | _=>False
def yJ(A:Nat->Prop):Obj->Prop
 | .cells c _ _=>∀x∈c,Sc A x
 | .map es _=>∀x∈es,Sc A x.key/\Sc A x.val
 | .loop r=>∀x∈r.tmps,Sc A x
 | .mapIter m _ _ _=>∀n,m=some n->A n
 | _=>True
theorem mM{A B:Nat->Prop}(h:∀n,A n->B n)(o:Obj):yJ A o->yJ B o:=by
 cases o with
 |cells c e fz=>exact fun hs x hx=>iH h x (hs x hx)
 |map es cl=>exact fun hs x hx=>⟨iH h _ (hs x hx).1,iH h _ (hs x hx).2⟩
 |loop r=>exact fun hs x hx=>iH h _ (hs x hx)
 |mapIter m s seen c=>exact fun hs n hn=>h n (hs n hn)
 | _=>exact fun _=>trivial
theorem cV.agree{P:Program}{A:Nat->Prop}{E E':cA}(h:kR A E E'){n:Nat}(hn:A n){o oc:Obj}(hs:yJ A o) :
  cV P E n o oc->cV P E' n o oc:=by
 obtain⟨h1,h2,h3⟩:=h n hn;cases o with
 |cells c e fz =>
  simp only[cV];split
  ·rintro⟨cc,fzc,s,e1,e2,e3,e4,e5,e6,e7⟩;refine⟨cc,fzc,s,e1,e2,?_,by rw[h2,h3];exact e4,by rw[h3];exact e5,by rw[h2,h3];exact e6,by rw[h2];exact e7⟩;intro i v hv;rw[h2,e3 i v hv,fH h v (hs v (yyh hv))]
  ·rintro⟨e1,e2⟩;refine⟨by rw[h2];exact e1,?_⟩;rw[e2,yn fun x hx=>(fH h x (hs x hx))]
 |map es cl =>
  simp only[cV];split
  ·rintro⟨esl,c',k1,k2,e1⟩;refine⟨esl,c',k1,k2,?_⟩;rw[e1]
   congr 1
   have hs':=k1.all (p:=fun k v=>Sc A k/\Sc A v) hs;exact yn fun x hx=>by simp[bP,fH h _ (hs' x hx).1,fH h _ (hs' x hx).2]
  ·intro e1;rw[e1]
   congr 1
   exact yn fun x hx=>by simp[bP,fH h _ (hs x hx).1,fH h _ (hs x hx).2]
 |stringIter s p =>
  simp only[cV];rw[h2];exact id
 |mapIter m s seen c =>
  simp only[cV];rintro⟨e0,e1⟩;refine⟨by rw[h2];exact e0,?_⟩;rw[e1];cases m with
  |none=>rfl
  |some k=>simp only[yr];rw[(h k (hs k rfl)).1]
 |loop r =>
  simp only[cV];rintro⟨f,d,e1⟩;refine⟨f,d,?_⟩;rw[e1,yn fun x hx=>(fH h x (hs x hx))]
 | _=>exact id
structure aW(P:Program)(E:cA)(A:Nat->Prop)(h:List (Nat×Obj))(w:World):Prop where
 blk:∀n o,aQ h n=some o->A n/\yJ A o/\∃oc,w.heap[E.β n]?=some oc/\cV P E n o oc
 inj:∀n m o o',aQ h n=some o->aQ h m=some o'->E.β n=E.β m->n=m
theorem aW.sub{P:Program}{E:cA}{A:Nat->Prop}{h h':List (Nat×Obj)}{w:World}(H:aW P E A h w)(hs:∀n o,aQ h' n=some o->aQ h n=some o):aW P E A h' w :=
 ⟨fun n o hn=>H.blk n o (hs n o hn),fun n m o o' hn hm=>H.inj n m o o' (hs n o hn) (hs m o' hm)⟩
theorem aW.mono{P:Program}{E:cA}{A B:Nat->Prop}{h:List (Nat×Obj)}{w:World}(H:aW P E A h w)(hAB:∀n,A n->B n):aW P E B h w :=
 ⟨fun n o hn=>let ⟨a,b,c⟩:=H.blk n o hn;⟨hAB n a,mM hAB o b,c⟩,H.inj⟩
theorem aW.world{P:Program}{E:cA}{A:Nat->Prop}{h:List (Nat×Obj)}{w w':World}(H:aW P E A h w)(hw:w'.heap=w.heap):aW P E A h w' :=
 ⟨fun n o hn=>by rw[hw];exact H.blk n o hn,H.inj⟩
structure bB(P:Program)(E:cA)(A:Nat->Prop)(h:List (Nat×Obj))(nx:Nat)(w:World)(E':cA)(h':List (Nat×Obj))(nx':Nat)(w':World):Prop where
 le:nx<=nx'
 even:nx' % 2=nx % 2
 agree:∀n,¬(nx<=n/\n<nx')->E'.β n=E.β n/\E'.σ n=E.σ n/\E'.κ n=E.κ n
 holds:aW P E' (fun n=>A n\/(nx<=n/\n<nx')) h' w'
 os:w'.os=w.os
 tape:w'.tape=w.tape
 output:w'.output=w.output
 size:w.heap.size<=w'.heap.size
 same:∀b,b<w.heap.size->(∀n o,aQ h n=some o->E.β n≠b)->w'.heap[b]?=w.heap[b]?
 img:∀n o,aQ h' n=some o->(∃m o',aQ h m=some o'/\E'.β n=E.β m)\/w.heap.size<=E'.β n
section
variable{P:Program}{E E' E₁ E₂:cA}{A:Nat->Prop}{h h' h₁ h₂:List (Nat×Obj)}{nx nx' nx₁ nx₂:Nat}{w w' w₁ w₂:World}
theorem bB.refl(H:aW P E A h w):bB P E A h nx w E h nx w :=
 ⟨yh _,rfl,fun _ _=>⟨rfl,rfl,rfl⟩,H.mono fun _ hn=>.inl hn,rfl,rfl,rfl,yh _,fun _ _ _=>rfl,fun n o hn=>.inl ⟨n,o,hn,rfl⟩⟩
theorem bB.trans(p:bB P E A h nx w E₁ h₁ nx₁ w₁)(q:bB P E₁ (fun n=>A n\/(nx<=n/\n<nx₁)) h₁ nx₁ w₁ E₂ h₂ nx₂ w₂):bB P E A h nx w E₂ h₂ nx₂ w₂ where
 le:=yya p.le q.le
 even:=q.even.trans p.even
 agree n hn:=by
  have h1:=p.le;have h2:=q.le;obtain⟨a1,a2,a3⟩:=p.agree n (by omega);obtain⟨b1,b2,b3⟩:=q.agree n (by omega);exact⟨b1.trans a1,b2.trans a2,b3.trans a3⟩
 holds:=q.holds.mono fun n hn=>by have h1:=p.le;have h2:=q.le;rcases hn with(hn|hn)|hn;exact .inl hn;exact .inr (by omega);exact .inr (by omega)
 os:=q.os.trans p.os
 tape:=q.tape.trans p.tape
 output:=q.output.trans p.output
 size:=yya p.size q.size
 same b hb hnot:=by
  have hp:=p.same b hb hnot;rw[<-hp];refine q.same b (Nat.lt_of_lt_of_le hb p.size) fun n o hn he => ?_;rcases p.img n o hn with⟨m,o',hm,e⟩|e
  ·exact hnot m o' hm (by rw[<-e];exact he)
  ·omega
 img n o hn:=by
  rcases q.img n o hn with⟨m,o',hm,e⟩|e
  ·rcases p.img m o' hm with⟨k,o'',hk,e'⟩|e'
   ·exact .inl ⟨k,o'',hk,e.trans e'⟩
   ·exact .inr (by rw[e];exact e')
  ·exact .inr (yya p.size e)
theorem bB.drop(p:bB P E A h nx w E' h' nx' w')(hs:∀n o,aQ h₁ n=some o->aQ h' n=some o):bB P E A h nx w E' h₁ nx' w' :=
 ⟨p.le,p.even,p.agree,p.holds.sub hs,p.os,p.tape,p.output,p.size,p.same,fun n o hn=>p.img n o (hs n o hn)⟩
theorem bB.world(p:bB P E A h nx w E' h' nx' w')(h1:w₁.heap=w'.heap)(h2:w₁.os=w'.os)(h3:w₁.tape=w'.tape)(h4:w₁.output=w'.output):bB P E A h nx w E' h' nx' w₁ :=
 ⟨p.le,p.even,p.agree,p.holds.world h1,h2.trans p.os,h3.trans p.tape,h4.trans p.output,by rw[h1];exact p.size,fun b hb hn=>by rw[h1];exact p.same b hb hn,p.img⟩
theorem bB.agreeA(p:bB P E A h nx w E' h' nx' w')(hA:∀n,A n->¬(nx<=n/\n<nx')):kR A E E':=fun n hn=>p.agree n (hA n hn)
theorem bB.put{m b:Nat}{o' oc':Obj}(H:aW P E A h w)(hle:nx<=nx')(hev:nx' % 2=nx % 2)
  (hE:∀k,¬(nx<=k/\k<nx')->E'.β k=E.β k/\E'.σ k=E.σ k/\E'.κ k=E.κ k) (hEm:∀k,k≠m->E'.β k=E.β k)
  (hA:∀n,A n->¬(nx<=n/\n<nx')) (hAm:A m\/(nx<=m/\m<nx')) (hβ:E'.β m=b)
  (hh:∀k x,aQ h' k=some x->(k=m/\x=o')\/(k≠m/\aQ h k=some x/\E.β k≠b))
  (hsc:yJ (fun n=>A n\/(nx<=n/\n<nx')) o') (hrel:cV P E' m o' oc') (hb:w'.heap[b]?=some oc') (hother:∀k,k≠b->k<w.heap.size->w'.heap[k]?=w.heap[k]?)
  (hsize:w.heap.size<=w'.heap.size) (h2:w'.os=w.os) (h3:w'.tape=w.tape) (h4:w'.output=w.output)
  (himg:(∃k x,aQ h k=some x/\E.β k=b)\/w.heap.size<=b):bB P E A h nx w E' h' nx' w' where
 le:=hle
 even:=hev
 agree:=hE
 holds:=by
  have hag:kR A E E':=fun n hn=>hE n (hA n hn);refine⟨fun n o hn => ?_,fun n k o x hn hk he => ?_⟩
  ·rcases hh n o hn with⟨rfl,rfl⟩ |⟨hne,hg,hnb⟩
   ·exact⟨hAm,hsc,oc',by rw[hβ];exact hb,hrel⟩
   ·obtain⟨a,s,oc,hc,hr⟩:=H.blk n o hg;refine⟨.inl a,mM (fun _ h=>.inl h) o s,oc,?_,cV.agree hag a s hr⟩;have hlt:E.β n<w.heap.size:=by
     rcases Nat.lt_or_ge (E.β n) w.heap.size with h'|h'
     ·exact h'
     ·rw[yye h']at hc;cases hc
    rw[hEm n hne,hother _ hnb hlt];exact hc
  ·rcases hh n o hn with⟨rfl,rfl⟩ |⟨hne,hg,hnb⟩<;>rcases hh k x hk with⟨rfl,rfl⟩ |⟨hne',hg',hnb'⟩
   ·rfl
   ·rw[hβ,hEm k hne']at he;exact absurd he.symm hnb'
   ·rw[hβ,hEm n hne]at he;exact absurd he hnb
   ·rw[hEm n hne,hEm k hne']at he;exact H.inj n k o x hg hg' he
 os:=h2
 tape:=h3
 output:=h4
 size:=hsize
 same c hc hnot:=by
  by_cases hcb:c=b
  ·subst hcb;rcases himg with⟨k,x,hk,e⟩|e
   ·exact absurd e (hnot k x hk)
   ·omega
  ·exact hother c hcb hc
 img n o hn:=by
  rcases hh n o hn with⟨rfl,rfl⟩ |⟨hne,hg,hnb⟩
  ·rw[hβ];exact himg.imp (fun⟨k,x,hk,e⟩=>⟨k,x,hk,e.symm⟩) id
  ·exact .inl ⟨n,o,hg,hEm n hne⟩
theorem tF(h:List (Nat×Obj))(n k:Nat)(o x:Obj):aQ (u9 h n o) k=some x->(k=n/\x=o)\/(k≠n/\aQ h k=some x):=by
 induction h with
 |nil=>simp[u9,aQ]
 |cons a r ih =>
  obtain⟨m,y⟩:=a;simp only[u9];by_cases hmn:m=n
  ·subst hmn;rw[if_pos (by simp)];simp only[aQ];by_cases hk:m=k
   ·subst hk;rw[if_pos (by simp)];intro e;exact .inl ⟨rfl,(yg e).symm⟩
   ·rw[if_neg (by simpa using hk),if_neg (by simpa using hk)];intro e;exact .inr ⟨fun e=>hk e.symm,e⟩
  ·rw[if_neg (by simpa using hmn)];simp only[aQ];by_cases hk:m=k
   ·subst hk;rw[if_pos (by simp),if_pos (by simp)];intro e;exact .inr ⟨hmn,e⟩
   ·rw[if_neg (by simpa using hk),if_neg (by simpa using hk)];exact ih
theorem xV(h:List (Nat×Obj))(n k:Nat)(x:Obj):aQ (J8 h n) k=some x->k≠n/\aQ h k=some x:=by
 induction h with
 |nil=>simp[J8,aQ]
 |cons a r ih =>
  obtain⟨m,y⟩:=a;simp only[J8];by_cases hmn:m=n
  ·subst hmn;rw[if_pos (by simp)];intro e;obtain⟨h1,h2⟩:=ih e;exact⟨h1,by simp only[aQ];rw[if_neg (by simpa using fun e=>h1 e.symm)];exact h2⟩
  ·rw[if_neg (by simpa using hmn)];simp only[aQ];by_cases hk:m=k
   ·subst hk;rw[if_pos (by simp),if_pos (by simp)];intro e;exact⟨hmn,e⟩
   ·rw[if_neg (by simpa using hk),if_neg (by simpa using hk)];exact ih
theorem MW(b:Nat)(h:List (Nat×Obj))(k:Nat)(x:Obj):aQ (tU b h) k=some x->aQ h k=some x/\k<b:=by
 induction h with
 |nil=>simp[tU,aQ]
 |cons a r ih =>
  obtain⟨m,y⟩:=a;simp only[tU];by_cases hmn:b<=m
  ·rw[if_pos (by simpa using hmn)];intro e;obtain⟨h1,h2⟩:=ih e;exact⟨by simp only[aQ];rw[if_neg (by simp;omega)];exact h1,h2⟩
  ·rw[if_neg (by simpa using hmn)];simp only[aQ];by_cases hk:m=k
   ·subst hk;rw[if_pos (by simp),if_pos (by simp)];intro e;exact⟨e,by omega⟩
   ·rw[if_neg (by simpa using hk),if_neg (by simpa using hk)];exact ih
end
theorem F3{P:Program}{t:TypeId}{b:Bool}(h:YK P t=some b)(w:World):(isAgg t).run P w=.ok b w:=by
 unfold YK at h;cases hu:P.underlying t with
 |none=>simp[hu]at h
 |some d =>
  have:=run_underlying hu w;simp only[isAgg,Sem.run_bind,this,Result.andThen_ok];cases d<;>simp[hu]at h<;>subst h<;>rfl
theorem fJ{P:Program}{t:TypeId}{s:Nat}(h:gG P t=some s)(w:World):(Go.sizeOf t).run P w=.ok s w:=by
 unfold gG at h;cases hi:P.info? t with
 |none=>simp[hi]at h
 |some i =>
  simp[hi]at h;subst h;simp[Go.sizeOf,typeInfo,hi]
theorem CD{P:Program}{t:TypeId}{z:Value}(h:tD P t=some z)(w:World):(zeroValue t).run P w=.ok z w:=by
 unfold tD at h;cases hi:P.info? t with
 |none=>simp[hi]at h
 |some i =>
  simp[hi]at h;simp[zeroValue,typeInfo,hi,h]
theorem mX{P:Program}{t e:TypeId}(h:FX P t=some e):P.underlying t=some (.slice e):=by
 unfold FX at h;split at h
 ·rename_i e' hu;simp at h;subst h;exact hu
 ·simp at h
theorem jE(b o k:Nat):(⟨b,o,none⟩:Addr).add k=⟨b,o+k,none⟩:=by
 unfold Addr.add;split<;>simp_all
section
variable{P:Program}{E:cA}{A:Nat->Prop}{h h':List (Nat×Obj)}{w:World}
theorem MX{n:Nat}{c:List Value}(hc:cellsOf h n=some c):∃cs e fz,aQ h n=some (.cells cs e fz)/\cs.toList=c:=by
 unfold cellsOf at hc;split at hc
 ·rename_i cs e fz hg;simp at hc;exact⟨cs,e,fz,hg,hc⟩
 ·simp at hc
theorem aW.cells(H:aW P E A h w){n:Nat}{c:Array Value}{e:TypeId}{fz:Nat×Nat}(hg:aQ h n=some (.cells c e fz)) :
  ∃cc fzc,w.heap[E.β n]?=some (.cells cc e fzc)/\(∀i v,c[i]?=some v->cc[E.σ n+i]?=some (aN E v))/\(∀x∈c,Sc A x)/\A n /\
   (∀off k,AH n off fz=true->off<=k->E.σ n+k<cc.size->¬(fzc.1<=E.σ n+k/\E.σ n+k<fzc.2))/\E.σ n+c.size<=cc.size:=by
 obtain⟨ha,hs,oc,hoc,hr⟩:=H.blk n _ hg;simp only[cV]at hr;split at hr
 ·rename_i hrow;obtain⟨cc,fzc,s,rfl,h2,h3,h4,h5,h6,h7⟩:=hr;refine⟨cc,fzc,hoc,h3,hs,ha,fun off k hm hk hlt=>h6 k ?_ (by omega),by omega⟩;simp only[AH,hrow,if_true]at hm;exact yya (ye hm) hk
 ·rename_i hrow;obtain⟨h1,rfl⟩:=hr;refine⟨c.map (aN E),fz,hoc,fun i v hv=>by rw[h1,yym,Array.getElem?_map,hv];rfl,hs,ha,fun off k hm hk hlt => ?_,by rw[h1];simp⟩;simp only[AH,hrow]at hm;simp at hm;rcases hm with hm|hm<;>omega
theorem aW.cellAt(H:aW P E A h w){n i:Nat}{c:List Value}{v:Value}(hc:cellsOf h n=some c)(hi:c[i]?=some v) :
  w.cell? ⟨E.β n,E.σ n+i,none⟩=some (aN E v)/\Sc A v:=by
 obtain⟨cs,e,fz,hg,rfl⟩:=MX hc;obtain⟨cc,fzc,h1,h2,h3,_⟩:=H.cells hg;have hi':cs[i]?=some v:=by simpa using hi
 exact⟨by simp[World.cell?,h1,h2 i v hi'],h3 v (yyh hi')⟩
theorem oX(H:aW P E A h w){n off k:Nat}{c:List Value}(hc:cellsOf h n=some c)(hle:off+k<=c.length) :
  (loadCells ⟨E.β n,E.σ n+off,none⟩ k).run P w=.ok (((c.drop off).take k).map (aN E)).toArray w/\∀x∈(c.drop off).take k,Sc A x:=by
 have hlen:(((c.drop off).take k).map (aN E)).length=k:=by simp;omega
 have hcell:∀j v,((c.drop off).take k)[j]?=some v->w.cell? ⟨E.β n,E.σ n+off+j,none⟩=some (aN E v)/\Sc A v:=by
  intro j v hv;rw[List.getElem?_take]at hv;split at hv
  ·rw[List.getElem?_drop]at hv;have:=H.cellAt hc hv;rw[yx];exact this
  ·cases hv
 constructor
 ·have:=run_loadCells_list (P:=P) w ⟨E.β n,E.σ n+off,none⟩ (((c.drop off).take k).map (aN E)) (fun j v hv=>by
   rw[yyl]at hv;cases hx:((c.drop off).take k)[j]? with
   |none=>simp[hx]at hv
   |some x=>simp[hx]at hv;subst hv;rw[jE];exact(hcell j x hx).1)
  rw[hlen]at this;exact this
 ·intro x hx;obtain⟨j,hj⟩:=List.getElem?_of_mem hx;exact(hcell j x hj).2
theorem DD(H:aW P E A h w){t:TypeId}{v r:Value}(hl:PU P h t v=some r) :
  (Instr.loadAt t (aN E v)).run P w=.ok (aN E r) w/\Sc A r:=by
 unfold PU at hl;split at hl
 ·rename_i n off;rw[cT];split at hl
  ·rename_i c s hc hagg hsz;simp only[yb,ya]at hl;obtain⟨hle,rfl⟩:=hl;have hle:=ye hle;obtain⟨h1,h2⟩:=oX H hc hle;constructor
   ·simp only[Instr.loadAt,Instr.sureAddr,Sem.run_bind,Sem.run_pure,Result.andThen_ok,loadVar,F3 hagg,if_true,fJ hsz,cA.addr,h1];rw[nA];simp
   ·rw[qR];intro x hx;exact h2 x (by simpa using hx)
  ·rename_i _ c hc hagg;obtain⟨h1,h2⟩:=H.cellAt hc hl;refine⟨?_,h2⟩;simp only[Instr.loadAt,Instr.sureAddr,Sem.run_bind,Sem.run_pure,Result.andThen_ok,loadVar,F3 hagg,ym,if_false,run_load,cA.addr,h1]
  ·simp at hl
 ·simp at hl
theorem AS:∀(c:List Value)(off:Nat)(vs:List Value),off+vs.length<=c.length->∀i,(pX c off vs)[i]?=if i<off then c[i]? else if i<off+vs.length then vs[i-off]? else c[i]?
 |c,0,vs,hl,i=>by
  have:pX c 0 vs=vs++c.drop vs.length:=by cases c<;>rfl
  rw[this];simp only[Nat.not_lt_zero,if_false,yym,Nat.sub_zero];by_cases hi:i<vs.length
  ·rw[if_pos hi,yyf hi]
  ·rw[if_neg hi,yyc (by omega),List.getElem?_drop]
   congr 1;omega
 | [],n+1,vs,hl,i=>by simp at hl
 |x::c,n+1,vs,hl,i=>by
  cases i with
  |zero=>simp[pX]
  |succ i =>
   simp only[pX,List.getElem?_cons_succ];rw[AS c n vs (by simp at hl;omega) i];simp only[Nat.add_lt_add_iff_right];by_cases h1:i<n
   ·rw[if_pos h1,if_pos h1]
   ·rw[if_neg h1,if_neg h1];by_cases h2:i<n+vs.length
    ·rw[if_pos h2,if_pos (by omega)];congr 1;omega
    ·rw[if_neg h2,if_neg (by omega)]
theorem DE(c:List Value)(off:Nat)(vs:List Value)(hl:off+vs.length<=c.length):(pX c off vs).length=c.length:=by
 have h1:=AS c off vs hl;rcases Nat.lt_trichotomy (pX c off vs).length c.length with h|h|h
 ·have:=h1 (pX c off vs).length;rw[List.getElem?_eq_none (yh _)]at this;split at this
  ·rw[eq_comm,yyg]at this;omega
  ·split at this
   ·rw[eq_comm,yyg]at this;omega
   ·rw[eq_comm,yyg]at this;omega
 ·exact h
 ·have:=h1 c.length;rw[if_neg (by omega),if_neg (by omega),List.getElem?_eq_none (yh _),yyg]at this;omega
theorem mN(g o:Nat)(t:TypeId)(fz:Nat×Nat):∀(vs:List Value)(i:Nat)(cur:Array Value)(w:World),w.heap[g]?=some (.cells cur t fz) ->
  (∀j,o+i<=j->j<o+i+vs.length->¬(fz.1<=j/\j<fz.2))->o+i+vs.length<=cur.size->(∀v∈vs,v.oneCell'=true) ->
  (storeCells ⟨g,o,none⟩ vs i).run P w=.ok () (w.setRow g (cur.toList.take (o+i)++vs++cur.toList.drop (o+i+vs.length)).toArray)
 | [],i,cur,w,hg,_,_,_=>by
  simp only[storeCells,List.append_nil,List.length_nil,Nat.add_zero,List.take_append_drop,Array.toArray_toList];rw[setRow_self w g cur t fz hg];rfl
 |v::rest,i,cur,w,hg,hfz,hl,h1=>by
  have hi:o+i<cur.size:=by simp at hl;omega
  have hcell:w.cell? ⟨g,o+i,none⟩=some cur[o+i]:=by simp[World.cell?,hg,hi]
  have hfro:w.frozen? ⟨g,o+i,none⟩=false:=by
   have:=hfz (o+i) (yh _) (by simp);obtain⟨lo,hi'⟩:=fz;simp only[World.frozen?,hg,Bool.and_eq_false_iff,decide_eq_false_iff_not];simp only at this;omega
  have hst:(store ((⟨g,o,none⟩:Addr).add i) v).run P w=.ok () (w.setRow g (cur.setIfInBounds (o+i) v)):=by
   rw[jE,run_store P w _ v _ (h1 v (by simp)),hcell];simp[hfro,setCell_eq_setRow w g (o+i) cur t fz v hg]
  have ih:=mN g o t fz rest (i+1) (cur.setIfInBounds (o+i) v) (w.setRow g (cur.setIfInBounds (o+i) v)) (setRow_heap w g cur _ t _ hg) (fun j hj1 hj2=>hfz j (by omega) (by simp;omega)) (by simp at hl⊢;omega) (fun x hx=>h1 x (by simp[hx]));simp only[storeCells,Sem.run_bind,hst,Result.andThen_ok,ih,setRow_setRow]
  congr 3
  have e:=list_seg_step cur.toList (o+i) v rest (by simp at hl⊢;omega);simpa [Array.toList_setIfInBounds,yx]using e
theorem DF(v:Value):one v=v.oneCell':=by cases v<;>rfl
theorem F4{l:List Value}(h:zA l=true):∀v∈l,one v=true:=by
 induction l with
 |nil=>simp
 |cons a r ih=>simp[zA]at h;intro v hv;rcases yk.1 hv with rfl|hv;exact h.1;exact ih h.2 v hv
theorem WZ(l vs:List Value)(k i:Nat)(hk:k+vs.length<=l.length):(l.take k++vs++l.drop (k+vs.length))[i]?=if i<k then l[i]? else if i<k+vs.length then vs[i-k]? else l[i]?:=by
 have hlt:(l.take k).length=k:=by simp;omega
 by_cases h1:i<k
 ·rw[if_pos h1,List.append_assoc,yyf (by omega),List.getElem?_take,if_pos h1]
 ·rw[if_neg h1];by_cases h2:i<k+vs.length
  ·rw[if_pos h2,yyf (by simp;omega),yyc (by omega),hlt]
  ·rw[if_neg h2,yyc (by simp;omega),List.getElem?_drop]
   congr 1;simp;omega
theorem jR(H:aW P E A h w){n off:Nat}{vs:List Value}(hs:mT h n off vs=some h')(hsc:∀v∈vs,Sc A v)(nx:Nat) :
  ∃w',(storeCells ⟨E.β n,E.σ n+off,none⟩ (vs.map (aN E))).run P w=.ok () w'/\bB P E A h nx w E h' nx w':=by
 unfold mT at hs;split at hs
 ·simp at hs;subst hs;exact⟨w,rfl,bB.refl H⟩
 ·split at hs
  ·rename_i _ c e fz hg;simp only[yb,ya,yd]at hs;obtain⟨⟨⟨hle,hone⟩,hmay⟩,rfl⟩:=hs;have hle:=ye hle;obtain⟨cc,fzc,h1,h2,h3,h4,h5,h6⟩:=H.cells hg
   have hrun := mN (P := P) (E.β n) (E.σ n + off) e fzc (vs.map (aN E)) 0 cc w h1 (fun j hj1 hj2 => by
     have:=h5 off (j-E.σ n) hmay (by omega) (by simp at hj2;omega);rw[show E.σ n+(j-E.σ n)=j by omega]at this;exact this) (by simp;omega) (fun v hv=>by
     obtain⟨x,hx,rfl⟩:=yw.1 hv;rw[<-DF,WY];exact F4 hone x hx)
   refine⟨_,hrun,?_⟩;have hov:=AS c.toList off vs (by simpa using hle);have hget:∀i,(cc.toList.take (E.σ n+off+0)++vs.map (aN E)++cc.toList.drop (E.σ n+off+0+(vs.map (aN E)).length))[i]?=if i<E.σ n+off then cc.toList[i]? else if i<E.σ n+off+vs.length then(vs.map (aN E))[i-(E.σ n+off)]? else cc.toList[i]?:=by
    intro i;have:=WZ cc.toList (vs.map (aN E)) (E.σ n+off) i (by simp;omega);simpa using this
   have hlen:(cc.toList.take (E.σ n+off+0)++vs.map (aN E)++cc.toList.drop (E.σ n+off+0+(vs.map (aN E)).length)).length=cc.size:=by simp;omega
   generalize cc.toList.take (E.σ n+off+0)++vs.map (aN E)++cc.toList.drop (E.σ n+off+0+(vs.map (aN E)).length)=nc at *;have hnew:∀i v,(pX c.toList off vs)[i]?=some v->nc[E.σ n+i]?=some (aN E v):=by
    intro i v hv;rw[hov]at hv;rw[hget];by_cases g1:i<off
    ·rw[if_pos g1]at hv;rw[if_pos (by omega)];have:=h2 i v (by simpa using hv);simpa using this
    ·rw[if_neg g1]at hv;rw[if_neg (by omega)];by_cases g2:i<off+vs.length
     ·rw[if_pos g2]at hv;rw[if_pos (by omega),yyl,show E.σ n+i-(E.σ n+off)=i-off by omega,hv];rfl
     ·rw[if_neg g2]at hv;rw[if_neg (by omega)];have:=h2 i v (by simpa using hv);simpa using this
   have hscn:∀x∈(pX c.toList off vs).toArray,Sc A x:=by
    intro x hx;obtain⟨i,hi⟩:=List.getElem?_of_mem (show x∈pX c.toList off vs by simpa using hx);rw[hov]at hi;split at hi
    ·exact h3 x (yyh (by simpa using hi))
    ·split at hi
     ·exact hsc x (yyd hi)
     ·exact h3 x (yyh (by simpa using hi))
   have hbr:cV P E n (.cells (pX c.toList off vs).toArray e fz) (.cells nc.toArray e fzc):=by
    obtain⟨_,_,oc,hoc,hr⟩:=H.blk n _ hg;rw[h1]at hoc;obtain rfl:=yg hoc;have hol:=DE c.toList off vs (by simpa using hle);simp only[cV]at hr⊢;split at hr
    ·rename_i hrow;rw[if_pos hrow];obtain⟨cc',fzc',s,e1,e2,e3,e4,e5,e6,e7⟩:=hr;simp at e1;obtain⟨rfl,rfl⟩:=e1;exact⟨nc.toArray,fzc,s,rfl,e2,fun i v hv=>by simpa using hnew i v (by simpa using hv),by simp[hlen];exact e4,by simp[hol];exact e5,e6,e7⟩
    ·rename_i hrow;rw[if_neg hrow];obtain⟨e1,e2⟩:=hr;simp at e2;obtain⟨e2,e3⟩:=e2;refine⟨e1,?_⟩;subst e3
     congr 1
     apply yl;simp only[yyj];apply List.ext_getElem?;intro i;rw[yyl];cases hx:(pX c.toList off vs)[i]? with
     |some v=>have:=hnew i v hx;rw[e1,yym]at this;rw[this];rfl
     |none =>
      rw[yyg]at hx;simp only[Option.map_none];rw[yyg,hlen,e2];simp;simpa [hol]using hx
   refine bB.put (m:=n) (b:=E.β n) (o':=.cells (pX c.toList off vs).toArray e fz) (oc':=.cells nc.toArray e fzc) H (yh _) rfl (fun _ _=>⟨rfl,rfl,rfl⟩) (fun _ _=>rfl) (fun k _ hk=>by omega) (.inl h4) rfl ?_ (fun x hx=>iH (fun _ h=>.inl h) x (hscn x hx)) hbr ?_ ?_ (by simp) rfl rfl rfl (.inl ⟨n,_,hg,rfl⟩)
   ·intro k x hk;rcases tF _ _ _ _ _ hk with⟨rfl,rfl⟩ |⟨hne,hgk⟩
    ·exact .inl ⟨rfl,rfl⟩
    ·exact .inr ⟨hne,hgk,fun he=>hne (H.inj k n _ _ hgk hg he)⟩
   ·exact setRow_heap w _ cc _ e fzc h1
   ·intro k hk _;exact setRow_other w _ k _ hk
  ·simp at hs
theorem MY(H:aW P E A h w){t:TypeId}{a v:Value}(hs:TE P h t a v=some h')(hsc:Sc A v)(nx:Nat) :
  ∃w',(Instr.storeAt t (aN E a) (aN E v)).run P w=.ok () w'/\bB P E A h nx w E h' nx w':=by
 unfold TE at hs;split at hs
 ·rename_i n off;split at hs
  ·rename_i s hsz;simp only[yb]at hs;obtain⟨hsize,hs⟩:=hs;obtain⟨w',h1,h2⟩:=jR H hs (fun x hx=>F2 hsc x (by simpa using hx)) nx;refine⟨w',?_,h2⟩;have hsize:v.cells.size=s:=by simpa using hsize
   have hc:(aN E v).cells.size=s:=by rw[xU];simpa using hsize
   have hcl:(aN E v).cells.toList=v.cells.toList.map (aN E):=by rw[xU];simp
   rw[cT];simp only[Instr.storeAt,Instr.sureAddr,Sem.run_bind,Sem.run_pure,Result.andThen_ok,storeVar,fJ hsz,hc,ne_eq,not_true_eq_false,if_false,cA.addr,hcl,h1]
  ·simp at hs
 ·simp at hs
end
def cA.bind(E:cA)(n b s k:Nat):cA:=⟨fun m=>if m=n then b else E.β m,fun m=>if m=n then s else E.σ m,fun m=>if m=n then k else E.κ m⟩
theorem cA.bind_other(E:cA)(n b s k m:Nat)(h:m≠n):(E.bind n b s k).β m=E.β m/\(E.bind n b s k).σ m=E.σ m/\(E.bind n b s k).κ m=E.κ m:=by
 simp[cA.bind,h]
theorem bE{α β:Type}(P:Program)(x:Sem α)(f:α->Sem β):bH P (x >>= f)=(bH P x).bind fun a=>bH P (f a):=by
 show bH P (x.bind f)=_
 induction x with
 |pure a=>rfl
 |program k ih=>exact ih P
 |mark m k ih=>exact ih
 | _=>rfl
theorem eC{α:Type}(P:Program)(a:α):bH P (Pure.pure a:Sem α)=some a:=rfl
theorem tY{α:Type}(P:Program)(c:Prop)[Decidable c](x y:Sem α):bH P (if c then x else y)=if c then bH P x else bH P y:=by split<;>rfl
theorem dJ{α:Type}(P:Program)(s:String):bH P (stuck s:Sem α)=none:=rfl
theorem zJ{α:Type}(P:Program)(s:Unsupported):bH P (unsupported s:Sem α)=none:=rfl
theorem dK(P:Program)(t:TypeId):bH P (underlying t)=P.underlying t:=by
 show bH P (program >>= _)=_;rw[bE];show Option.bind (some P) _=_;simp only[yj];cases P.underlying t<;>rfl
theorem uU(P:Program)(t:TypeId):bH P (typeInfo t)=P.info? t:=by
 show bH P (program >>= _)=_;rw[bE];show Option.bind (some P) _=_;simp only[yj];cases P.info? t<;>rfl
theorem sM(P:Program)(t:TypeId):bH P (Go.sizeOf t)=gG P t:=by
 unfold Go.sizeOf gG;rw[bE,uU];cases P.info? t<;>rfl
theorem MZ(P:Program)(t:TypeId):bH P (isAgg t)=YK P t:=by
 unfold isAgg YK;rw[bE,dK];cases P.underlying t with
 |none=>rfl
 |some d=>cases d<;>rfl
theorem CE(P:Program)(t:TypeId):bH P (zeroValue t)=tD P t:=by
 unfold zeroValue tD;rw[bE,uU];cases P.info? t with
 |none=>rfl
 |some i=>simp only[yj];cases i.zero<;>rfl
section
variable{P:Program}{E:cA}{A:Nat->Prop}{h h':List (Nat×Obj)}{nx:Nat}{w w':World}
theorem bB.new{m s k:Nat}{o oc:Obj}(H:aW P E A h w)(hA:∀n,A n->¬(nx<=n/\n<nx+2))(hm:nx<=m/\m<nx+2)(hsc:yJ A o)
  (hrel:cV P (E.bind m w.heap.size s k) m o oc) (hw:w'.heap=w.heap.push oc) (h2:w'.os=w.os) (h3:w'.tape=w.tape) (h4:w'.output=w.output) :
  bB P E A h nx w (E.bind m w.heap.size s k) ((m,o)::h) (nx+2) w':=by
 refine bB.put (m:=m) (b:=w.heap.size) (o':=o) (oc':=oc) H (by omega) (by omega) (fun k hk=>cA.bind_other E m _ _ _ k (by omega)) (fun k hk=>(cA.bind_other E m _ _ _ k hk).1)
  hA (.inr hm) (by simp[cA.bind]) ?_ (mM (fun _ h=>.inl h) o hsc) hrel (by rw[hw];simp) ?_ (by rw[hw];simp) h2 h3 h4 (.inr (yh _))
 ·intro k x hk;simp only[aQ]at hk;by_cases e:m=k
  ·subst e;rw[if_pos (by simp)]at hk;exact .inl ⟨rfl,(yg hk).symm⟩
  ·rw[if_neg (by simpa using e)]at hk;refine .inr ⟨fun e'=>e e'.symm,hk,?_⟩;obtain⟨_,_,oc',hoc,_⟩:=H.blk k x hk;intro e';rw[e',yye (yh _)]at hoc;cases hoc
 ·intro k hk hlt;rw[hw,Array.getElem?_push,if_neg hk]
theorem YN{m b k:Nat}{c:Array Value}{e:TypeId}{fz:Nat×Nat}(hm:jZ m=false)(hA:¬A m)(hsc:∀x∈c,Sc A x) :
  cV P (E.bind m b 0 k) m (.cells c e fz) (.cells (c.map (aN E)) e fz):=by
 simp only[cV,hm];refine⟨by simp[cA.bind],?_⟩
 congr 1
 exact yn fun x hx=>(fH (A:=A) (fun n hn=>cA.bind_other E m _ _ _ n (fun e=>hA (e▸hn))) x (hsc x hx)).symm
theorem tZ{n:Nat}(h:n % 2=0):jZ n=false:=by unfold jZ;rw[h];rfl
theorem mY{n:Nat}(h:n % 2=0):jZ (n+1)=true:=by unfold jZ;rw[show(n+1) % 2=1 by omega];rfl
theorem nB(H:aW P E A h w)(hev:nx % 2=0)(hA:∀n,A n->¬(nx<=n/\n<nx+2))(c:Array Value)(t:TypeId)(hsc:∀x∈c,Sc A x) :
  ∃E' w',(newRow t (c.map (aN E))).run P w=.ok (E'.addr ⟨nx,0,none⟩) w'/\bB P E A h nx w E' ((nx,.cells c t)::h) (nx+2) w':=by
 refine⟨E.bind nx w.heap.size 0 0,{ w with heap:=w.heap.push (.cells (c.map (aN E)) t) },?_,?_⟩
 ·simp[newRow,cA.addr,cA.bind]
 ·exact bB.new H hA ⟨yh _,by omega⟩ hsc (YN (tZ hev) (fun hn=>hA nx hn ⟨yh _,by omega⟩) hsc) rfl rfl rfl rfl
theorem M0(E:cA){l:List Value}(h:eB l=true):l.map (aN E)=l:=by
 have:=yp (l:=l) (f:=aN E) (g:=id) (fun x hx=>tX E (fC h x hx));simpa using this
theorem sN(E:cA){c:Array Value}(h:eB c.toList=true):c.map (aN E)=c:=by
 apply yl;rw[yyj];exact M0 E h
theorem QE(H:aW P E A h w)(hev:nx % 2=0)(hA:∀n,A n->¬(nx<=n/\n<nx+2)){t:TypeId}{cs:List Value}(hc:vL P t=some cs)(hp:eB cs=true) :
  ∃E' w',(Instr.alloc t true (.tuple #[])).run P w=.ok (aN E' (.pointer (some ⟨nx,0,none⟩))) w'/\bB P E A h nx w E' ((nx,.cells cs.toArray t)::h) (nx+2) w':=by
 unfold vL at hc;split at hc
 ·rename_i z hz;simp at hc;subst hc;obtain⟨E',w',h1,h2⟩:=nB (P:=P) H hev hA z.cells t (fun x hx=>qF A (fC hp x (by simpa using hx)));rw[sN E hp]at h1;refine⟨E',w',?_,by simpa using h2⟩;simp only[Instr.alloc,Sem.run_bind,CD hz,Result.andThen_ok,newVar,h1,cT,Sem.run_pure]
 ·simp at hc
theorem YP(H:aW P E A h w)(hev:nx % 2=0)(hA:∀n,A n->¬(nx<=n/\n<nx+2)){t:TypeId}{v:Value}(hsc:Sc A v) :
  ∃E' w',(Instr.box t (aN E v)).run P w=.ok (aN E' (.pointer (some ⟨nx,0,none⟩))) w'/\bB P E A h nx w E' ((nx,.cells v.cells t)::h) (nx+2) w':=by
 obtain⟨E',w',h1,h2⟩:=nB (P:=P) H hev hA v.cells t (F2 hsc);refine⟨E',w',?_,h2⟩;rw[<-xU]at h1;simp only[Instr.box,newVar,Sem.run_bind,h1,Result.andThen_ok,cT,Sem.run_pure]
theorem yK(E:cA)(off:Nat):∀(l:List (Value×Nat))(cs:Array Value),
  (l.map fun x=>(aN E x.1,x.2)).foldl (fun cs (x:Value×Nat)=>cs.setIfInBounds (off+x.2) x.1) (cs.map (aN E))=(l.foldl (fun cs (x:Value×Nat)=>cs.setIfInBounds (off+x.2) x.1) cs).map (aN E)
 | [],cs=>rfl
 |(v,j)::l,cs=>by
  simp only[yyn,List.foldl_cons];rw[<-yK E off l (cs.setIfInBounds (off+j) v)]
  congr 1
  simp[Array.map_setIfInBounds]
theorem TN(E:cA)(c:Array Value):(c.map (aN E)).zipIdx.toList=c.zipIdx.toList.map fun x=>(aN E x.1,x.2):=by
 simp[Array.toList_zipIdx,List.zipIdx_map]
theorem J9(E:cA)(off:Nat)(c cs:Array Value):(c.map (aN E)).zipIdx.foldl (fun cs (c,j)=>cs.setIfInBounds (off+j) c) (cs.map (aN E))=(c.zipIdx.foldl (fun cs (c,j)=>cs.setIfInBounds (off+j) c) cs).map (aN E):=by
 rw[<-Array.foldl_toList,<-Array.foldl_toList,TN];exact yK E off _ _
theorem F5(E:cA)(place:Nat->Option (Nat×Nat)):∀(ps:List (Nat×Value))(cs:Array Value),
  Instr.fill place (cs.map (aN E)) (ps.map fun x=>(x.1,aN E x.2))=(Instr.fill place cs ps).map (·.map (aN E))
 | [],cs=>rfl
 |(i,v)::ps,cs=>by
  simp only[yyn,Instr.fill];cases place i with
  |none=>rfl
  |some p =>
   obtain⟨off,size⟩:=p;simp only[xU,Array.size_map];split
   ·rfl
   ·rw[J9];exact F5 E place ps _
theorem M1{A:Nat->Prop}(place:Nat->Option (Nat×Nat)):∀(ps:List (Nat×Value))(cs r:Array Value),(∀x∈cs,Sc A x)->(∀p∈ps,Sc A p.2) ->
  Instr.fill place cs ps=some r->∀x∈r,Sc A x
 | [],cs,r,h1,_,hr=>by simp[Instr.fill]at hr;subst hr;exact h1
 |(i,v)::ps,cs,r,h1,h2,hr=>by
  simp only[Instr.fill]at hr;cases hp:place i with
  |none=>simp[hp]at hr
  |some p =>
   obtain⟨off,size⟩:=p;simp only[hp]at hr;split at hr
   ·simp at hr
   ·refine M1 place ps _ r ?_ (fun p hp=>h2 p (yo _ hp)) hr;have hv:=F2 (h2 (i,v) (List.mem_cons_self ..));have key:∀(l:List (Value×Nat))(cs:Array Value),(∀x∈l,Sc A x.1)->(∀x∈cs,Sc A x)->∀x∈l.foldl (fun cs (x:Value×Nat)=>cs.setIfInBounds (off+x.2) x.1) cs,Sc A x:=by
     intro l
     induction l with
     |nil=>exact fun cs _ h=>h
     |cons a l ih =>
      intro cs ha hcs;refine ih _ (fun x hx=>ha x (yo _ hx)) fun x hx => ?_;rcases Array.mem_or_eq_of_mem_setIfInBounds hx with hx|hx
      ·exact hcs x hx
      ·subst hx;exact ha a (List.mem_cons_self ..)
    rw[<-Array.foldl_toList];refine key _ cs (fun x hx => ?_) h1;have:x.1∈v.cells:=by
     exact Array.fst_mem_of_mem_zipIdx (Array.mem_toList_iff.1 hx)
    exact hv x.1 this
end
end Go.Dam
