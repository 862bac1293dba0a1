/- Towards the law ParserBlanks, true for every text and all blanks (no condition): one part of the proof. -/
import Derived.Test.YtgkhemnmcgicnaaGreatDoorG17
import Derived.Test.YtgkhemnmcgicnaaGreatDoorG01
import Derived.Test.YtgkhemnmcgicnaaGreatDoorProg
import Derived.Lib.Strings
import Derived.Lib.Slices
import Derived.Lib.Walk
import Derived.Lib.Builder
import Derived.Lib.AppendStr
import Derived.Lib.UnsafeStr
import Derived.Lib.MakeNoZero
import Derived.WalkKit
import Derived.Laws.Externs
import Derived.Laws.IdiomCopy
import Derived.Laws.BitsLemmas
import Derived.Test.YtgkhemnmcgicnaaGreatDoorG16
import Derived.Deep.LoopGhost
namespace Go.Proofs.YtgkhemnmcgicnaaGreatDoor
set_option maxHeartbeats 4000000
set_option maxRecDepth 100000
open Go.RowKit
def aH5:Array Value:=#[.func (.func 81) #[] #[],.func (.func 82) #[] #[],.func (.func 83) #[] #[],.func (.func 84) #[] #[]]
def gE:Obj:=.cells aH5 153 (0,0)
def CV(F X:Nat)(j:Bool)(w:World):Prop:=∀w',Below w.heap.size w w'->Calls Tryz.prog F #[.pointer (some ⟨X,0,none⟩),.bool j] w' fun r w''=>r=.returned (.bool false)/\Below w'.heap.size w' w''
def aH6(F X:Nat)(j:Bool)(w:World)(Q:World->Prop):Prop:=∀w',Below w.heap.size w w'->Calls Tryz.prog F #[.pointer (some ⟨X,0,none⟩),.bool j] w' fun r w''=>r=.returned (.bool true)/\Q w''
theorem kD(F X Bx Bj:Nat)(j b:Bool)(w:World)(hx:w.cell? ⟨Bx,0,none⟩=some (.pointer (some ⟨X,0,none⟩)))(hj:w.cell? ⟨Bj,0,none⟩=some (.bool j))(Q:World->Prop)
  (hc:Calls Tryz.prog F #[.pointer (some ⟨X,0,none⟩),.bool j] w fun r w'=>r=.returned (.bool b)/\Q w') (hF:F=81\/F=82\/F=83\/F=84) :
  Calls Tryz.prog 89 #[.func (.func F) #[] #[],.pointer (some ⟨Bx,0,none⟩),.pointer (some ⟨Bj,0,none⟩)] w fun r w'=>r=.returned (.bool b)/\Q w':=by
 rcases hF with rfl|rfl|rfl|rfl;all_goals go_enter Tryz.func89,Tryz.ntmps89
 all_goals go_wp2_with(first
  |(go_at_call 81;refine hc.mono ?_)
  |(go_at_call 82;refine hc.mono ?_)
  |(go_at_call 83;refine hc.mono ?_)
  |(go_at_call 84;refine hc.mono ?_))
 all_goals rintro e w' ⟨rfl,hQ⟩
 all_goals go_wp2
 all_goals go_ret
 all_goals exact⟨rfl,hQ⟩
set_option maxHeartbeats 8000000
section
variable{X Bx Bj K:Nat}{j:Bool}{w:World}{Q:World->Prop}
theorem Y4(p:Nat)(hp:p<4)(hK:w.heap[K]?=some gE)(hx:w.cell? ⟨Bx,0,none⟩=some (.pointer (some ⟨X,0,none⟩)))(hj:w.cell? ⟨Bj,0,none⟩=some (.bool j))
  (hmiss:∀i,i<p->CV (81+i) X j w) (hhit:aH6 (81+p) X j w Q) :
  Calls Tryz.prog 130 #[.slice (some ⟨K,0,none⟩) 4 4,.func (.func 89) #[] #[.pointer (some ⟨Bx,0,none⟩),.pointer (some ⟨Bj,0,none⟩)]] w fun r w'=>r=.returned (Z p)/\Q w':=by
 have lK:=(qe.1 hK).1;have lx:=qo w _ hx;have lj:=qo w _ hj;simp only at lx lj;go_enter Tryz.func130,Tryz.ntmps130;go_wp2
 go_loopw [8] (fun v wr=>∃i:Nat,i<=p/\v=Z i/\Below w.heap.size w wr) (fun v _=>p-(intOf v).toNat)
 case atStart=>exact⟨0,ql _,rfl,qb _ _⟩
 case round =>
  obtain⟨i,hi,rfl,hb⟩:=hrel;have hK1:=(hb.block K lK).trans hK;have hx1:=(hb.cell (p:=⟨Bx,0,none⟩) lx).trans hx;have hj1:=(hb.cell (p:=⟨Bj,0,none⟩) lj).trans hj;have q0:wr.cell? ⟨K,0,none⟩=some (.func (.func 81) #[] #[]):=by rw[Lib.cell_of_heap hK1];rfl
  have q1:wr.cell? ⟨K,1,none⟩=some (.func (.func 82) #[] #[]):=by rw[Lib.cell_of_heap hK1];rfl
  have q2:wr.cell? ⟨K,2,none⟩=some (.func (.func 83) #[] #[]):=by rw[Lib.cell_of_heap hK1];rfl
  have q3:wr.cell? ⟨K,3,none⟩=some (.func (.func 84) #[] #[]):=by rw[Lib.cell_of_heap hK1];rfl
  by_cases hlt:i<p
  ·have hm:=hmiss i hlt wr hb;have hi3:i=0\/i=1\/i=2:=by omega
   rcases hi3 with rfl|rfl|rfl
   ·have ht:=kD 81 X Bx Bj j false wr hx1 hj1 _ hm (by decide);go_wp2_with(go_at_call 89;refine ht.mono ?_);rintro e w' ⟨rfl,b'⟩;go_wp2
    go_roundw
    case rel=>exact⟨1,by omega,rfl,hb.trans (b'.mono hb.size)⟩
    case measure=>simp[intOf];omega
   ·have ht:=kD 82 X Bx Bj j false wr hx1 hj1 _ hm (by decide);go_wp2_with(go_at_call 89;refine ht.mono ?_);rintro e w' ⟨rfl,b'⟩;go_wp2
    go_roundw
    case rel=>exact⟨2,by omega,rfl,hb.trans (b'.mono hb.size)⟩
    case measure=>simp[intOf];omega
   ·have ht:=kD 83 X Bx Bj j false wr hx1 hj1 _ hm (by decide);go_wp2_with(go_at_call 89;refine ht.mono ?_);rintro e w' ⟨rfl,b'⟩;go_wp2
    go_roundw
    case rel=>exact⟨3,by omega,rfl,hb.trans (b'.mono hb.size)⟩
    case measure=>simp[intOf];omega
  ·obtain rfl:i=p:=by omega
   have hm:=hhit wr hb;have hi3:i=0\/i=1\/i=2\/i=3:=by omega
   rcases hi3 with rfl|rfl|rfl|rfl
   ·have ht:=kD 81 X Bx Bj j true wr hx1 hj1 _ hm (by decide);go_wp2_with(go_at_call 89;refine ht.mono ?_);rintro e w' ⟨rfl,hQ⟩;go_wp2;go_ret;exact⟨rfl,hQ⟩
   ·have ht:=kD 82 X Bx Bj j true wr hx1 hj1 _ hm (by decide);go_wp2_with(go_at_call 89;refine ht.mono ?_);rintro e w' ⟨rfl,hQ⟩;go_wp2;go_ret;exact⟨rfl,hQ⟩
   ·have ht:=kD 83 X Bx Bj j true wr hx1 hj1 _ hm (by decide);go_wp2_with(go_at_call 89;refine ht.mono ?_);rintro e w' ⟨rfl,hQ⟩;go_wp2;go_ret;exact⟨rfl,hQ⟩
   ·have ht:=kD 84 X Bx Bj j true wr hx1 hj1 _ hm (by decide);go_wp2_with(go_at_call 89;refine ht.mono ?_);rintro e w' ⟨rfl,hQ⟩;go_wp2;go_ret;exact⟨rfl,hQ⟩
theorem UM(p:Nat)(hp:p<4)(hK:w.heap[K]?=some gE)(hx:w.cell? ⟨Bx,0,none⟩=some (.pointer (some ⟨X,0,none⟩)))(hj:w.cell? ⟨Bj,0,none⟩=some (.bool j))
  (hmiss:∀i,i<p->CV (81+i) X j w) (hhit:aH6 (81+p) X j w Q) :
  Calls Tryz.prog 88 #[.slice (some ⟨K,0,none⟩) 4 4,.func (.func 89) #[] #[.pointer (some ⟨Bx,0,none⟩),.pointer (some ⟨Bj,0,none⟩)]] w fun r w'=>r=.returned (.bool true)/\Q w':=by
 have hf:=Y4 p hp hK hx hj hmiss hhit;have hp0:(0:Int)<=(p:Int):=by omega
 clear hmiss hhit hK hx hj;go_enter Tryz.func88,Tryz.ntmps88;go_wp2_with(go_at_call 130;refine hf.mono ?_);rintro e w' ⟨rfl,hQ⟩;go_wp2;go_ret;refine⟨?_,hQ⟩;first|rfl|simp
end
section
variable{B X:Nat}{ks:List (Nat×Obj)}{s:ByteArray}{lv:Value}{n:Nat}{xs:List Value}{wr:Int}{w0 w:World}{LN:Value}{ls:List Int}
theorem ZD{a:Nat}(h:iQ B X ks s LN a lv n xs 0 wr w0 w)(hL:jW LN ls ks)(gL:rY ls)(hsz:s.size<=1048576)(hn:n<=1048576)(ha:a<s.size)(hc:fF s[a].toNat=true)(b:Nat)(hu:yD hG s a b)(hlen:a+64<b)(j:Bool) :
  Calls Tryz.prog 81 #[.pointer (some ⟨X,0,none⟩),.bool j] w fun r w'=>r=.returned (.bool true) /\
   ∃lv' xs',iQ B X ks s LN b lv' (n+1) xs' 5 a w0 w':=by
 have c0:=h.c0;have c1:=h.c1;have hab:=hu.ab;have hbs:=hu.bs;have ha0:(0:Int)<=(a:Int):=by omega
 have ha':(a:Int)<s.size:=by omega
 have h64:(64:Int)<(b:Int)-a:=by omega
 have hw1:IntKind.i64.wrap ((b:Int)-a)=(b:Int)-a:=IntWalk.i64_in _ (by omega);go_enter Tryz.func81,Tryz.ntmps81;go_wp2
 go_quiet ((go_at_call 117;refine Calls.quiet_of_same (qH s[a].toNat _ hc)))
 have hm:=h.step (cJ (qb _ _) nq);generalize w.drewN nq=W at hm⊢;have d0:=hm.c0;have d1:=hm.c1;clear c0 c1 h;go_wp2_with(first
  |(go_at_call 118;refine(G4 X s a b _ d0 hsz hu).mono ?_;rintro e w2 ⟨rfl,rfl⟩)
  |(go_at_call 87;refine(oM hm a 5).mono ?_))
 rintro e w3 ⟨rfl,hS⟩;go_wp2_with(first
  |(go_at_call 86;refine(tL hS hL gL hsz hn b hab hbs 1 0 ByteArray.empty j).mono ?_))
 rintro e w4 ⟨rfl,lv',hS4⟩;go_wp2;go_ret;exact⟨rfl,lv',_,hS4⟩
theorem RV{a:Nat}(h:iQ B X ks s LN a lv n xs 0 wr w0 w)(ha:a<s.size)(hc:Lib.indexByte mD s[a].toNat.toUInt8=-1)(j:Bool) :
  Calls Tryz.prog 84 #[.pointer (some ⟨X,0,none⟩),.bool j] w fun r w'=>r=.returned (.bool false)/\Below w.heap.size w w':=by
 have c0:=h.c0;have c1:=h.c1;clear h;have ha0:(0:Int)<=(a:Int):=by omega
 have ha':(a:Int)<s.size:=by omega
 have hcz:=D5 s[a].toNat s[a].toNat_lt (-1) hc;go_enter Tryz.func84,Tryz.ntmps84;go_wp2
 go_quiet ((go_at_call 127;refine Calls.quiet_of_same (hcz _)))
 go_wp2;go_ret;exact⟨rfl,cJ (qb _ _) _⟩
end
section
variable{X Bx Bj K:Nat}{j:Bool}{w:World}
theorem ZE(hK:w.heap[K]?=some gE)(hx:w.cell? ⟨Bx,0,none⟩=some (.pointer (some ⟨X,0,none⟩)))(hj:w.cell? ⟨Bj,0,none⟩=some (.bool j))
  (hmiss:∀i,i<4->CV (81+i) X j w) :
  Calls Tryz.prog 130 #[.slice (some ⟨K,0,none⟩) 4 4,.func (.func 89) #[] #[.pointer (some ⟨Bx,0,none⟩),.pointer (some ⟨Bj,0,none⟩)]] w fun r w'=>r=.returned (Z (-1))/\Below w.heap.size w w':=by
 have lK:=(qe.1 hK).1;have lx:=qo w _ hx;have lj:=qo w _ hj;simp only at lx lj;go_enter Tryz.func130,Tryz.ntmps130;go_wp2
 go_loopw [8] (fun v wr=>∃i:Nat,i<=4/\v=Z i/\Below w.heap.size w wr) (fun v _=>4-(intOf v).toNat)
 case atStart=>exact⟨0,ql _,rfl,qb _ _⟩
 case round =>
  obtain⟨i,hi,rfl,hb⟩:=hrel;have hK1:=(hb.block K lK).trans hK;have hx1:=(hb.cell (p:=⟨Bx,0,none⟩) lx).trans hx;have hj1:=(hb.cell (p:=⟨Bj,0,none⟩) lj).trans hj;have q0:wr.cell? ⟨K,0,none⟩=some (.func (.func 81) #[] #[]):=by rw[Lib.cell_of_heap hK1];rfl
  have q1:wr.cell? ⟨K,1,none⟩=some (.func (.func 82) #[] #[]):=by rw[Lib.cell_of_heap hK1];rfl
  have q2:wr.cell? ⟨K,2,none⟩=some (.func (.func 83) #[] #[]):=by rw[Lib.cell_of_heap hK1];rfl
  have q3:wr.cell? ⟨K,3,none⟩=some (.func (.func 84) #[] #[]):=by rw[Lib.cell_of_heap hK1];rfl
  have hi3:i=0\/i=1\/i=2\/i=3\/i=4:=by omega
  rcases hi3 with rfl|rfl|rfl|rfl|rfl
  ·have ht:=kD 81 X Bx Bj j false wr hx1 hj1 _ (hmiss 0 (by omega) wr hb) (by decide);go_wp2_with(go_at_call 89;refine ht.mono ?_);rintro e w' ⟨rfl,b'⟩;go_wp2
   go_roundw
   case rel=>exact⟨1,by omega,rfl,hb.trans (b'.mono hb.size)⟩
   case measure=>simp[intOf]
  ·have ht:=kD 82 X Bx Bj j false wr hx1 hj1 _ (hmiss 1 (by omega) wr hb) (by decide);go_wp2_with(go_at_call 89;refine ht.mono ?_);rintro e w' ⟨rfl,b'⟩;go_wp2
   go_roundw
   case rel=>exact⟨2,by omega,rfl,hb.trans (b'.mono hb.size)⟩
   case measure=>simp[intOf]
  ·have ht:=kD 83 X Bx Bj j false wr hx1 hj1 _ (hmiss 2 (by omega) wr hb) (by decide);go_wp2_with(go_at_call 89;refine ht.mono ?_);rintro e w' ⟨rfl,b'⟩;go_wp2
   go_roundw
   case rel=>exact⟨3,by omega,rfl,hb.trans (b'.mono hb.size)⟩
   case measure=>simp[intOf]
  ·have ht:=kD 84 X Bx Bj j false wr hx1 hj1 _ (hmiss 3 (by omega) wr hb) (by decide);go_wp2_with(go_at_call 89;refine ht.mono ?_);rintro e w' ⟨rfl,b'⟩;go_wp2
   go_roundw
   case rel=>exact⟨4,by omega,rfl,hb.trans (b'.mono hb.size)⟩
   case measure=>simp[intOf]
  ·go_wp2;go_ret;exact⟨rfl,hb⟩
theorem UU(hK:w.heap[K]?=some gE)(hx:w.cell? ⟨Bx,0,none⟩=some (.pointer (some ⟨X,0,none⟩)))(hj:w.cell? ⟨Bj,0,none⟩=some (.bool j))
  (hmiss:∀i,i<4->CV (81+i) X j w) :
  Calls Tryz.prog 88 #[.slice (some ⟨K,0,none⟩) 4 4,.func (.func 89) #[] #[.pointer (some ⟨Bx,0,none⟩),.pointer (some ⟨Bj,0,none⟩)]] w fun r w'=>r=.returned (.bool false)/\Below w.heap.size w w':=by
 have hf:=ZE hK hx hj hmiss;clear hmiss hK hx hj;go_enter Tryz.func88,Tryz.ntmps88;go_wp2_with(go_at_call 130;refine hf.mono ?_);rintro e w' ⟨rfl,hQ⟩;go_wp2;go_ret;refine⟨?_,hQ⟩;first|rfl|simp
end
theorem WR:(Tryz.prog.info? 200).map (·.size)=some 2:=by kernel_rfl
theorem aE7:liesAt Tryz.prog Tryz.prog.depth 200 (2 / Tryz.prog.cellsOf 200) 0 200 1=true:=by kernel_rfl
theorem infoByte:(Tryz.prog.info? 5).map (fun i=>(i.zero,i.size,i.bytes))=some (some (.int .u8 0),1,1):=by kernel_rfl
theorem FV(b:Nat)(w:World)(h0:w.cell? ⟨b,0,none⟩=some (.pointer (some ⟨b,0,none⟩))) :
  Calls Tryz.prog 155 #[.pointer (some ⟨b,0,none⟩)] w fun e w'=>e=.returned (.tuple #[])/\w'=w:=by
 obtain⟨j,hj,_⟩:=Option.map_eq_some_iff.1 WR;go_enter Tryz.func155,Tryz.ntmps155;go_wp2;rw[Lib.run_neq_ptr_same w _ Tryz.underlying198 hj];go_wp2
 go_end0
 exact⟨rfl,rfl⟩
theorem EU(b:Nat)(w:World)(h0:w.cell? ⟨b,0,none⟩=some (.pointer none))(hsh:w.shape? b=some (200,2))(hfz:w.frozen? ⟨b,0,none⟩=false) :
  Calls Tryz.prog 155 #[.pointer (some ⟨b,0,none⟩)] w fun e w'=>e=.returned (.tuple #[])/\w'=w.setCell ⟨b,0,none⟩ (.pointer (some ⟨b,0,none⟩)):=by
 obtain⟨j,hj,hjs⟩:=Option.map_eq_some_iff.1 WR;go_enter Tryz.func155,Tryz.ntmps155;go_wp2;rw[Lib.run_to_unsafe w ⟨b,0,none⟩ Tryz.underlying198 Tryz.underlying256 hj (by rw[hjs];decide) hsh (Nat.zero_lt_succ 1)];simp only[Result.andThen];rw[Oper.upon_value];go_wp2;rw[run_callFunc_extern Tryz.func191 (by kernel_rfl) (by kernel_rfl) (by kernel_rfl) (e:=Extern.AbiNoEscape.same) (by kernel_rfl)];rw[Lib.run_noEscape];simp only[Result.andThen];rw[Oper.upon_value];go_wp2;rw[Lib.run_from_unsafe w ⟨b,0,none⟩ Tryz.underlying256 Tryz.underlying198 hj hsh aE7];simp only[Result.andThen];rw[Oper.upon_value];go_wp2
 go_end0
 exact⟨rfl,rfl⟩
theorem J5(B b:Nat)(bs:List Value)(w:World)(h:Lib.IsBuilder 200 5 B b bs w) :
  Calls Tryz.prog 155 #[.pointer (some ⟨b,0,none⟩)] w fun e w'=>e=.returned (.tuple #[])/\(Lib.BuilderAt 200 5 B b (.pointer (some ⟨b,0,none⟩)) bs w'/\Below B w w'):=by
 rcases h with h|h
 ·refine(EU b w h.cell0 h.shape h.frozen0).mono ?_;rintro e w' ⟨rfl,rfl⟩;exact⟨rfl,h.used _,(qb B w).setCell (p:=⟨b,0,none⟩) h.1 _⟩
 ·refine(FV b w h.cell0).mono ?_;rintro e w' ⟨rfl,rfl⟩;exact⟨rfl,h,qb B _⟩
theorem B6(B b:Nat)(bs:List Value)(c:Int)(w:World)(h:Lib.IsBuilder 200 5 B b bs w)(hlen:bs.length+1<=140737488355328)(hBw:B<=w.heap.size) :
  Calls Tryz.prog 125 #[.pointer (some ⟨b,0,none⟩),.int .u8 c] w fun e w'=>e=.returned .nilIface/\(Lib.BuilderAt 200 5 B b (.pointer (some ⟨b,0,none⟩)) (bs++[.int .u8 c]) w'/\Below B w w'):=by
 obtain⟨i0,hi,hz0,hz1,hz2⟩:=info_parts infoByte;go_enter Tryz.func125,Tryz.ntmps125;go_wp2_with(go_at_call 155;refine(J5 B b bs _ h).mono ?_);rintro e w1 ⟨rfl,h1,hb1⟩;obtain⟨hB,v,hbk,hown,hne⟩:=h1;have c0:w1.cell? ⟨b,0,none⟩=some (.pointer (some ⟨b,0,none⟩)):=by rw[Lib.cell_of_heap hbk];rfl
 have c1:w1.cell? ⟨b,1,none⟩=some v:=by rw[Lib.cell_of_heap hbk];rfl
 go_wp2_with(at_builtin;refine wpList_append_own _ rfl _ _ 54 rfl B 5 i0 (.int .u8 0) 1 1 Tryz.underlying54 hi hz0 hz1 hz2 rfl (by decide) _ _ _ rfl (hown.alloc _) ⟨w1.heap.size,0,none⟩ 1 1 [.int .u8 c] rfl rfl ?c1 ?c2 ?c3 ?c4 ?c5 ?_);case c1 =>
  intro j u hj
  match j,hj with
  |0,hj=>simp at hj;subst hj;simp[Addr.add]
 case c2=>intro u hu;simp at hu;subst hu;rfl
 case c3=>unfold maxLen;omega
 case c4=>omega
 case c5=>have:=hb1.size;simp;omega
 intro v' w2 hown' hgrow _;have hlt:b<w1.heap.size:=by
  rcases Nat.lt_or_ge b w1.heap.size with h'|h'
  ·exact h'
  ·simp[Array.getElem?_eq_none h']at hbk
 have hb2:w2.heap[b]?=some (.cells #[.pointer (some ⟨b,0,none⟩),v] 200 (0,0)):=by
  rw[hgrow.block b (by simp;omega) (fun e=>hne e.symm),Lib.alloc_old w1 _ b hlt];exact hbk
 have d0:w2.cell? ⟨b,0,none⟩=some (.pointer (some ⟨b,0,none⟩)):=by rw[Lib.cell_of_heap hb2];rfl
 have d1:w2.cell? ⟨b,1,none⟩=some v:=by rw[Lib.cell_of_heap hb2];rfl
 have f1:w2.frozen? ⟨b,1,none⟩=false:=Lib.frozen_of_heap hb2 1;obtain⟨g,cap,rfl⟩:∃g cap,v'=.slice (some ⟨g,0,none⟩) (bs.length+1) cap:=by
  rcases hown'.2 with⟨_,h0⟩ |⟨g,cap,cur,hv,_⟩
  ·omega
  ·exact⟨g,cap,hv⟩
 go_wp2;go_ret;refine⟨rfl,?_,?_⟩
 ·exact Lib.BuilderAt.put (T:=200) (e:=5) hB hb2 (bs':=bs++[.int .u8 c]) (by simpa using hown') (by decide)
 ·exact((hb1.alloc (by have:=hb1.size;omega) _).grown hgrow (by have:=hb1.size;simp;omega) (fun k hk=>(hown.lt k hk).1)).setCell (p:=⟨b,1,none⟩) hB _
def RE(n:Nat):UInt8:=if n<10 then(48+n).toUInt8 else(87+n).toUInt8
def aFN:ByteArray:=⟨#[48,49,50,51,52,53,54,55,56,57,97,98,99,100,101,102]⟩
theorem UA(B b:Nat)(bs:List Value)(t:ByteArray)(w:World)(h:Lib.IsBuilder 200 5 B b bs w)(hlen:bs.length+1<=140737488355328)(hBw:B<=w.heap.size)(ht:0<t.size)(v:Int)
  (hc:(((t[0].toNat:Nat):Int)=110/\v=10)\/(((t[0].toNat:Nat):Int)=116/\v=9)\/(((t[0].toNat:Nat):Int)=92/\v=92)\/(((t[0].toNat:Nat):Int)=34/\v=34)) :
  Calls Tryz.prog 126 #[.string t,.pointer (some ⟨b,0,none⟩)] w fun e w'=>e=.returned (.tuple #[Z 1,.bool false])/\(Lib.BuilderAt 200 5 B b (.pointer (some ⟨b,0,none⟩)) (bs++[.int .u8 v]) w'/\Below B w w'):=by
 have hemp:t.toList.isEmpty=false:=by
  rw[Go.ByteArray.toList_eq];have hl:t.data.toList.length=t.size:=by simp
  cases e:t.data.toList with
  |nil=>rw[e]at hl;simp at hl;omega
  |cons x r=>rfl
 have ht':(0:Int)<(t.size:Int):=by omega
 have hi:=Tryz.strings_IndexByte ⟨#[110,116,92,34]⟩ ((t[0].toNat:Nat):Int) w;have hw:=B6 B b bs v w h hlen hBw;rcases hc with⟨hc,rfl⟩ |⟨hc,rfl⟩ |⟨hc,rfl⟩ |⟨hc,rfl⟩;all_goals rw[hc]at hi
 ·rw[show Lib.indexByte (⟨#[110,116,92,34]⟩:ByteArray).data.toList ((110:Int).toNat.toUInt8)=0 by decide]at hi;go_enter Tryz.func126,Tryz.ntmps126;go_wp2_with(first
   |(go_at_call 127;refine hi.mono ?_;rintro r w1 ⟨rfl,rfl⟩)
   |(go_at_call 125;refine hw.mono ?_))
  rintro e w2 ⟨rfl,h2,b2⟩;go_wp2;refine qg (qqb rfl _ _ _) rfl ?_;exact⟨rfl,h2,b2⟩
 ·rw[show Lib.indexByte (⟨#[110,116,92,34]⟩:ByteArray).data.toList ((116:Int).toNat.toUInt8)=1 by decide]at hi;go_enter Tryz.func126,Tryz.ntmps126;go_wp2_with(first
   |(go_at_call 127;refine hi.mono ?_;rintro r w1 ⟨rfl,rfl⟩)
   |(go_at_call 125;refine hw.mono ?_))
  rintro e w2 ⟨rfl,h2,b2⟩;go_wp2;refine qg (qqb rfl _ _ _) rfl ?_;exact⟨rfl,h2,b2⟩
 ·rw[show Lib.indexByte (⟨#[110,116,92,34]⟩:ByteArray).data.toList ((92:Int).toNat.toUInt8)=2 by decide]at hi;go_enter Tryz.func126,Tryz.ntmps126;go_wp2_with(first
   |(go_at_call 127;refine hi.mono ?_;rintro r w1 ⟨rfl,rfl⟩)
   |(go_at_call 125;refine hw.mono ?_))
  rintro e w2 ⟨rfl,h2,b2⟩;go_wp2;refine qg (qqb rfl _ _ _) rfl ?_;exact⟨rfl,h2,b2⟩
 ·rw[show Lib.indexByte (⟨#[110,116,92,34]⟩:ByteArray).data.toList ((34:Int).toNat.toUInt8)=3 by decide]at hi;go_enter Tryz.func126,Tryz.ntmps126;go_wp2_with(first
   |(go_at_call 127;refine hi.mono ?_;rintro r w1 ⟨rfl,rfl⟩)
   |(go_at_call 125;refine hw.mono ?_))
  rintro e w2 ⟨rfl,h2,b2⟩;go_wp2;refine qg (qqb rfl _ _ _) rfl ?_;exact⟨rfl,h2,b2⟩
theorem aFP(h l:Nat)(hh:h<16)(hl:l<16):IntKind.i64.wrap (16*(h:Int))=16*(h:Int)/\IntKind.i64.wrap (16*(h:Int)+l)=16*(h:Int)+l/\IntKind.u8.wrap (16*(h:Int)+l)=16*(h:Int)+l :=
 ⟨IntWalk.i64_in _ (by omega),IntWalk.i64_in _ (by omega),IntWalk.u8_in _ (by omega)⟩
def mk(l:List UInt8):ByteArray:=⟨l.toArray⟩
def esc(c:UInt8):List UInt8 :=
 if c=10 then [92,110]else if c=9 then [92,116]else if c=92 then [92,92]else if c=34 then [92,34]
 else if 32<=c.toNat/\c.toNat≠127 then [c]else [92,120,RE (c.toNat / 16),RE (c.toNat % 16)]
def qB(c:Int):Bool:=decide (32<=c) && decide (c≠127) && decide (c≠34) && decide (c≠92)
theorem RT(c:Int)(w:World):Calls Tryz.prog 124 #[.int .u8 c] w fun e w'=>e=.returned (.bool (decide (32<=c) && decide (c≠127) && decide (c≠34) && decide (c≠92)))/\w'=w:=by
 go_enter Tryz.func124,Tryz.ntmps124;by_cases h1:32<=c<;>by_cases h2:c=127<;>by_cases h3:c=34<;>by_cases h4:c=92;all_goals(try subst h2);(try subst h3);(try subst h4)
 all_goals first|omega|skip
 all_goals go_wp2
 all_goals go_ret
 all_goals simp_all
theorem tM(c:Int)(w:World)(b:Bool)(h:qB c=b):Calls Tryz.prog 124 #[.int .u8 c] w fun e w'=>e=.returned (.bool b)/\w'=w:=by
 rw[<-h];exact RT c w
theorem aFV(B b:Nat)(bs:List Value)(w:World)(h:Lib.IsBuilder 200 5 B b bs w):Calls Tryz.prog 122 #[.pointer (some ⟨b,0,none⟩)] w fun r w'=>r=.returned (Z bs.length)/\w'=w:=by
 have key:∃ao c,w.cell? ⟨b,1,none⟩=some (.slice ao bs.length c):=by
  rcases h with h|h;all_goals
   obtain⟨hB,v,hbk,hown,hne⟩:=h;rcases hown.2 with⟨hv,h0⟩ |⟨g,cap,cur,hv,_⟩
   ·exact⟨none,0,by rw[Lib.cell_of_heap hbk];simp[hv,h0]⟩
   ·exact⟨some ⟨g,0,none⟩,cap,by rw[Lib.cell_of_heap hbk];simp[hv]⟩
 obtain⟨ao,c,hc⟩:=key;clear h;go_enter Tryz.func122,Tryz.ntmps122;go_wp2;go_ret;exact⟨rfl,rfl⟩
theorem cG(s:ByteArray):s.data.toList.length=s.size:=by rw[Array.length_toList];rfl
theorem qC{s:ByteArray}(k:Nat)(h:k<s.size):s.data.toList[k]?=some s[k]:=by
 have hk:k<s.data.toList.length:=by rw[cG];exact h
 rw[qr hk];rfl
theorem FK{s:ByteArray}{a:Nat}{y:List UInt8}(hd:s.data.toList.drop a=y)(i:Nat){x:UInt8}(hx:y[i]?=some x):∃h:a+i<s.size,s[a+i]=x:=by
 have hg:s.data.toList[a+i]?=some x:=by rw[<-List.getElem?_drop,hd];exact hx
 have hlt:a+i<s.size:=by rw[<-cG];exact(qy.1 hg).1
 refine⟨hlt,?_⟩;rw[qC _ hlt]at hg;exact qi hg
def nP(p q:Nat):Prop:=p=q
theorem G6(l:List UInt8)(c:UInt8):Lib.byteCells (l++[c])=Lib.byteCells l++[.int .u8 c.toNat]:=by simp[Lib.byteCells]
section
variable{B X:Nat}{ks:List (Nat×Obj)}{s:ByteArray}{lv:Value}{n:Nat}{xs:List Value}{wz:Int}{w0 w:World}{LN:Value}{ls:List Int}
end
end Go.Proofs.YtgkhemnmcgicnaaGreatDoor
