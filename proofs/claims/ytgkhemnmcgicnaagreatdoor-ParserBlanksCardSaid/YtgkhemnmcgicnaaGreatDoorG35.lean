/- Towards the law ParserBlanks, true for every text and all blanks (no condition): one part of the proof. -/
import Derived.Test.YtgkhemnmcgicnaaGreatDoorG01
import Derived.Test.YtgkhemnmcgicnaaGreatDoorG34
import Derived.Test.YtgkhemnmcgicnaaGreatDoorG33
namespace Go.Proofs.YtgkhemnmcgicnaaGreatDoor
set_option maxHeartbeats 8000000
set_option maxRecDepth 100000
open Go.RowKit
theorem aDA{ls:List Int}{s:ByteArray}{a n:Nat}{toks:List aX}{out:Option (Nat×Int)}(h:Lx ls s a n toks out)(ha:a<=s.size):toks.length<=s.size-a+1:=by
 induction h with
 |fin=>simp
 | @word a b c n toks out hu hb hc hw hl h ih =>
  have h2:=ih hw.bs;have hlt:=n8 hw hb (by unfold hG;rw[hc];rfl);have hle:=hu.le;have hbs:=hw.bs;rw[qk];omega
 | @number a b c n toks out v hu hb hc hw hl hv h ih =>
  have h2:=ih hw.bs;have hlt:=n8 hw hb hc;have hle:=hu.le;have hbs:=hw.bs;rw[qk];omega
 | @str a b c n toks out bytes hu hb hc hR hbl h ih =>
  obtain⟨g1,g2⟩:=hR.le c bytes rfl;have h2:=ih g2;have hle:=hu.le;rw[qk];omega
 | @sym a b n toks out hu hb h1 h2 h3 hc h ih =>
  have g2:=ih (by omega);have hle:=hu.le;rw[qk];omega
 |wordLong=>exact ql _
 |long=>exact ql _
 |strShort=>exact ql _
 |strWrong=>exact ql _
 |none=>exact ql _
theorem ZW{w:World}{X:Nat}{cs:Array Value}{T:TypeId}(v0 v2 v3 v4:Value)(h:w.heap[X]?=some (.cells cs T (0,0))) :
  ((((w.setCell ⟨X,0,none⟩ v0).setCell ⟨X,2,none⟩ v2).setCell ⟨X,3,none⟩ v3).setCell ⟨X,4,none⟩ v4).heap[X]?=some (.cells ((((cs.setIfInBounds 0 v0).setIfInBounds 2 v2).setIfInBounds 3 v3).setIfInBounds 4 v4) T (0,0)) :=
 Lib.heap_setCell_same (i:=4) (Lib.heap_setCell_same (i:=3) (Lib.heap_setCell_same (i:=2) (Lib.heap_setCell_same (i:=0) h v0) v2) v3) v4
theorem JN(w:World)(X:Nat)(v0 v2 v3 v4:Value)(k:Nat)(hk:k≠X):((((w.setCell ⟨X,0,none⟩ v0).setCell ⟨X,2,none⟩ v2).setCell ⟨X,3,none⟩ v3).setCell ⟨X,4,none⟩ v4).heap[k]?=w.heap[k]?:=by
 rw[qh _ ⟨X,4,none⟩ _ k hk,qh _ ⟨X,3,none⟩ _ k hk,qh _ ⟨X,2,none⟩ _ k hk,qh _ ⟨X,0,none⟩ _ k hk]
section
variable{T:List aX}{st:aD}{s:ByteArray}
def U8 (s : ByteArray) (T : List aX) (st : aD) : Prop := ∀ w, Calls Tryz.prog 16 #[.string s] w fun r w' => Below w.heap.size w w' /\
  ∃ao n c l col e,r=.returned (.tuple #[.slice ao n c,Z l,Z col,Z e])/\aD6 T st 0 l col e/\(e=0->w'.ownsRow w.heap.size 59 7 (.slice ao n c) T.length (cellsOf T))/\(e≠0->ao=none)
theorem aF8(fb:Bool)(ids:Option eQ)(hids:∀I,ids=some I->I=⟨0,0,[]⟩)(hg:kU T)(hsc:U8 s T st)(w:World) :
  Calls Tryz.prog 19 #[.string s,.bool fb] w fun r w'=>r=.returned (.pointer (some ⟨w.heap.size+1,0,none⟩))/\Below w.heap.size w w'/\PS T (w.heap.size+1) w.heap.size ⟨fb,ids⟩ st w':=by
 have HID:=aJ hids;clear hids;have hmk:(Instr.makeMap 129 none).run Tryz.prog w=.ok (.map (some w.heap.size)) (w.alloc (.map #[] 0)):=by
  simp[Instr.makeMap,newObj,Sem.run]
 have b0:=((qb w.heap.size w).alloc (qa _) (.map #[] 0)).alloc (by simp) (.cells #[.slice none 0 0,Z 0,Z 0,Z 0,Z 0,.bool fb,Z 0,Z 0,.map (some w.heap.size)] 133);have hM0:((w.alloc (.map #[] 0)).alloc (.cells #[.slice none 0 0,Z 0,Z 0,Z 0,Z 0,.bool fb,Z 0,Z 0,.map (some w.heap.size)] 133)).heap[w.heap.size]?=some (.map #[] 0):=(Lib.alloc_old _ _ _ (by simp)).trans (qd w _);have hY0:((w.alloc (.map #[] 0)).alloc (.cells #[.slice none 0 0,Z 0,Z 0,Z 0,Z 0,.bool fb,Z 0,Z 0,.map (some w.heap.size)] 133)).heap[w.heap.size+1]?=some (.cells #[.slice none 0 0,Z 0,Z 0,Z 0,Z 0,.bool fb,Z 0,Z 0,.map (some w.heap.size)] 133 (0,0)):=by
  have:=qd (w.alloc (.map #[] 0)) (.cells #[.slice none 0 0,Z 0,Z 0,Z 0,Z 0,.bool fb,Z 0,Z 0,.map (some w.heap.size)] 133);simpa using this
 have sc:=hsc ((w.alloc (.map #[] 0)).alloc (.cells #[.slice none 0 0,Z 0,Z 0,Z 0,Z 0,.bool fb,Z 0,Z 0,.map (some w.heap.size)] 133));go_enter Tryz.func19,Tryz.ntmps19;go_wp2_with(go_at_call 16;refine sc.mono ?_);rintro r w1 ⟨b1,ao,n,c,l,col,e,rfl,hst,hrow,hnone⟩;have hM1:=(b1.block _ (qe.1 hM0).1).trans hM0;have hY1:=(b1.block _ (qe.1 hY0).1).trans hY0;have bel:=b0.trans (b1.mono (by simp;omega));generalize hMe:w.heap.size=M at hM1 hY1 bel⊢;have hrow':=fun he=>oD (B:=0) (hrow he) (ql _);clear b0 hM0 hY0 sc hmk hrow;have d0:w1.cell? ⟨M+1,0,none⟩=some (.slice none 0 0):=by rw[Lib.cell_of_heap hY1];rfl
 have d2:w1.cell? ⟨M+1,2,none⟩=some (Z 0):=by rw[Lib.cell_of_heap hY1];rfl
 have d3:w1.cell? ⟨M+1,3,none⟩=some (Z 0):=by rw[Lib.cell_of_heap hY1];rfl
 have d4:w1.cell? ⟨M+1,4,none⟩=some (Z 0):=by rw[Lib.cell_of_heap hY1];rfl
 have f0:=Lib.frozen_of_heap hY1 0;have f2:=Lib.frozen_of_heap hY1 2;have f3:=Lib.frozen_of_heap hY1 3;have f4:=Lib.frozen_of_heap hY1 4;have HS:=aJ (And.intro hst (And.intro hrow' hnone));clear hst hrow' hnone;go_wp2;go_ret;obtain⟨hst,hrow',hnone⟩:=HS.out;rw[hMe];refine⟨rfl,(((bel.setCell (p:=⟨M+1,0,none⟩) (by show M<=M+1;omega) _).setCell (p:=⟨M+1,2,none⟩) (by show M<=M+1;omega) _).setCell (p:=⟨M+1,3,none⟩) (by show M<=M+1;omega) _).setCell (p:=⟨M+1,4,none⟩) (by show M<=M+1;omega) _,hg,.slice ao n c,0,l,col,e,0,0,#[],0,⟨ZW _ _ _ _ hY1,(JN w1 (M+1) _ _ _ _ M (by omega)).trans hM1,fun he => ?_⟩,⟨fun e he=>by simp at he,fun I hI=>by obtain rfl:=HID.out I hI;exact⟨rfl,rfl,Go.MapKept.stamped_empty 0,rfl⟩⟩,hst⟩;have hown:=hrow' he;exact aB hown fun k hk=>JN w1 (M+1) _ _ _ _ k (fun e=>kE hown hY1 (by intro cs fr hc;injection hc with _ h2 _;exact absurd h2 (by decide)) (by rw[hk,e]))
end
section
variable{T:List aX}{Y M X:Nat}{free:Bool}{lv iv:Value}{st:aD}{w:World}
theorem aDB(h:(aZ T st).kind=0):E4 T st=st:=if_pos h
theorem aF9(h:(aZ T st).kind≠0):E4 T st=cC T 13 st:=if_neg h
theorem aJH{free:Fr}(h:PS T Y M free st w):Calls Tryz.prog 21 #[.pointer (some ⟨Y,0,none⟩)] w fun r w'=>r=.returned (.tuple #[])/\PS T Y M free (E4 T st) w'/\aC [Y,M] w w':=by
 have hp:=nX h;have hst:=fun w' (b:Below w.heap.size w w')=>h.step b;by_cases hk:(aZ T st).kind=0
 ·rw[aDB hk];generalize aZ T st=t at hk hp;obtain⟨kd,text,v,bt,lin,cl,j⟩:=t;simp only[uL]at hk hp;subst hk;have hfd:=BH 0 v lin cl text bt j;clear h;go_enter Tryz.func21,Tryz.ntmps21;go_wp2_with(go_at_call 62;refine hp.mono ?_);intro r w1;first |(intro he b1;subst he)|rintro⟨rfl,b1⟩
  have hS:=hst _ b1;clear hst;go_wp2
  go_end0
  exact⟨rfl,hS,aC.of_below b1⟩
 ·rw[aF9 hk];have hfl:=fun w' (b:Below w.heap.size w w')=>jC (h.step b) 13 (by decide);generalize cC T 13 st=s9 at hfl⊢;generalize aZ T st=t at hk hp;obtain⟨kd,text,v,bt,lin,cl,j⟩:=t;simp only[uL]at hk hp;have hfd:=BH kd v lin cl text bt j;have hkb:(kd != 0)=true:=by simp[hk]
  clear h hst;go_enter Tryz.func21,Tryz.ntmps21;go_wp2_with(go_at_call 62;refine hp.mono ?_);intro r w1;first |(intro he b1;subst he)|rintro⟨rfl,b1⟩
  have hf1:=hfl _ b1;clear hfl;go_wp2_with(go_at_call 63;refine hf1.mono ?_);intro r w3;first |(intro he hS b3;subst he)|rintro⟨rfl,hS,b3⟩
  go_wp2
  go_end0
  exact⟨rfl,hS,(aC.of_below b1).trans b3⟩
end
theorem oU{P:Program}{fn:Func}{p t u v:Tmp}{ty:TypeId}(h:fn.results=#[.cell p ty,.tmp t,.tmp u,.tmp v])(tmps:Array Value)(w:World)(g:Nat)(T:TypeId)(cs:Array Value)(fr:Nat×Nat)(d:TypeDesc)
  (hp:tmps.getD p undef=.pointer (some ⟨g,0,none⟩)) (hg:w.heap[g]?=some (.cells cs T fr))
  (hu:P.underlying ty=some d) (hd:(match d with | .struct _ | .array _ _=>true | _=>false)=true) (hi:(P.info? ty).map (·.size)=some cs.size) :
  (results fn tmps).run P w=.ok (.tuple #[.agg cs,tmps.getD t undef,tmps.getD u undef,tmps.getD v undef]) w:=by
 have hp':tmps[p]?.getD undef=.pointer (some ⟨g,0,none⟩):=by simpa using hp
 simp[results,h,hp',asAddr,run_loadVar_row w g T ty cs fr d hg hu hd hi,Result.andThen]
def aEA(s:ByteArray):ByteArray:=s.extract 0 (min s.size 2000)
theorem aEB(s:ByteArray):(aEA s).size<=2000:=by unfold aEA;rw[qqh];omega
theorem aEC(s:ByteArray)(w:World):Calls Tryz.prog 6 #[.string s] w fun r w'=>r=.returned (.string (aEA s))/\w'=w:=by
 have hm:min (s.size:Int) 2000=((min s.size 2000:Nat):Int):=by omega
 have h0:(0:Int)<=((min s.size 2000:Nat):Int):=by omega
 have h1:((min s.size 2000:Nat):Int)<=(s.size:Int):=by omega
 go_enter Tryz.func6,Tryz.ntmps6;go_wp2;go_ret;exact⟨rfl,rfl⟩
theorem nZ{P:Program}{ops:Array Oper}{S:World->Prop}{op:Oper}{a:Act}(hw:Region.wanted op (yielded ops a.tmps)=true)(ty:TypeId)(x:Operand)(ho:op.op=.load ty x)
  (g:Nat) (hx:a.eval x=.pointer (some ⟨g,0,none⟩)) (cs:Array Value) (t:TypeId) (d:TypeDesc) (hS:∀w,S w->w.heap[g]?=some (.cells cs t (0,0)))
  (hu:P.underlying ty=some d) (hd:(match d with | .struct _ | .array _ _=>true | _=>false)=true) (hi:(P.info? ty).map (·.size)=some cs.size):YieldsIf P ops S op (.agg cs) a :=
 .inl ⟨hw,fun w hw'=>by
  unfold execOp;simp only[ho,hx,Instr.loadAt,Instr.sureAddr,qqn,Sem.run_pure,Result.andThen_ok,run_loadVar_row w g t ty cs (0,0) d (hS w hw') hu hd hi]⟩
theorem setRow_other(w:World)(g k:Nat)(cs:Array Value)(h:k≠g):(w.setRow g cs).heap[k]?=w.heap[k]?:=by
 unfold World.setRow;rw[Array.getElem?_modify,if_neg (fun e=>h e.symm)]
theorem setRow_heap(w:World)(g:Nat)(cs old:Array Value)(t:TypeId)(hg:w.heap[g]?=some (.cells old t (0,0))):(w.setRow g cs).heap[g]?=some (.cells cs t (0,0)):=by
 unfold World.setRow;rw[Array.getElem?_modify,if_pos rfl,hg];rfl
theorem PA{B:Nat}{a w:World}{X:Nat}(h:Below B a w)(hX:B<=X)(cs:Array Value):Below B a (w.setRow X cs) :=
 ⟨h.os,h.tape,h.output,by unfold World.setRow;simpa using h.size,fun k hk=>(setRow_other w X k cs (by omega)).trans (h.block k hk)⟩
theorem AB{P:Program}{ops:Array Oper}{o:Oper}{a:Act}{w:World}{K:Act->World->Prop}{Q:Exit->Act->World->Prop}{E:Prop}(hgd:o.guard=none)(h:Oper.wp P o a w K Q):if Region.wanted o (yielded ops a.tmps)=true then Oper.wp P o a w K Q else E:=by
 rw[if_pos (by simp[Region.wanted,hgd])];exact h
theorem PS.errCells{T:List aX}{Y M:Nat}{free:Fr}{e l c:Int}{w:World}(h:PS T Y M free (.bad e l c) w):w.cell? ⟨Y,2,none⟩=some (Z l)/\w.cell? ⟨Y,3,none⟩=some (Z c)/\w.cell? ⟨Y,4,none⟩=some (Z e)/\e≠0:=by
 obtain⟨_,tv,pos,line,col,e',ls,ln,es,clk,h1,h2,h3⟩:=h;obtain⟨rfl,he,rfl,rfl,_⟩:=h3;exact⟨h1.c2,h1.c3,h1.c4,he⟩
theorem PB(w:World)(a b c:Obj) :
  (((w.alloc a).alloc b).alloc c).heap[w.heap.size+1+1]?=some c/\(((w.alloc a).alloc b).alloc c).heap[w.heap.size+1]?=some b/\Below w.heap.size w (((w.alloc a).alloc b).alloc c):=by
 have e:((w.alloc a).alloc b).heap.size=w.heap.size+1+1:=by simp
 have h1:=qd ((w.alloc a).alloc b) c;rw[e]at h1;have h2:=(Lib.alloc_old ((w.alloc a).alloc b) c (w.heap.size+1) (by omega)).trans (heap_alloc2_new w a b);exact⟨h1,h2,(((qb _ w).alloc (qa _) _).alloc (by simp) _).alloc (by omega) _⟩
theorem kY.isM{α:Type}{f:α->Array Value}{l:List α}{w:World}{s:Nat}{v:Value}(h:kY w s v (l.map f)):∃ao cap,v=.slice ao l.length cap:=by
 obtain⟨ao,cap,e⟩:=h.is;exact⟨ao,cap,by rw[e,qqc]⟩
theorem kY.atM{α:Type}{f:α->Array Value}{l:List α}{w:World}{s:Nat}{ao:Option Addr}{n cap:Nat}(h:kY w s (.slice ao n cap) (l.map f)){j:Nat}(hj:j<l.length) :
  ∃g o,ao=some ⟨g,o,none⟩/\∀(k:Nat)(u:Value),(f l[j])[k]?=some u->w.cell? ⟨g,o+j*s+k,none⟩=some u:=by
 obtain⟨g,o,r,e,hr,_,_,hc⟩:=h.at (j:=j) (by simpa using hj);refine⟨g,o,e,fun k u hu=>hc k u ?_⟩;rw[List.getElem?_map,qr hj]at hr;obtain rfl:=qi hr;exact hu
theorem aKK(v v':Value)(l:List gT)(w:World)(hbig:l.length<=9223372036854775807)(h:kY w 5 v (l.map gT.cells))(h':kY w 5 v' (l.map gT.cells)) :
  Calls Tryz.prog 73 #[v,v'] w fun e w'=>e=.returned (.bool true)/\Below w.heap.size w w':=by
 obtain⟨ao,c,rfl⟩:=h.isM;obtain⟨ao',c',rfl⟩:=h'.isM;go_enter Tryz.func73,Tryz.ntmps73;go_wp2
 go_loopg [13] l.length (fun g s13 wr=>∃k:Nat,k<=l.length/\g=l.length-k/\s13=Z (k:Nat)/\Below w.heap.size w wr)
 case atStart=>exact⟨0,ql _,rfl,rfl,qb _ _⟩
 case round =>
  obtain⟨k,hk,hg,rfl,hb⟩:=hrel;by_cases hlt:k<l.length
  ·have hlt':(k:Int)<(l.length:Int):=by omega
   have hk0:(0:Int)<=(k:Int):=by omega
   obtain⟨g,oo,rfl,hc⟩:=(h.step hb).atM hlt;obtain⟨g',oo',rfl,hc'⟩:=(h'.step hb).atM hlt;generalize l[k]=x at *;obtain⟨⟨a0,a1,a2⟩,a3,a4⟩:=x;clear h h';have x0:wr.cell? ⟨g,oo+k*5,none⟩=some (Z a0):=hc 0 _ rfl;have y0:wr.cell? ⟨g',oo'+k*5,none⟩=some (Z a0):=hc' 0 _ rfl;have x1:wr.cell? ⟨g,oo+k*5+1,none⟩=some (Z a1):=hc 1 _ rfl;have y1:wr.cell? ⟨g',oo'+k*5+1,none⟩=some (Z a1):=hc' 1 _ rfl;have x2:wr.cell? ⟨g,oo+k*5+2,none⟩=some (Z a2):=hc 2 _ rfl;have y2:wr.cell? ⟨g',oo'+k*5+2,none⟩=some (Z a2):=hc' 2 _ rfl;have x3:wr.cell? ⟨g,oo+k*5+3,none⟩=some (.bool a3):=hc 3 _ rfl;have y3:wr.cell? ⟨g',oo'+k*5+3,none⟩=some (.bool a3):=hc' 3 _ rfl;have x4:wr.cell? ⟨g,oo+k*5+4,none⟩=some (Z a4):=hc 4 _ rfl;have y4:wr.cell? ⟨g',oo'+k*5+4,none⟩=some (Z a4):=hc' 4 _ rfl;have m1:IntKind.i64.wrap ((k:Int)+1)=(k:Int)+1:=IntWalk.i64_in _ (by omega);clear hc hc';go_wp2
   go_region
   all_goals go_wp2
   all_goals go_roundg (l.length-(k+1))
   all_goals first
    |omega
    |exact⟨k+1,by omega,rfl,by simp,hb.drew⟩
  ·have:k=l.length:=by omega
   subst this;go_wp2;go_ret;exact⟨rfl,hb⟩
theorem aKL(v v':Value)(l:List eG)(w:World)(hbig:l.length<=9223372036854775807)(h:kY w 5 v (l.map eG.cells))(h':kY w 5 v' (l.map eG.cells)) :
  Calls Tryz.prog 74 #[v,v'] w fun e w'=>e=.returned (.bool true)/\Below w.heap.size w w':=by
 obtain⟨ao,c,rfl⟩:=h.isM;obtain⟨ao',c',rfl⟩:=h'.isM;go_enter Tryz.func74,Tryz.ntmps74;go_wp2
 go_loopg [13] l.length (fun g s13 wr=>∃k:Nat,k<=l.length/\g=l.length-k/\s13=Z (k:Nat)/\Below w.heap.size w wr)
 case atStart=>exact⟨0,ql _,rfl,rfl,qb _ _⟩
 case round =>
  obtain⟨k,hk,hg,rfl,hb⟩:=hrel;by_cases hlt:k<l.length
  ·have hlt':(k:Int)<(l.length:Int):=by omega
   have hk0:(0:Int)<=(k:Int):=by omega
   obtain⟨g,oo,rfl,hc⟩:=(h.step hb).atM hlt;obtain⟨g',oo',rfl,hc'⟩:=(h'.step hb).atM hlt;generalize l[k]=x at *;obtain⟨⟨a0,a1,a2⟩,a3,a4⟩:=x;clear h h';have x0:wr.cell? ⟨g,oo+k*5,none⟩=some (Z a0):=hc 0 _ rfl;have y0:wr.cell? ⟨g',oo'+k*5,none⟩=some (Z a0):=hc' 0 _ rfl;have x1:wr.cell? ⟨g,oo+k*5+1,none⟩=some (Z a1):=hc 1 _ rfl;have y1:wr.cell? ⟨g',oo'+k*5+1,none⟩=some (Z a1):=hc' 1 _ rfl;have x2:wr.cell? ⟨g,oo+k*5+2,none⟩=some (Z a2):=hc 2 _ rfl;have y2:wr.cell? ⟨g',oo'+k*5+2,none⟩=some (Z a2):=hc' 2 _ rfl;have x3:wr.cell? ⟨g,oo+k*5+3,none⟩=some (Z a3):=hc 3 _ rfl;have y3:wr.cell? ⟨g',oo'+k*5+3,none⟩=some (Z a3):=hc' 3 _ rfl;have x4:wr.cell? ⟨g,oo+k*5+4,none⟩=some (.bool a4):=hc 4 _ rfl;have y4:wr.cell? ⟨g',oo'+k*5+4,none⟩=some (.bool a4):=hc' 4 _ rfl;have m1:IntKind.i64.wrap ((k:Int)+1)=(k:Int)+1:=IntWalk.i64_in _ (by omega);clear hc hc';go_wp2
   go_region
   all_goals go_wp2
   all_goals go_roundg (l.length-(k+1))
   all_goals first
    |omega
    |exact⟨k+1,by omega,rfl,by simp,hb.drew⟩
  ·have:k=l.length:=by omega
   subst this;go_wp2;go_ret;exact⟨rfl,hb⟩
theorem aKM(v v':Value)(l:List eY)(w:World)(hbig:l.length<=9223372036854775807)(h:kY w 2 v (l.map eY.cells))(h':kY w 2 v' (l.map eY.cells)) :
  Calls Tryz.prog 75 #[v,v'] w fun e w'=>e=.returned (.bool true)/\Below w.heap.size w w':=by
 obtain⟨ao,c,rfl⟩:=h.isM;obtain⟨ao',c',rfl⟩:=h'.isM;go_enter Tryz.func75,Tryz.ntmps75;go_wp2
 go_loopg [13] l.length (fun g s13 wr=>∃k:Nat,k<=l.length/\g=l.length-k/\s13=Z (k:Nat)/\Below w.heap.size w wr)
 case atStart=>exact⟨0,ql _,rfl,rfl,qb _ _⟩
 case round =>
  obtain⟨k,hk,hg,rfl,hb⟩:=hrel;by_cases hlt:k<l.length
  ·have hlt':(k:Int)<(l.length:Int):=by omega
   have hk0:(0:Int)<=(k:Int):=by omega
   obtain⟨g,oo,rfl,hc⟩:=(h.step hb).atM hlt;obtain⟨g',oo',rfl,hc'⟩:=(h'.step hb).atM hlt;generalize l[k]=x at *;obtain⟨a0,a1⟩:=x;clear h h';have x0:wr.cell? ⟨g,oo+k*2,none⟩=some (.string a0):=hc 0 _ rfl;have y0:wr.cell? ⟨g',oo'+k*2,none⟩=some (.string a0):=hc' 0 _ rfl;have x1:wr.cell? ⟨g,oo+k*2+1,none⟩=some (Z a1):=hc 1 _ rfl;have y1:wr.cell? ⟨g',oo'+k*2+1,none⟩=some (Z a1):=hc' 1 _ rfl;have m1:IntKind.i64.wrap ((k:Int)+1)=(k:Int)+1:=IntWalk.i64_in _ (by omega);clear hc hc';go_wp2
   go_region
   all_goals go_wp2
   all_goals go_roundg (l.length-(k+1))
   all_goals first
    |omega
    |exact⟨k+1,by omega,rfl,by simp,hb.drew⟩
  ·have:k=l.length:=by omega
   subst this;go_wp2;go_ret;exact⟨rfl,hb⟩
theorem YX(x:B7)(ho go lo ho' go' lo':Option Addr)(hc gc lc hc' gc' lc':Nat)(w:World)(n1:x.heads.length<=9223372036854775807)(n2:x.graces.length<=9223372036854775807)(n3:x.lyr.length<=9223372036854775807)
  (h1:kY w 5 (.slice ho x.heads.length hc) (x.heads.map gT.cells)) (h2:kY w 5 (.slice go x.graces.length gc) (x.graces.map eG.cells)) (h3:kY w 2 (.slice lo x.lyr.length lc) (x.lyr.map eY.cells))
  (h1':kY w 5 (.slice ho' x.heads.length hc') (x.heads.map gT.cells)) (h2':kY w 5 (.slice go' x.graces.length gc') (x.graces.map eG.cells)) (h3':kY w 2 (.slice lo' x.lyr.length lc') (x.lyr.map eY.cells)) :
  Calls Tryz.prog 34 #[.agg (x.cells (.slice ho x.heads.length hc) (.slice go x.graces.length gc) (.slice lo x.lyr.length lc)),.agg (x.cells (.slice ho' x.heads.length hc') (.slice go' x.graces.length gc') (.slice lo' x.lyr.length lc'))] w fun e w'=>e=.returned (.bool true)/\Below w.heap.size w w':=by
 obtain⟨i0,i1,kd,lg,dt,hs,gs,ar,orn,dy,ys,st,be⟩:=x;simp only[B7.cells]at *;have q1:=fun w' (b:Below w.heap.size w w')=>aKK _ _ hs w' n1 (h1.step b) (h1'.step b);have q2:=fun w' (b:Below w.heap.size w w')=>aKL _ _ gs w' n2 (h2.step b) (h2'.step b);have q3:=fun w' (b:Below w.heap.size w w')=>aKM _ _ ys w' n3 (h3.step b) (h3'.step b);have b0:=(qb w.heap.size w).alloc (qa _) (.cells #[Z i0,Z i1,Z kd,Z lg,Z dt,.slice ho hs.length hc,.slice go gs.length gc,Z ar,Z orn,Z dy,.slice lo ys.length lc,Z st,Z be] 31);have b00:=b0.alloc b0.size (.cells #[Z i0,Z i1,Z kd,Z lg,Z dt,.slice ho' hs.length hc',.slice go' gs.length gc',Z ar,Z orn,Z dy,.slice lo' ys.length lc',Z st,Z be] 31);have z0':=(Lib.alloc_old (w.alloc (.cells #[Z i0,Z i1,Z kd,Z lg,Z dt,.slice ho hs.length hc,.slice go gs.length gc,Z ar,Z orn,Z dy,.slice lo ys.length lc,Z st,Z be] 31)) (.cells #[Z i0,Z i1,Z kd,Z lg,Z dt,.slice ho' hs.length hc',.slice go' gs.length gc',Z ar,Z orn,Z dy,.slice lo' ys.length lc',Z st,Z be] 31) w.heap.size (by simp)).trans (qd w (.cells #[Z i0,Z i1,Z kd,Z lg,Z dt,.slice ho hs.length hc,.slice go gs.length gc,Z ar,Z orn,Z dy,.slice lo ys.length lc,Z st,Z be] 31));have z1:=heap_alloc2_new w (.cells #[Z i0,Z i1,Z kd,Z lg,Z dt,.slice ho hs.length hc,.slice go gs.length gc,Z ar,Z orn,Z dy,.slice lo ys.length lc,Z st,Z be] 31) (.cells #[Z i0,Z i1,Z kd,Z lg,Z dt,.slice ho' hs.length hc',.slice go' gs.length gc',Z ar,Z orn,Z dy,.slice lo' ys.length lc',Z st,Z be] 31);clear h1 h2 h3 h1' h2' h3' b0;go_enter Tryz.func34,Tryz.ntmps34;go_wp2_with(go_at_call 73;refine(q1 _ b00).mono ?_);intro e w1;first |(intro he c1;subst he)|rintro⟨rfl,c1⟩
 have y0:=(c1.block w.heap.size (by simp;omega)).trans z0';have y1:=(c1.block (w.heap.size+1) (by simp)).trans z1;have bb1:=b00.trans (c1.mono b00.size);clear z0' z1 c1 b00 q1;have u0:w1.cell? ⟨w.heap.size,6,none⟩=some (.slice go gs.length gc):=by rw[Lib.cell_of_heap y0];rfl
 have u1:w1.cell? ⟨w.heap.size+1,6,none⟩=some (.slice go' gs.length gc'):=by rw[Lib.cell_of_heap y1];rfl
 go_wp2_with(go_at_call 74;refine(q2 _ bb1).mono ?_);intro e w2;first |(intro he c2;subst he)|rintro⟨rfl,c2⟩
 have x0:=(c2.block w.heap.size (qe.1 y0).1).trans y0;have x1:=(c2.block (w.heap.size+1) (qe.1 y1).1).trans y1;have bb2:=bb1.trans (c2.mono bb1.size);have v0:w2.cell? ⟨w.heap.size,10,none⟩=some (.slice lo ys.length lc):=by rw[Lib.cell_of_heap x0];rfl
 have v1:w2.cell? ⟨w.heap.size+1,10,none⟩=some (.slice lo' ys.length lc'):=by rw[Lib.cell_of_heap x1];rfl
 clear y0 y1 u0 u1 c2 bb1 q2;go_wp2_with(go_at_call 75;refine(q3 _ bb2).mono ?_);intro e w3;first |(intro he c3;subst he)|rintro⟨rfl,c3⟩
 go_wp2;go_ret;exact⟨rfl,bb2.trans (c3.mono bb2.size)⟩
theorem T8(x:B7)(ho go lo ho' go' lo':Option Addr)(hc gc lc hc' gc' lc':Nat)(w:World)(n1:x.heads.length<=9223372036854775807)(n2:x.graces.length<=9223372036854775807)(n3:x.lyr.length<=9223372036854775807)
  (h1:kY w 5 (.slice ho x.heads.length hc) (x.heads.map gT.cells)) (h2:kY w 5 (.slice go x.graces.length gc) (x.graces.map eG.cells)) (h3:kY w 2 (.slice lo x.lyr.length lc) (x.lyr.map eY.cells))
  (h1':kY w 5 (.slice ho' x.heads.length hc') (x.heads.map gT.cells)) (h2':kY w 5 (.slice go' x.graces.length gc') (x.graces.map eG.cells)) (h3':kY w 2 (.slice lo' x.lyr.length lc') (x.lyr.map eY.cells)) :
  Calls Tryz.prog 12 #[.agg (x.cells (.slice ho x.heads.length hc) (.slice go x.graces.length gc) (.slice lo x.lyr.length lc)),.agg (x.cells (.slice ho' x.heads.length hc') (.slice go' x.graces.length gc') (.slice lo' x.lyr.length lc'))] w fun e w'=>e=.returned (.bool true)/\Below w.heap.size w w':=by
 obtain⟨i0,i1,kd,lg,dt,hs,gs,ar,orn,dy,ys,st,be⟩:=x;simp only[B7.cells]at *;have b0:=(qb w.heap.size w).alloc (qa _) (.cells #[Z i0,Z i1,Z kd,Z lg,Z dt,.slice ho hs.length hc,.slice go gs.length gc,Z ar,Z orn,Z dy,.slice lo ys.length lc,Z st,Z be] 31);have b00:=b0.alloc b0.size (.cells #[Z i0,Z i1,Z kd,Z lg,Z dt,.slice ho' hs.length hc',.slice go' gs.length gc',Z ar,Z orn,Z dy,.slice lo' ys.length lc',Z st,Z be] 31);have hs2:=YX ⟨i0,i1,kd,lg,dt,hs,gs,ar,orn,dy,ys,st,be⟩ ho go lo ho' go' lo' hc gc lc hc' gc' lc' _ n1 n2 n3 (h1.step b00) (h2.step b00) (h3.step b00) (h1'.step b00) (h2'.step b00) (h3'.step b00);simp only[B7.cells]at hs2;clear h1 h2 h3 h1' h2' h3' b0;go_enter Tryz.func12,Tryz.ntmps12;go_wp2_with(go_at_call 34;(with_reducible refine hs2.mono ?_));rintro e w3 ⟨rfl,b3⟩;go_wp2;go_ret;exact⟨rfl,b00.trans (b3.mono b00.size)⟩
structure aGV(x:B7)(hv gv lv:Value)(w:World):Prop where
 h:kY w 5 hv (x.heads.map gT.cells)
 g:kY w 5 gv (x.graces.map eG.cells)
 l:kY w 2 lv (x.lyr.map eY.cells)
theorem aGV.step{x:B7}{hv gv lv:Value}{w w':World}(h:aGV x hv gv lv w)(b:Below w.heap.size w w'):aGV x hv gv lv w':=⟨h.h.step b,h.g.step b,h.l.step b⟩
theorem kS.els{B:Nat}{x:B7}{hv gv lv:Value}{w:World}(h:kS B hv gv lv x.heads x.graces x.lyr w):aGV x hv gv lv w:=by
 refine⟨kY.of_own (T:=80) (by rw[qqc];exact h.oh) rfl fun r hr => ?_,kY.of_own (T:=77) (by rw[qqc];exact h.og) rfl fun r hr => ?_,kY.of_own (T:=147) (by rw[qqc];exact h.ol) rfl fun r hr => ?_⟩;all_goals
  obtain⟨y,_,rfl⟩:=List.mem_map.1 hr;exact⟨rfl,by simp[gT.cells,eG.cells,eY.cells,Value.oneCell']⟩
def dM(s s':aD):Prop:=∀p',s'=.ok p'->∃p,s=.ok p/\p<=p'
def i7(s s':aD):Prop:=∀p',s'=.ok p'->∃p,s=.ok p/\p<p'
theorem dM.refl(s:aD):dM s s:=fun p h=>⟨p,h,qa _⟩
theorem dM.trans{a b c:aD}(h:dM a b)(k:dM b c):dM a c:=fun p h'=>by
 obtain⟨q,h1,l1⟩:=k p h';obtain⟨r,h2,l2⟩:=h q h1;exact⟨r,h2,by omega⟩
theorem i7.back{a b:aD}(h:i7 a b):dM a b:=fun p h'=>by
 obtain⟨r,h2,l2⟩:=h p h';exact⟨r,h2,by omega⟩
theorem i7.trans{a b c:aD}(h:i7 a b)(k:dM b c):i7 a c:=fun p h'=>by
 obtain⟨q,h1,l1⟩:=k p h';obtain⟨r,h2,l2⟩:=h q h1;exact⟨r,h2,by omega⟩
theorem dM.transS{a b c:aD}(h:dM a b)(k:i7 b c):i7 a c:=fun p h'=>by
 obtain⟨q,h1,l1⟩:=k p h';obtain⟨r,h2,l2⟩:=h q h1;exact⟨r,h2,by omega⟩
theorem dS(s:aD)(k:Nat):dM s (s.next k):=fun p h=>by obtain⟨q,h1,h2⟩:=kQ h;exact⟨q,h1,by omega⟩
theorem eP(s:aD):i7 s (s.next 1):=fun p h=>by obtain⟨q,h1,h2⟩:=kQ h;exact⟨q,h1,by omega⟩
theorem fY(T:List aX)(x:ByteArray)(s:aD):i7 s (bY T x s):=fun _ h=>N9 h
theorem B4(T:List aX)(x:ByteArray)(s:aD):dM s (aY T x s):=fun _ h=>VR h
theorem fL(T:List aX)(c:Int)(s:aD):i7 s (cC T c s):=fun p h=>absurd h (lS T c s p)
theorem eE(T:List aX)(lo hi:Int)(s:aD):i7 s (bD T lo hi s).2:=fun _ h=>JF h
theorem L7(O:yB)(T:List aX)(s:aD):i7 s (dQ O T s).2:=by
 have key:i7 s (aY T ⟨#[126]⟩ (cD O T s).2):=i7.trans (b:=(cD O T s).2) (fun _ h=>uM h) (B4 _ _ _);unfold dQ;simp only;split
 ·exact key.trans (dS _ _)
 ·split
  ·exact key.trans (dS _ _)
  ·exact key
theorem WE(O:yB)(T:List aX)(q:Int)(s:aD):i7 s (dE O T q s).2:=by
 have key:i7 s (bY T ⟨#[58]⟩ (cD O T (aY T ⟨#[47]⟩ s)).2):=(B4 T ⟨#[47]⟩ s).transS (i7.trans (b:=(cD O T (aY T ⟨#[47]⟩ s)).2) (fun _ h=>uM h) (fY _ _ _).back);unfold dE;simp only;split
 ·exact key.trans (fL _ _ _).back
 ·split
  ·exact key.trans (fL _ _ _).back
  ·exact key.trans (dS _ _)
theorem L8{α:Type}{f:aD->α×aD}{T:List aX}(hf:∀s,i7 s (f s).2)(cl:ByteArray):∀(k:Nat)(s:aD),dM s (gC T f cl k s).2
 |0,s=>dM.refl s
 |k+1,s=>by
  rw[gC];split
  ·exact(hf s).back.trans (L8 hf cl k _)
  ·exact dM.refl s
theorem SW{α:Type}{f:aD->α×aD}{T:List aX}(hf:∀s,i7 s (f s).2)(cl:ByteArray)(s:aD):i7 s (tA T f cl s).2:=by
 unfold tA;exact((hf s).trans (L8 hf cl _ _)).trans (fY _ _ _).back
theorem aE1(O:yB)(T:List aX)(s:aD):dM s (mQ O T s).2:=by
 unfold mQ;split
 ·split
  ·exact(fL _ _ _).back
  ·exact dS _ _
 ·exact(fL _ _ _).back
theorem aE2(O:yB)(T:List aX)(kd:Int)(s:aD):dM s (KT O T kd s).2:=by
 unfold KT;split
 ·exact dM.refl s
 ·exact(fY _ _ _).back.trans (aE1 O T _)
theorem L9(T:List aX)(last:Int)(A:A5)(s:aD):dM s (aT T last A s).2.2:=fun p h=>by
 rw[vH]at h;simp only at h;obtain⟨q,h1,h2⟩:=PN h;unfold aD.orFail at h1;split at h1
 ·exact absurd h1 (lS T 13 _ q)
 ·exact⟨q,h1,by omega⟩
theorem yW(T:List aX):∀(k:Nat)(last:Int)(A:A5)(s:aD),dM s (dR T k last A s).2
 |0,_,_,s=>dM.refl s
 |k+1,last,A,s=>by
  rw[dR];split
  ·exact(L9 T last A s).trans (yW T k _ _ _)
  ·exact dM.refl s
theorem WG(T:List aX)(s:aD):dM s (rF T s).2:=by
 unfold rF;split
 ·unfold BN;exact(((dS _ _).trans (L9 T _ _ _)).trans (yW T _ _ _ _)).trans (fY _ _ _).back
 ·exact dM.refl s
theorem SX(T:List aX):∀(k:Nat)(s:aD),dM s (qD T k s).2
 |0,s=>dM.refl s
 |k+1,s=>by
  rw[qD];split
  ·rename_i hb;obtain⟨p,rfl⟩:=SD hb;refine dM.trans (b:=(iV T (.ok p)).2) (fun p' h=>⟨p,rfl,?_⟩) (SX T k _);have:=L0 hb h;omega
  ·exact dM.refl s
theorem SY(O:yB)(T:List aX)(q:Int)(s:aD):dM s (nT O T q s).2:=by
 unfold nT;split
 ·exact((dS _ _).trans (fY _ _ _).back).trans (SW (WE O T q) _ _).back
 ·exact dM.refl s
theorem aAR(O:yB)(T:List aX)(s:aD):i7 s (tP O T s).2:=by
 unfold tP;split
 ·exact eP s
 ·split
  ·exact eP s
  ·split
   ·exact eP s
   ·split
    ·exact(eP s).trans (SW (L7 O T) _ _).back
    ·exact L7 O T s
theorem bU{T:List aX}{s s':aD}(h:dM s s'):need T s'<=need T s:=by
 cases s' with
 |bad e l c=>exact ql _
 |ok p' =>
  obtain⟨p,rfl,l⟩:=h p' rfl;unfold need;simp only;omega
theorem eX{T:List aX}{s s':aD}(h:i7 s s')(hn:0<need T s):need T s'<need T s:=by
 cases s' with
 |bad e l c=>exact hn
 |ok p' =>
  obtain⟨p,rfl,l⟩:=h p' rfl;unfold need at hn⊢;simp only at hn⊢;omega
theorem eF{T:List aX}{x:ByteArray}{s:aD}(h:isS T x s=true):0<need T s:=by
 cases s with
 |bad e l c=>exact absurd h (by simp[isS,wX,aZ,cH])
 |ok p =>
  by_cases hp:p<T.length
  ·unfold need;simp only;omega
  ·exact absurd h (by simp[isS,wX,aZ,cH,List.getD,List.getElem?_eq_none (by omega:T.length<=p)])
theorem WH{T:List aX}{s:aD}(h:fV T s=true):0<need T s:=by
 cases s with
 |bad e l c=>exact absurd h (by simp[fV,aZ,cH])
 |ok p =>
  by_cases hp:p<T.length
  ·unfold need;simp only;omega
  ·exact absurd h (by simp[fV,aZ,cH,List.getD,List.getElem?_eq_none (by omega:T.length<=p)])
theorem ES{T:List aX}{s:aD}(h:mE T s=true):0<need T s:=by
 unfold mE at h;simp only[Bool.or_eq_true]at h;rcases h with h|h|h|h|h|h|h;all_goals first
  |exact eF h
  |exact WH h
theorem Tryz.infoevs:(Tryz.prog.info? 31).map (fun i=>(i.zero.map fun z=>z.cells.size,i.size,i.bytes))=some (some 13,13,152):=by kernel_rfl
theorem Tryz.infotups:(Tryz.prog.info? 100).map (fun i=>(i.zero.map fun z=>z.cells.size,i.size,i.bytes))=some (some 4,4,32):=by kernel_rfl
def jH.cells(t:jH):Array Value:=#[Z t.first,Z t.count,Z t.actual,Z t.normal]
def yF(B:Nat):List B7->List Value->World->Prop
 | [],cs,_=>cs=[]
 |x::xs,cs,w=>∃hv gv lv cs',cs=(x.cells hv gv lv).toList++cs'/\kS B hv gv lv x.heads x.graces x.lyr w/\yF B xs cs' w
theorem yF.step{B:Nat}:∀{xs:List B7}{cs:List Value}{w w':World},yF B xs cs w ->
  (∀k o (T:TypeId),w.heap[k]?=some (.cells o T (0,0))->T=80\/T=77\/T=147->B<=k->w'.heap[k]?=w.heap[k]?)->yF B xs cs w'
 | [],_,_,_,h,_=>h
 | _::_,_,_,_,⟨hv,gv,lv,cs',e,r,t⟩,hb=>⟨hv,gv,lv,cs',e,r.step hb,t.step hb⟩
theorem yF.snoc{B:Nat}{x:B7}{hv gv lv:Value}:∀{xs:List B7}{cs:List Value}{w:World},yF B xs cs w->kS B hv gv lv x.heads x.graces x.lyr w->yF B (xs++[x]) (cs++(x.cells hv gv lv).toList) w
 | [],cs,w,h,r=>by
  have h:cs=[]:=h;subst h;exact⟨hv,gv,lv,[],by simp,r,rfl⟩
 |y::ys,cs,w,⟨hv',gv',lv',cs',e,r',t⟩,r=>⟨hv',gv',lv',_,by rw[e,qqk],r',t.snoc r⟩
theorem kS.lo{B B':Nat}{hv gv lv:Value}{hs:List gT}{gs:List eG}{ys:List eY}{w:World}(h:kS B' hv gv lv hs gs ys w)(hB:B<=B'):kS B hv gv lv hs gs ys w :=
 ⟨oD h.oh hB,oD h.og hB,oD h.ol hB⟩
def aLG(t:TypeId):Prop:=t≠31/\t≠100/\t≠80/\t≠77/\t≠147
structure PG(V B:Nat)(ev tv:Value)(cs:List Value)(v:fG)(w:World):Prop where
 hV:w.heap[V]?=some (.cells #[ev,tv] 48 (0,0))
 oe:w.ownsRow B 31 13 ev v.evs.length cs
 ot:w.ownsRow B 100 4 tv v.tups.length (bT jH.cells v.tups)
 es:yF B v.evs cs w
 lV:V<B
 lB:B<=w.heap.size
section
variable{V B:Nat}{ev tv:Value}{cs:List Value}{v:fG}{w w':World}
theorem PG.away(h:PG V B ev tv cs v w){bs:List Nat}(a:aC bs w w')(hn:V∉bs)(hb:∀k∈bs,k<B\/∃(c:Array Value) (t:TypeId),w.heap[k]?=some (.cells c t (0,0))/\aLG t):PG V B ev tv cs v w':=by
 have key:∀(k:Nat)(c:Array Value)(t:TypeId),B<=k->w.heap[k]?=some (.cells c t (0,0))->¬aLG t->w'.heap[k]?=w.heap[k]?:=fun k c t hk hc ht=>a.block k (aA hc) fun hm=>by
  rcases hb k hm with h1 |⟨d,u,hd,hu⟩
  ·omega
  ·exact aS hc hd fun e=>ht (e▸hu)
 refine⟨a.at h.hV hn,aB h.oe fun k hk => ?_,aB h.ot fun k hk => ?_,h.es.step fun k o T ho hT hk=>key k o T hk ho fun⟨_,_,n1,n2,n3⟩ => ?_,h.lV,qx h.lB a.size⟩
 ·obtain⟨c,hc⟩:=bA h.oe hk;exact key k c _ (h.oe.lt k hk).1 hc fun n=>n.1 rfl
 ·obtain⟨c,hc⟩:=bA h.ot hk;exact key k c _ (h.ot.lt k hk).1 hc fun n=>n.2.1 rfl
 ·rcases hT with e|e|e
  ·exact n1 e
  ·exact n2 e
  ·exact n3 e
theorem PG.lt(h:PG V B ev tv cs v w):V<w.heap.size:=aA h.hV
theorem PG.cells(h:PG V B ev tv cs v w):w.cell? ⟨V,0,none⟩=some ev/\w.cell? ⟨V,1,none⟩=some tv/\∀i,w.frozen? ⟨V,i,none⟩=false:=by
 refine⟨?_,?_,fun i=>Lib.frozen_of_heap h.hV i⟩<;>(rw[Lib.cell_of_heap h.hV];rfl)
theorem PG.pushE(h:PG V B ev tv cs v w)(hg:w.grownBy w' ev.ownBlock){u:Value}{n:Nat}{x:B7}{hv gv lv:Value}(hn:n=v.evs.length+1)(ho:w'.ownsRow B 31 13 u n (cs++(x.cells hv gv lv).toList))(r:kS B hv gv lv x.heads x.graces x.lyr w) :
  PG V B u tv (cs++(x.cells hv gv lv).toList) ⟨v.evs++[x],v.tups⟩ (w'.setCell ⟨V,0,none⟩ u):=by
 have keep:∀(k:Nat)(o:Array Value)(t:TypeId),w.heap[k]?=some (.cells o t (0,0))->t≠31->w'.heap[k]?=w.heap[k]?:=fun k o t hk ht=>hg.block k (aA hk) fun e=>by
  obtain⟨c,hc⟩:=bA h.oe e.symm;exact aS hk hc ht
 have hV':=(keep V _ _ h.hV (by decide)).trans h.hV;have st:∀k,k≠V->(w'.setCell ⟨V,0,none⟩ u).heap[k]?=w'.heap[k]?:=fun k hk=>aH w' V 0 u k hk;have lV:=h.lV;refine⟨by rw[Lib.heap_setCell_same hV'];rfl,?_,?_,(h.es.snoc r).step fun k o T hk hT hB=>(st k (by omega)).trans (keep k o T hk (by rcases hT with e|e|e<;>rw[e]<;>decide)),h.lV,?_⟩
 ·rw[qf];subst hn;exact aB ho fun k hk=>st k (by have:=(ho.lt k hk).1;omega)
 ·refine aB h.ot fun k hk => ?_;obtain⟨c,hc⟩:=bA h.ot hk;exact(st k (by have:=(h.ot.lt k hk).1;omega)).trans (keep k c _ hc (by decide))
 ·have:=BG w' V 0 u;have:=hg.size;have:=h.lB;omega
theorem PG.pushT(h:PG V B ev tv cs v w)(hg:w.grownBy w' tv.ownBlock){u:Value}{n:Nat}{x:jH}(hn:n=v.tups.length+1)(ho:w'.ownsRow B 100 4 u n (bT jH.cells v.tups++x.cells.toList)) :
  PG V B ev u cs ⟨v.evs,v.tups++[x]⟩ (w'.setCell ⟨V,1,none⟩ u):=by
 have keep:∀(k:Nat)(o:Array Value)(t:TypeId),w.heap[k]?=some (.cells o t (0,0))->t≠100->w'.heap[k]?=w.heap[k]?:=fun k o t hk ht=>hg.block k (aA hk) fun e=>by
  obtain⟨c,hc⟩:=bA h.ot e.symm;exact aS hk hc ht
 have hV':=(keep V _ _ h.hV (by decide)).trans h.hV;have st:∀k,k≠V->(w'.setCell ⟨V,1,none⟩ u).heap[k]?=w'.heap[k]?:=fun k hk=>aH w' V 1 u k hk;have lV:=h.lV;refine⟨by rw[Lib.heap_setCell_same hV'];rfl,?_,?_,h.es.step fun k o T hk hT hB=>(st k (by omega)).trans (keep k o T hk (by rcases hT with e|e|e<;>rw[e]<;>decide)),h.lV,?_⟩
 ·refine aB h.oe fun k hk => ?_;obtain⟨c,hc⟩:=bA h.oe hk;exact(st k (by have:=(h.oe.lt k hk).1;omega)).trans (keep k c _ hc (by decide))
 ·rw[eV,qf];subst hn;exact aB ho fun k hk=>st k (by have:=(ho.lt k hk).1;omega)
 ·have:=BG w' V 1 u;have:=hg.size;have:=h.lB;omega
end
theorem J0(x:jH)(c:Int):∀(l:List jH)(i:Nat),l[i]?=some x->(bT jH.cells l).set (i*4+1) (Z c)=bT jH.cells (l.set i ⟨x.first,c,x.actual,x.normal⟩)
 | [],i,h=>by simp at h
 |y::l,0,h=>by
  simp only[List.getElem?_cons_zero,qv]at h;subst h;simp[bT,jH.cells]
 |y::l,i+1,h=>by
  have h:l[i]?=some x:=by simpa using h
  have ih:=J0 x c l i h;have e:bT jH.cells (y::l)=Z y.first::Z y.count::Z y.actual::Z y.normal::bT jH.cells l:=by simp[bT,jH.cells]
  rw[e,show(i+1)*4+1=i*4+1+1+1+1+1 by omega,List.set_cons_succ,List.set_cons_succ,List.set_cons_succ,List.set_cons_succ,ih];simp[bT,jH.cells]
theorem PG.setT{V B:Nat}{ev:Value}{cs:List Value}{v:fG}{w:World}{g:Nat}{n cap:Nat}(h:PG V B ev (.slice (some ⟨g,0,none⟩) n cap) cs v w){i:Nat}{x:jH}(hx:v.tups[i]?=some x)(c:Int) :
  PG V B ev (.slice (some ⟨g,0,none⟩) n cap) cs ⟨v.evs,v.tups.set i ⟨x.first,c,x.actual,x.normal⟩⟩ (w.setCell ⟨g,i*4+1,none⟩ (Z c)):=by
 have lV:=h.lV;have hi:i<v.tups.length:=(qy.1 hx).1;have hlo:=(h.ot.lt g rfl).1;obtain⟨hl,h0 |⟨g',cap',cur,e,hB,hg,hn,hm,hsz,htk⟩⟩:=h.ot
 ·exact absurd h0.1 (by intro e;cases e)
 injection e with e1 e2 e3;injection e1 with e1;injection e1 with e1 _ _;subst e1 e2 e3;have st:∀k,k≠g->(w.setCell ⟨g,i*4+1,none⟩ (Z c)).heap[k]?=w.heap[k]?:=fun k hk=>aH w g (i*4+1) _ k hk;have no:∀(k:Nat)(o:Array Value)(t:TypeId),w.heap[k]?=some (.cells o t (0,0))->t≠100->k≠g:=fun k o t hk ht e=>aS hk (e▸hg) ht;refine⟨(st V (by omega)).trans h.hV,aB h.oe fun k hk => ?_,⟨by rw[<-J0 x c _ _ hx,List.length_set,List.length_set];exact hl,.inr ⟨g,_,_,by simp only[List.length_set],hB,Lib.heap_setCell_same hg _,?_,hm,?_,?_⟩⟩,h.es.step fun k o T hk hT _=>st k (no k o T hk (by rcases hT with e|e|e<;>rw[e]<;>decide)),h.lV,?_⟩
 ·obtain⟨o,ho⟩:=bA h.oe hk;exact st k (no k o _ ho (by decide))
 ·simp only[List.length_set];exact hn
 ·rw[Array.size_setIfInBounds];exact hsz
 ·simp only[List.length_set,Array.toList_setIfInBounds];rw[List.take_set,htk,J0 x c _ _ hx]
 ·have:=BG w g (i*4+1) (Z c);have:=h.lB;omega
structure VS(bs:List Nat)(ev tv ev' tv':Value)(w w':World):Prop where
 aw:aC (bs++(ev.ownBlock.toList++tv.ownBlock.toList)) w w'
 he:∀k,ev'.ownBlock=some k->ev.ownBlock=some k\/w.heap.size<=k
 ht:∀k,tv'.ownBlock=some k->tv.ownBlock=some k\/w.heap.size<=k
section
variable{bs:List Nat}{ev tv ev' tv' ev'' tv'':Value}{w w' w'':World}
theorem VS.refl(bs:List Nat)(ev tv:Value)(w:World):VS bs ev tv ev tv w w:=⟨aC.refl _ _,fun _ h=>.inl h,fun _ h=>.inl h⟩
theorem VS.trans(h:VS bs ev tv ev' tv' w w')(k:VS bs ev' tv' ev'' tv'' w' w''):VS bs ev tv ev'' tv'' w w'':=by
 refine⟨⟨k.aw.os.trans h.aw.os,k.aw.tape.trans h.aw.tape,k.aw.output.trans h.aw.output,qx h.aw.size k.aw.size,fun i hi hb=>(k.aw.block i (qqa hi h.aw.size) fun hm=>hb ?_).trans (h.aw.block i hi hb)⟩,fun i hi => ?_,fun i hi => ?_⟩
 ·rcases List.mem_append.1 hm with hm|hm
  ·exact List.mem_append.2 (.inl hm)
  ·rcases List.mem_append.1 hm with hm|hm
   ·rw[Option.mem_toList]at hm;rcases h.he i hm with h1|h1
    ·exact List.mem_append.2 (.inr (List.mem_append.2 (.inl (by rw[Option.mem_toList];exact h1))))
    ·omega
   ·rw[Option.mem_toList]at hm;rcases h.ht i hm with h1|h1
    ·exact List.mem_append.2 (.inr (List.mem_append.2 (.inr (by rw[Option.mem_toList];exact h1))))
    ·omega
 ·have:=h.aw.size;rcases k.he i hi with h1|h1
  ·exact h.he i h1
  ·exact .inr (by omega)
 ·have:=h.aw.size;rcases k.ht i hi with h1|h1
  ·exact h.ht i h1
  ·exact .inr (by omega)
theorem VS.of_away(h:aC bs w w'):VS bs ev tv ev tv w w':=⟨h.more fun _k hk=>List.mem_append.2 (.inl hk),fun _ h=>.inl h,fun _ h=>.inl h⟩
theorem VS.of_below(h:Below w.heap.size w w'):VS bs ev tv ev tv w w':=VS.of_away (aC.of_below h)
theorem VS.growE(hg:w.grownBy w' ev.ownBlock){a:Addr}{n cap:Nat}(hk:ev.ownBlock=some a.block\/a.block=w.heap.size):VS bs ev tv (.slice (some a) n cap) tv w w':=by
 refine⟨⟨hg.os,hg.tape,hg.output,hg.size,fun k hk hb=>hg.block k hk fun e=>hb (by simp[<-e])⟩,fun k hk' => ?_,fun _ h=>.inl h⟩;simp only[Value.ownBlock,qv]at hk';subst hk';exact hk.imp id (fun e=>qj e.symm)
theorem VS.growT(hg:w.grownBy w' tv.ownBlock){a:Addr}{n cap:Nat}(hk:tv.ownBlock=some a.block\/a.block=w.heap.size):VS bs ev tv ev (.slice (some a) n cap) w w':=by
 refine⟨⟨hg.os,hg.tape,hg.output,hg.size,fun k hk hb=>hg.block k hk fun e=>hb (by simp[<-e])⟩,fun _ h=>.inl h,fun k hk' => ?_⟩;simp only[Value.ownBlock,qv]at hk';subst hk';exact hk.imp id (fun e=>qj e.symm)
theorem VS.set(k i:Nat)(u:Value)(hk:k∈bs):VS bs ev tv ev tv w (w.setCell ⟨k,i,none⟩ u):=VS.of_away ((aC.refl _ _).setCell (.inl hk) u)
theorem VS.setT{a:Addr}{n cap:Nat}(i:Nat)(u:Value):VS bs ev (.slice (some a) n cap) ev (.slice (some a) n cap) w (w.setCell ⟨a.block,i,none⟩ u) :=
 ⟨(aC.refl _ _).setCell (p:=⟨a.block,i,none⟩) (.inl (by simp[Value.ownBlock])) u,fun _ h=>.inl h,fun _ h=>.inl h⟩
end
def vC:List ByteArray:=[⟨#[64]⟩,⟨#[103,114,97,99,101]⟩,⟨#[60]⟩,⟨#[114]⟩,⟨#[82]⟩,⟨#[115]⟩]
def ZY:Array Value:=#[.string ⟨#[64]⟩,.string ⟨#[103,114,97,99,101]⟩,.string ⟨#[60]⟩,.string ⟨#[114]⟩,.string ⟨#[82]⟩,.string ⟨#[115]⟩]
theorem VB(T:List aX)(s:aD):mE T s=(vC.any (fun x=>isS T x s) || fV T s):=by
 simp[mE,vC,Bool.or_assoc]
theorem aGC{w:World}{g:Nat}(h:w.heap[g]?=some (.cells ZY 9 (0,0)))(k:Nat)(hk:k<6):w.cell? ⟨g,k,none⟩=some (.string (vC.getD k ByteArray.empty)):=by
 rw[Lib.cell_of_heap h];rcases(by omega:k=0\/k=1\/k=2\/k=3\/k=4\/k=5)with rfl|rfl|rfl|rfl|rfl|rfl<;>rfl
theorem aJL{T:List aX}{s:aD}{k:Nat}(hk:k<6)(h:isS T (vC.getD k ByteArray.empty) s=true):vC.any (fun x=>isS T x s)=true:=by
 rw[List.any_eq_true];refine⟨_,?_,h⟩;rcases(by omega:k=0\/k=1\/k=2\/k=3\/k=4\/k=5)with rfl|rfl|rfl|rfl|rfl|rfl<;>simp[vC]
theorem aJM{T:List aX}{s:aD}(h:∀j,j<6->isS T (vC.getD j ByteArray.empty) s=false):vC.any (fun x=>isS T x s)=false:=by
 have h0:=h 0 (by omega);have h1:=h 1 (by omega);have h2:=h 2 (by omega);have h3:=h 3 (by omega);have h4:=h 4 (by omega);have h5:=h 5 (by omega);simp only[vC,List.getD_cons_zero,List.getD_cons_succ]at h0 h1 h2 h3 h4 h5;simp only[vC,List.any_cons,List.any_nil,h0,h1,h2,h3,h4,h5];rfl
section
variable{T:List aX}{Y M:Nat}{free:Fr}{st:aD}{w:World}
theorem aJN(h:PS T Y M free st w){g:Nat}(hg:w.heap[g]?=some (.cells ZY 9 (0,0))) :
  Calls Tryz.prog 152 #[.slice (some ⟨g,0,none⟩) 6 6,.func (.func 76) #[.pointer (some ⟨Y,0,none⟩)] #[]] w fun r w' =>
   (∃i:Int,r=.returned (Z i)/\decide (0<=i)=vC.any (fun x=>isS T x st))/\Below w.heap.size w w':=by
 have lg:=aA hg;go_enter Tryz.func152,Tryz.ntmps152;go_wp2
 go_loopg [8] (6:Nat) (fun gq s8 wr=>∃k:Nat,k<=6/\gq=6-k/\s8=Z (k:Nat)/\(∀j,j<k->isS T (vC.getD j ByteArray.empty) st=false)/\Below w.heap.size w wr)
 case atStart=>exact⟨0,ql _,rfl,rfl,fun j hj=>absurd hj (Nat.not_lt_zero j),qb _ _⟩
 case round =>
  obtain⟨k,hk,hgq,rfl,hno,hb⟩:=hrel;by_cases hlt:k<6
  ·have hlt':(k:Int)<6:=by omega
   have hk0:(0:Int)<=(k:Int):=by omega
   have hS:=h.step hb;have ck:=aGC ((hb.block g lg).trans hg) k hlt;have xi:=KY hS (vC.getD k ByteArray.empty);obtain⟨b,hbv⟩:∃b,isS T (vC.getD k ByteArray.empty) st=b:=⟨_,rfl⟩;rw[hbv]at xi;have HB:=aJ hbv;have HN:=aJ hno;clear hbv hno hS h;generalize vC.getD k ByteArray.empty=x at ck xi;have m1:IntKind.i64.wrap ((k:Int)+1)=(k:Int)+1:=IntWalk.i64_in _ (by omega);cases b with
   |true =>
    go_wp2_with(go_at_call 76;(with_reducible refine xi.mono ?_));rintro rr w1 ⟨rfl,b1⟩;go_wp2;go_ret;exact⟨⟨(k:Int),rfl,by rw[aJL hlt HB.out];simp⟩,hb.trans (b1.mono hb.size)⟩
   |false =>
    go_wp2_with(go_at_call 76;(with_reducible refine xi.mono ?_));rintro rr w1 ⟨rfl,b1⟩;go_wp2;go_roundg (6-(k+1));case measure=>omega
    case rel =>
     refine⟨k+1,by omega,rfl,by simp,fun j hj => ?_,hb.trans (b1.mono hb.size)⟩;by_cases e:j=k
     ·rw[e];exact HB.out
     ·exact HN.out j (by omega)
  ·have:k=6:=by omega
   subst this;have ha:=aJM hno;go_wp2;go_ret;exact⟨⟨-1,rfl,by rw[ha];rfl⟩,hb⟩
theorem ZZ(h:PS T Y M free st w){g:Nat}(hg:w.heap[g]?=some (.cells ZY 9 (0,0))) :
  Calls Tryz.prog 115 #[.slice (some ⟨g,0,none⟩) 6 6,.func (.func 76) #[.pointer (some ⟨Y,0,none⟩)] #[]] w fun r w' =>
   r=.returned (.bool (vC.any (fun x=>isS T x st)))/\Below w.heap.size w w':=by
 have xi:=aJN h hg;generalize vC.any (fun x=>isS T x st)=b at xi⊢;go_enter Tryz.func115,Tryz.ntmps115;go_wp2_with(go_at_call 152;(with_reducible refine xi.mono ?_));rintro rr w1 ⟨⟨i,rfl,hi⟩,b1⟩;go_wp2;go_ret;subst hi;exact⟨rfl,b1⟩
theorem Z0(h:PS T Y M free st w):Calls Tryz.prog 78 #[.pointer (some ⟨Y,0,none⟩)] w fun r w'=>r=.returned (.bool (mE T st))/\Below w.heap.size w w':=by
 rw[VB];have hr:=qd w (.cells ZY 9);have ba:=(qb w.heap.size w).alloc (qa _) (.cells ZY 9);have xc:=ZZ (h.step ba) hr;have hps:=fun w' (b:Below w.heap.size w w')=>h.step b;have xq:=fun w' (b:Below w.heap.size w w')=>LP (hps w' b);generalize vC.any (fun x=>isS T x st)=b1 at xc⊢;generalize fV T st=b2 at xq⊢;unfold ZY at xc ba;clear h hr hps;go_enter Tryz.func78,Tryz.ntmps78;cases b1 with
 |true =>
  go_wp2_with(go_at_call 115;(with_reducible refine xc.mono ?_));rintro rr w1 ⟨rfl,b1⟩;go_wp2;go_ret;exact⟨rfl,ba.trans (b1.mono ba.size)⟩
 |false =>
  go_wp2_with(go_at_call 115;(with_reducible refine xc.mono ?_));rintro rr w1 ⟨rfl,b1⟩;have bb:=ba.trans (b1.mono ba.size);have xq1:=xq _ bb;go_wp2_with(go_at_call 116;(with_reducible refine xq1.mono ?_));rintro rr w2 ⟨rfl,b2⟩;go_wp2;go_ret;exact⟨rfl,bb.trans (b2.mono bb.size)⟩
end
theorem mF.row{W0 w w':World}{bs:List Nat}(h:mF W0 bs w){cs:List Nat}(a:aC cs w w')(hc:∀k∈cs,W0.heap.size<=k):mF W0 bs w' :=
 ⟨h.gl,((⟨h.gl,h.bel,hc⟩:mF W0 cs w).away a).bel,h.hs⟩
section
variable{W0:World}{T:List aX}{Y M V B:Nat}{ev tv ev' tv':Value}{cs cs':List Value}{v v':fG}{st st':aD}{w w':World}
end
end Go.Proofs.YtgkhemnmcgicnaaGreatDoor
