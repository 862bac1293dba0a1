/- Towards the law ParserBlanks, true for every text and all blanks (no condition): one part of the proof. -/
import Derived.Test.YtgkhemnmcgicnaaGreatDoorG01
import Derived.Test.YtgkhemnmcgicnaaGreatDoorG19
import Derived.Laws.Rows
import Derived.Test.YtgkhemnmcgicnaaGreatDoorG16
import Derived.Laws.Tables
import Derived.MapKept
import Derived.Deep.QuietTactic
import Derived.BigQuiet
namespace Go.Proofs.YtgkhemnmcgicnaaGreatDoor
set_option maxHeartbeats 16000000
set_option maxRecDepth 100000
open Go.RowKit
section
variable{B X:Nat}{ks:List (Nat×Obj)}{s:ByteArray}{lines:Value}{pos:Int}{lv:Value}{n:Nat}{xs:List Value}{e wr:Int}{w0 w:World}
theorem jW.more{LN:Value}{ls:List Int}{ks:List (Nat×Obj)}{p:Nat×Obj}(h:jW LN ls ks):jW LN ls (p::ks):=by
 obtain⟨L,cap,cs,h1,h2,h3⟩:=h;exact⟨L,cap,cs,h1,qqz _ h2,h3⟩
theorem iQ.more(h:iQ B X ks s lines pos lv n xs e wr w0 w){k:Nat}{o:Obj}(hk:w.heap[k]?=some o)(hX:k≠X)(hB:B<=k)(ho:∀cs fr,o≠.cells cs 59 fr):iQ B X ((k,o)::ks) s lines pos lv n xs e wr w0 w :=
 ⟨h.hX,h.hB,h.blk,h.own,fun p hp=>by
  rcases qqt.1 hp with rfl|hp
  ·exact⟨hk,hX,hB,ho⟩
  ·exact h.keep p hp,h.below⟩
theorem iQ.less{p:Nat×Obj}(h:iQ B X (p::ks) s lines pos lv n xs e wr w0 w):iQ B X ks s lines pos lv n xs e wr w0 w :=
 ⟨h.hX,h.hB,h.blk,h.own,fun q hq=>h.keep q (qqz _ hq),h.below⟩
end
theorem iQ.box{B X:Nat}{ks:List (Nat×Obj)}{s:ByteArray}{lines:Value}{pos:Int}{lv:Value}{n:Nat}{xs:List Value}{e wr:Int}{w0 w:World}(h:iQ B X ks s lines pos lv n xs e wr w0 w){k:Nat}{v:Value}{T:TypeId}(hk:(k,Obj.cells #[v] T (0,0))∈ks):w.cell? ⟨k,0,none⟩=some v:=by
 rw[Lib.cell_of_heap (h.keep _ hk).1];rfl
inductive aKW(ls:List Int)(B X:Nat)(ks:List (Nat×Obj))(s:ByteArray)(lines:Value)(wr:Int)(w0:World)(N:Nat)(all:List Value)(out:Option (Nat×Int))(g:Nat)(w:World):Prop
 |on (a n:Nat) (toks:List aX) (lv:Value) (xs:List Value) (h:Lx ls s a n toks out) (hS:iQ B X ks s lines a lv n xs 0 wr w0 w) (hN:n+toks.length=N) (hall:xs++cellsOf toks=all) (hg:toks.length<g)
 |failed (b n:Nat) (e:Int) (he:e≠0) (pos:Nat) (lv:Value) (xs:List Value) (hout:out=some (b,e)) (hS:iQ B X ks s lines pos lv n xs e b w0 w)
def aG2(B X:Nat)(ks:List (Nat×Obj))(s:ByteArray)(lines:Value)(wr:Int)(w0:World)(N:Nat)(all:List Value)(out:Option (Nat×Int))(w:World):Prop :=
 (out=none/\∃(pos:Nat)(lv:Value),iQ B X ks s lines pos lv N all 0 wr w0 w) \/
 (∃(b pos n:Nat)(e:Int)(lv:Value)(xs:List Value),e≠0/\out=some (b,e)/\iQ B X ks s lines pos lv n xs e b w0 w)
section
variable{LN:Value}{ls:List Int}{B X:Nat}{ks:List (Nat×Obj)}{s:ByteArray}{lv:Value}{n a:Nat}{xs:List Value}{wz:Int}{w0 w:World}{toks:List aX}{out:Option (Nat×Int)}
theorem Y6(hx:Lx ls s a n toks out)(h:iQ B X ks s LN a lv n xs 0 wz w0 w)(hL:jW LN ls ks)(gL:rY ls)(hsz:s.size<=100000)(hn:n+toks.length<=262143) :
  Calls Tryz.prog 41 #[.pointer (some ⟨X,0,none⟩)] w fun r w'=>r=.returned (.tuple #[])/\aG2 B X ks s LN wz w0 (n+toks.length) (xs++cellsOf toks) out w':=by
 have hlt:=h.lt;have hBw:=h.hB;have hW:iQ B X ((w.heap.size+1,gE)::(w.heap.size,.cells #[.pointer (some ⟨X,0,none⟩)] 105 (0,0))::ks) s LN a lv n xs 0 wz w0 ((w.alloc (.cells #[.pointer (some ⟨X,0,none⟩)] 105)).alloc gE):=by
  refine iQ.more (iQ.more (h.step (((qb _ w).alloc (qa _) _).alloc (by simp) _)) ?_ (by omega) hBw (by intro cs fr hc;injection hc with _ h2 _;exact absurd h2 (by decide))) ?_ (by omega) (by omega) (by intro cs fr hc;injection hc with _ h2 _;exact absurd h2 (by decide))
  ·exact(Lib.alloc_old _ _ _ (by simp)).trans (qd w _)
  ·have:=qd (w.alloc (.cells #[.pointer (some ⟨X,0,none⟩)] 105)) gE;simpa using this
 generalize hBx:w.heap.size=Bx at hW hlt hBw;go_enter Tryz.func41,Tryz.ntmps41;go_wp2;generalize hV:((w.alloc (.cells #[.pointer (some ⟨X,0,none⟩)] 105)).alloc (.cells #[.func (.func 81) #[] #[],.func (.func 82) #[] #[],.func (.func 83) #[] #[],.func (.func 84) #[] #[]] 153))=V;have hW':iQ B X ((Bx+1,gE)::(Bx,.cells #[.pointer (some ⟨X,0,none⟩)] 105 (0,0))::ks) s LN a lv n xs 0 wz w0 V:=by rw[<-hV];exact hW
 clear hW hV h hlt hBw hBx
 go_loopg [3] (toks.length+1) (fun g v wr'=>aKW ls B X ((Bx+1,gE)::(Bx,.cells #[.pointer (some ⟨X,0,none⟩)] 105 (0,0))::ks) s LN wz w0 (n+toks.length) (xs++cellsOf toks) out g wr')
 case atStart=>exact .on a n toks lv xs hx hW' rfl rfl (by omega)
 case round =>
  clear hW' hx;cases hrel with
  |failed b n' e he pos lv' xs' hout hS =>
   have d4:=hS.c4;have k1:wr.cell? ⟨Bx,0,none⟩=some (.pointer (some ⟨X,0,none⟩)):=hS.box (T:=105) (by simp);have hfin:aG2 B X ks s LN wz w0 (n+toks.length) (xs++cellsOf toks) out wr:=.inr ⟨b,pos,n',e,lv',xs',he,hout,hS.less.less⟩;clear hS;go_wp2
   go_end0
   exact⟨rfl,hfin⟩
  |on a n' toks' lv' xs' hx' hS hN hall hg =>
   have d4:=hS.c4;have k1:wr.cell? ⟨Bx,0,none⟩=some (.pointer (some ⟨X,0,none⟩)):=hS.box (T:=105) (by simp);rcases aFS gL hx' hsz (by omega)with⟨b,hu,hb,htoks,hout⟩ |⟨b,p,hu,hb,hp,hstep⟩ |⟨b,hu,hb,rfl,hout,hstep⟩
   ·have hsk:=JW hS (by omega) b hu;clear hS;go_wp2_with(go_at_call 85;refine hsk.mono ?_);rintro e w2 ⟨rfl,hS2⟩;have k2:w2.cell? ⟨Bx,0,none⟩=some (.pointer (some ⟨X,0,none⟩)):=hS2.box (T:=105) (by simp);clear d4 k1;subst hb;go_wp2;have hj3:(w2.alloc (.cells #[.bool (!decide (a<s.size))] 4)).cell? ⟨w2.heap.size,0,none⟩=some (.bool (!decide (a<s.size))):=by rw[Lib.cell_of_heap (qd w2 _)];rfl
    have hS3:=hS2.step ((qb _ w2).alloc (qa _) (.cells #[.bool (!decide (a<s.size))] 4));generalize hV3:w2.alloc (.cells #[.bool (!decide (a<s.size))] 4)=V3 at hS3 hj3⊢;generalize w2.heap.size=Bj at hj3⊢;clear hV3 hS2 k2;have k3:V3.cell? ⟨Bx,0,none⟩=some (.pointer (some ⟨X,0,none⟩)):=hS3.box (T:=105) (by simp);have c30:=hS3.c0;have c31:=hS3.c1
    go_quiet (fail)
    have hS4:=hS3.step (cJ (qb _ V3) nq);have j4:(V3.drewN nq).cell? ⟨Bj,0,none⟩=some (.bool (!decide (a<s.size))):=hj3;generalize V3.drewN nq=V4 at hS4 j4⊢;have k4:V4.cell? ⟨Bx,0,none⟩=some (.pointer (some ⟨X,0,none⟩)):=hS4.box (T:=105) (by simp);have c41:=hS4.c1;clear hS3 hj3 k3 c30 c31;go_wp2
    go_still_tail 7,(by kernel_rfl)
    change wpList _ _ _ _ _ V4.drew;have hS5:=hS4.step ((qb _ V4).drew);generalize V4.drew=V5 at hS5⊢;clear k4 c41 j4 hS4;have hadd:=tL hS5 hL.more.more gL (by omega) (by omega) s.size (qa _) (qa _) 0 0 ByteArray.empty (!decide (a<s.size));go_wp2_with(go_at_call 86;refine hadd.mono ?_);rintro e w6 ⟨rfl,lv6,hS6⟩;go_wp2;refine qg (results_none rfl _ _ _) rfl ?_;refine⟨rfl,.inl ⟨hout,s.size,lv6,?_⟩⟩;subst htoks;have e1:n+toks.length=n'+1:=by rw[<-hN];rfl
    rw[e1,<-hall];simpa [cellsOf]using hS6.less.less
   ·have hj:p<4:=hp;have hsk:=JW hS (by omega) b hu;clear hS;go_wp2_with(go_at_call 85;refine hsk.mono ?_);rintro e w2 ⟨rfl,hS2⟩;have k2:w2.cell? ⟨Bx,0,none⟩=some (.pointer (some ⟨X,0,none⟩)):=hS2.box (T:=105) (by simp);clear d4 k1;go_wp2;have hj3:(w2.alloc (.cells #[.bool (!decide (a<b))] 4)).cell? ⟨w2.heap.size,0,none⟩=some (.bool (!decide (a<b))):=by rw[Lib.cell_of_heap (qd w2 _)];rfl
    have hS3:=hS2.step ((qb _ w2).alloc (qa _) (.cells #[.bool (!decide (a<b))] 4));generalize hV3:w2.alloc (.cells #[.bool (!decide (a<b))] 4)=V3 at hS3 hj3⊢;generalize w2.heap.size=Bj at hj3⊢;clear hV3 hS2 k2;have k3:V3.cell? ⟨Bx,0,none⟩=some (.pointer (some ⟨X,0,none⟩)):=hS3.box (T:=105) (by simp);have c30:=hS3.c0;have c31:=hS3.c1;have hne:¬((b:Int)=(s.size:Int)):=by omega
    go_quiet (fail)
    have hS4:=hS3.step (cJ (qb _ V3) nq);have j4:(V3.drewN nq).cell? ⟨Bj,0,none⟩=some (.bool (!decide (a<b))):=hj3;generalize V3.drewN nq=V4 at hS4 j4⊢;have k4:V4.cell? ⟨Bx,0,none⟩=some (.pointer (some ⟨X,0,none⟩)):=hS4.box (T:=105) (by simp);obtain⟨ao,cp,rfl⟩:=hS4.lvIs;have c43:=hS4.c3;have hne2:¬((n':Int)=262144):=by omega
    obtain⟨hmiss,hhit⟩:=hstep B X _ _ _ _ wz w0 _ hL.more.more hS4;have hK:V4.heap[Bx+1]?=some gE:=(hS4.keep (Bx+1,gE) (by simp)).1;have htk:=UM p hp hK k4 j4 hmiss hhit;clear hS3 hj3 k3 c30 c31 hmiss hhit hsk hS4 hstep;go_wp2_with(go_at_call 88;refine htk.mono ?_);rintro e w6 ⟨rfl,hA⟩;go_wp2;rcases hA with⟨t,tk,lv2,c,rfl,hx2,hS2⟩ |⟨b',pos',n2,e',lv2,xs2,rfl,hout,he',hS2⟩
    ·go_roundg (gk-1);case measure=>simp only[qk]at hg;omega
     case rel =>
      refine .on c (n'+1) tk lv2 _ hx2 hS2 ?_ ?_ ?_
      ·rw[<-hN];simp only[qk];omega
      ·rw[<-hall];simp[cellsOf]
      ·simp only[qk]at hg;omega
    ·go_roundg 0;case measure=>simp only[qql]at hg;omega
     case rel=>exact .failed b' n2 e' he' pos' _ _ hout hS2
   ·have hsk:=JW hS (by omega) b hu;clear hS;go_wp2_with(go_at_call 85;refine hsk.mono ?_);rintro e w2 ⟨rfl,hS2⟩;have k2:w2.cell? ⟨Bx,0,none⟩=some (.pointer (some ⟨X,0,none⟩)):=hS2.box (T:=105) (by simp);clear d4 k1;go_wp2;have hj3:(w2.alloc (.cells #[.bool (!decide (a<b))] 4)).cell? ⟨w2.heap.size,0,none⟩=some (.bool (!decide (a<b))):=by rw[Lib.cell_of_heap (qd w2 _)];rfl
    have hS3:=hS2.step ((qb _ w2).alloc (qa _) (.cells #[.bool (!decide (a<b))] 4));generalize hV3:w2.alloc (.cells #[.bool (!decide (a<b))] 4)=V3 at hS3 hj3⊢;generalize w2.heap.size=Bj at hj3⊢;clear hV3 hS2 k2;have k3:V3.cell? ⟨Bx,0,none⟩=some (.pointer (some ⟨X,0,none⟩)):=hS3.box (T:=105) (by simp);have c30:=hS3.c0;have c31:=hS3.c1;have hne:¬((b:Int)=(s.size:Int)):=by omega
    go_quiet (fail)
    have hS4:=hS3.step (cJ (qb _ V3) nq);have j4:(V3.drewN nq).cell? ⟨Bj,0,none⟩=some (.bool (!decide (a<b))):=hj3;generalize V3.drewN nq=V4 at hS4 j4⊢;have k4:V4.cell? ⟨Bx,0,none⟩=some (.pointer (some ⟨X,0,none⟩)):=hS4.box (T:=105) (by simp);obtain⟨ao,cp,rfl⟩:=hS4.lvIs;have c43:=hS4.c3;have hne2:¬((n':Int)=262144):=by omega
    have hmiss:=hstep B X _ _ _ _ wz w0 _ hL.more.more hS4;have hK:V4.heap[Bx+1]?=some gE:=(hS4.keep (Bx+1,gE) (by simp)).1;have htk:=UU hK k4 j4 hmiss;have hst4:=fun w' (b:Below V4.heap.size V4 w')=>hS4.step b;clear hS3 hj3 k3 c30 c31 hmiss hsk hS4 hstep;go_wp2_with(go_at_call 88;refine htk.mono ?_);rintro e w6 ⟨rfl,b6⟩;have hS6:=hst4 _ b6;have k6:w6.cell? ⟨Bx,0,none⟩=some (.pointer (some ⟨X,0,none⟩)):=hS6.box (T:=105) (by simp);have c61:=hS6.c1;clear hst4 htk k4 j4 c43;go_wp2
    go_still_tail 5,(by kernel_rfl)
    change wpList _ _ _ _ _ w6.drew;have hS7:=hS6.step ((qb _ w6).drew);generalize w6.drew=V7 at hS7⊢;have hfl:=oM hS7 b 6;clear hS6 k6 c61;go_wp2_with(go_at_call 87;refine hfl.mono ?_);rintro e w8 ⟨rfl,hS8⟩;go_wp2;go_roundg 0;case measure=>simp only[qql]at hg;omega
    case rel=>exact .failed b n' 6 (by decide) b _ _ hout hS8
end
def dB(s:ByteArray):Nat->List Int
 |0=>[0]
 |k+1=>dB s k++(if s.data.toList[k]?=some 10 then [(k:Int)+1]else [])
theorem nN(s:ByteArray)(k:Nat):dB s (k+1)=dB s k++(if s.data.toList[k]?=some 10 then [(k:Int)+1]else []):=rfl
theorem D6(s:ByteArray)(k:Nat):(dB s k).length<=k+1:=by
 induction k with
 |zero=>simp[dB]
 |succ k ih =>
  rw[nN,qf];split<;>simp<;>omega
theorem wR(s:ByteArray)(k:Nat):0<(dB s k).length/\(dB s k).getD 0 0=0:=by
 induction k with
 |zero=>simp[dB]
 |succ k ih =>
  rw[nN];obtain⟨h,e⟩:=ih;refine⟨by rw[qf];omega,?_⟩;rw[List.getD,List.getElem?_append_left h];exact e
theorem wS(s:ByteArray)(k:Nat):∀x∈dB s k,0<=x/\x<=(k:Int):=by
 induction k with
 |zero=>intro x hx;simp[dB]at hx;omega
 |succ k ih =>
  intro x hx;rw[nN,List.mem_append]at hx;rcases hx with hx|hx
  ·have:=ih x hx;omega
  ·split at hx
   ·simp at hx;omega
   ·cases hx
theorem G5(s:ByteArray)(k:Nat):(dB s k).Pairwise (·<=·):=by
 induction k with
 |zero=>simp[dB]
 |succ k ih =>
  rw[nN];split
  ·rw[List.pairwise_append];refine⟨ih,by simp,fun x hx y hy => ?_⟩;have:=(wS s k x hx).2;simp at hy;omega
  ·simpa using ih
theorem KP(s:ByteArray)(h:s.size<=1048576):rY (dB s s.size):=by
 refine⟨wR s _,G5 _ _,fun x hx=>(wS _ _ x hx).1,fun x hx => ?_,?_⟩
 ·have:=(wS _ _ x hx).2;omega
 ·have:=D6 s s.size;omega
def aFU(L:List Int)(toks:List aX)(out:Option (Nat×Int))(w:World)(r:Ending)(w':World):Prop :=
 Below w.heap.size w w' /\
 ((out=none/\∃lv,r=.returned (.tuple #[lv,Z 0,Z 0,Z 0])/\w'.ownsRow w.heap.size 59 7 lv toks.length (cellsOf toks)) \/
  (∃(b:Nat)(e:Int),e≠0/\out=some (b,e)/\r=.returned (.tuple #[.slice none 0 0,Z (vE L b),Z (vF L b),Z e])))
theorem BK{fn:Func}{t u v x:Tmp}(h:fn.results=#[.tmp t,.tmp u,.tmp v,.tmp x])(tmps:Array Value)(P:Program)(w:World) :
  (results fn tmps).run P w=.ok (.tuple #[tmps.getD t undef,tmps.getD u undef,tmps.getD v undef,tmps.getD x undef]) w:=by
 simp[results,h]
theorem Tryz.infoInt:(Tryz.prog.info? 3).map (fun i=>(i.zero,i.size,i.bytes))=some (some (Z 0),1,8):=by kernel_rfl
structure aB8(B X:Nat)(s:ByteArray)(lv:Value)(ls:List Int)(w0 w:World):Prop where
 hX:w.heap[X]?=some (.cells #[.string s,Z 0,lv,.slice none 0 0,Z 0,Z 0] 108 (0,0))
 own:w.ownsRow B 3 1 lv ls.length (ls.map fun x=>Z x)
 bel:Below B w0 w
 hBX:B<=X
 hB:B<=w.heap.size
theorem aB8.push{B X:Nat}{s:ByteArray}{lv:Value}{ls:List Int}{w0 w w':World}(h:aB8 B X s lv ls w0 w){g cap:Nat}{x:Int}(hg:(w.alloc (.cells #[Z x] 3)).grownBy w' lv.ownBlock)
  (hown:w'.ownsRow B 3 1 (.slice (some ⟨g,0,none⟩) (ls.length+1) cap) (ls.length+1) ((ls.map fun x=>Z x)++[Z x])) :
  aB8 B X s (.slice (some ⟨g,0,none⟩) (ls.length+1) cap) (ls++[x]) w0 (w'.setCell ⟨X,2,none⟩ (.slice (some ⟨g,0,none⟩) (ls.length+1) cap))/\w'.heap[X]?=some (.cells #[.string s,Z 0,lv,.slice none 0 0,Z 0,Z 0] 108 (0,0)):=by
 have lX:X<w.heap.size:=(qe.1 h.hX).1;have hne:lv.ownBlock≠some X:=kE h.own h.hX (by intro cs fr hc;injection hc with _ h2 _;exact absurd h2 (by decide));have hX':w'.heap[X]?=some (.cells #[.string s,Z 0,lv,.slice none 0 0,Z 0,Z 0] 108 (0,0)):=(hg.block X (by simp;omega) (fun e=>hne e.symm)).trans ((Lib.alloc_old w _ X lX).trans h.hX);have hn2:(Value.slice (some ⟨g,0,none⟩) (ls.length+1) cap).ownBlock≠some X:=kE hown hX' (by intro cs fr hc;injection hc with _ h2 _;exact absurd h2 (by decide));have hbel:Below B w0 w':=(h.bel.alloc h.hB _).grown hg (by have:=h.hB;simp;omega) (fun k hk=>(h.own.lt k hk).1);refine⟨⟨?_,?_,hbel.setCell (p:=⟨X,2,none⟩) h.hBX _,h.hBX,?_⟩,hX'⟩
 ·rw[Lib.heap_setCell_same hX'];rfl
 ·have:=aB hown fun k hk=>qh w' ⟨X,2,none⟩ (.slice (some ⟨g,0,none⟩) (ls.length+1) cap) k (fun e=>hn2 (by rw[hk,e]));simpa using this
 ·have h1:=h.hB;have h2:=hg.size;simp[World.setCell]at *;omega
theorem XK{s:ByteArray}{toks:List aX}{out:Option (Nat×Int)}(hx:Lx (dB s s.size) s 0 0 toks out)(hsz:s.size<=100000)(hlong:∀b e,out=some (b,e)->b<=1048576)(hn:toks.length<=262143)(w:World) :
  Calls Tryz.prog 16 #[.string s] w (aFU (dB s s.size) toks out w):=by
 have gL:=KP s (by omega);have h0:aB8 w.heap.size (w.heap.size+1) s (.slice (some ⟨w.heap.size,0,none⟩) 1 1) (dB s 0) w ((w.alloc (.cells #[Z 0] 3)).alloc (.cells #[.string s,Z 0,.slice (some ⟨w.heap.size,0,none⟩) 1 1,.slice none 0 0,Z 0,Z 0] 108)):=by
  refine⟨?_,?_,((qb _ w).alloc (qa _) _).alloc (by simp) _,by omega,by simp;omega⟩
  ·have:=qd (w.alloc (.cells #[Z 0] 3)) (.cells #[.string s,Z 0,.slice (some ⟨w.heap.size,0,none⟩) 1 1,.slice none 0 0,Z 0,Z 0] 108);simpa using this
  ·exact(World.ownsRow_lit w #[Z 0] 1 (qa _) (by decide) rfl).alloc _
 have hs1:¬(1048576:Int)<s.size:=by omega
 obtain⟨i0,hi0,hz0,hz1,hz2⟩:=info_parts Tryz.infoInt;generalize hL:w.heap.size=L at h0;go_enter Tryz.func16,Tryz.ntmps16;go_wp2;generalize hV:((w.alloc (.cells #[Z 0] 3)).alloc (.cells #[.string s,Z 0,.slice (some ⟨L,0,none⟩) 1 1,.slice none 0 0,Z 0,Z 0] 108))=V at h0⊢;clear hV
 go_loopg [17] (s.size+1) (fun g v wr=>∃(k:Nat)(lv:Value),k<=s.size/\g=s.size+1-k/\v=Z (k:Nat)/\aB8 L (L+1) s lv (dB s k) w wr)
 case atStart=>exact⟨0,_,ql _,rfl,rfl,h0⟩
 case round =>
  clear h0;obtain⟨k,lv,hk,hg,rfl,h1⟩:=hrel;have hll:=D6 s k;by_cases hlt:k<s.size
  ·have hlt':(k:Int)<s.size:=by omega
   have hk0:(0:Int)<=(k:Int):=by omega
   have hw2:IntKind.i64.wrap ((k:Int)+1)=(k:Int)+1:=IntWalk.i64_in _ (by omega);have hsucc:=nN s k;rw[qC k hlt]at hsucc;by_cases hnl:((s[k].toNat:Nat):Int)=10
   ·have h10:s[k]=10:=UInt8.toNat_inj.1 (by show _=10;omega);rw[h10,if_pos rfl]at hsucc;have c2:wr.cell? ⟨L+1,2,none⟩=some lv:=by rw[Lib.cell_of_heap h1.hX];rfl
    have lX:L+1<wr.heap.size:=(qe.1 h1.hX).1;have own1:=h1.own;have hB1:=h1.hB;rcases own1.2 with⟨rfl,h00⟩ |⟨g,cap,cur,rfl,-⟩
    ·have:=(wR s k).1;omega
    go_wp2_with(at_builtin;refine wpList_append_lies _ rfl _ _ 106 rfl L 3 i0 _ 1 8 Tryz.underlying106 hi0 hz0 hz1 hz2 rfl (by omega) _ (dB s k).length _ rfl (own1.alloc _) ⟨wr.heap.size,0,none⟩ 1 1 [Z ((k:Int)+1)] rfl rfl (World.news_of_block (cs:=#[Z ((k:Int)+1)]) (t:=3) (fr:=(0,0)) (qd _ _)) (by simp[Value.oneCell']) (by omega) (by unfold maxLen;omega) (by omega) (by simp;omega) (wr.heap.size+1) (by simp) ?_;intro gg wcap w2 hown1 hgrow hat hgl;obtain⟨h2,hX2⟩:=h1.push hgrow hown1;have c22:w2.cell? ⟨L+1,2,none⟩=some (.slice (some ⟨g,0,none⟩) (dB s k).length cap):=(by rw[Lib.cell_of_heap hX2];rfl);have f22:w2.frozen? ⟨L+1,2,none⟩=false:=Lib.frozen_of_heap hX2 2);go_roundg (s.size+1-(k+1));case measure=>omega
    case rel=>exact⟨k+1,_,by omega,rfl,by simp,by rw[hsucc];exact h2⟩
   ·have h10:¬s[k]=10:=fun e=>hnl (by rw[e];rfl);rw[if_neg (by simpa using h10),qqe]at hsucc;go_wp2;go_roundg (s.size+1-(k+1));case measure=>omega
    case rel=>exact⟨k+1,lv,by omega,rfl,by simp,by rw[hsucc];exact h1⟩
  ·obtain rfl:k=s.size:=by omega
   have hlt':¬((s.size:Nat):Int)<s.size:=by omega
   obtain⟨g,cap,cur,rfl,hbg,hgc,hnc,hcm,hcs,htk⟩:∃g cap cur,lv=.slice (some ⟨g,0,none⟩) (dB s s.size).length cap/\L<=g/\wr.heap[g]?=some (.cells cur 3 (0,0))/\(dB s s.size).length<=cap/\cap<=maxLen/\cur.size=cap*1/\cur.toList.take ((dB s s.size).length*1)=(dB s s.size).map fun x=>Z x:=by
    rcases h1.own.2 with⟨rfl,h00⟩ |⟨g,cap,cur,e1,e2,e3,e4,e5,e6,e7⟩
    ·have:=(wR s s.size).1;omega
    ·exact⟨g,cap,cur,e1,e2,e3,e4,e5,e6,e7⟩
   have hLA:jW (.slice (some ⟨g,0,none⟩) (dB s s.size).length cap) (dB s s.size) [(g,.cells cur 3 (0,0))]:=by
    refine⟨g,cap,cur,rfl,by simp,fun j hj => ?_⟩;have:=congrArg (fun l=>l[j]?) htk;simp only[Nat.mul_one,List.getElem?_take,if_pos hj,List.getElem?_map]at this;rw[Array.getElem?_toList]at this;rw[this];simp[List.getD,hj]
   have hgX:g≠L+1:=by
    rintro rfl;rw[h1.hX]at hgc;injection hgc with hgc;injection hgc with _ h2 _;exact absurd h2 (by decide)
   have hW:iQ L (L+1) [(g,.cells cur 3 (0,0))] s (.slice (some ⟨g,0,none⟩) (dB s s.size).length cap) (0:Nat) (.slice none 0 0) 0 [] 0 0 w wr:=by
    refine⟨h1.hBX,h1.hB,h1.hX,qw _ _ _ _,fun p hp => ?_,h1.bel⟩;obtain rfl:=qqq.1 hp;exact⟨hgc,hgX,hbg,by intro cs fr hc;injection hc with _ h2 _;exact absurd h2 (by decide)⟩
   have hsc:=Y6 hx hW hLA gL hsz (by omega);clear hW h1;go_wp2_with(go_at_call 41;refine hsc.mono ?_);rintro r w2 rfl hE;rcases hE with⟨rfl,pos,lv,hS⟩ |⟨b,pos,n,e,lv,xs,he,rfl,hS⟩
   ·have c4:=hS.c4;have c3:=hS.c3;have hown:w2.ownsRow L 59 7 lv toks.length (cellsOf toks):=by simpa using hS.own
    have hbel:=hS.below;clear hS;go_wp2;refine qg (BK rfl _ _ _) rfl ?_;exact⟨by rw[hL];exact hbel,.inl ⟨rfl,lv,rfl,by rw[hL];exact hown⟩⟩
   ·have c4:=hS.c4;have c5:=hS.c5;have hbel:=hS.below;have hpl:=zW hS hLA gL b (hlong b e rfl);have hst:=fun w' (h:Below w2.heap.size w2 w')=>hS.step h;clear hS;go_wp2_with(go_at_call 42;refine hpl.mono ?_);rintro r w3 ⟨rfl,b3⟩;have hS3:=hst _ b3;have d4:=hS3.c4;have hbel3:=hS3.below;clear hS3 hst hpl;go_wp2
    go_region
    all_goals go_wp2
    all_goals refine qg (BK rfl _ _ _) rfl ?_
    all_goals exact⟨by rw[hL];exact hbel3.drew,.inr ⟨b,e,he,rfl,rfl⟩⟩
theorem Tryz.sizeTok:(Tryz.prog.info? 59).map (·.size)=some 7:=by kernel_rfl
structure aC(bs:List Nat)(w w':World):Prop where
 os:w'.os=w.os
 tape:w'.tape=w.tape
 output:w'.output=w.output
 size:w.heap.size<=w'.heap.size
 block:∀k,k<w.heap.size->k∉bs->w'.heap[k]?=w.heap[k]?
theorem aC.refl(bs:List Nat)(w:World):aC bs w w:=⟨rfl,rfl,rfl,qa _,fun _ _ _=>rfl⟩
theorem aC.trans{bs:List Nat}{a b c:World}(h:aC bs a b)(k:aC bs b c):aC bs a c :=
 ⟨k.os.trans h.os,k.tape.trans h.tape,k.output.trans h.output,qx h.size k.size,fun i hi hb=>(k.block i (qqa hi h.size) hb).trans (h.block i hi hb)⟩
theorem aC.of_below{bs:List Nat}{w w':World}(h:Below w.heap.size w w'):aC bs w w':=⟨h.os,h.tape,h.output,h.size,fun k hk _=>h.block k hk⟩
theorem aC.below{w w':World}(h:aC [] w w'):Below w.heap.size w w':=⟨h.os,h.tape,h.output,h.size,fun k hk=>h.block k hk (by simp)⟩
theorem aC.more{bs cs:List Nat}{w w':World}(h:aC bs w w')(hs:∀k∈bs,k∈cs):aC cs w w':=⟨h.os,h.tape,h.output,h.size,fun k hk hb=>h.block k hk fun hc=>hb (hs k hc)⟩
theorem aC.drew{bs:List Nat}{a w:World}(h:aC bs a w):aC bs a w.drew:=⟨h.os,h.tape,h.output,h.size,h.block⟩
theorem aC.alloc{bs:List Nat}{a w:World}(h:aC bs a w)(o:Obj):aC bs a (w.alloc o) :=
 ⟨h.os,h.tape,h.output,qx h.size (by simp),fun k hk hb=>(Below.heap_alloc _ _ _ (qqa hk h.size)).trans (h.block k hk hb)⟩
theorem aC.setCell{bs:List Nat}{a w:World}(h:aC bs a w){p:Addr}(hp:p.block∈bs\/a.heap.size<=p.block)(u:Value):aC bs a (w.setCell p u) :=
 ⟨h.os,h.tape,h.output,qx h.size (by simp[World.setCell]),fun k hk hb=>(qh _ _ _ _ (fun e=>by
  rcases hp with hp|hp
  ·exact hb (e▸hp)
  ·omega)).trans (h.block k hk hb)⟩
structure kZ(Y M:Nat)(tv:Value)(toks:List aX)(pos:Nat)(line col e:Int)(free:Bool)(ls ln:Int)(es:Array MapEntry)(clk:Nat)(w:World):Prop where
 blk:w.heap[Y]?=some (.cells #[tv,Z pos,Z line,Z col,Z e,.bool free,Z ls,Z ln,.map (some M)] 133 (0,0))
 map:w.heap[M]?=some (.map es clk)
 row:e=0->w.ownsRow 0 59 7 tv toks.length (cellsOf toks)
section
variable{Y M:Nat}{tv:Value}{toks:List aX}{pos:Nat}{line col e:Int}{free:Bool}{ls ln:Int}{es:Array MapEntry}{clk:Nat}{w:World}
theorem kZ.lt(h:kZ Y M tv toks pos line col e free ls ln es clk w):Y<w.heap.size:=(qe.1 h.blk).1
theorem kZ.ltM(h:kZ Y M tv toks pos line col e free ls ln es clk w):M<w.heap.size:=(qe.1 h.map).1
theorem kZ.ne(h:kZ Y M tv toks pos line col e free ls ln es clk w):Y≠M:=by
 rintro rfl;have:=h.blk.symm.trans h.map;injection this with this;cases this
theorem kZ.step(h:kZ Y M tv toks pos line col e free ls ln es clk w){w':World}(hb:Below w.heap.size w w'):kZ Y M tv toks pos line col e free ls ln es clk w' :=
 ⟨(hb.block Y h.lt).trans h.blk,(hb.block M h.ltM).trans h.map,fun he=>aB (h.row he) fun k hk=>hb.block k ((h.row he).lt k hk).2⟩
theorem kZ.put(h:kZ Y M tv toks pos line col e free ls ln es clk w)(i:Nat)(u:Value){pos':Nat}{line' col' e' ls' ln':Int}(he:e'=0->e=0)
  (hu:(#[tv,Z pos,Z line,Z col,Z e,.bool free,Z ls,Z ln,.map (some M)]:Array Value).setIfInBounds i u=#[tv,Z pos',Z line',Z col',Z e',.bool free,Z ls',Z ln',.map (some M)]) :
  kZ Y M tv toks pos' line' col' e' free ls' ln' es clk (w.setCell ⟨Y,i,none⟩ u):=by
 refine⟨by rw[Lib.heap_setCell_same h.blk,hu],(qh _ _ _ _ (fun e=>h.ne e.symm)).trans h.map,fun h0 => ?_⟩;have hr:=h.row (he h0);exact aB hr fun k hk=>qh _ _ _ _ (fun e=>kE hr h.blk (by intro cs fr hc;injection hc with _ h2 _;exact absurd h2 (by decide)) (by rw[hk,e]))
theorem kZ.c0(h:kZ Y M tv toks pos line col e free ls ln es clk w):w.cell? ⟨Y,0,none⟩=some tv:=by rw[Lib.cell_of_heap h.blk];rfl
theorem kZ.c1(h:kZ Y M tv toks pos line col e free ls ln es clk w):w.cell? ⟨Y,1,none⟩=some (Z pos):=by rw[Lib.cell_of_heap h.blk];rfl
theorem kZ.c2(h:kZ Y M tv toks pos line col e free ls ln es clk w):w.cell? ⟨Y,2,none⟩=some (Z line):=by rw[Lib.cell_of_heap h.blk];rfl
theorem kZ.c3(h:kZ Y M tv toks pos line col e free ls ln es clk w):w.cell? ⟨Y,3,none⟩=some (Z col):=by rw[Lib.cell_of_heap h.blk];rfl
theorem kZ.c4(h:kZ Y M tv toks pos line col e free ls ln es clk w):w.cell? ⟨Y,4,none⟩=some (Z e):=by rw[Lib.cell_of_heap h.blk];rfl
theorem kZ.c5(h:kZ Y M tv toks pos line col e free ls ln es clk w):w.cell? ⟨Y,5,none⟩=some (.bool free):=by rw[Lib.cell_of_heap h.blk];rfl
theorem kZ.c6(h:kZ Y M tv toks pos line col e free ls ln es clk w):w.cell? ⟨Y,6,none⟩=some (Z ls):=by rw[Lib.cell_of_heap h.blk];rfl
theorem kZ.c7(h:kZ Y M tv toks pos line col e free ls ln es clk w):w.cell? ⟨Y,7,none⟩=some (Z ln):=by rw[Lib.cell_of_heap h.blk];rfl
theorem kZ.c8(h:kZ Y M tv toks pos line col e free ls ln es clk w):w.cell? ⟨Y,8,none⟩=some (.map (some M)):=by rw[Lib.cell_of_heap h.blk];rfl
theorem kZ.fz(h:kZ Y M tv toks pos line col e free ls ln es clk w)(i:Nat):w.frozen? ⟨Y,i,none⟩=false:=Lib.frozen_of_heap h.blk i
theorem xD:∀(l:List aX)(i:Nat)(t:aX)(j:Nat)(u:Value),l[i]?=some t->t.cells[j]?=some u->(cellsOf l)[i*7+j]?=some u
 |a::l,0,t,j,u,h,hj=>by
  obtain rfl:a=t:=by simpa using h
  have hlt:j<a.cells.length:=(qy.1 hj).1;simp only[cellsOf,List.flatMap_cons,Nat.zero_mul,Nat.zero_add];rw[List.getElem?_append_left hlt];exact hj
 |a::l,i+1,t,j,u,h,hj=>by
  have h':l[i]?=some t:=by simpa using h
  have:=xD l i t j u h' hj;have e7:a.cells.length=7:=rfl;simp only[cellsOf,List.flatMap_cons]at this⊢;rw[List.getElem?_append_right (by rw[e7];omega),e7];rw[show(i+1)*7+j-7=i*7+j by omega];exact this
 | [],i,t,j,u,h,_=>by simp at h
theorem kZ.tok(h:kZ Y M tv toks pos line col 0 free ls ln es clk w){t:aX}(ht:toks[pos]?=some t) :
  ∃G cap,tv=.slice (some ⟨G,0,none⟩) toks.length cap/\∀j u,t.cells[j]?=some u->w.cell? ⟨G,pos*7+j,none⟩=some u:=by
 have hr:=h.row rfl;have hp:pos<toks.length:=(qy.1 ht).1;obtain⟨G,cap,rfl,_,_⟩:=hr.form (by omega);refine⟨G,cap,rfl,fun j u hj => ?_⟩;have:=hr.cells (g:=G) rfl (pos*7+j) u (xD _ _ _ _ _ ht hj);have hadd:(⟨G,0,none⟩:Addr).add (pos*7+j)=⟨G,pos*7+j,none⟩:=by unfold Addr.add;split<;>simp_all
 rwa[hadd]at this
theorem uK(h:kZ Y M tv toks pos line col 0 free ls ln es clk w){t:aX}(ht:toks[pos]?=some t) :
  Calls Tryz.prog 62 #[.pointer (some ⟨Y,0,none⟩)] w fun r w'=>r=.returned (.agg #[Z t.kind,.string t.text,Z t.value,.string t.bytes,Z t.line,Z t.col,.bool t.joined])/\Below w.heap.size w w':=by
 obtain⟨G,cap,rfl,hc⟩:=h.tok ht;have hp:pos<toks.length:=(qy.1 ht).1;have c0:=h.c0;have c1:=h.c1;have c4:=h.c4;have t0:w.cell? ⟨G,pos*7,none⟩=some (Z t.kind):=hc 0 _ rfl;have t1:=hc 1 _ rfl;have t2:=hc 2 _ rfl;have t3:=hc 3 _ rfl;have t4:=hc 4 _ rfl;have t5:=hc 5 _ rfl;have t6:=hc 6 _ rfl;have hp0:(0:Int)<=(pos:Int):=by omega
 have hp1:(pos:Int)<(toks.length:Int):=by omega
 have n0:=qqd w _ c0;have n1:=qqd w _ t0;have l0:=qo w _ c0;have l1:=qo w _ t0;simp only at l0 l1;clear h hc ht;go_enter Tryz.func62,Tryz.ntmps62;go_wp2
 go_region_held3 (fun w' => w'.cell? ⟨Y, 0, none⟩ = some (.slice (some ⟨G, 0, none⟩) toks.length cap) /\ w'.cell? ⟨Y, 1, none⟩ = some (Z pos) /\
   w'.cell? ⟨G,pos*7,none⟩=some (Z t.kind)/\w'.cell? ⟨G,pos*7+1,none⟩=some (.string t.text)/\w'.cell? ⟨G,pos*7+2,none⟩=some (Z t.value) /\
   w'.cell? ⟨G,pos*7+3,none⟩=some (.string t.bytes)/\w'.cell? ⟨G,pos*7+4,none⟩=some (Z t.line)/\w'.cell? ⟨G,pos*7+5,none⟩=some (Z t.col)/\w'.cell? ⟨G,pos*7+6,none⟩=some (.bool t.joined)) (go_keep) (fail)
 go_wp2;refine qg (qp rfl _ _ w.heap.size 59 _ (0,0) _ rfl (qd w _) Tryz.underlying59 rfl Tryz.sizeTok) rfl ?_;exact⟨rfl,((qb _ w).alloc (qa _) _).drew⟩
theorem SF(h:kZ Y M tv toks pos line col e free ls ln es clk w)(he:e≠0) :
  Calls Tryz.prog 62 #[.pointer (some ⟨Y,0,none⟩)] w fun r w'=>r=.returned (.agg #[Z (-1),.string ByteArray.empty,Z 0,.string ByteArray.empty,Z 0,Z 0,.bool false])/\Below w.heap.size w w':=by
 have c4:=h.c4;have n0:=qqd w _ c4;have l0:=h.lt;clear h;go_enter Tryz.func62,Tryz.ntmps62;go_wp2;refine qg (qp rfl _ _ w.heap.size 59 _ (0,0) _ rfl (qd w _) Tryz.underlying59 rfl Tryz.sizeTok) rfl ?_;exact⟨rfl,((qb _ w).alloc (qa _) _)⟩
end
theorem wM{P:Program}(w:World)(p:Addr)(ty:TypeId)(cs:Array Value)(d:TypeDesc)(hc:∀(j:Nat) (v:Value),cs[j]?=some v->w.cell? (p.add j)=some v)
  (hu:P.underlying ty=some d) (hd:(match d with | .struct _ | .array _ _=>true | _=>false)=true) (hi:(P.info? ty).map (·.size)=some cs.size) :
  (loadVar ty p).run P w=.ok (.agg cs) w:=by
 have hl:(loadCells p cs.toList.length).run P w=.ok cs.toList.toArray w:=run_loadCells_list (P:=P) w p cs.toList (fun j v hv=>hc j v (by simpa using hv));cases hq:P.info? ty with
 |none=>simp[hq]at hi
 |some i =>
  have hs:i.size=cs.size:=by simpa [hq]using hi
  have hagg:(isAgg ty).run P w=.ok true w:=by
   unfold isAgg;rw[qqn,qqg hu w];cases d<;>simp_all
  simp only[Array.length_toList,Array.toArray_toList]at hl;simp[loadVar,hagg,sizeOf,typeInfo,hq,hs,hl]
theorem dZ{P:Program}{ops:Array Oper}{rest:List Oper}{o:Oper}{a:Act}{w:World}{Q:Exit->Act->World->Prop}(hgd:o.guard=none)(ty:TypeId)(x:Operand)(ho:o.op=.load ty x)
  (p:Addr) (hx:a.eval x=.pointer (some p)) (cs:Array Value) (d:TypeDesc) (hc:∀(j:Nat)(v:Value),cs[j]?=some v->w.cell? (p.add j)=some v)
  (hu:P.underlying ty=some d) (hd:(match d with | .struct _ | .array _ _=>true | _=>false)=true) (hi:(P.info? ty).map (·.size)=some cs.size)
  (h:wpList P ops Q rest (a.put o.dst (.agg cs)) w):wpList P ops Q (o::rest) a w:=by
 refine wpList_plain hgd fun _ hK => ?_;unfold Oper.wp execOp;simp only[ho,hx,Instr.loadAt,Instr.sureAddr,qqn,Sem.run_pure,Result.andThen_ok,wM w p ty cs d hc hu hd hi];exact hK _ _ h
theorem NE(w:World)(z cs:Array Value)(T:TypeId):(w.alloc (.cells z T)).setRow w.heap.size cs=w.alloc (.cells cs T):=by
 have hh:((w.alloc (.cells z T)).setRow w.heap.size cs).heap=(w.alloc (.cells cs T)).heap:=by
  apply Array.ext_getElem?;intro i;by_cases hi:i=w.heap.size
  ·subst hi;rw[setRow_heap _ _ _ _ _ _ (qd w _),qd w _]
  ·rw[setRow_other _ _ _ _ hi];show(w.heap.push _)[i]?=(w.heap.push _)[i]?;rw[Array.getElem?_push,Array.getElem?_push,if_neg hi,if_neg hi]
 show({ w.alloc (.cells z T)with heap:=((w.alloc (.cells z T)).setRow w.heap.size cs).heap }:World)=_;rw[hh];rfl
theorem dA{P:Program}{ops:Array Oper}{rest:List Oper}{o:Oper}{a:Act}{w:World}{Q:Exit->Act->World->Prop}(hgd:o.guard=none)(ty:TypeId)(x y:Operand)(ho:o.op=.store ty x y)
  (cells old:Array Value) (T:TypeId) {n:Nat} (hn:n=w.heap.size) (hx:a.eval x=.pointer (some ⟨n,0,none⟩)) (hy:a.eval y=.agg cells) (hi:(P.info? ty).map (·.size)=some cells.size)
  (hold:old.size=cells.size) (h1:cells.all (·.oneCell')=true)
  (h:wpList P ops Q rest (a.put o.dst undef) (w.alloc (.cells cells T))):wpList P ops Q (o::rest) a (w.alloc (.cells old T)):=by
 subst hn;refine wpList_store_row hgd ty x y ho w.heap.size cells hx hy T old (qd w _) hi hold h1 ?_;rw[NE];exact h
theorem G2 {P : Program} {ops : Array Oper} {rest : List Oper} {o : Oper} {a : Act} {w : World} {Q : Exit -> Act -> World -> Prop} (hgd : o.guard = none) (t : TypeId) (parts : Array (Nat × Operand)) (ho : o.op = .build t parts) {l : List (Nat × Value)} (hl : (parts.map fun (i, x) => (i, a.eval x)).toList = l)
  {cs:Array Value} (hf:P.built t l=some cs) (h:wpList P ops Q rest (a.put o.dst (.agg cs)) w):wpList P ops Q (o::rest) a w:=by
 subst hl;exact wpList_build hgd t parts ho (by rw[hf];rfl) (by rw[hf];exact h)
def kY(w:World)(s:Nat)(v:Value)(rows:List (Array Value)):Prop :=
 (rows=[]/\v=.slice none 0 0) \/
 ∃g o cap,v=.slice (some ⟨g,o,none⟩) rows.length cap/\∀(j:Nat)(r:Array Value),rows[j]?=some r->r.size=s/\r.all (·.oneCell')=true/\∀(k:Nat)(u:Value),r[k]?=some u->w.cell? ⟨g,o+j*s+k,none⟩=some u
theorem kY.is{w:World}{s:Nat}{v:Value}{rows:List (Array Value)}(h:kY w s v rows):∃ao cap,v=.slice ao rows.length cap:=by
 rcases h with⟨rfl,rfl⟩ |⟨g,o,cap,rfl,_⟩
 ·exact⟨_,_,rfl⟩
 ·exact⟨_,_,rfl⟩
theorem kY.at{w:World}{s:Nat}{ao:Option Addr}{n cap:Nat}{rows:List (Array Value)}(h:kY w s (.slice ao n cap) rows){j:Nat}(hj:j<rows.length) :
  ∃g o r,ao=some ⟨g,o,none⟩/\rows[j]?=some r/\r.size=s/\r.all (·.oneCell')=true/\∀(k:Nat)(u:Value),r[k]?=some u->w.cell? ⟨g,o+j*s+k,none⟩=some u:=by
 rcases h with⟨rfl,_⟩ |⟨g,o,cap',e,h⟩
 ·simp at hj
 ·injection e with e1 e2 e3;have hr:rows[j]?=some rows[j]:=qr hj;obtain⟨h1,h2,h3⟩:=h j _ hr;exact⟨g,o,rows[j],e1,hr,h1,h2,h3⟩
theorem kY.step{w w':World}{s:Nat}{v:Value}{rows:List (Array Value)}(h:kY w s v rows)(b:Below w.heap.size w w'):kY w' s v rows:=by
 rcases h with h |⟨g,o,cap,rfl,h⟩
 ·exact .inl h
 ·refine .inr ⟨g,o,cap,rfl,fun j r hr => ?_⟩;obtain⟨h1,h2,h3⟩:=h j r hr;exact⟨h1,h2,fun k u hu=>(b.cell (qo w _ (h3 k u hu))).trans (h3 k u hu)⟩
theorem aFJ{rows:List (Array Value)}{s:Nat}(hs:∀r∈rows,r.size=s):∀(j:Nat)(r:Array Value),rows[j]?=some r->∀(k:Nat)(u:Value),r[k]?=some u->(rows.flatMap (·.toList))[j*s+k]?=some u:=by
 induction rows with
 |nil=>intro j r hr;simp at hr
 |cons a rows ih =>
  intro j r hr k u hu;have ha:=hs a (by simp);cases j with
  |zero =>
   obtain rfl:a=r:=by simpa using hr
   have hk:k<a.size:=(qe.1 hu).1;rw[List.flatMap_cons,Nat.zero_mul,Nat.zero_add,List.getElem?_append_left (by simpa using hk)];simpa using hu
  |succ j =>
   have hr':rows[j]?=some r:=by simpa using hr
   have:=ih (fun x hx=>hs x (by simp[hx])) j r hr' k u hu;rw[List.flatMap_cons,List.getElem?_append_right (by rw[Array.length_toList,ha,Nat.add_mul];omega),Array.length_toList,ha,show(j+1)*s+k-s=j*s+k by rw[Nat.add_mul];omega];exact this
theorem kY.of_own{w:World}{B:Nat}{T:TypeId}{s:Nat}{v:Value}{rows:List (Array Value)}{xs:List Value}(h:w.ownsRow B T s v rows.length xs)(hx:xs=rows.flatMap (·.toList))(hs:∀r∈rows,r.size=s/\r.all (·.oneCell')=true):kY w s v rows:=by
 subst hx;rcases h.2 with⟨hv,h0⟩ |⟨g,cap,cur,hv,_⟩
 ·exact .inl ⟨List.length_eq_zero_iff.1 h0,hv⟩
 ·subst hv;refine .inr ⟨g,0,cap,rfl,fun j r hr => ?_⟩;obtain⟨h1,h2⟩:=hs r (List.mem_of_getElem? hr);refine⟨h1,h2,fun k u hu => ?_⟩;have:=h.cells (g:=g) rfl (j*s+k) u (aFJ (fun r hr=>(hs r hr).1) j r hr k u hu);have hadd:(⟨g,0,none⟩:Addr).add (j*s+k)=⟨g,j*s+k,none⟩:=by unfold Addr.add;split<;>simp_all
  rw[Nat.zero_add];rwa[hadd]at this
structure m9 where
 st:Int
 al:Int
 oc:Int
structure gT where
 p:m9
 tied:Bool
 sh:Int
structure eG where
 p:m9
 lg:Int
 sl:Bool
structure eY where
 tx:ByteArray
 ln:Int
structure B7 where
 site:Int
 num:Int
 kind:Int
 lg:Int
 dt:Int
 heads:List gT
 graces:List eG
 ar:Int
 orn:Int
 dy:Int
 lyr:List eY
 stem:Int
 beam:Int
def gT.cells(h:gT):Array Value:=#[Z h.p.st,Z h.p.al,Z h.p.oc,.bool h.tied,Z h.sh]
def eG.cells(g:eG):Array Value:=#[Z g.p.st,Z g.p.al,Z g.p.oc,Z g.lg,.bool g.sl]
def eY.cells(x:eY):Array Value:=#[.string x.tx,Z x.ln]
def B7.cells(x:B7)(hv gv lv:Value):Array Value :=
 #[Z x.site,Z x.num,Z x.kind,Z x.lg,Z x.dt,hv,gv,Z x.ar,Z x.orn,Z x.dy,lv,Z x.stem,Z x.beam]
def aJ9(i:Int):Int:=if i=0 then 0 else if i=1 then 2 else if i=2 then 4 else if i=3 then 5 else if i=4 then 7 else if i=5 then 9 else 11
def K1(p:m9):Int:=12*(p.oc+1)+aJ9 p.st+p.al
def iM(p:m9):Prop:=p.st<0\/6<p.st\/p.al < -2\/2<p.al\/p.oc < -1\/9<p.oc
instance (p:m9):Decidable (iM p):=by unfold iM;infer_instance
def sK(p:m9):Int:=if iM p then 18 else if K1 p<0\/127<K1 p then 18 else 0
def UT(x:ByteArray)(sy:List ByteArray):Bool:=sy.any fun y=>decide (x=y)
def Joins(nu:Bool)(sy:List ByteArray)(t:aX):Bool:=t.joined && ((nu && decide (t.kind=2)) ||(decide (t.kind=4) && UT t.text sy))
def wW:List aX->ByteArray->ByteArray
 | [],s=>s
 |t::r,s=>wW r (s++t.text)
def wX(t:aX)(tx:ByteArray):Bool:=(decide (t.kind=1) || decide (t.kind=4)) && decide (t.text=tx)
def cH:aX:=⟨-1,ByteArray.empty,0,ByteArray.empty,0,0,false⟩
inductive aD
 |ok (p:Nat)
 |bad (e l c:Int)
def aD.good:aD->Bool
 | .ok _=>true
 | .bad ..=>false
def aD.next(k:Nat):aD->aD
 | .ok p=>.ok (p+k)
 | .bad e l c=>.bad e l c
def CZ(x:ByteArray):Nat:=(x.data.toList.headD 0).toNat
structure yB where
 pit:ByteArray->Option m9
 val:ByteArray->Option (Int×Int)
structure A5 where
 ar:Int
 orn:Int
 dy:Int
 st:Int
 be:Int
def KS(A:A5)(i:Nat):A5 :=
 if 20<=i then { A with be:=(i:Int)-19 } else if 18<=i then { A with st:=(i:Int)-17 } else if 9<=i then { A with dy:=(i:Int)-8 } else if 5<=i then { A with orn:=(i:Int)-4 } else { A with ar:=A.ar+2 ^ i }
def grp(i:Int):Int:=if 20<=i then 1 else if 18<=i then 2 else if 9<=i then 3 else if 5<=i then 4 else 0
def bF:List ByteArray:=[⟨#[115,116,97,99,99,97,116,111]⟩,⟨#[116,101,110,117,116,111]⟩,⟨#[97,99,99,101,110,116]⟩,⟨#[109,97,114,99,97,116,111]⟩,⟨#[102,101,114,109,97,116,97]⟩,
 ⟨#[116,114,105,108,108]⟩,⟨#[109,111,114,100,101,110,116]⟩,⟨#[105,110,118,101,114,115,101]⟩,⟨#[116,117,114,110]⟩,
 ⟨#[112,112,112]⟩,⟨#[112,112]⟩,⟨#[112]⟩,⟨#[109,112]⟩,⟨#[109,102]⟩,⟨#[102]⟩,⟨#[102,102]⟩,⟨#[102,102,102]⟩,⟨#[115,102,122]⟩,
 ⟨#[117,112]⟩,⟨#[100,111,119,110]⟩,⟨#[97,112,97,114,116]⟩,⟨#[106,111,105,110]⟩]
def cM(x:ByteArray):List ByteArray->Option Nat
 | []=>none
 |y::r=>if x=y then some 0 else(cM x r).map (·+1)
structure jH where
 first:Int
 count:Int
 actual:Int
 normal:Int
structure fG where
 evs:List B7
 tups:List jH
section
variable(O:yB)(T:List aX)
def aZ:aD->aX
 | .ok p=>T.getD p cH
 | .bad ..=>cH
def cC(c:Int):aD->aD
 | .ok p=>.bad c (T.getD p cH).line (T.getD p cH).col
 | .bad e l c=>.bad e l c
def isS(x:ByteArray)(s:aD):Bool:=wX (aZ T s) x
def aY(x:ByteArray)(s:aD):aD:=if isS T x s=true then s.next 1 else s
def bY(x:ByteArray)(s:aD):aD:=if isS T x s=true then s.next 1 else cC T 13 s
def fU(s:aD):ByteArray×aD:=if(aZ T s).kind=3 then((aZ T s).bytes,s.next 1)else(ByteArray.empty,cC T 13 s)
def bD(lo hi:Int)(s:aD):Int×aD :=
 if(aZ T s).kind≠2 then(0,cC T 13 s)else if(aZ T s).value<lo\/hi<(aZ T s).value then(0,cC T 2 s)else((aZ T s).value,s.next 1)
def fV(s:aD):Bool:=decide ((aZ T s).kind=1) && (decide (65<=CZ (aZ T s).text) && decide (CZ (aZ T s).text<=71))
def kN(nu:Bool)(sy:List ByteArray):aD->List aX
 | .ok p=>(T.drop (p+1)).takeWhile (Joins nu sy)
 | .bad ..=>[]
def pE(nu:Bool)(sy:List ByteArray)(s:aD):ByteArray:=wW (kN T nu sy s) (aZ T s).text
def jP:List ByteArray:=[⟨#[35]⟩,⟨#[45]⟩]
def nS:List ByteArray:=[⟨#[46]⟩]
def cD(s:aD):m9×aD :=
 if fV T s=true then
  match O.pit (pE T true jP s)with
  |none=>(⟨0,0,0⟩,cC T 18 s)
  |some p=>(p,s.next ((kN T true jP s).length+1))
 else(⟨0,0,0⟩,cC T 13 s)
def rE(s:aD):Bool:=decide ((aZ T s).kind=2) || isS T ⟨#[98]⟩ s
def mQ(s:aD):(Int×Int)×aD :=
 if rE T s=true then
  match O.val (pE T false nS s)with
  |none=>((0,0),cC T 17 s)
  |some p=>(p,s.next ((kN T false nS s).length+1))
 else((0,0),cC T 13 s)
def bG(s:aD):(Int×Int)×aD :=
 let a:=bD T 0 99 (bY T ⟨#[64]⟩ s)
 let b:=bD T 1 1073741824 (bY T ⟨#[46]⟩ a.2)
 ((a.1,b.1),b.2)
def dQ(s:aD):gT×aD :=
 let r:=cD O T s
 let s1:=aY T ⟨#[126]⟩ r.2
 let td:=isS T ⟨#[126]⟩ r.2
 if isS T ⟨#[33]⟩ s1=true then(⟨r.1,td,1⟩,s1.next 1)else if isS T ⟨#[63]⟩ s1=true then(⟨r.1,td,2⟩,s1.next 1)else(⟨r.1,td,0⟩,s1)
def BM(v:Int):Int:=if v=2 then 1 else if v=4 then 2 else if v=8 then 3 else if v=16 then 4 else if v=32 then 5 else if v=64 then 6 else 0
def dE(q:Int)(s:aD):eG×aD :=
 let sl:=isS T ⟨#[47]⟩ s
 let r:=cD O T (aY T ⟨#[47]⟩ s)
 let s2:=bY T ⟨#[58]⟩ r.2
 if(aZ T s2).kind≠2 then(⟨r.1,0,sl⟩,cC T 13 s2)
 else if BM (aZ T s2).value=0 then(⟨r.1,q,sl⟩,cC T 2 s2)else(⟨r.1,BM (aZ T s2).value,sl⟩,s2.next 1)
def gC{α:Type}(f:aD->α×aD)(cl:ByteArray):Nat->aD->List α×aD
 |0,s=>([],s)
 |k+1,s=>if s.good=true/\isS T cl s=false then((f s).1::(gC f cl k (f s).2).1,(gC f cl k (f s).2).2)else([],s)
def tA{α:Type}(f:aD->α×aD)(cl:ByteArray)(s:aD):List α×aD :=
 let m:=gC T f cl T.length (f s).2
 ((f s).1::m.1,bY T cl m.2)
def bV(l:List ByteArray)(s:aD):Option Nat×aD :=
 if(aZ T s).kind≠1 then(none,cC T 13 s)
 else match cM (aZ T s).text l with
  |none=>(none,cC T 32 s)
  |some i=>(some i,s.next 1)
def oT(last i:Int):Bool:=decide (0<=last) && (decide (i<=last) ||(decide (0<grp i) && decide (grp i=grp last)))
def aT(last:Int)(A:A5)(s:aD):Int×A5×aD :=
 match bV T bF s with
 |(none,s')=>(0,A,s')
 |(some i,s')=>if oT last i=true then(0,A,cC T 13 s)else((i:Int),KS A i,s')
def dR:Nat->Int->A5->aD->A5×aD
 |0,_,A,s=>(A,s)
 |k+1,last,A,s=>if s.good=true/\isS T ⟨#[93]⟩ s=false then dR k (aT T last A s).1 (aT T last A s).2.1 (aT T last A s).2.2 else(A,s)
def BN(s:aD):A5×aD :=
 let r:=aT T (-1) ⟨0,0,0,0,0⟩ s
 let m:=dR T T.length r.1 r.2.1 r.2.2
 (m.1,bY T ⟨#[93]⟩ m.2)
def rZ(s:aD):Bool:=decide ((aZ T s).kind=3) || isS T ⟨#[95]⟩ s
def iV(s:aD):eY×aD :=
 if isS T ⟨#[95]⟩ s=true then(⟨ByteArray.empty,2⟩,s.next 1)
 else
  let y:=(fU T s).1
  let s1:=(fU T s).2
  if(aZ T s1).joined=true then
   (if isS T ⟨#[45]⟩ s1=true then(⟨y,1⟩,s1.next 1)else if isS T ⟨#[95]⟩ s1=true then(⟨y,2⟩,s1.next 1)else(⟨y,0⟩,s1))
  else(⟨y,0⟩,s1)
def qD:Nat->aD->List eY×aD
 |0,s=>([],s)
 |k+1,s=>if rZ T s=true then((iV T s).1::(qD k (iV T s).2).1,(qD k (iV T s).2).2)else([],s)
def nT(q:Int)(s:aD):List eG×aD :=
 if isS T ⟨#[103,114,97,99,101]⟩ s=true then tA T (dE O T q) ⟨#[41]⟩ (bY T ⟨#[40]⟩ (s.next 1))else([],s)
def tP(s:aD):(Int×List gT)×aD :=
 if isS T ⟨#[82]⟩ s=true then((3,[]),s.next 1)
 else if isS T ⟨#[114]⟩ s=true then((2,[]),s.next 1)
 else if isS T ⟨#[115]⟩ s=true then((4,[]),s.next 1)
 else if isS T ⟨#[60]⟩ s=true then((1,(tA T (dQ O T) ⟨#[62]⟩ (s.next 1)).1),(tA T (dQ O T) ⟨#[62]⟩ (s.next 1)).2)
 else((1,[(dQ O T s).1]),(dQ O T s).2)
def KT(kd:Int)(s:aD):(Int×Int)×aD:=if kd=3 then((0,0),s)else mQ O T (bY T ⟨#[58]⟩ s)
def rF(s:aD):A5×aD:=if isS T ⟨#[91]⟩ s=true then BN T (s.next 1)else(⟨0,0,0,0,0⟩,s)
def mE(s:aD):Bool :=
 isS T ⟨#[64]⟩ s ||(isS T ⟨#[103,114,97,99,101]⟩ s ||(isS T ⟨#[60]⟩ s ||(isS T ⟨#[114]⟩ s ||(isS T ⟨#[82]⟩ s ||(isS T ⟨#[115]⟩ s || fV T s)))))
def E4(s:aD):aD:=if(aZ T s).kind=0 then s else cC T 13 s
end
theorem qK{a b:ByteArray}(h:¬a=b):¬a.toList=b.toList:=by
 intro e;rw[Go.ByteArray.toList_eq,Go.ByteArray.toList_eq]at e;exact h (ByteArray.ext (Array.ext' e))
section
variable{Y M:Nat}{tv:Value}{toks:List aX}{pos:Nat}{line col e:Int}{free:Bool}{ls ln:Int}{es:Array MapEntry}{clk:Nat}{w:World}{t:aX}
theorem aD3(h:kZ Y M tv toks pos line col 0 free ls ln es clk w)(ht:toks[pos]?=some t)(tx:ByteArray){b:Bool}(hb:wX t tx=b) :
  Calls Tryz.prog 76 #[.pointer (some ⟨Y,0,none⟩),.string tx] w fun r w'=>r=.returned (.bool b)/\Below w.heap.size w w':=by
 have hp:=uK h ht;obtain⟨kd,text,v,bt,lin,cl,j⟩:=t;simp only[wX]at hb hp;clear h ht;by_cases h1:kd=1
 ·subst h1;by_cases hx:text=tx
  ·subst hx;go_enter Tryz.func76,Tryz.ntmps76;go_wp2_with(go_at_call 62;refine hp.mono ?_);intro r w1;first |(intro he b1;subst he)|rintro⟨rfl,b1⟩
   go_wp2;go_ret;refine⟨?_,b1.alloc b1.size _⟩;first |(rw[<-hb];simp;done)|simp_all
  ·try have hx':=qK hx
   go_enter Tryz.func76,Tryz.ntmps76;go_wp2_with(go_at_call 62;refine hp.mono ?_);intro r w1;first |(intro he b1;subst he)|rintro⟨rfl,b1⟩
   go_wp2;go_ret;refine⟨?_,b1.alloc b1.size _⟩;first |(rw[<-hb];simp;done)|simp_all
 ·by_cases h4:kd=4
  ·subst h4;by_cases hx:text=tx
   ·subst hx;go_enter Tryz.func76,Tryz.ntmps76;go_wp2_with(go_at_call 62;refine hp.mono ?_);intro r w1;first |(intro he b1;subst he)|rintro⟨rfl,b1⟩
    go_wp2;go_ret;refine⟨?_,b1.alloc b1.size _⟩;first |(rw[<-hb];simp;done)|simp_all
   ·have hx':=qK hx;go_enter Tryz.func76,Tryz.ntmps76;go_wp2_with(go_at_call 62;refine hp.mono ?_);intro r w1;first |(intro he b1;subst he)|rintro⟨rfl,b1⟩
    go_wp2;go_ret;refine⟨?_,b1.alloc b1.size _⟩;first |(rw[<-hb];simp;done)|simp_all
  ·try have hx':=qK hx
   go_enter Tryz.func76,Tryz.ntmps76;go_wp2_with(go_at_call 62;refine hp.mono ?_);intro r w1;first |(intro he b1;subst he)|rintro⟨rfl,b1⟩
   go_wp2;go_ret;refine⟨?_,b1.alloc b1.size _⟩;first |(rw[<-hb];simp;done)|simp_all
theorem aD4(h:kZ Y M tv toks pos line col e free ls ln es clk w)(he:e≠0)(tx:ByteArray) :
  Calls Tryz.prog 76 #[.pointer (some ⟨Y,0,none⟩),.string tx] w fun r w'=>r=.returned (.bool false)/\Below w.heap.size w w':=by
 have hp:=SF h he;clear h;go_enter Tryz.func76,Tryz.ntmps76;go_wp2_with(go_at_call 62;refine hp.mono ?_);intro r w1;first |(intro he b1;subst he)|rintro⟨rfl,b1⟩
 go_wp2;go_ret;exact⟨rfl,b1.alloc b1.size _⟩
theorem kZ.next(h:kZ Y M tv toks pos line col e free ls ln es clk w):kZ Y M tv toks (pos+1) line col e free ls ln es clk (w.setCell ⟨Y,1,none⟩ (Z ((pos:Int)+1))) :=
 h.put 1 _ (fun h=>h) (by rw[show((pos+1:Nat):Int)=(pos:Int)+1 by omega];rfl)
theorem VN(h:kZ Y M tv toks pos line col 0 free ls ln es clk w)(ht:toks[pos]?=some t)(tx:ByteArray)(hb:wX t tx=true)(hpos:pos<=1048576) :
  Calls Tryz.prog 53 #[.pointer (some ⟨Y,0,none⟩),.string tx] w fun r w'=>r=.returned (.bool true)/\kZ Y M tv toks (pos+1) line col 0 free ls ln es clk w'/\aC [Y] w w':=by
 have hi:=aD3 h ht tx hb;have hst:=fun w' (b:Below w.heap.size w w')=>h.step b;clear h ht hb;have hw:IntKind.i64.wrap ((pos:Int)+1)=(pos:Int)+1:=IntWalk.i64_in _ (by omega);go_enter Tryz.func53,Tryz.ntmps53;go_wp2_with(go_at_call 76;refine hi.mono ?_);intro r w1;first |(intro he b1;subst he)|rintro⟨rfl,b1⟩
 have hS:=hst _ b1;have c1:=hS.c1;have f1:=hS.fz 1;have hN:=hS.next;clear hS hst hi;go_wp2;go_ret;exact⟨rfl,hN,(aC.of_below b1).setCell (.inl (by simp)) _⟩
theorem L1 (tx : ByteArray) (hi : Calls Tryz.prog 76 #[.pointer (some ⟨Y, 0, none⟩), .string tx] w fun r w' => r = .returned (.bool false) /\ Below w.heap.size w w') :
  Calls Tryz.prog 53 #[.pointer (some ⟨Y,0,none⟩),.string tx] w fun r w'=>r=.returned (.bool false)/\Below w.heap.size w w':=by
 go_enter Tryz.func53,Tryz.ntmps53;go_wp2_with(go_at_call 76;refine hi.mono ?_);intro r w1;first |(intro he b1;subst he)|rintro⟨rfl,b1⟩
 go_wp2;go_ret;exact⟨rfl,b1⟩
theorem Z6(h:kZ Y M tv toks pos line col 0 free ls ln es clk w)(ht:toks[pos]?=some t)(tx:ByteArray)(hb:wX t tx=false) :
  Calls Tryz.prog 53 #[.pointer (some ⟨Y,0,none⟩),.string tx] w fun r w'=>r=.returned (.bool false)/\Below w.heap.size w w':=L1 tx (aD3 h ht tx hb)
theorem VP(h:kZ Y M tv toks pos line col e free ls ln es clk w)(he:e≠0)(tx:ByteArray) :
  Calls Tryz.prog 53 #[.pointer (some ⟨Y,0,none⟩),.string tx] w fun r w'=>r=.returned (.bool false)/\Below w.heap.size w w':=L1 tx (aD4 h he tx)
theorem aD5(h:kZ Y M tv toks pos line col e free ls ln es clk w)(he:e≠0)(c:Int) :
  Calls Tryz.prog 63 #[.pointer (some ⟨Y,0,none⟩),Z c] w fun r w'=>r=.returned (.tuple #[])/\Below w.heap.size w w':=by
 have c4:=h.c4;clear h;go_enter Tryz.func63,Tryz.ntmps63;go_wp2
 go_end0
 exact⟨rfl,qb _ _⟩
end
section
variable{Y M:Nat}{tv:Value}{toks:List aX}{pos:Nat}{line col e:Int}{free:Bool}{ls ln:Int}{es:Array MapEntry}{clk:Nat}{w:World}{t:aX}
theorem kZ.failed(h:kZ Y M tv toks pos line col e free ls ln es clk w)(l c x:Int)(hx:x≠0) :
  kZ Y M tv toks pos l c x free ls ln es clk (((w.setCell ⟨Y,4,none⟩ (Z x)).setCell ⟨Y,2,none⟩ (Z l)).setCell ⟨Y,3,none⟩ (Z c)) :=
 ((h.put (e':=x) (pos':=pos) (line':=line) (col':=col) (ls':=ls) (ln':=ln) 4 _ (fun h0=>absurd h0 hx) rfl).put (e':=x) (pos':=pos) (line':=l) (col':=col) (ls':=ls) (ln':=ln) 2 _ (fun h=>h) rfl).put (e':=x) (pos':=pos) (line':=l) (col':=c) (ls':=ls) (ln':=ln) 3 _ (fun h=>h) rfl
theorem X1(h:kZ Y M tv toks pos line col 0 free ls ln es clk w)(ht:toks[pos]?=some t)(c:Int)(hc:c≠0) :
  Calls Tryz.prog 63 #[.pointer (some ⟨Y,0,none⟩),Z c] w fun r w'=>r=.returned (.tuple #[])/\kZ Y M tv toks pos t.line t.col c free ls ln es clk w'/\aC [Y] w w':=by
 have hp:=uK h ht;have hst:=fun w' (b:Below w.heap.size w w')=>h.step b;have c4:=h.c4;clear h ht;go_enter Tryz.func63,Tryz.ntmps63;go_wp2_with(go_at_call 62;refine hp.mono ?_);intro r w1;first |(intro he b1;subst he)|rintro⟨rfl,b1⟩
 go_wp2;have hT:=qd w1 (.cells #[Z t.kind,.string t.text,Z t.value,.string t.bytes,Z t.line,Z t.col,.bool t.joined] 59);have b2:=b1.alloc b1.size (.cells #[Z t.kind,.string t.text,Z t.value,.string t.bytes,Z t.line,Z t.col,.bool t.joined] 59);generalize w1.alloc (.cells #[Z t.kind,.string t.text,Z t.value,.string t.bytes,Z t.line,Z t.col,.bool t.joined] 59)=w2 at hT b2⊢;generalize w1.heap.size=T at hT⊢;have hS:=hst _ b2;have d4:=hS.c4;have d2:=hS.c2;have d3:=hS.c3;have f4:=hS.fz 4;have f2:=hS.fz 2;have f3:=hS.fz 3;have k4:w2.cell? ⟨T,4,none⟩=some (Z t.line):=by rw[Lib.cell_of_heap hT];rfl
 have k5:w2.cell? ⟨T,5,none⟩=some (Z t.col):=by rw[Lib.cell_of_heap hT];rfl
 have hTY:T≠Y:=by
  rintro rfl;rw[hS.blk]at hT;injection hT with hT;injection hT with _ h2 _;exact absurd h2 (by decide)
 have hfin:=(hS.step (qb _ _).drew).failed t.line t.col c hc;clear hS hst c4 hp hT
 go_region
 all_goals go_end0
 all_goals exact⟨rfl,hfin,(((aC.of_below b2).drew.setCell (.inl (by simp)) _).setCell (.inl (by simp)) _).setCell (.inl (by simp)) _⟩
theorem aJS(h:kZ Y M tv toks pos line col 0 free ls ln es clk w)(ht:toks[pos]?=some t)(hk:t.kind=3)(hpos:pos<=1048576) :
  Calls Tryz.prog 91 #[.pointer (some ⟨Y,0,none⟩)] w fun r w'=>r=.returned (.string t.bytes)/\kZ Y M tv toks (pos+1) line col 0 free ls ln es clk w'/\aC [Y] w w':=by
 have hp:=uK h ht;have hst:=fun w' (b:Below w.heap.size w w')=>h.step b;clear h ht;rw[hk]at hp;have hw:IntKind.i64.wrap ((pos:Int)+1)=(pos:Int)+1:=IntWalk.i64_in _ (by omega);go_enter Tryz.func91,Tryz.ntmps91;go_wp2_with(go_at_call 62;refine hp.mono ?_);intro r w1;first |(intro he b1;subst he)|rintro⟨rfl,b1⟩
 have hS1:=hst _ b1;have d1:=hS1.c1;have l1:=hS1.lt;have n1:=qqd w1 _ d1;have f1:=hS1.fz 1;have hN:=hS1.next.step ((qb _ _).alloc (qa _) (.cells #[Z 3,.string t.text,Z t.value,.string t.bytes,Z t.line,Z t.col,.bool t.joined] 59));clear hst hp hS1;go_wp2;go_ret;exact⟨rfl,hN,((aC.of_below b1).setCell (.inl (by simp)) _).alloc _⟩
theorem Z7(h:kZ Y M tv toks pos line col 0 free ls ln es clk w)(ht:toks[pos]?=some t)(hk:t.kind=2)(hpos:pos<=1048576)(lo hi:Int)(hlo:lo<=t.value)(hhi:t.value<=hi) :
  Calls Tryz.prog 114 #[.pointer (some ⟨Y,0,none⟩),Z lo,Z hi] w fun r w'=>r=.returned (Z t.value)/\kZ Y M tv toks (pos+1) line col 0 free ls ln es clk w'/\aC [Y] w w':=by
 have hp:=uK h ht;have hst:=fun w' (b:Below w.heap.size w w')=>h.step b;clear h ht;obtain⟨kd,text,v,bt,lin,cl,j⟩:=t;simp only at hk hlo hhi hp⊢;subst hk;have hw:IntKind.i64.wrap ((pos:Int)+1)=(pos:Int)+1:=IntWalk.i64_in _ (by omega);have hl1:decide (v<lo)=false:=qqp (by omega);have hl2:decide (hi<v)=false:=qqp (by omega);go_enter Tryz.func114,Tryz.ntmps114;go_wp2_with(go_at_call 62;refine hp.mono ?_);intro r w1;first |(intro he b1;subst he)|rintro⟨rfl,b1⟩
 have hS1:=hst _ b1;have d1:=hS1.c1;have l1:=hS1.lt;have n1:=qqd w1 _ d1;have f1:=hS1.fz 1;have hN:=hS1.next.step ((qb _ _).alloc (qa _) (.cells #[Z 2,.string text,Z v,.string bt,Z lin,Z cl,.bool j] 59));clear hst hp hS1;go_wp2;go_ret;exact⟨rfl,hN,((aC.of_below b1).setCell (.inl (by simp)) _).alloc _⟩
theorem N8(h:kZ Y M tv toks pos line col 0 free ls ln es clk w)(ht:toks[pos]?=some t)(hk:t.kind=2)(lo hi:Int)(hr:t.value<lo\/hi<t.value) :
  Calls Tryz.prog 114 #[.pointer (some ⟨Y,0,none⟩),Z lo,Z hi] w fun r w'=>r=.returned (Z 0)/\kZ Y M tv toks pos t.line t.col 2 free ls ln es clk w'/\aC [Y] w w':=by
 have hp:=uK h ht;have hf:=fun w' (b:Below w.heap.size w w')=>X1 (h.step b) ht 2 (by decide);clear h ht;obtain⟨kd,text,v,bt,lin,cl,j⟩:=t;simp only at hk hr hp hf⊢;subst hk;by_cases hl:v<lo
 ·go_enter Tryz.func114,Tryz.ntmps114;go_wp2_with(go_at_call 62;refine hp.mono ?_);intro r w1;first |(intro he b1;subst he)|rintro⟨rfl,b1⟩
  have b2:=b1.alloc b1.size (.cells #[Z 2,.string text,Z v,.string bt,Z lin,Z cl,.bool j] 59);have hf1:=hf _ b2;go_wp2_with(go_at_call 63;refine hf1.mono ?_);intro r w3;first |(intro he hS b3;subst he)|rintro⟨rfl,hS,b3⟩
  go_wp2;go_ret;exact⟨rfl,hS,(aC.of_below b2).trans b3⟩
 ·have hl1:decide (v<lo)=false:=qqp hl;have hl2:hi<v:=by omega
  go_enter Tryz.func114,Tryz.ntmps114;go_wp2_with(go_at_call 62;refine hp.mono ?_);intro r w1;first |(intro he b1;subst he)|rintro⟨rfl,b1⟩
  have b2:=b1.alloc b1.size (.cells #[Z 2,.string text,Z v,.string bt,Z lin,Z cl,.bool j] 59);have hf1:=hf _ b2;go_wp2_with(go_at_call 63;refine hf1.mono ?_);intro r w3;first |(intro he hS b3;subst he)|rintro⟨rfl,hS,b3⟩
  go_wp2;go_ret;exact⟨rfl,hS,(aC.of_below b2).trans b3⟩
end
structure aG1(t:aX):Prop where
 kd:t.kind=1\/t.kind=2\/t.kind=3\/t.kind=4
 word:t.kind=1->0<t.text.size
 v0:0<=t.value
 v1:t.value<=1000000000000000
 sz:t.text.size<=4000
structure kU(T:List aX):Prop where
 len:0<T.length
 max:T.length<=4001
 last:(T.getD (T.length-1) cH).kind=0/\(T.getD (T.length-1) cH).text.size<=4000
 ok:∀i,i+1<T.length->aG1 (T.getD i cH)
theorem kU.cons{t:aX}{T:List aX}(ht:aG1 t)(h:kU T)(hm:(t::T).length<=4001):kU (t::T):=by
 refine⟨by simp,hm,?_,fun i hi => ?_⟩
 ·have h0:=h.len;have e:(t::T).length-1=(T.length-1)+1:=by rw[qk];omega
  rw[e,List.getD_cons_succ];exact h.last
 ·cases i with
  |zero=>exact ht
  |succ i =>
   rw[List.getD_cons_succ];exact h.ok i (by rw[qk]at hi;omega)
theorem RK:∀(l:List UInt8)(acc:Nat),(∀x∈l,dN x.toNat=true)->∃n,Lib.decFrom acc l=some n/\n<(acc+1)*10 ^ l.length
 | [],acc,_=>⟨acc,rfl,by simp⟩
 |x::r,acc,h=>by
  have hx:=h x List.mem_cons_self;simp only[dN,Bool.and_eq_true,qqy]at hx;have hv:Lib.digitVal x=some (x.toNat-48):=by
   unfold Lib.digitVal;rw[if_pos hx]
  obtain⟨n,hn,hlt⟩:=RK r (acc*10+(x.toNat-48)) fun y hy=>h y (qqz _ hy);refine⟨n,by simp only[Lib.decFrom,hv];exact hn,qqa hlt ?_⟩;rw[qk,Nat.pow_succ,Nat.mul_comm (10 ^ r.length) 10,<-Nat.mul_assoc];exact Nat.mul_le_mul_right _ (by omega)
theorem cK(s:ByteArray)(b c:Nat)(_hc:c<=s.size):(s.extract b c).data.toList=(s.data.toList.drop b).take (c-b):=by
 rw[ByteArray.data_extract,Array.toList_extract,List.extract_eq_take_drop]
theorem RL{s:ByteArray}{b c:Nat}(hc:c<=s.size){p:Nat->Bool}(h:∀k (h:k<s.size),b<=k->k<c->p s[k].toNat=true):∀x∈(s.extract b c).data.toList,p x.toNat=true:=by
 intro x hx;rw[cK s b c hc]at hx;obtain⟨i,hi,rfl⟩:=List.mem_iff_getElem.1 hx;rw[List.length_take,qqw,cG]at hi;have:=h (b+i) (by omega) (by omega) (by omega);rw[List.getElem_take,List.getElem_drop];have e:=qC (s:=s) (b+i) (by omega);rw[qr (by rw[cG];omega)]at e;rw[qi e];exact this
theorem XJ{s:ByteArray}{b c:Nat}(hbc:b<c)(hl:c<=b+15)(hc:c<=s.size)(h:∀k (h:k<s.size),b<=k->k<c->dN s[k].toNat=true) :
  ∃v,Lib.atoi (s.extract b c).data.toList=some v/\0<=v/\v<=1000000000000000:=by
 have hd:=RL hc h;have hlen:(s.extract b c).data.toList.length=c-b:=by rw[cK s b c hc,List.length_take,qqw,cG];omega
 generalize (s.extract b c).data.toList=l at hd hlen;cases l with
 |nil=>simp at hlen;omega
 |cons x r =>
  have hx:=hd x List.mem_cons_self;simp only[dN,Bool.and_eq_true,qqy]at hx;obtain⟨n,hn,hlt⟩:=RK (x::r) 0 hd;have e1:(x==45)=false:=by
   rw[beq_eq_false_iff_ne];rintro rfl;exact absurd hx.1 (by decide)
  have e2:(x==43)=false:=by
   rw[beq_eq_false_iff_ne];rintro rfl;exact absurd hx.1 (by decide)
  refine⟨(n:Int),?_,by omega,?_⟩
  ·unfold Lib.atoi;simp only[e1,e2,Bool.false_eq_true,if_false];have:Lib.decNat (x::r)=some n:=by unfold Lib.decNat;simpa using hn
   rw[this];rfl
  ·rw[hlen]at hlt;have:(0+1)*10 ^ (c-b)<=1*10 ^ 15:=by
    rw[Nat.zero_add];exact Nat.mul_le_mul_left _ (Nat.pow_le_pow_right (by decide) (by omega))
   omega
theorem aH4(s:ByteArray)(hs:s.size<=4000)(ls:List Int):∃toks out,Lx ls s 0 0 toks out :=
 RS ls s hs (fun b c h1 h2 h3 h4=>by obtain⟨v,hv,_⟩:=XJ h1 h2 h3 h4;exact⟨v,hv⟩) _ 0 0 (qa _) (ql _)
theorem rA(s:ByteArray)(b c:Nat):(s.extract b c).size<=s.size:=by rw[qqh];omega
theorem aFR{ls:List Int}{s:ByteArray}{a n:Nat}{toks:List aX}{out:Option (Nat×Int)}(h:Lx ls s a n toks out)(hs:s.size<=4000)(ha:a<=s.size)(ho:out=none):kU toks/\toks.length<=s.size-a+1:=by
 induction h with
 | @fin a b n hu hb =>
  refine⟨⟨by simp,by simp,⟨rfl,?_⟩,fun i hi=>by simp at hi⟩,by simp⟩;exact qx (rA s b b) hs
 | @word a b c n toks out hu hb hc hw hl h ih =>
  obtain⟨h1,h2⟩:=ih hw.bs ho;have hlt:=n8 hw hb (by unfold hG;rw[hc];rfl);have hle:=hu.le;have hbs:=hw.bs;refine⟨h1.cons ⟨.inl rfl,fun _ => ?_,(show(0:Int)<=0 by decide),(show(0:Int)<=1000000000000000 by decide),qx (rA s b c) hs⟩ (by rw[qk];omega),by rw[qk];omega⟩;show 0<(s.extract b c).size;rw[qqh];omega
 | @number a b c n toks out v hu hb hc hw hl hv h ih =>
  obtain⟨h1,h2⟩:=ih hw.bs ho;have hlt:=n8 hw hb hc;have hle:=hu.le;have hbs:=hw.bs;obtain⟨v',hv',b0,b1⟩:=XJ hlt hl hw.bs fun k h h3 h4=>hw.ins k h h3 h4;obtain rfl:v=v':=qi (hv.symm.trans hv');exact⟨h1.cons ⟨.inr (.inl rfl),fun h=>absurd (show(2:Int)=1 from h) (by decide),b0,b1,qx (rA s b c) hs⟩ (by rw[qk];omega),by rw[qk];omega⟩
 | @str a b c n toks out bytes hu hb hc hR hbl h ih =>
  obtain⟨g1,g2⟩:=hR.le c bytes rfl;obtain⟨h1,h2⟩:=ih g2 ho;have hle:=hu.le;exact⟨h1.cons ⟨.inr (.inr (.inl rfl)),fun h=>absurd (show(3:Int)=1 from h) (by decide),(show(0:Int)<=0 by decide),(show(0:Int)<=1000000000000000 by decide),qx (rA s b c) hs⟩ (by rw[qk];omega),by rw[qk];omega⟩
 | @sym a b n toks out hu hb h1 h2 h3 hc h ih =>
  obtain⟨g1,g2⟩:=ih (by omega) ho;have hle:=hu.le;exact⟨g1.cons ⟨.inr (.inr (.inr rfl)),fun h=>absurd (show(4:Int)=1 from h) (by decide),(show(0:Int)<=0 by decide),(show(0:Int)<=1000000000000000 by decide),qx (rA s b (b+1)) hs⟩ (by rw[qk];omega),by rw[qk];omega⟩
 |wordLong=>cases ho
 |long=>cases ho
 |strShort=>cases ho
 |strWrong=>cases ho
 |none=>cases ho
theorem aB1{ls:List Int}{s:ByteArray}{a n:Nat}{toks:List aX}{out:Option (Nat×Int)}(h:Lx ls s a n toks out):∀b e,out=some (b,e)->b<=s.size+8:=by
 have key:∀(i:Nat)(acc:List UInt8)(o:PF),rL s i acc o->∀p,o=.wrong p->p<=s.size+8:=by
  intro i acc o h
  induction h with
  |eof _=>intro p e;cases e
  |close _ _=>intro p e;cases e
  |char _ _ _ ih=>exact ih
  |esc _ _ _ _ ih=>exact ih
  |escShort=>intro p e;cases e
  |escWrong h _ hE _=>intro p e;injection e with e;have:=hE.n_le;omega
  |bad h _ _ _=>intro p e;injection e with e;omega
 induction h with
 |fin=>intro b e h;cases h
 |word _ _ _ _ _ _ ih=>exact ih
 |number _ _ _ _ _ _ _ _ ih=>exact ih
 |str _ _ _ _ _ _ ih=>exact ih
 |sym _ _ _ _ _ _ _ ih=>exact ih
 |wordLong _ hb=>intro b e h;injection h with h;injection h with h1 _;omega
 |long _ hb=>intro b e h;injection h with h;injection h with h1 _;omega
 |strShort _ hb=>intro b e h;injection h with h;injection h with h1 _;omega
 |strWrong _ _ _ hR=>intro b e h;injection h with h;injection h with h1 _;have:=key _ _ _ hR _ rfl;omega
 |none _ hb=>intro b e h;injection h with h;injection h with h1 _;omega
def uL(t:aX):Value:=.agg #[Z t.kind,.string t.text,Z t.value,.string t.bytes,Z t.line,Z t.col,.bool t.joined]
def aG5(es:Array MapEntry):Prop:=∀e∈es.toList,∃k v:Int,e.key=Z k/\e.val=Z v
def aD6(T:List aX)(st:aD)(pos:Nat)(line col e:Int):Prop :=
 match st with
 | .ok p=>p=pos/\e=0/\line=0/\col=0/\pos<T.length
 | .bad e' l c=>e'=e/\e≠0/\line=l/\col=c/\pos<=1000000
structure eQ where
 ls:Int
 ln:Int
 es:List (Int×Int)
structure Fr where
 b:Bool
 ids:Option eQ
def Fr.ok(f:Fr)(ls ln:Int)(es:Array MapEntry)(clk:Nat):Prop :=
 aG5 es/\∀I,f.ids=some I->ls=I.ls/\ln=I.ln/\Go.MapKept.Stamped es clk/\es.toList.map (fun e=>(e.key,e.val))=I.es.map fun p=>(Z p.1,Z p.2)
structure PS(T:List aX)(Y M:Nat)(free:Fr)(st:aD)(w:World):Prop where
 good:kU T
 ex:∃tv pos line col e ls ln es clk,kZ Y M tv T pos line col e free.b ls ln es clk w/\free.ok ls ln es clk/\aD6 T st pos line col e
section
variable{T:List aX}{Y M:Nat}{free:Fr}{st:aD}{w:World}
theorem PS.step(h:PS T Y M free st w){w':World}(b:Below w.heap.size w w'):PS T Y M free st w':=by
 obtain⟨g,tv,pos,line,col,e,ls,ln,es,clk,h1,h2,h3⟩:=h;exact⟨g,tv,pos,line,col,e,ls,ln,es,clk,h1.step b,h2,h3⟩
theorem getD_some{T:List aX}{p:Nat}(h:p<T.length):T[p]?=some (T.getD p cH):=by
 rw[qqf,qr h];rfl
theorem PS.lt(h:PS T Y M free st w):Y<w.heap.size:=by
 obtain⟨_,tv,pos,line,col,e,ls,ln,es,clk,h1,_,_⟩:=h;exact h1.lt
theorem PS.ltM(h:PS T Y M free st w):M<w.heap.size:=by
 obtain⟨_,tv,pos,line,col,e,ls,ln,es,clk,h1,_,_⟩:=h;exact h1.ltM
theorem kU.more{T:List aX}(h:kU T){p:Nat}(hp:p<T.length)(hk:(T.getD p cH).kind≠0):p+1<T.length:=by
 have h1:=h.last.1;rcases Nat.lt_or_ge (p+1) T.length with h2|h2
 ·exact h2
 ·exact absurd (by rw[show p=T.length-1 by omega];exact h1) hk
theorem JR{t:aX}{x:ByteArray}(h:wX t x=true):t.kind=1\/t.kind=4:=by
 unfold wX at h;simp only[Bool.and_eq_true,Bool.or_eq_true,qqy]at h;exact h.1
theorem nX(h:PS T Y M free st w):Calls Tryz.prog 62 #[.pointer (some ⟨Y,0,none⟩)] w fun r w'=>r=.returned (uL (aZ T st))/\Below w.heap.size w w':=by
 obtain⟨g,tv,pos,line,col,e,ls,ln,es,clk,h1,h2,h3⟩:=h;cases st with
 |ok p =>
  obtain⟨rfl,rfl,rfl,rfl,hp⟩:=h3;exact uK h1 (getD_some hp)
 |bad e' l c =>
  obtain⟨rfl,he,rfl,rfl,_⟩:=h3;exact SF h1 he
theorem KY(h:PS T Y M free st w)(x:ByteArray):Calls Tryz.prog 76 #[.pointer (some ⟨Y,0,none⟩),.string x] w fun r w'=>r=.returned (.bool (isS T x st))/\Below w.heap.size w w':=by
 obtain⟨g,tv,pos,line,col,e,ls,ln,es,clk,h1,h2,h3⟩:=h;cases st with
 |ok p =>
  obtain⟨rfl,rfl,rfl,rfl,hp⟩:=h3;exact aD3 h1 (getD_some hp) x rfl
 |bad e' l c =>
  obtain⟨rfl,he,rfl,rfl,_⟩:=h3;exact aD4 h1 he x
theorem d9(h:PS T Y M free st w)(x:ByteArray):Calls Tryz.prog 53 #[.pointer (some ⟨Y,0,none⟩),.string x] w fun r w'=>r=.returned (.bool (isS T x st))/\PS T Y M free (aY T x st) w'/\aC [Y,M] w w':=by
 have h0:=h;obtain⟨g,tv,pos,line,col,e,ls,ln,es,clk,h1,h2,h3⟩:=h;cases st with
 |ok p =>
  obtain⟨rfl,rfl,rfl,rfl,hp⟩:=h3;have hm:=g.max;cases hb:isS T x (.ok p)with
  |true =>
   have hk:=JR hb;have hlt:=g.more hp (by rcases hk with hk|hk<;>rw[show(T.getD p cH).kind=_ from hk]<;>decide);refine(VN h1 (getD_some hp) x hb (by omega)).mono ?_;rintro r w' ⟨rfl,hS,ha⟩;refine⟨rfl,⟨g,tv,p+1,0,0,0,ls,ln,es,clk,hS,h2,?_⟩,ha.more (by simp)⟩;unfold aY;rw[if_pos hb];exact⟨rfl,rfl,rfl,rfl,hlt⟩
  |false =>
   refine(Z6 h1 (getD_some hp) x hb).mono ?_;rintro r w' ⟨rfl,hb'⟩;refine⟨rfl,?_,aC.of_below hb'⟩;unfold aY;rw[if_neg (by rw[hb];decide)];exact h0.step hb'
 |bad e' l c =>
  obtain⟨rfl,he,rfl,rfl,_⟩:=h3;refine(VP h1 he x).mono ?_;rintro r w' ⟨rfl,hb'⟩;exact⟨rfl,h0.step hb',aC.of_below hb'⟩
theorem jC(h:PS T Y M free st w)(c:Int)(hc:c≠0):Calls Tryz.prog 63 #[.pointer (some ⟨Y,0,none⟩),Z c] w fun r w'=>r=.returned (.tuple #[])/\PS T Y M free (cC T c st) w'/\aC [Y,M] w w':=by
 have h0:=h;obtain⟨g,tv,pos,line,col,e,ls,ln,es,clk,h1,h2,h3⟩:=h;cases st with
 |ok p =>
  obtain⟨rfl,rfl,rfl,rfl,hp⟩:=h3;have hm:=g.max;refine(X1 h1 (getD_some hp) c hc).mono ?_;rintro r w' ⟨rfl,hS,ha⟩;exact⟨rfl,⟨g,tv,p,_,_,c,ls,ln,es,clk,hS,h2,rfl,hc,rfl,rfl,by omega⟩,ha.more (by simp)⟩
 |bad e' l c' =>
  obtain⟨rfl,he,rfl,rfl,_⟩:=h3;refine(aD5 h1 he c).mono ?_;rintro r w' ⟨rfl,hb'⟩;exact⟨rfl,h0.step hb',aC.of_below hb'⟩
theorem iX(h:PS T Y M free st w)(x:ByteArray):Calls Tryz.prog 54 #[.pointer (some ⟨Y,0,none⟩),.string x] w fun r w'=>r=.returned (.tuple #[])/\PS T Y M free (bY T x st) w'/\aC [Y,M] w w':=by
 have ha:=d9 h x;cases hb:isS T x st with
 |true =>
  rw[hb]at ha;have e1:aY T x st=bY T x st:=by unfold aY bY;rw[if_pos hb,if_pos hb]
  rw[e1]at ha;clear h hb e1;go_enter Tryz.func54,Tryz.ntmps54;go_wp2_with(go_at_call 53;refine ha.mono ?_);intro r w1;first |(intro he hS b1;subst he)|rintro⟨rfl,hS,b1⟩
  go_wp2
  go_end0
  exact⟨rfl,hS,b1⟩
 |false =>
  rw[hb]at ha;have e1:aY T x st=st:=by unfold aY;rw[if_neg (by rw[hb];decide)]
  have e2:bY T x st=cC T 13 st:=by unfold bY;rw[if_neg (by rw[hb];decide)]
  rw[e1]at ha;rw[e2];have hf:=fun w' (h:PS T Y M free st w')=>jC h 13 (by decide);clear h hb e1 e2;go_enter Tryz.func54,Tryz.ntmps54;go_wp2_with(go_at_call 53;refine ha.mono ?_);intro r w1;first |(intro he hS b1;subst he)|rintro⟨rfl,hS,b1⟩
  have hf1:=hf _ hS;go_wp2_with(go_at_call 63;refine hf1.mono ?_);intro r w2;first |(intro he hS2 b2;subst he)|rintro⟨rfl,hS2,b2⟩
  go_wp2
  go_end0
  exact⟨rfl,hS2,b1.trans b2⟩
theorem aGJ(h:PS T Y M free st w)(hk:(aZ T st).kind≠3):Calls Tryz.prog 91 #[.pointer (some ⟨Y,0,none⟩)] w fun r w'=>r=.returned (.string ByteArray.empty)/\PS T Y M free (cC T 13 st) w'/\aC [Y,M] w w':=by
 have hp:=nX h;have hst:=fun w' (b:Below w.heap.size w w')=>jC (h.step b) 13 (by decide);generalize aZ T st=t at hk hp;obtain⟨kd,text,v,bt,lin,cl,j⟩:=t;simp only[uL]at hk hp;clear h;go_enter Tryz.func91,Tryz.ntmps91;go_wp2_with(go_at_call 62;refine hp.mono ?_);intro r w1;first |(intro he b1;subst he)|rintro⟨rfl,b1⟩
 have b2:=b1.alloc b1.size (.cells #[Z kd,.string text,Z v,.string bt,Z lin,Z cl,.bool j] 59);have hf1:=hst _ b2;go_wp2_with(go_at_call 63;refine hf1.mono ?_);intro r w3;first |(intro he hS b3;subst he)|rintro⟨rfl,hS,b3⟩
 go_wp2;go_ret;exact⟨rfl,hS,(aC.of_below b2).trans b3⟩
theorem X2(h:PS T Y M free st w):Calls Tryz.prog 91 #[.pointer (some ⟨Y,0,none⟩)] w fun r w'=>r=.returned (.string (fU T st).1)/\PS T Y M free (fU T st).2 w'/\aC [Y,M] w w':=by
 unfold fU;by_cases hk:(aZ T st).kind=3
 ·rw[if_pos hk];obtain⟨g,tv,pos,line,col,e,ls,ln,es,clk,h1,h2,h3⟩:=h;cases st with
  |ok p =>
   obtain⟨rfl,rfl,rfl,rfl,hp⟩:=h3;have hm:=g.max;have hlt:=g.more hp (by rw[show(T.getD p cH).kind=_ from hk];decide);refine(aJS h1 (getD_some hp) hk (by omega)).mono ?_;rintro r w' ⟨rfl,hS,ha⟩;exact⟨rfl,⟨g,tv,p+1,0,0,0,ls,ln,es,clk,hS,h2,rfl,rfl,rfl,rfl,hlt⟩,ha.more (by simp)⟩
  |bad e' l c=>exact absurd hk (by simp[aZ,cH])
 ·rw[if_neg hk];exact aGJ h hk
theorem VQ(h:PS T Y M free st w)(lo hi:Int)(hk:(aZ T st).kind≠2):Calls Tryz.prog 114 #[.pointer (some ⟨Y,0,none⟩),Z lo,Z hi] w fun r w'=>r=.returned (Z 0)/\PS T Y M free (cC T 13 st) w'/\aC [Y,M] w w':=by
 have hp:=nX h;have hst:=fun w' (b:Below w.heap.size w w')=>jC (h.step b) 13 (by decide);generalize aZ T st=t at hk hp;obtain⟨kd,text,v,bt,lin,cl,j⟩:=t;simp only[uL]at hk hp;clear h;go_enter Tryz.func114,Tryz.ntmps114;go_wp2_with(go_at_call 62;refine hp.mono ?_);intro r w1;first |(intro he b1;subst he)|rintro⟨rfl,b1⟩
 have b2:=b1.alloc b1.size (.cells #[Z kd,.string text,Z v,.string bt,Z lin,Z cl,.bool j] 59);have hf1:=hst _ b2;go_wp2_with(go_at_call 63;refine hf1.mono ?_);intro r w3;first |(intro he hS b3;subst he)|rintro⟨rfl,hS,b3⟩
 go_wp2;go_ret;exact⟨rfl,hS,(aC.of_below b2).trans b3⟩
theorem jJ(h:PS T Y M free st w)(lo hi:Int):Calls Tryz.prog 114 #[.pointer (some ⟨Y,0,none⟩),Z lo,Z hi] w fun r w'=>r=.returned (Z (bD T lo hi st).1)/\PS T Y M free (bD T lo hi st).2 w'/\aC [Y,M] w w':=by
 unfold bD;by_cases hk:(aZ T st).kind=2
 ·rw[if_neg (by simpa using hk)];obtain⟨g,tv,pos,line,col,e,ls,ln,es,clk,h1,h2,h3⟩:=h;cases st with
  |ok p =>
   obtain⟨rfl,rfl,rfl,rfl,hp⟩:=h3;have hm:=g.max;have hlt:=g.more hp (by rw[show(T.getD p cH).kind=_ from hk];decide);by_cases hr:(aZ T (.ok p)).value<lo\/hi<(aZ T (.ok p)).value
   ·rw[if_pos hr];refine(N8 h1 (getD_some hp) hk lo hi hr).mono ?_;rintro r w' ⟨rfl,hS,ha⟩;exact⟨rfl,⟨g,tv,p,_,_,2,ls,ln,es,clk,hS,h2,rfl,by decide,rfl,rfl,by omega⟩,ha.more (by simp)⟩
   ·rw[if_neg hr];refine(Z7 h1 (getD_some hp) hk (by omega) lo hi (by show lo<=(aZ T (.ok p)).value;omega) (by show(aZ T (.ok p)).value<=hi;omega)).mono ?_;rintro r w' ⟨rfl,hS,ha⟩;exact⟨rfl,⟨g,tv,p+1,0,0,0,ls,ln,es,clk,hS,h2,rfl,rfl,rfl,rfl,hlt⟩,ha.more (by simp)⟩
  |bad e' l c=>exact absurd hk (by simp[aZ,cH])
 ·rw[if_pos hk];exact VQ h lo hi hk
end
section
variable{X:Nat}{lv iv:Value}{T:List aX}{pos:Nat}{free:Bool}{is im:Int}{n:Nat}{xs:List Value}{e line col:Int}{w:World}
end
end Go.Proofs.YtgkhemnmcgicnaaGreatDoor
