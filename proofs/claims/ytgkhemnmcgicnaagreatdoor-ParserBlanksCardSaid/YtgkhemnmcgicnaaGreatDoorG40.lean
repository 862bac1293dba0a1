/- Towards the law ParserBlanks, true for every text and all blanks (no condition): one part of the proof. -/
import Derived.Test.YtgkhemnmcgicnaaGreatDoorG01
import Derived.Test.YtgkhemnmcgicnaaGreatDoorG37
import Derived.Test.YtgkhemnmcgicnaaGreatDoorG36
import Derived.Test.YtgkhemnmcgicnaaGreatDoorG38
namespace Go.Proofs.YtgkhemnmcgicnaaGreatDoor
set_option maxHeartbeats 16000000
set_option maxRecDepth 100000
open Go.RowKit
def kM.cells(m:kM):Array Value:=#[Z m.c,Z m.u,Z m.g0,Z m.g1,Z m.g2,Z m.g3,Z m.g4,Z m.g5]
def k8(w:World)(X:Nat)(a0 a1 a2 a3 a4 a5 a6 a7:Value):World:=(((((((w.setCell ⟨X,0,none⟩ a0).setCell ⟨X,1,none⟩ a1).setCell ⟨X,2,none⟩ a2).setCell ⟨X,3,none⟩ a3).setCell ⟨X,4,none⟩ a4).setCell ⟨X,5,none⟩ a5).setCell ⟨X,6,none⟩ a6).setCell ⟨X,7,none⟩ a7
section
variable{w:World}{X:Nat}(a0 a1 a2 a3 a4 a5 a6 a7:Value)
theorem fM{T:TypeId}{c0 c1 c2 c3 c4 c5 c6 c7:Value}(h:w.heap[X]?=some (.cells #[c0,c1,c2,c3,c4,c5,c6,c7] T (0,0))):(k8 w X a0 a1 a2 a3 a4 a5 a6 a7).heap[X]?=some (.cells #[a0,a1,a2,a3,a4,a5,a6,a7] T (0,0)):=by
 have h0:(w.setCell ⟨X,0,none⟩ a0).heap[X]?=some (.cells #[a0,c1,c2,c3,c4,c5,c6,c7] T (0,0)):=Lib.heap_setCell_same (i:=0) h a0;have h1:((w.setCell ⟨X,0,none⟩ a0).setCell ⟨X,1,none⟩ a1).heap[X]?=some (.cells #[a0,a1,c2,c3,c4,c5,c6,c7] T (0,0)):=Lib.heap_setCell_same (i:=1) h0 a1;have h2:(((w.setCell ⟨X,0,none⟩ a0).setCell ⟨X,1,none⟩ a1).setCell ⟨X,2,none⟩ a2).heap[X]?=some (.cells #[a0,a1,a2,c3,c4,c5,c6,c7] T (0,0)):=Lib.heap_setCell_same (i:=2) h1 a2;have h3:((((w.setCell ⟨X,0,none⟩ a0).setCell ⟨X,1,none⟩ a1).setCell ⟨X,2,none⟩ a2).setCell ⟨X,3,none⟩ a3).heap[X]?=some (.cells #[a0,a1,a2,a3,c4,c5,c6,c7] T (0,0)):=Lib.heap_setCell_same (i:=3) h2 a3;have h4:(((((w.setCell ⟨X,0,none⟩ a0).setCell ⟨X,1,none⟩ a1).setCell ⟨X,2,none⟩ a2).setCell ⟨X,3,none⟩ a3).setCell ⟨X,4,none⟩ a4).heap[X]?=some (.cells #[a0,a1,a2,a3,a4,c5,c6,c7] T (0,0)):=Lib.heap_setCell_same (i:=4) h3 a4;have h5:((((((w.setCell ⟨X,0,none⟩ a0).setCell ⟨X,1,none⟩ a1).setCell ⟨X,2,none⟩ a2).setCell ⟨X,3,none⟩ a3).setCell ⟨X,4,none⟩ a4).setCell ⟨X,5,none⟩ a5).heap[X]?=some (.cells #[a0,a1,a2,a3,a4,a5,c6,c7] T (0,0)):=Lib.heap_setCell_same (i:=5) h4 a5;have h6:(((((((w.setCell ⟨X,0,none⟩ a0).setCell ⟨X,1,none⟩ a1).setCell ⟨X,2,none⟩ a2).setCell ⟨X,3,none⟩ a3).setCell ⟨X,4,none⟩ a4).setCell ⟨X,5,none⟩ a5).setCell ⟨X,6,none⟩ a6).heap[X]?=some (.cells #[a0,a1,a2,a3,a4,a5,a6,c7] T (0,0)):=Lib.heap_setCell_same (i:=6) h5 a6;exact Lib.heap_setCell_same (i:=7) h6 a7
theorem rN(k:Nat)(hk:k≠X):(k8 w X a0 a1 a2 a3 a4 a5 a6 a7).heap[k]?=w.heap[k]?:=by
 have s:∀(u:World)(i:Nat)(v:Value),(u.setCell ⟨X,i,none⟩ v).heap[k]?=u.heap[k]?:=fun u i v=>qh u ⟨X,i,none⟩ v k hk;unfold k8;simp only[s]
theorem tS{bs:List Nat}{b:World}(h:aC bs b w)(hX:b.heap.size<=X):aC bs b (k8 w X a0 a1 a2 a3 a4 a5 a6 a7):=by
 have s:∀{u:World},aC bs b u->∀(i:Nat)(v:Value),aC bs b (u.setCell ⟨X,i,none⟩ v):=fun hu i v=>hu.setCell (p:=⟨X,i,none⟩) (.inr hX) v;exact s (s (s (s (s (s (s (s h 0 a0) 1 a1) 2 a2) 3 a3) 4 a4) 5 a5) 6 a6) 7 a7
theorem iY{B:Nat}{b:World}(h:Below B b w)(hX:B<=X):Below B b (k8 w X a0 a1 a2 a3 a4 a5 a6 a7) :=
 (((((((h.setCell (p:=⟨X,0,none⟩) hX a0).setCell (p:=⟨X,1,none⟩) hX a1).setCell (p:=⟨X,2,none⟩) hX a2).setCell (p:=⟨X,3,none⟩) hX a3).setCell (p:=⟨X,4,none⟩) hX a4).setCell (p:=⟨X,5,none⟩) hX a5).setCell (p:=⟨X,6,none⟩) hX a6).setCell (p:=⟨X,7,none⟩) hX a7
end
theorem cY{w:World}{b:Nat}{T:TypeId}{c0 c1 c2 c3 c4 c5 c6 c7:Value}(h:w.heap[b]?=some (.cells #[c0,c1,c2,c3,c4,c5,c6,c7] T (0,0))) :
  (w.cell? ⟨b,0,none⟩=some c0/\w.cell? ⟨b,1,none⟩=some c1/\w.cell? ⟨b,2,none⟩=some c2/\w.cell? ⟨b,3,none⟩=some c3/\w.cell? ⟨b,4,none⟩=some c4/\w.cell? ⟨b,5,none⟩=some c5/\w.cell? ⟨b,6,none⟩=some c6/\w.cell? ⟨b,7,none⟩=some c7) /\
  w.frozen? ⟨b,0,none⟩=false/\w.frozen? ⟨b,1,none⟩=false/\w.frozen? ⟨b,2,none⟩=false/\w.frozen? ⟨b,3,none⟩=false/\w.frozen? ⟨b,4,none⟩=false/\w.frozen? ⟨b,5,none⟩=false/\w.frozen? ⟨b,6,none⟩=false/\w.frozen? ⟨b,7,none⟩=false:=by
 refine⟨⟨?_,?_,?_,?_,?_,?_,?_,?_⟩,Lib.frozen_of_heap h 0,Lib.frozen_of_heap h 1,Lib.frozen_of_heap h 2,Lib.frozen_of_heap h 3,Lib.frozen_of_heap h 4,Lib.frozen_of_heap h 5,Lib.frozen_of_heap h 6,Lib.frozen_of_heap h 7⟩<;>(rw[Lib.cell_of_heap h];rfl)
theorem Tryz.sizeMet:(Tryz.prog.info? 90).map (·.size)=some 8:=by kernel_rfl
def jQ(f:ByteArray->kM×Int):Prop:=∀(s:ByteArray),s.size<=281474976710656->∀w:World,AE w->Calls Tryz.prog 196 #[.string s] w fun r w'=>r=.returned (.tuple #[.agg (f s).1.cells,Z (f s).2])/\Below w.heap.size w w'
def bJ(f:ByteArray->kM×Int)(s:ByteArray):Option kM:=if(f s).2=0 then some (f s).1 else none
theorem YC(f:ByteArray->kM×Int)(s:ByteArray):(bJ f s=none/\(f s).2≠0)\/∃v,bJ f s=some v/\v=(f s).1/\(f s).2=0:=by
 unfold bJ;by_cases h:(f s).2=0
 ·exact .inr ⟨_,if_pos h,rfl,h⟩
 ·exact .inl ⟨if_neg h,h⟩
theorem aFB{T:List aX}{s:aD}(h:(aZ T s).kind=2):∃p,s=.ok p:=by
 cases s with
 |ok p=>exact⟨p,rfl⟩
 |bad e l c=>exact absurd h (by simp[aZ,cH])
section
variable{W0:World}{T:List aX}{Y M KK:Nat}{free:Fr}{st:aD}{w:World}{f:ByteArray->kM×Int}
theorem aHF(hf:jQ f)(s:ByteArray)(hs:s.size<=281474976710656)(g:AE w):Calls Tryz.prog 195 #[.string s] w fun r w'=>(∃b,r=.returned (.tuple #[.agg (f s).1.cells,.bool b])/\(b=true↔(f s).2=0))/\Below w.heap.size w w':=by
 have hR:=qd w (.cells #[Z 0,Z 0,Z 0,Z 0,Z 0,Z 0,Z 0,Z 0] 90);have b0:=(qb _ w).alloc (qa _) (.cells #[Z 0,Z 0,Z 0,Z 0,Z 0,Z 0,Z 0,Z 0] 90);have hc:=hf s hs _ (g.stay b0);generalize f s=pr at hc⊢;obtain⟨pv,pe⟩:=pr;obtain⟨mc,mu,g0,g1,g2,g3,g4,g5⟩:=pv;simp only[kM.cells]at hc⊢;clear g;by_cases he:pe=0
 ·subst he;go_enter Tryz.func195,Tryz.ntmps195;go_wp2_with(go_at_call 196;refine hc.mono ?_);intro r w1;first |(intro he1 b1;subst he1)|rintro⟨rfl,b1⟩
  have hR1:=(b1.block _ (by first|exact aA hR|simpa using aA hR)).trans hR;have b01:=b0.trans (b1.mono (by first|exact b0.size|simpa using b0.size));have hRl:=aA hR1;have hRn:w.heap.size≠w1.heap.size:=by omega
  generalize hRR:w.heap.size=R at hR hR1 hRl hRn⊢;obtain⟨⟨q0,q1,q2,q3,q4,q5,q6,q7⟩,f0,f1,f2,f3,f4,f5,f6,f7⟩:=cY hR1;have hR5:=fM (Z mc) (Z mu) (Z g0) (Z g1) (Z g2) (Z g3) (Z g4) (Z g5) hR1;have b5:=iY (Z mc) (Z mu) (Z g0) (Z g1) (Z g2) (Z g3) (Z g4) (Z g5) b01 (qj hRR);have hR6:=(Lib.alloc_old _ (.cells #[Z mc,Z mu,Z g0,Z g1,Z g2,Z g3,Z g4,Z g5] 90) R (aA hR5)).trans hR5;have b6:=b5.alloc b5.size (.cells #[Z mc,Z mu,Z g0,Z g1,Z g2,Z g3,Z g4,Z g5] 90);clear hR hR1 hc b01 hR5 b5;unfold k8 at hR6 b6;go_wp2;exact qg (dG rfl _ _ R 90 _ (0,0) _ rfl hR6 Tryz.underlying90 rfl Tryz.sizeMet) rfl ⟨⟨true,rfl,by simp⟩,b6⟩
 ·go_enter Tryz.func195,Tryz.ntmps195;go_wp2_with(go_at_call 196;refine hc.mono ?_);intro r w1;first |(intro he1 b1;subst he1)|rintro⟨rfl,b1⟩
  have hR1:=(b1.block _ (by first|exact aA hR|simpa using aA hR)).trans hR;have b01:=b0.trans (b1.mono (by first|exact b0.size|simpa using b0.size));have hRl:=aA hR1;have hRn:w.heap.size≠w1.heap.size:=by omega
  generalize hRR:w.heap.size=R at hR hR1 hRl hRn⊢;obtain⟨⟨q0,q1,q2,q3,q4,q5,q6,q7⟩,f0,f1,f2,f3,f4,f5,f6,f7⟩:=cY hR1;have hR5:=fM (Z mc) (Z mu) (Z g0) (Z g1) (Z g2) (Z g3) (Z g4) (Z g5) hR1;have b5:=iY (Z mc) (Z mu) (Z g0) (Z g1) (Z g2) (Z g3) (Z g4) (Z g5) b01 (qj hRR);have hR6:=(Lib.alloc_old _ (.cells #[Z mc,Z mu,Z g0,Z g1,Z g2,Z g3,Z g4,Z g5] 90) R (aA hR5)).trans hR5;have b6:=b5.alloc b5.size (.cells #[Z mc,Z mu,Z g0,Z g1,Z g2,Z g3,Z g4,Z g5] 90);clear hR hR1 hc b01 hR5 b5;unfold k8 at hR6 b6;go_wp2;exact qg (dG rfl _ _ R 90 _ (0,0) _ rfl hR6 Tryz.underlying90 rfl Tryz.sizeMet) rfl ⟨⟨false,by first|rfl|simp[he],by simp[he]⟩,b6⟩
theorem PP(hf:jQ f)(h:PS T Y M free st w)(B:mF W0 [Y,M] w)(hK:gF KK eT w){b:Bool}(hb:decide ((aZ T st).kind=2)=b) :
  Calls Tryz.prog 194 #[.pointer (some ⟨Y,0,none⟩),.bool b,Z 19,.func (.func 195) #[] #[],.bool true,.slice (some ⟨KK,0,none⟩) 2 2] w fun r w' =>
   r=.returned (.agg (vB ⟨aP,bJ f⟩ T st).1.cells)/\PS T Y M free (vB ⟨aP,bJ f⟩ T st).2 w'/\aC [Y,M] w w':=by
 have hYl:=h.lt;have hMl:=h.ltM;have hR:=(Lib.alloc_old (w.alloc (.cells #[Z 0,Z 0,Z 0,Z 0,Z 0,Z 0,Z 0,Z 0] 90)) (.cells #[Z 0,Z 0,Z 0,Z 0,Z 0,Z 0,Z 0,Z 0] 90) w.heap.size (aA (qd w _))).trans (qd w (.cells #[Z 0,Z 0,Z 0,Z 0,Z 0,Z 0,Z 0,Z 0] 90));have hZ:=qd (w.alloc (.cells #[Z 0,Z 0,Z 0,Z 0,Z 0,Z 0,Z 0,Z 0] 90)) (.cells #[Z 0,Z 0,Z 0,Z 0,Z 0,Z 0,Z 0,Z 0] 90);have b0:=((qb _ w).alloc (qa _) (.cells #[Z 0,Z 0,Z 0,Z 0,Z 0,Z 0,Z 0,Z 0] 90)).alloc (by simp) (.cells #[Z 0,Z 0,Z 0,Z 0,Z 0,Z 0,Z 0,Z 0] 90);have hel:=fun(s1:aD)(w1 w2:World)(h1:PS T Y M free s1 w1)(R:Nat)=>h1.else (w':=w2) (R:=R) h;have hRl:=aA hR;rw[World.size_alloc]at hZ;cases b with
 |false =>
  have e1:vB ⟨aP,bJ f⟩ T st=(pV,cC T 13 st):=if_neg (of_decide_eq_false hb);rw[e1];simp only[kM.cells,pV];have hx2:=jC (h.step b0) 13 (by decide);generalize cC T 13 st=s1 at hx2⊢;clear e1 hb h;go_enter Tryz.func194,Tryz.ntmps194;go_wp2_with(go_at_call 63;refine hx2.mono ?_);intro r w2;first |(intro he hS2 a2;subst he)|rintro⟨rfl,hS2,a2⟩
  have hR2:=a2.at hR (by simp;omega);have hZ2:=a2.at hZ (by simp;omega);have a02:=(aC.of_below (bs:=[Y,M]) b0).trans a2;generalize hRR:w.heap.size=R at hR hZ hZ2 hR2 hRl⊢;obtain⟨⟨q0,q1,q2,q3,q4,q5,q6,q7⟩,f0,f1,f2,f3,f4,f5,f6,f7⟩:=cY hR2;obtain⟨⟨z0,z1,z2,z3,z4,z5,z6,z7⟩,zf0,zf1,zf2,zf3,zf4,zf5,zf6,zf7⟩:=cY hZ2;have hR3:=fM (Z 0) (Z 0) (Z 0) (Z 0) (Z 0) (Z 0) (Z 0) (Z 0) hR2;have hS3:=hel _ w2 (k8 w2 R (Z 0) (Z 0) (Z 0) (Z 0) (Z 0) (Z 0) (Z 0) (Z 0)) hS2 R (qj hRR) hR2 (by decide) (fun j hj=>rN _ _ _ _ _ _ _ _ j hj);have a3:=tS (Z 0) (Z 0) (Z 0) (Z 0) (Z 0) (Z 0) (Z 0) (Z 0) a02 (qj hRR);clear hel hR hR2 hx2 hS2 hZ hZ2;unfold k8 at hR3 hS3 a3;go_wp2;refine qg (qp rfl _ _ R 90 _ (0,0) _ rfl hR3 Tryz.underlying90 rfl Tryz.sizeMet) rfl ?_;exact⟨rfl,hS3,a3⟩
 |true =>
  obtain⟨p,rfl⟩:=aFB (of_decide_eq_true hb);have g:=h.good;have hpl:=h.atCell.2.2;have hlt:=g.more hpl (by rw[show(T.getD p cH).kind=2 from of_decide_eq_true hb];decide);have hrl:=BY g true eT hlt;have hm:=g.max;have hcs:=C0 g true eT hlt;have c2:=fun w' (h:PS T Y M free (.ok p) w') (hk:gF KK eT w')=>AC h hlt true eT (by decide) hk;have c3:=fun w' (b:mF W0 [Y,M] w')=>aHF hf (w:=w') _ hcs b.glo;have hst:=fun w' (b:Below w.heap.size w w')=>h.step b;have hwq:IntKind.i64.wrap ((p:Int)+(((kN T true eT (.ok p)).length:Int)+1))=((p+((kN T true eT (.ok p)).length+1):Nat):Int):=by
   rw[IntWalk.i64_in _ (by omega)];omega
  have hq:p+((kN T true eT (.ok p)).length+1)<T.length:=by omega
  have hBs:=fun w' (b:Below w.heap.size w w')=>B.step b;have hKs:=fun w' (b:Below w.heap.size w w')=>hK.step b
  have epit : vB ⟨aP, bJ f⟩ T (.ok p) = match bJ f (pE T true eT (.ok p)) with
    |none=>(pV,cC T 19 (.ok p))
    |some v=>(v,.ok (p+((kN T true eT (.ok p)).length+1))):=by unfold vB;rw[if_pos (of_decide_eq_true hb)];rfl
  rw[epit];have hpt:=YC f (pE T true eT (.ok p));generalize pE T true eT (.ok p)=cs at c2 c3 hpt⊢;generalize (kN T true eT (.ok p)).length=m at c2 hwq hq⊢;generalize f cs=pr at c3 hpt;obtain⟨pv,pe⟩:=pr;obtain⟨mc,mu,g0,g1,g2,g3,g4,g5⟩:=pv;simp only[kM.cells]at c3⊢;simp only[eT,qk,qql,Nat.zero_add,Nat.reduceAdd]at c2;rcases hpt with⟨ho,hne⟩ |⟨v,ho,rfl,hpe⟩
  ·have hne':¬pe=0:=hne;clear hne;rw[ho];simp only;have c4:=fun w' (h:PS T Y M free (.ok p) w')=>jC h 19 (by decide);generalize cC T 19 (.ok p)=s1 at c4⊢;clear ho hb h;go_enter Tryz.func194,Tryz.ntmps194;have hx2:=c2 _ (hst _ b0) (hKs _ b0);clear c2;go_wp2_with(go_at_call 144;refine hx2.mono ?_);intro r w1;first |(intro he b1;subst he)|rintro⟨rfl,b1⟩
   have b01:=b0.trans (b1.mono (by first|exact b0.size|simpa using b0.size));have hR1:=(b1.block _ (by first|exact aA hR|simpa using aA hR)).trans hR;have hZ1:=(b1.block _ (by first|exact aA hZ|simpa using aA hZ)).trans hZ;have hx3:=c3 _ (hBs _ b01);clear hx2 c3;go_wp2_with(go_at_call 195;refine hx3.mono ?_);rintro r w3 ⟨⟨bk,rfl,hbk⟩,b3⟩;have hbf:bk=false:=by
    cases bk with
    |false=>rfl
    |true=>exact absurd (hbk.1 rfl) hne'
   subst hbf;have b03:=(b01.trans (b3.mono b01.size)).alloc (qx b01.size b3.size) (.cells #[Z mc,Z mu,Z g0,Z g1,Z g2,Z g3,Z g4,Z g5] 90);have bt3:=(qb _ w3).alloc (qa _) (.cells #[Z mc,Z mu,Z g0,Z g1,Z g2,Z g3,Z g4,Z g5] 90);have hR3:=(bt3.block _ (qqa (aA hR1) b3.size)).trans ((b3.block _ (aA hR1)).trans hR1);have hZ3:=(bt3.block _ (qqa (aA hZ1) b3.size)).trans ((b3.block _ (aA hZ1)).trans hZ1);have hx4:=c4 _ (hst _ b03);clear hx3 c4 hbk;go_wp2_with(go_at_call 63;refine hx4.mono ?_);intro r w4;first |(intro he hS4 a4;subst he)|rintro⟨rfl,hS4,a4⟩
   have hR4:=a4.at hR3 (by simp;omega);have hZ4:=a4.at hZ3 (by simp;omega);have a04:=(aC.of_below (bs:=[Y,M]) b03).trans a4;generalize hRR:w.heap.size=R at hR hR1 hR3 hR4 hZ hZ1 hZ3 hZ4 hRl⊢;obtain⟨⟨q0,q1,q2,q3,q4,q5,q6,q7⟩,f0,f1,f2,f3,f4,f5,f6,f7⟩:=cY hR4;obtain⟨⟨z0,z1,z2,z3,z4,z5,z6,z7⟩,zf0,zf1,zf2,zf3,zf4,zf5,zf6,zf7⟩:=cY hZ4;have hR5:=fM (Z 0) (Z 0) (Z 0) (Z 0) (Z 0) (Z 0) (Z 0) (Z 0) hR4;have hS5:=hel _ w4 (k8 w4 R (Z 0) (Z 0) (Z 0) (Z 0) (Z 0) (Z 0) (Z 0) (Z 0)) hS4 R (qj hRR) hR4 (by decide) (fun j hj=>rN _ _ _ _ _ _ _ _ j hj);have a5:=tS (Z 0) (Z 0) (Z 0) (Z 0) (Z 0) (Z 0) (Z 0) (Z 0) a04 (qj hRR);clear hel hst hR hR1 hR3 hR4 hx4 hS4 hBs hKs hZ hZ1 hZ3 hZ4;unfold k8 at hR5 hS5 a5;go_wp2;refine qg (qp rfl _ _ R 90 _ (0,0) _ rfl hR5 Tryz.underlying90 rfl Tryz.sizeMet) rfl ?_;exact⟨rfl,hS5,a5⟩
  ·rw[ho];simp only;clear ho hb;generalize hQQ:p+(m+1)=q at hwq hq⊢;go_enter Tryz.func194,Tryz.ntmps194;have hx2:=c2 _ (hst _ b0) (hKs _ b0);clear c2;go_wp2_with(go_at_call 144;refine hx2.mono ?_);intro r w1;first |(intro he b1;subst he)|rintro⟨rfl,b1⟩
   have b01:=b0.trans (b1.mono (by first|exact b0.size|simpa using b0.size));have hR1:=(b1.block _ (by first|exact aA hR|simpa using aA hR)).trans hR;have hx3:=c3 _ (hBs _ b01);clear hx2 c3;go_wp2_with(go_at_call 195;refine hx3.mono ?_);rintro r w3 ⟨⟨bk,rfl,hbk⟩,b3⟩;obtain rfl:bk=true:=hbk.2 hpe;have b03:=b01.trans (b3.mono b01.size);have hR3:=(b3.block _ (aA hR1)).trans hR1;have hS3:=hst _ b03;obtain⟨x1,xf1,_⟩:=hS3.atCell;have n1:=qqd w3 _ x1;have l1:=hS3.lt;have hS4:=hS3.jump hq;have a4:=(aC.of_below (bs:=[Y,M]) b03).setCell (p:=⟨Y,1,none⟩) (.inl (by simp)) (Z (q:Nat));have hRX:w.heap.size≠Y:=by omega
   have hR4:(w3.setCell ⟨Y,1,none⟩ (Z (q:Nat))).heap[w.heap.size]?=_:=(qh w3 ⟨Y,1,none⟩ _ _ hRX).trans hR3;have hRn:w.heap.size≠w3.heap.size:=by have:=aA hR3;omega
   have hwl:=aA hR3;generalize hRR:w.heap.size=R at hR hR1 hR3 hR4 hRl hRX hRn hwl hZ⊢;obtain⟨⟨q0,q1,q2,q3,q4,q5,q6,q7⟩,f0,f1,f2,f3,f4,f5,f6,f7⟩:=cY hR3;have hR5:=fM (Z mc) (Z mu) (Z g0) (Z g1) (Z g2) (Z g3) (Z g4) (Z g5) hR4;have hS5:=hel _ _ (k8 (w3.setCell ⟨Y,1,none⟩ (Z (q:Nat))) R (Z mc) (Z mu) (Z g0) (Z g1) (Z g2) (Z g3) (Z g4) (Z g5)) hS4 R (qj hRR) hR4 (by decide) (fun j hj=>rN _ _ _ _ _ _ _ _ j hj);have a5:=tS (Z mc) (Z mu) (Z g0) (Z g1) (Z g2) (Z g3) (Z g4) (Z g5) a4 (qj hRR);have hS6:=hS5.step ((qb _ _).alloc (qa _) (.cells #[Z mc,Z mu,Z g0,Z g1,Z g2,Z g3,Z g4,Z g5] 90));have a6:=a5.alloc (.cells #[Z mc,Z mu,Z g0,Z g1,Z g2,Z g3,Z g4,Z g5] 90);have hR6:=(Lib.alloc_old _ (.cells #[Z mc,Z mu,Z g0,Z g1,Z g2,Z g3,Z g4,Z g5] 90) R (aA hR5)).trans hR5;clear hel hst hR hR1 hR3 hR4 hS3 hS4 hS5 hBs hKs a4 a5 hR5 h hZ hbk;unfold k8 at hR6 hS6 a6;go_wp2;refine qg (qp rfl _ _ R 90 _ (0,0) _ rfl hR6 Tryz.underlying90 rfl Tryz.sizeMet) rfl ?_;exact⟨rfl,hS6,a6⟩
theorem aFC(hf:jQ f)(h:PS T Y M free st w)(B:mF W0 [Y,M] w):Calls Tryz.prog 163 #[.pointer (some ⟨Y,0,none⟩)] w fun r w'=>r=.returned (.agg (vB ⟨aP,bJ f⟩ T st).1.cells)/\PS T Y M free (vB ⟨aP,bJ f⟩ T st).2 w'/\aC [Y,M] w w':=by
 have hYl:=h.lt;have hMl:=h.ltM;have hR:=qd w (.cells #[Z 0,Z 0,Z 0,Z 0,Z 0,Z 0,Z 0,Z 0] 90);have hRl:=aA hR;have b0:=(qb _ w).alloc (qa _) (.cells #[Z 0,Z 0,Z 0,Z 0,Z 0,Z 0,Z 0,Z 0] 90);have hx1:=nX (h.step b0);obtain⟨b,hb⟩:∃b,decide ((aZ T st).kind=2)=b:=⟨_,rfl⟩;have c2:=fun w' K (bw:Below w.heap.size w w') (hK:gF K eT w')=>PP hf (h.step bw) (B.step bw) hK hb;have hel:=fun(s1:aD)(w1 w2:World)(h1:PS T Y M free s1 w1)(R:Nat)=>h1.else (w':=w2) (R:=R) h;generalize vB ⟨aP,bJ f⟩ T st=q at c2⊢;obtain⟨⟨mc,mu,g0,g1,g2,g3,g4,g5⟩,s1⟩:=q;simp only[kM.cells]at c2⊢;unfold uL at hx1;generalize aZ T st=t at hx1 hb;obtain⟨kd,text,v,bt,lin,cl,j⟩:=t;simp only at hx1 hb;have hkb:(kd==2)=b:=by rw[<-hb];by_cases h2:kd=2<;>simp[h2]
 have hfd:=BH kd v lin cl text bt j;clear h hb hf;go_enter Tryz.func163,Tryz.ntmps163;go_wp2_with(go_at_call 62;refine hx1.mono ?_);intro r w1;first |(intro he b1;subst he)|rintro⟨rfl,b1⟩
 have b01:=b0.trans (b1.mono b0.size);have hR1:=(b1.block _ (aA hR)).trans hR;have bK:=b01.alloc b01.size (.cells #[.string ⟨#[43]⟩,.string ⟨#[47]⟩] 9);have hK:gF w1.heap.size eT (w1.alloc (.cells #[.string ⟨#[43]⟩,.string ⟨#[47]⟩] 9)):=qd w1 _;have hR1':=(((qb _ w1).alloc (qa _) (.cells #[.string ⟨#[43]⟩,.string ⟨#[47]⟩] 9)).block _ (aA hR1)).trans hR1;have hx2:=c2 _ _ bK hK;clear hx1 c2 hK;go_wp2_with(go_at_call 194;refine hx2.mono ?_);intro r w2;first |(intro he hS2 a2;subst he)|rintro⟨rfl,hS2,a2⟩
 have hR2:=a2.at hR1' (by simp;omega);have a02:=(aC.of_below (bs:=[Y,M]) bK).trans a2;generalize hRR:w.heap.size=R at hR hR1 hR1' hR2 hRl⊢;obtain⟨⟨q0,q1,q2,q3,q4,q5,q6,q7⟩,f0,f1,f2,f3,f4,f5,f6,f7⟩:=cY hR2;have hR3:=fM (Z mc) (Z mu) (Z g0) (Z g1) (Z g2) (Z g3) (Z g4) (Z g5) hR2;have hS3:=hel _ w2 (k8 w2 R (Z mc) (Z mu) (Z g0) (Z g1) (Z g2) (Z g3) (Z g4) (Z g5)) hS2 R (qj hRR) hR2 (by decide) (fun j hj=>rN _ _ _ _ _ _ _ _ j hj);have a3:=tS (Z mc) (Z mu) (Z g0) (Z g1) (Z g2) (Z g3) (Z g4) (Z g5) a02 (qj hRR);have HF:=aJ (And.intro hR3 (And.intro hS3 a3));clear hel hR hR1 hR1' hR2 hx2 hS2 hR3 hS3 a3;unfold k8 at HF;go_wp2;obtain⟨hR3,hS3,a3⟩:=HF.out;refine qg (qp rfl _ _ R 90 _ (0,0) _ rfl hR3 Tryz.underlying90 rfl Tryz.sizeMet) rfl ?_;exact⟨rfl,hS3,a3⟩
end
section
variable{T:List aX}{Y M:Nat}{free:Fr}{st:aD}{w:World}
theorem LQ(h:PS T Y M free st w)(most:Int)(h0:0<=most)(h1:most<=1000000):Calls Tryz.prog 133 #[.pointer (some ⟨Y,0,none⟩),Z most] w fun r w'=>r=.returned (Z (sZ T most st).1)/\PS T Y M free (sZ T most st).2 w'/\aC [Y,M] w w':=by
 have xa:=d9 h ⟨#[45]⟩;unfold sZ;cases hb:isS T ⟨#[45]⟩ st with
 |true =>
  rw[if_pos rfl];rw[hb]at xa;rw[show aY T ⟨#[45]⟩ st=st.next 1 by unfold aY;rw[if_pos hb]]at xa;have xn:=fun w' (h:PS T Y M free (st.next 1) w')=>jJ h 0 most;have hr:=C5 (T:=T) (s:=st.next 1) (Int.le_refl 0) h0;generalize bD T 0 most (st.next 1)=q at xn hr⊢;obtain⟨n,s1⟩:=q;simp only at xn hr⊢;have hw:IntKind.i64.wrap (-n)=-n:=IntWalk.i64_in _ (by omega);clear h hb hr h0 h1;go_enter Tryz.func133,Tryz.ntmps133;go_wp2_with(go_at_call 53;(with_reducible refine xa.mono ?_));rintro r w1 ⟨rfl,hS,a1⟩;have xn1:=xn _ hS;clear xn xa hS;go_wp2_with(go_at_call 114;(with_reducible refine xn1.mono ?_));rintro r w2 ⟨rfl,hS2,a2⟩;go_wp2;go_ret;exact⟨rfl,hS2,a1.trans a2⟩
 |false =>
  rw[if_neg (by decide)];rw[hb]at xa;rw[show aY T ⟨#[45]⟩ st=st by unfold aY;rw[if_neg (by rw[hb];decide)]]at xa;have xn:=fun w' (h:PS T Y M free st w')=>jJ h 0 most;generalize bD T 0 most st=q at xn⊢;obtain⟨n,s1⟩:=q;simp only at xn⊢;clear h hb h0 h1;go_enter Tryz.func133,Tryz.ntmps133;go_wp2_with(go_at_call 53;(with_reducible refine xa.mono ?_));rintro r w1 ⟨rfl,hS,a1⟩;have xn1:=xn _ hS;clear xn xa hS;go_wp2_with(go_at_call 114;(with_reducible refine xn1.mono ?_));rintro r w2 ⟨rfl,hS2,a2⟩;go_wp2;go_ret;exact⟨rfl,hS2,a1.trans a2⟩
end
structure xB(T:List aX)(Y M:Nat)(free:Fr)(P2 P3 E:Nat)(cs:Array Value)(st:aD)(w:World):Prop where
 ps:PS T Y M free st w
 p2:w.heap[P2]?=some (.cells #[.pointer (some ⟨Y,0,none⟩)] 69 (0,0))
 p3:w.heap[P3]?=some (.cells #[.pointer (some ⟨E,0,none⟩)] 210 (0,0))
 hE:w.heap[E]?=some (.cells cs 94 (0,0))
 n2Y:P2≠Y
 n3Y:P3≠Y
 nEY:E≠Y
 n2M:P2≠M
 n3M:P3≠M
 nEM:E≠M
 n2E:P2≠E
 n3E:P3≠E
section
variable{T:List aX}{Y M:Nat}{free:Fr}{P2 P3 E:Nat}{cs:Array Value}{st st':aD}{w w':World}{W0:World}
theorem xB.call(h:xB T Y M free P2 P3 E cs st w)(hS:PS T Y M free st' w')(a:aC [Y,M] w w'):xB T Y M free P2 P3 E cs st' w' :=
 ⟨hS,a.at h.p2 (by simp;exact⟨h.n2Y,h.n2M⟩),a.at h.p3 (by simp;exact⟨h.n3Y,h.n3M⟩),a.at h.hE (by simp;exact⟨h.nEY,h.nEM⟩),h.n2Y,h.n3Y,h.nEY,h.n2M,h.n3M,h.nEM,h.n2E,h.n3E⟩
theorem xB.step(h:xB T Y M free P2 P3 E cs st w)(b:Below w.heap.size w w'):xB T Y M free P2 P3 E cs st w':=h.call (h.ps.step b) (aC.of_below b)
theorem xB.put(h:xB T Y M free P2 P3 E cs st w)(i:Nat)(u:Value):xB T Y M free P2 P3 E (cs.setIfInBounds i u) st (w.setCell ⟨E,i,none⟩ u) :=
 ⟨h.ps.put (R:=E) h.nEY h.nEM h.hE (by decide) (aH w E i u),(aH w E i u P2 h.n2E).trans h.p2,(aH w E i u P3 h.n3E).trans h.p3,Lib.heap_setCell_same (i:=i) h.hE u,h.n2Y,h.n3Y,h.nEY,h.n2M,h.n3M,h.nEM,h.n2E,h.n3E⟩
theorem xB.facts(h:xB T Y M free P2 P3 E cs st w):w.cell? ⟨P2,0,none⟩=some (.pointer (some ⟨Y,0,none⟩))/\w.cell? ⟨P3,0,none⟩=some (.pointer (some ⟨E,0,none⟩))/\(∀i u,cs[i]?=some u->w.cell? ⟨E,i,none⟩=some u)/\∀i,w.frozen? ⟨E,i,none⟩=false :=
 ⟨by rw[Lib.cell_of_heap h.p2];rfl,by rw[Lib.cell_of_heap h.p3];rfl,fun i u hu=>by rw[Lib.cell_of_heap h.hE];exact hu,fun i=>Lib.frozen_of_heap h.hE i⟩
theorem pK{cs:Array Value}(h:cs.size=22)(i:Nat)(hi:i<22):∃u,cs[i]?=some u:=⟨_,Array.getElem?_eq_getElem (by omega)⟩
theorem aDC (H : xB T Y M free P2 P3 E cs st w) (hcs : cs.size = 22) : Calls Tryz.prog 164 #[.pointer (some ⟨P2, 0, none⟩), .pointer (some ⟨P3, 0, none⟩)] w fun r w' => r = .returned (.tuple #[]) /\
  xB T Y M free P2 P3 E (cs.setIfInBounds 10 (Z (bD T 1 4398046511104 st).1)) (bD T 1 4398046511104 st).2 w'/\aC [Y,M,E] w w':=by
 have x:=fun w' (h:PS T Y M free st w')=>jJ h 1 4398046511104;generalize bD T 1 4398046511104 st=q at x⊢;obtain⟨n,s1⟩:=q;simp only at x⊢;have bd:=(qb w.heap.size w).drew;obtain⟨d0,d1,dd2,dd3⟩:=H.facts;obtain⟨u,hu⟩:=pK hcs 10 (by decide);have x7:=x _ (H.ps.step bd);clear x hcs dd2 dd3;go_enter Tryz.func164,Tryz.ntmps164
 go_region_law ((first
  |(go_simp;go_at_call 114;(with_reducible refine x7.mono ?_);rintro r w2 ⟨rfl,hS2,b2⟩;have b3:=(aC.of_below (bs:=[Y,M]) bd).trans b2;have H2:=H.call hS2 b3;obtain⟨e0,e1,e2,e3⟩:=H2.facts;have e4:=e2 10 _ hu;have e5:=e3 10;clear e2 e3)))
 all_goals go_end0
 all_goals exact⟨rfl,H2.put 10 (Z n),(b3.more (cs:=[Y,M,E]) (by simp)).setCell (p:=⟨E,10,none⟩) (.inl (by simp)) (Z n)⟩
theorem aDD (H : xB T Y M free P2 P3 E cs st w) (hcs : cs.size = 22) : Calls Tryz.prog 165 #[.pointer (some ⟨P2, 0, none⟩), .pointer (some ⟨P3, 0, none⟩)] w fun r w' => r = .returned (.tuple #[]) /\
  xB T Y M free P2 P3 E (cs.setIfInBounds 11 (Z (sZ T 7 st).1)) (sZ T 7 st).2 w'/\aC [Y,M,E] w w':=by
 have x:=fun w' (h:PS T Y M free st w')=>LQ h 7 (by decide) (by decide);generalize sZ T 7 st=q at x⊢;obtain⟨n,s1⟩:=q;simp only at x⊢;have bd:=(qb w.heap.size w).drew;obtain⟨d0,d1,dd2,dd3⟩:=H.facts;obtain⟨u,hu⟩:=pK hcs 11 (by decide);have x7:=x _ (H.ps.step bd);clear x hcs dd2 dd3;go_enter Tryz.func165,Tryz.ntmps165
 go_region_law ((first
  |(go_simp;go_at_call 133;(with_reducible refine x7.mono ?_);rintro r w2 ⟨rfl,hS2,b2⟩;have b3:=(aC.of_below (bs:=[Y,M]) bd).trans b2;have H2:=H.call hS2 b3;obtain⟨e0,e1,e2,e3⟩:=H2.facts;have e4:=e2 11 _ hu;have e5:=e3 11;clear e2 e3)))
 all_goals go_end0
 all_goals exact⟨rfl,H2.put 11 (Z n),(b3.more (cs:=[Y,M,E]) (by simp)).setCell (p:=⟨E,11,none⟩) (.inl (by simp)) (Z n)⟩
theorem aDE (H : xB T Y M free P2 P3 E cs st w) (hcs : cs.size = 22) : Calls Tryz.prog 167 #[.pointer (some ⟨P2, 0, none⟩), .pointer (some ⟨P3, 0, none⟩)] w fun r w' => r = .returned (.tuple #[]) /\
  xB T Y M free P2 P3 E (cs.setIfInBounds 13 (Z (bD T 2 8 st).1)) (bD T 2 8 st).2 w'/\aC [Y,M,E] w w':=by
 have x:=fun w' (h:PS T Y M free st w')=>jJ h 2 8;generalize bD T 2 8 st=q at x⊢;obtain⟨n,s1⟩:=q;simp only at x⊢;have bd:=(qb w.heap.size w).drew;obtain⟨d0,d1,dd2,dd3⟩:=H.facts;obtain⟨u,hu⟩:=pK hcs 13 (by decide);have x7:=x _ (H.ps.step bd);clear x hcs dd2 dd3;go_enter Tryz.func167,Tryz.ntmps167
 go_region_law ((first
  |(go_simp;go_at_call 114;(with_reducible refine x7.mono ?_);rintro r w2 ⟨rfl,hS2,b2⟩;have b3:=(aC.of_below (bs:=[Y,M]) bd).trans b2;have H2:=H.call hS2 b3;obtain⟨e0,e1,e2,e3⟩:=H2.facts;have e4:=e2 13 _ hu;have e5:=e3 13;clear e2 e3)))
 all_goals go_end0
 all_goals exact⟨rfl,H2.put 13 (Z n),(b3.more (cs:=[Y,M,E]) (by simp)).setCell (p:=⟨E,13,none⟩) (.inl (by simp)) (Z n)⟩
theorem aDF (H : xB T Y M free P2 P3 E cs st w) (hcs : cs.size = 22) : Calls Tryz.prog 168 #[.pointer (some ⟨P2, 0, none⟩), .pointer (some ⟨P3, 0, none⟩)] w fun r w' => r = .returned (.tuple #[]) /\
  xB T Y M free P2 P3 E (cs.setIfInBounds 14 (Z (bD T 1 255 st).1)) (bD T 1 255 st).2 w'/\aC [Y,M,E] w w':=by
 have x:=fun w' (h:PS T Y M free st w')=>jJ h 1 255;generalize bD T 1 255 st=q at x⊢;obtain⟨n,s1⟩:=q;simp only at x⊢;have bd:=(qb w.heap.size w).drew;obtain⟨d0,d1,dd2,dd3⟩:=H.facts;obtain⟨u,hu⟩:=pK hcs 14 (by decide);have x7:=x _ (H.ps.step bd);clear x hcs dd2 dd3;go_enter Tryz.func168,Tryz.ntmps168
 go_region_law ((first
  |(go_simp;go_at_call 114;(with_reducible refine x7.mono ?_);rintro r w2 ⟨rfl,hS2,b2⟩;have b3:=(aC.of_below (bs:=[Y,M]) bd).trans b2;have H2:=H.call hS2 b3;obtain⟨e0,e1,e2,e3⟩:=H2.facts;have e4:=e2 14 _ hu;have e5:=e3 14;clear e2 e3)))
 all_goals go_end0
 all_goals exact⟨rfl,H2.put 14 (Z n),(b3.more (cs:=[Y,M,E]) (by simp)).setCell (p:=⟨E,14,none⟩) (.inl (by simp)) (Z n)⟩
theorem aDG (H : xB T Y M free P2 P3 E cs st w) (hcs : cs.size = 22) : Calls Tryz.prog 171 #[.pointer (some ⟨P2, 0, none⟩), .pointer (some ⟨P3, 0, none⟩)] w fun r w' => r = .returned (.tuple #[]) /\
  xB T Y M free P2 P3 E (cs.setIfInBounds 17 (Z (bD T 1 100 st).1)) (bD T 1 100 st).2 w'/\aC [Y,M,E] w w':=by
 have x:=fun w' (h:PS T Y M free st w')=>jJ h 1 100;generalize bD T 1 100 st=q at x⊢;obtain⟨n,s1⟩:=q;simp only at x⊢;have bd:=(qb w.heap.size w).drew;obtain⟨d0,d1,dd2,dd3⟩:=H.facts;obtain⟨u,hu⟩:=pK hcs 17 (by decide);have x7:=x _ (H.ps.step bd);clear x hcs dd2 dd3;go_enter Tryz.func171,Tryz.ntmps171
 go_region_law ((first
  |(go_simp;go_at_call 114;(with_reducible refine x7.mono ?_);rintro r w2 ⟨rfl,hS2,b2⟩;have b3:=(aC.of_below (bs:=[Y,M]) bd).trans b2;have H2:=H.call hS2 b3;obtain⟨e0,e1,e2,e3⟩:=H2.facts;have e4:=e2 17 _ hu;have e5:=e3 17;clear e2 e3)))
 all_goals go_end0
 all_goals exact⟨rfl,H2.put 17 (Z n),(b3.more (cs:=[Y,M,E]) (by simp)).setCell (p:=⟨E,17,none⟩) (.inl (by simp)) (Z n)⟩
theorem aDH (H : xB T Y M free P2 P3 E cs st w) (hcs : cs.size = 22) : Calls Tryz.prog 174 #[.pointer (some ⟨P2, 0, none⟩), .pointer (some ⟨P3, 0, none⟩)] w fun r w' => r = .returned (.tuple #[]) /\
  xB T Y M free P2 P3 E (cs.setIfInBounds 19 (.string (fU T st).1)) (fU T st).2 w'/\aC [Y,M,E] w w':=by
 have x:=fun w' (h:PS T Y M free st w')=>X2 h;generalize fU T st=q at x⊢;obtain⟨n,s1⟩:=q;simp only at x⊢;have bd:=(qb w.heap.size w).drew;obtain⟨d0,d1,dd2,dd3⟩:=H.facts;obtain⟨u,hu⟩:=pK hcs 19 (by decide);have x7:=x _ (H.ps.step bd);clear x hcs dd2 dd3;go_enter Tryz.func174,Tryz.ntmps174
 go_region_law ((first
  |(go_simp;go_at_call 91;(with_reducible refine x7.mono ?_);rintro r w2 ⟨rfl,hS2,b2⟩;have b3:=(aC.of_below (bs:=[Y,M]) bd).trans b2;have H2:=H.call hS2 b3;obtain⟨e0,e1,e2,e3⟩:=H2.facts;have e4:=e2 19 _ hu;have e5:=e3 19;clear e2 e3)))
 all_goals go_end0
 all_goals exact⟨rfl,H2.put 19 (.string n),(b3.more (cs:=[Y,M,E]) (by simp)).setCell (p:=⟨E,19,none⟩) (.inl (by simp)) (.string n)⟩
theorem aDJ (H : xB T Y M free P2 P3 E cs st w) (hcs : cs.size = 22) : Calls Tryz.prog 166 #[.pointer (some ⟨P3, 0, none⟩)] w fun r w' => r = .returned (.tuple #[]) /\
  xB T Y M free P2 P3 E (cs.setIfInBounds 12 (.bool true)) st w'/\aC [Y,M,E] w w':=by
 obtain⟨d0,d1,d2,d3⟩:=H.facts;obtain⟨u,hu⟩:=pK hcs 12 (by decide);have e4:=d2 12 _ hu;have e5:=d3 12;have H2:=H.put 12 (.bool true);clear hcs d2 d3;go_enter Tryz.func166,Tryz.ntmps166;go_wp2
 go_end0
 exact⟨rfl,H2,(aC.refl [Y,M,E] w).setCell (p:=⟨E,12,none⟩) (.inl (by simp)) (.bool true)⟩
end
theorem WM(w:World)(o o':Obj):({ w.alloc o with heap:=(w.alloc o).heap.setIfInBounds w.heap.size o' }:World)=w.alloc o':=by
 show({ w with heap:=(w.heap.push o).setIfInBounds w.heap.size o' }:World)={ w with heap:=w.heap.push o' }
 congr 1
 apply Array.ext';simp
theorem iK{es:Array MapEntry}{clk:Nat}{w:World}(k:ByteArray)(v:Value)(hf:Instr.findNow .string (.string k) es.toList 0=some none) :
  (Instr.mapUpdate 164 (.map (some w.heap.size)) (.string k) v).run Tryz.prog (w.alloc (.map es clk))=.ok () (w.alloc (.map (es.push ⟨.string k,v,clk⟩) (clk+1))):=by
 rw[yZ (qd w (.map es clk)) k v hf,WM]
def gB:List ByteArray->Nat->List MapEntry
 | [],_=>[]
 |y::r,b=>⟨.string y,Z ((b:Int)+1),b⟩::gB r (b+1)
theorem J1(x:ByteArray):∀(l:List ByteArray)(b i:Nat),Instr.findNow .string (.string x) (gB l b) i=some ((cM x l).map fun j=>(i+j,Z ((b:Int)+j+1)))
 | [],b,i=>rfl
 |y::r,b,i=>by
  unfold gB Instr.findNow cM;by_cases h:x=y
  ·have:(x==y)=true:=(Go.MapKept.bytes_beq x y).2 h;simp only[Instr.sameNow,this];simp[h]
  ·have:(x==y)=false:=by
    cases hb:(x==y)with
    |false=>rfl
    |true=>exact absurd ((Go.MapKept.bytes_beq x y).1 hb) h
   simp only[Instr.sameNow,this];rw[if_neg h];rw[J1 x r (b+1) (i+1)];simp only[Option.map_map,qv]
   congr 1
   funext j
   simp only[Function.comp,qu,Value.int.injEq,true_and];exact⟨by omega,by omega⟩
theorem SZ(w:World):Calls Tryz.prog 170 #[] w fun r w'=>r=.returned (.map (some w.heap.size))/\w'=w.alloc (.map (gB dF 0).toArray 6):=by
 have q0:=iK (es:=(gB (dF.take 0) 0).toArray) (clk:=0) (w:=w) ⟨#[100,97,99,97,112,111]⟩ (Z 1) (by rfl);have q1:=iK (es:=(gB (dF.take 1) 0).toArray) (clk:=1) (w:=w) ⟨#[100,97,99,97,112,111,102,105,110,101]⟩ (Z 2) (by rfl);have q2:=iK (es:=(gB (dF.take 2) 0).toArray) (clk:=2) (w:=w) ⟨#[100,97,99,97,112,111,99,111,100,97]⟩ (Z 3) (by rfl);have q3:=iK (es:=(gB (dF.take 3) 0).toArray) (clk:=3) (w:=w) ⟨#[100,97,108,115,101,103,110,111]⟩ (Z 4) (by rfl);have q4:=iK (es:=(gB (dF.take 4) 0).toArray) (clk:=4) (w:=w) ⟨#[100,97,108,115,101,103,110,111,102,105,110,101]⟩ (Z 5) (by rfl);have q5:=iK (es:=(gB (dF.take 5) 0).toArray) (clk:=5) (w:=w) ⟨#[100,97,108,115,101,103,110,111,99,111,100,97]⟩ (Z 6) (by rfl);rw[show((gB (dF.take 0) 0).toArray.push ⟨.string ⟨#[100,97,99,97,112,111]⟩,Z 1,0⟩:Array MapEntry)=(gB (dF.take 1) 0).toArray by rfl]at q0;rw[show((gB (dF.take 1) 0).toArray.push ⟨.string ⟨#[100,97,99,97,112,111,102,105,110,101]⟩,Z 2,1⟩:Array MapEntry)=(gB (dF.take 2) 0).toArray by rfl]at q1;rw[show((gB (dF.take 2) 0).toArray.push ⟨.string ⟨#[100,97,99,97,112,111,99,111,100,97]⟩,Z 3,2⟩:Array MapEntry)=(gB (dF.take 3) 0).toArray by rfl]at q2;rw[show((gB (dF.take 3) 0).toArray.push ⟨.string ⟨#[100,97,108,115,101,103,110,111]⟩,Z 4,3⟩:Array MapEntry)=(gB (dF.take 4) 0).toArray by rfl]at q3;rw[show((gB (dF.take 4) 0).toArray.push ⟨.string ⟨#[100,97,108,115,101,103,110,111,102,105,110,101]⟩,Z 5,4⟩:Array MapEntry)=(gB (dF.take 5) 0).toArray by rfl]at q4;rw[show((gB (dF.take 5) 0).toArray.push ⟨.string ⟨#[100,97,108,115,101,103,110,111,99,111,100,97]⟩,Z 6,5⟩:Array MapEntry)=(gB (dF.take 6) 0).toArray by rfl]at q5;rw[show((gB (dF.take 0) 0).toArray:Array MapEntry)=#[]by rfl]at q0;rw[show((gB (dF.take 6) 0).toArray:Array MapEntry)=(gB dF 0).toArray by rfl]at q5;generalize (gB (dF.take 1) 0).toArray=k1 at q0 q1;generalize (gB (dF.take 2) 0).toArray=k2 at q1 q2;generalize (gB (dF.take 3) 0).toArray=k3 at q2 q3;generalize (gB (dF.take 4) 0).toArray=k4 at q3 q4;generalize (gB (dF.take 5) 0).toArray=k5 at q4 q5;generalize (gB dF 0).toArray=k6 at q5⊢;have hmk:(Instr.makeMap 164 none).run Tryz.prog w=.ok (.map (some w.heap.size)) (w.alloc (.map #[] 0)):=by
  simp[Instr.makeMap,newObj,Sem.run]
 simp only[Nat.zero_add,Nat.reduceAdd]at q0 q1 q2 q3 q4 q5;go_enter Tryz.func170,Tryz.ntmps170;go_wp2;go_ret;exact⟨rfl,rfl⟩
theorem PH(w:World):Calls Tryz.prog 173 #[] w fun r w'=>r=.returned (.map (some w.heap.size))/\w'=w.alloc (.map (gB dW 0).toArray 3):=by
 have q0:=iK (es:=(gB (dW.take 0) 0).toArray) (clk:=0) (w:=w) ⟨#[115,121,115,116,101,109]⟩ (Z 1) (by rfl);have q1:=iK (es:=(gB (dW.take 1) 0).toArray) (clk:=1) (w:=w) ⟨#[112,97,103,101]⟩ (Z 2) (by rfl);have q2:=iK (es:=(gB (dW.take 2) 0).toArray) (clk:=2) (w:=w) ⟨#[110,101,118,101,114]⟩ (Z 3) (by rfl);rw[show((gB (dW.take 0) 0).toArray.push ⟨.string ⟨#[115,121,115,116,101,109]⟩,Z 1,0⟩:Array MapEntry)=(gB (dW.take 1) 0).toArray by rfl]at q0;rw[show((gB (dW.take 1) 0).toArray.push ⟨.string ⟨#[112,97,103,101]⟩,Z 2,1⟩:Array MapEntry)=(gB (dW.take 2) 0).toArray by rfl]at q1;rw[show((gB (dW.take 2) 0).toArray.push ⟨.string ⟨#[110,101,118,101,114]⟩,Z 3,2⟩:Array MapEntry)=(gB (dW.take 3) 0).toArray by rfl]at q2;rw[show((gB (dW.take 0) 0).toArray:Array MapEntry)=#[]by rfl]at q0;rw[show((gB (dW.take 3) 0).toArray:Array MapEntry)=(gB dW 0).toArray by rfl]at q2;generalize (gB (dW.take 1) 0).toArray=k1 at q0 q1;generalize (gB (dW.take 2) 0).toArray=k2 at q1 q2;generalize (gB dW 0).toArray=k3 at q2⊢;have hmk:(Instr.makeMap 164 none).run Tryz.prog w=.ok (.map (some w.heap.size)) (w.alloc (.map #[] 0)):=by
  simp[Instr.makeMap,newObj,Sem.run]
 simp only[Nat.zero_add,Nat.reduceAdd]at q0 q1 q2;go_enter Tryz.func173,Tryz.ntmps173;go_wp2;go_ret;exact⟨rfl,rfl⟩
theorem S4(w:World):Calls Tryz.prog 95 #[] w fun r w'=>r=.returned (.map (some w.heap.size))/\w'=w.alloc (.map (gB bZ 0).toArray 7):=by
 have q0:=iK (es:=(gB (bZ.take 0) 0).toArray) (clk:=0) (w:=w) ⟨#[115,108,117,114]⟩ (Z 1) (by rfl);have q1:=iK (es:=(gB (bZ.take 1) 0).toArray) (clk:=1) (w:=w) ⟨#[99,114,101,115,99,101,110,100,111]⟩ (Z 2) (by rfl);have q2:=iK (es:=(gB (bZ.take 2) 0).toArray) (clk:=2) (w:=w) ⟨#[100,105,109,105,110,117,101,110,100,111]⟩ (Z 3) (by rfl);have q3:=iK (es:=(gB (bZ.take 3) 0).toArray) (clk:=3) (w:=w) ⟨#[111,99,116,97,118,101,117,112]⟩ (Z 4) (by rfl);have q4:=iK (es:=(gB (bZ.take 4) 0).toArray) (clk:=4) (w:=w) ⟨#[111,99,116,97,118,101,100,111,119,110]⟩ (Z 5) (by rfl);have q5:=iK (es:=(gB (bZ.take 5) 0).toArray) (clk:=5) (w:=w) ⟨#[112,101,100,97,108]⟩ (Z 6) (by rfl);have q6:=iK (es:=(gB (bZ.take 6) 0).toArray) (clk:=6) (w:=w) ⟨#[116,114,105,108,108]⟩ (Z 7) (by rfl);rw[show((gB (bZ.take 0) 0).toArray.push ⟨.string ⟨#[115,108,117,114]⟩,Z 1,0⟩:Array MapEntry)=(gB (bZ.take 1) 0).toArray by rfl]at q0;rw[show((gB (bZ.take 1) 0).toArray.push ⟨.string ⟨#[99,114,101,115,99,101,110,100,111]⟩,Z 2,1⟩:Array MapEntry)=(gB (bZ.take 2) 0).toArray by rfl]at q1;rw[show((gB (bZ.take 2) 0).toArray.push ⟨.string ⟨#[100,105,109,105,110,117,101,110,100,111]⟩,Z 3,2⟩:Array MapEntry)=(gB (bZ.take 3) 0).toArray by rfl]at q2;rw[show((gB (bZ.take 3) 0).toArray.push ⟨.string ⟨#[111,99,116,97,118,101,117,112]⟩,Z 4,3⟩:Array MapEntry)=(gB (bZ.take 4) 0).toArray by rfl]at q3;rw[show((gB (bZ.take 4) 0).toArray.push ⟨.string ⟨#[111,99,116,97,118,101,100,111,119,110]⟩,Z 5,4⟩:Array MapEntry)=(gB (bZ.take 5) 0).toArray by rfl]at q4;rw[show((gB (bZ.take 5) 0).toArray.push ⟨.string ⟨#[112,101,100,97,108]⟩,Z 6,5⟩:Array MapEntry)=(gB (bZ.take 6) 0).toArray by rfl]at q5;rw[show((gB (bZ.take 6) 0).toArray.push ⟨.string ⟨#[116,114,105,108,108]⟩,Z 7,6⟩:Array MapEntry)=(gB (bZ.take 7) 0).toArray by rfl]at q6;rw[show((gB (bZ.take 0) 0).toArray:Array MapEntry)=#[]by rfl]at q0;rw[show((gB (bZ.take 7) 0).toArray:Array MapEntry)=(gB bZ 0).toArray by rfl]at q6;generalize (gB (bZ.take 1) 0).toArray=k1 at q0 q1;generalize (gB (bZ.take 2) 0).toArray=k2 at q1 q2;generalize (gB (bZ.take 3) 0).toArray=k3 at q2 q3;generalize (gB (bZ.take 4) 0).toArray=k4 at q3 q4;generalize (gB (bZ.take 5) 0).toArray=k5 at q4 q5;generalize (gB (bZ.take 6) 0).toArray=k6 at q5 q6;generalize (gB bZ 0).toArray=k7 at q6⊢;have hmk:(Instr.makeMap 164 none).run Tryz.prog w=.ok (.map (some w.heap.size)) (w.alloc (.map #[] 0)):=by
  simp[Instr.makeMap,newObj,Sem.run]
 simp only[Nat.zero_add,Nat.reduceAdd]at q0 q1 q2 q3 q4 q5 q6;go_enter Tryz.func95,Tryz.ntmps95;go_wp2;go_ret;exact⟨rfl,rfl⟩
theorem aGZ(T:List aX)(l:List ByteArray)(s:aD):tQ T (fun x=>Option.map (fun(i:Nat)=>(i:Int)+1) (cM x l)) s=(yT (bV T l s).1,(bV T l s).2):=by
 unfold tQ bV;split
 ·rfl
 ·simp only;cases cM (aZ T s).text l<;>rfl
section
variable{T:List aX}{Y M:Nat}{free:Fr}{P2 P3 E:Nat}{cs:Array Value}{st st':aD}{w w':World}{W0:World}
theorem X6(h:PS T Y M free st w){Q:Nat}{l:List ByteArray}{clk:Nat}(hQ:w.heap[Q]?=some (.map (gB l 0).toArray clk)) :
  Calls Tryz.prog 109 #[.pointer (some ⟨Y,0,none⟩),.map (some Q)] w fun r w'=>r=.returned (Z (yT (bV T l st).1))/\PS T Y M free (bV T l st).2 w'/\aC [Y,M] w w':=by
 have x:=X5 h hQ (fun x=>Option.map (fun(i:Nat)=>(i:Int)+1) (cM x l)) (Option.map (fun(j:Nat)=>(j,(j:Int)+1)) (cM (aZ T st).text l)) (by
  rw[List.toList_toArray,J1,Option.map_map]
  congr 2
  funext j
  simp) (fun _=>by rw[Option.map_map];rfl)
 rw[aGZ]at x;exact x
theorem aE5 (H : xB T Y M free P2 P3 E cs st w) (hcs : cs.size = 22) : Calls Tryz.prog 169 #[.pointer (some ⟨P2, 0, none⟩), .pointer (some ⟨P3, 0, none⟩)] w fun r w' => r = .returned (.tuple #[]) /\
  xB T Y M free P2 P3 E (cs.setIfInBounds 15 (Z (yT (bV T dF st).1))) (bV T dF st).2 w'/\aC [Y,M,E] w w':=by
 have hQ0:=qd w (.map (gB dF 0).toArray 6);have hQ:(w.alloc (.map (gB dF 0).toArray 6)).drew.heap[w.heap.size]?=some (.map (gB dF 0).toArray 6):=hQ0;have bq:=((qb w.heap.size w).alloc (qa _) (.map (gB dF 0).toArray 6)).drew;clear hQ0;have H1:=H.step bq;have x7:=X6 H1.ps hQ;have xj:=SZ w.drew;generalize bV T dF st=q at x7⊢;obtain⟨n,s1⟩:=q;simp only at x7⊢;obtain⟨d0,d1,dd2,dd3⟩:=H.facts;obtain⟨c0,c1,cc2,cc3⟩:=H1.facts;obtain⟨u,hu⟩:=pK hcs 15 (by decide);generalize (gB dF 0).toArray=km at hQ bq H1 x7 xj c0 c1⊢;clear hcs dd2 dd3 cc2 cc3;go_enter Tryz.func169,Tryz.ntmps169
 go_region_law ((first
  |(go_simp;go_at_call 170;(with_reducible refine xj.mono ?_);rintro r w2 ⟨rfl,rfl⟩)
  |(go_simp;go_at_call 109;(with_reducible refine x7.mono ?_);rintro r w3 ⟨rfl,hS2,b2⟩;have b3:=(aC.of_below (bs:=[Y,M]) bq).trans b2;have H2:=H.call hS2 b3;obtain⟨e0,e1,e2,e3⟩:=H2.facts;have e4:=e2 15 _ hu;have e5:=e3 15;clear e2 e3)))
 all_goals go_end0
 all_goals exact⟨rfl,H2.put 15 (Z (yT n)),(b3.more (cs:=[Y,M,E]) (by simp)).setCell (p:=⟨E,15,none⟩) (.inl (by simp)) (Z (yT n))⟩
theorem aE6 (H : xB T Y M free P2 P3 E cs st w) (hcs : cs.size = 22) : Calls Tryz.prog 172 #[.pointer (some ⟨P2, 0, none⟩), .pointer (some ⟨P3, 0, none⟩)] w fun r w' => r = .returned (.tuple #[]) /\
  xB T Y M free P2 P3 E (cs.setIfInBounds 18 (Z (yT (bV T dW st).1))) (bV T dW st).2 w'/\aC [Y,M,E] w w':=by
 have hQ0:=qd w (.map (gB dW 0).toArray 3);have hQ:(w.alloc (.map (gB dW 0).toArray 3)).drew.heap[w.heap.size]?=some (.map (gB dW 0).toArray 3):=hQ0;have bq:=((qb w.heap.size w).alloc (qa _) (.map (gB dW 0).toArray 3)).drew;clear hQ0;have H1:=H.step bq;have x7:=X6 H1.ps hQ;have xj:=PH w.drew;generalize bV T dW st=q at x7⊢;obtain⟨n,s1⟩:=q;simp only at x7⊢;obtain⟨d0,d1,dd2,dd3⟩:=H.facts;obtain⟨c0,c1,cc2,cc3⟩:=H1.facts;obtain⟨u,hu⟩:=pK hcs 18 (by decide);generalize (gB dW 0).toArray=km at hQ bq H1 x7 xj c0 c1⊢;clear hcs dd2 dd3 cc2 cc3;go_enter Tryz.func172,Tryz.ntmps172
 go_region_law ((first
  |(go_simp;go_at_call 173;(with_reducible refine xj.mono ?_);rintro r w2 ⟨rfl,rfl⟩)
  |(go_simp;go_at_call 109;(with_reducible refine x7.mono ?_);rintro r w3 ⟨rfl,hS2,b2⟩;have b3:=(aC.of_below (bs:=[Y,M]) bq).trans b2;have H2:=H.call hS2 b3;obtain⟨e0,e1,e2,e3⟩:=H2.facts;have e4:=e2 18 _ hu;have e5:=e3 18;clear e2 e3)))
 all_goals go_end0
 all_goals exact⟨rfl,H2.put 18 (Z (yT n)),(b3.more (cs:=[Y,M,E]) (by simp)).setCell (p:=⟨E,18,none⟩) (.inl (by simp)) (Z (yT n))⟩
end
end Go.Proofs.YtgkhemnmcgicnaaGreatDoor
