/- Towards the law ParserBlanks, true for every text and all blanks (no condition): one part of the proof. -/
import Derived.Test.YtgkhemnmcgicnaaGreatDoorG01
import Derived.Test.YtgkhemnmcgicnaaGreatDoorG26
import Derived.Deep.Cut
import Derived.Deep.CutRange
namespace Go.Proofs.YtgkhemnmcgicnaaGreatDoor
set_option maxHeartbeats 16000000
set_option maxRecDepth 100000
open Go.RowKit
theorem dG{P:Program}{fn:Func}{p t:Tmp}{ty:TypeId}(h:fn.results=#[.cell p ty,.tmp t])(tmps:Array Value)(w:World)(g:Nat)(T:TypeId)(cs:Array Value)(fr:Nat×Nat)(d:TypeDesc)
  (hp:tmps.getD p undef=.pointer (some ⟨g,0,none⟩)) (hg:w.heap[g]?=some (.cells cs T fr))
  (hu:P.underlying ty=some d) (hd:(match d with | .struct _ | .array _ _=>true | _=>false)=true) (hi:(P.info? ty).map (·.size)=some cs.size) :
  (results fn tmps).run P w=.ok (.tuple #[.agg cs,tmps.getD t undef]) w:=by
 have hp':tmps[p]?.getD undef=.pointer (some ⟨g,0,none⟩):=by simpa using hp
 simp[results,h,hp',asAddr,run_loadVar_row w g T ty cs fr d hg hu hd hi,Result.andThen]
theorem EE{B:Nat}{a w:World}{X:Nat}(h:Below B a w)(hX:B<=X)(u v:Value):Below B a (g8 w X u v) :=
 (h.setCell (p:=⟨X,0,none⟩) hX u).setCell (p:=⟨X,1,none⟩) hX v
section
variable{T:List aX}{Y M:Nat}{free:Fr}{w:World}
theorem PS.jump{p q:Nat}(h:PS T Y M free (.ok p) w)(hq:q<T.length):PS T Y M free (.ok q) (w.setCell ⟨Y,1,none⟩ (Z (q:Nat))):=by
 obtain⟨g,tv,pos,line,col,e,ls,ln,es,clk,h1,h2,h3⟩:=h;obtain⟨rfl,rfl,rfl,rfl,hlt⟩:=h3;exact⟨g,tv,q,0,0,0,ls,ln,es,clk,h1.put 1 _ (fun h=>h) rfl,h2,rfl,rfl,rfl,rfl,hq⟩
theorem PS.atCell{p:Nat}(h:PS T Y M free (.ok p) w):w.cell? ⟨Y,1,none⟩=some (Z p)/\w.frozen? ⟨Y,1,none⟩=false/\p<T.length:=by
 obtain⟨g,tv,pos,line,col,e,ls,ln,es,clk,h1,h2,h3⟩:=h;obtain⟨rfl,rfl,rfl,rfl,hlt⟩:=h3;exact⟨h1.c1,h1.fz 1,hlt⟩
end
section
variable{W0:World}{T:List aX}{Y M KK:Nat}{free:Fr}{st:aD}{w:World}
theorem aDQ(s:ByteArray)(hs:s.size<=281474976710656)(g:AE w):Calls Tryz.prog 143 #[.string s] w fun r w'=>(∃b,r=.returned (.tuple #[JQ (E6 s).1,.bool b])/\(b=true↔(E6 s).2.2=0))/\Below w.heap.size w w':=by
 have hR:=qd w (.cells #[Z 0,Z 0,Z 0] 75);have b0:=(qb _ w).alloc (qa _) (.cells #[Z 0,Z 0,Z 0] 75);have hc:=aGA s hs _ (g.stay b0);generalize E6 s=pr at hc⊢;obtain⟨pv,pa,pe⟩:=pr;obtain⟨vs,va,vo⟩:=pv;simp only[JQ]at hc⊢;clear g;by_cases he:pe=0
 ·subst he;go_enter Tryz.func143,Tryz.ntmps143;go_wp2_with(go_at_call 111;refine hc.mono ?_);intro r w1;first |(intro he1 b1;subst he1)|rintro⟨rfl,b1⟩
  have hR1:=(b1.block _ (by first|exact aA hR|simpa using aA hR)).trans hR;have b01:=b0.trans (b1.mono (by first|exact b0.size|simpa using b0.size));have hRl:=aA hR1;have hRn:w.heap.size≠w1.heap.size:=by omega
  generalize hRR:w.heap.size=R at hR hR1 hRl hRn⊢;obtain⟨q0,q1,q2,f0,f1,f2⟩:=dD hR1;have hR5:=gP (a:=Z vs) (b:=Z va) (c:=Z vo) hR1;have b5:=m8 b01 (qj hRR) (Z vs) (Z va) (Z vo);have hR6:=(Lib.alloc_old _ (.cells #[Z vs,Z va,Z vo] 75) R (aA hR5)).trans hR5;have b6:=b5.alloc b5.size (.cells #[Z vs,Z va,Z vo] 75);clear hR hR1 hc b01 hR5 b5;unfold m7 at hR6 b6;go_wp2;exact qg (dG rfl _ _ R 75 _ (0,0) _ rfl hR6 Tryz.underlying75 rfl Tryz.sizePitch3) rfl ⟨⟨true,rfl,by simp⟩,b6⟩
 ·go_enter Tryz.func143,Tryz.ntmps143;go_wp2_with(go_at_call 111;refine hc.mono ?_);intro r w1;first |(intro he1 b1;subst he1)|rintro⟨rfl,b1⟩
  have hR1:=(b1.block _ (by first|exact aA hR|simpa using aA hR)).trans hR;have b01:=b0.trans (b1.mono (by first|exact b0.size|simpa using b0.size));have hRl:=aA hR1;have hRn:w.heap.size≠w1.heap.size:=by omega
  generalize hRR:w.heap.size=R at hR hR1 hRl hRn⊢;obtain⟨q0,q1,q2,f0,f1,f2⟩:=dD hR1;have hR5:=gP (a:=Z vs) (b:=Z va) (c:=Z vo) hR1;have b5:=m8 b01 (qj hRR) (Z vs) (Z va) (Z vo);have hR6:=(Lib.alloc_old _ (.cells #[Z vs,Z va,Z vo] 75) R (aA hR5)).trans hR5;have b6:=b5.alloc b5.size (.cells #[Z vs,Z va,Z vo] 75);clear hR hR1 hc b01 hR5 b5;unfold m7 at hR6 b6;go_wp2;exact qg (dG rfl _ _ R 75 _ (0,0) _ rfl hR6 Tryz.underlying75 rfl Tryz.sizePitch3) rfl ⟨⟨false,by first|rfl|simp[he],by simp[he]⟩,b6⟩
theorem KV(h:PS T Y M free st w)(B:mF W0 [Y,M] w)(hK:gF KK jP w){b:Bool}(hb:fV T st=b) :
  Calls Tryz.prog 142 #[.pointer (some ⟨Y,0,none⟩),.bool b,Z 18,.func (.func 143) #[] #[],.bool true,.slice (some ⟨KK,0,none⟩) 2 2] w fun r w' =>
   r=.returned (JQ (cD aK T st).1)/\PS T Y M free (cD aK T st).2 w'/\aC [Y,M] w w':=by
 have hYl:=h.lt;have hMl:=h.ltM;have hR:=(Lib.alloc_old (w.alloc (.cells #[Z 0,Z 0,Z 0] 75)) (.cells #[Z 0,Z 0,Z 0] 75) w.heap.size (aA (qd w _))).trans (qd w (.cells #[Z 0,Z 0,Z 0] 75));have hZ:=qd (w.alloc (.cells #[Z 0,Z 0,Z 0] 75)) (.cells #[Z 0,Z 0,Z 0] 75);have b0:=((qb _ w).alloc (qa _) (.cells #[Z 0,Z 0,Z 0] 75)).alloc (by simp) (.cells #[Z 0,Z 0,Z 0] 75);have hel:=fun(s1:aD)(w1 w2:World)(h1:PS T Y M free s1 w1)(R:Nat)=>h1.else (w':=w2) (R:=R) h;have hRl:=aA hR;rw[World.size_alloc]at hZ;cases b with
 |false =>
  have e1:cD aK T st=(zP,cC T 13 st):=if_neg (by rw[hb];decide);rw[e1];simp only[JQ,zP];have hx2:=jC (h.step b0) 13 (by decide);generalize cC T 13 st=s1 at hx2⊢;clear e1 hb h;go_enter Tryz.func142,Tryz.ntmps142;go_wp2_with(go_at_call 63;refine hx2.mono ?_);intro r w2;first |(intro he hS2 a2;subst he)|rintro⟨rfl,hS2,a2⟩
  have hR2:=a2.at hR (by simp;omega);have hZ2:=a2.at hZ (by simp;omega);have a02:=(aC.of_below (bs:=[Y,M]) b0).trans a2;generalize hRR:w.heap.size=R at hR hZ hZ2 hR2 hRl⊢;obtain⟨q0,q1,q2,f0,f1,f2⟩:=dD hR2;obtain⟨z0,z1,z2,zf0,zf1,zf2⟩:=dD hZ2;have hR3:=gP (a:=Z 0) (b:=Z 0) (c:=Z 0) hR2;have hS3:=hel _ w2 (m7 w2 R (Z 0) (Z 0) (Z 0)) hS2 R (qj hRR) hR2 (by decide) (fun j hj=>pG _ _ _ _ _ j hj);have a3:=rG a02 (qj hRR) (Z 0) (Z 0) (Z 0);clear hel hR hR2 hx2 hS2 hZ hZ2;unfold m7 at hR3 hS3 a3;go_wp2;refine qg (qp rfl _ _ R 75 _ (0,0) _ rfl hR3 Tryz.underlying75 rfl Tryz.sizePitch3) rfl ?_;exact⟨rfl,hS3,a3⟩
 |true =>
  obtain⟨p,rfl⟩:=aCD hb;have g:=h.good;have hpl:=h.atCell.2.2;have hlt:=aCE g hpl hb;have hrl:=BY g true jP hlt;have hm:=g.max;have hcs:=C0 g true jP hlt;have c2:=fun w' (h:PS T Y M free (.ok p) w') (hk:gF KK jP w')=>AC h hlt true jP (by decide) hk;have c3:=fun w' (b:mF W0 [Y,M] w')=>aDQ (w:=w') _ hcs b.glo;have hst:=fun w' (b:Below w.heap.size w w')=>h.step b;have hwq:IntKind.i64.wrap ((p:Int)+(((kN T true jP (.ok p)).length:Int)+1))=((p+((kN T true jP (.ok p)).length+1):Nat):Int):=by
   rw[IntWalk.i64_in _ (by omega)];omega
  have hq:p+((kN T true jP (.ok p)).length+1)<T.length:=by omega
  have hBs:=fun w' (b:Below w.heap.size w w')=>B.step b;have hKs:=fun w' (b:Below w.heap.size w w')=>hK.step b
  have epit : cD aK T (.ok p) = match aK.pit (pE T true jP (.ok p)) with
    |none=>(zP,cC T 18 (.ok p))
    |some v=>(v,.ok (p+((kN T true jP (.ok p)).length+1))):=by unfold cD;rw[if_pos hb];rfl
  rw[epit];have hpt:=aDM (pE T true jP (.ok p));generalize pE T true jP (.ok p)=cs at c2 c3 hpt⊢;generalize (kN T true jP (.ok p)).length=m at c2 hwq hq⊢;generalize E6 cs=pr at c3 hpt;obtain⟨pv,pa,pe⟩:=pr;obtain⟨vs,va,vo⟩:=pv;simp only[JQ]at c3⊢;simp only[jP,qk,qql,Nat.zero_add,Nat.reduceAdd]at c2;rcases hpt with⟨ho,hne⟩ |⟨v,ho,rfl,hpe⟩
  ·have hne':¬pe=0:=hne;clear hne;rw[ho];simp only[zP];have c4:=fun w' (h:PS T Y M free (.ok p) w')=>jC h 18 (by decide);generalize cC T 18 (.ok p)=s1 at c4⊢;clear ho hb h;go_enter Tryz.func142,Tryz.ntmps142;have hx2:=c2 _ (hst _ b0) (hKs _ b0);clear c2;go_wp2_with(go_at_call 144;refine hx2.mono ?_);intro r w1;first |(intro he b1;subst he)|rintro⟨rfl,b1⟩
   have b01:=b0.trans (b1.mono (by first|exact b0.size|simpa using b0.size));have hR1:=(b1.block _ (by first|exact aA hR|simpa using aA hR)).trans hR;have hZ1:=(b1.block _ (by first|exact aA hZ|simpa using aA hZ)).trans hZ;have hx3:=c3 _ (hBs _ b01);clear hx2 c3;go_wp2_with(go_at_call 143;refine hx3.mono ?_);rintro r w3 ⟨⟨bk,rfl,hbk⟩,b3⟩;have hbf:bk=false:=by
    cases bk with
    |false=>rfl
    |true=>exact absurd (hbk.1 rfl) hne'
   subst hbf;have b03:=(b01.trans (b3.mono b01.size)).alloc (qx b01.size b3.size) (.cells #[Z vs,Z va,Z vo] 75);have bt3:=(qb _ w3).alloc (qa _) (.cells #[Z vs,Z va,Z vo] 75);have hR3:=(bt3.block _ (qqa (aA hR1) b3.size)).trans ((b3.block _ (aA hR1)).trans hR1);have hZ3:=(bt3.block _ (qqa (aA hZ1) b3.size)).trans ((b3.block _ (aA hZ1)).trans hZ1);have hx4:=c4 _ (hst _ b03);clear hx3 c4 hbk;go_wp2_with(go_at_call 63;refine hx4.mono ?_);intro r w4;first |(intro he hS4 a4;subst he)|rintro⟨rfl,hS4,a4⟩
   have hR4:=a4.at hR3 (by simp;omega);have hZ4:=a4.at hZ3 (by simp;omega);have a04:=(aC.of_below (bs:=[Y,M]) b03).trans a4;generalize hRR:w.heap.size=R at hR hR1 hR3 hR4 hZ hZ1 hZ3 hZ4 hRl⊢;obtain⟨q0,q1,q2,f0,f1,f2⟩:=dD hR4;obtain⟨z0,z1,z2,zf0,zf1,zf2⟩:=dD hZ4;have hR5:=gP (a:=Z 0) (b:=Z 0) (c:=Z 0) hR4;have hS5:=hel _ w4 (m7 w4 R (Z 0) (Z 0) (Z 0)) hS4 R (qj hRR) hR4 (by decide) (fun j hj=>pG _ _ _ _ _ j hj);have a5:=rG a04 (qj hRR) (Z 0) (Z 0) (Z 0);clear hel hst hR hR1 hR3 hR4 hx4 hS4 hBs hKs hZ hZ1 hZ3 hZ4;unfold m7 at hR5 hS5 a5;go_wp2;refine qg (qp rfl _ _ R 75 _ (0,0) _ rfl hR5 Tryz.underlying75 rfl Tryz.sizePitch3) rfl ?_;exact⟨rfl,hS5,a5⟩
  ·rw[ho];simp only;clear ho hb;generalize hQQ:p+(m+1)=q at hwq hq⊢;go_enter Tryz.func142,Tryz.ntmps142;have hx2:=c2 _ (hst _ b0) (hKs _ b0);clear c2;go_wp2_with(go_at_call 144;refine hx2.mono ?_);intro r w1;first |(intro he b1;subst he)|rintro⟨rfl,b1⟩
   have b01:=b0.trans (b1.mono (by first|exact b0.size|simpa using b0.size));have hR1:=(b1.block _ (by first|exact aA hR|simpa using aA hR)).trans hR;have hx3:=c3 _ (hBs _ b01);clear hx2 c3;go_wp2_with(go_at_call 143;refine hx3.mono ?_);rintro r w3 ⟨⟨bk,rfl,hbk⟩,b3⟩;obtain rfl:bk=true:=hbk.2 hpe;have b03:=b01.trans (b3.mono b01.size);have hR3:=(b3.block _ (aA hR1)).trans hR1;have hS3:=hst _ b03;obtain⟨x1,xf1,_⟩:=hS3.atCell;have n1:=qqd w3 _ x1;have l1:=hS3.lt;have hS4:=hS3.jump hq;have a4:=(aC.of_below (bs:=[Y,M]) b03).setCell (p:=⟨Y,1,none⟩) (.inl (by simp)) (Z (q:Nat));have hRX:w.heap.size≠Y:=by omega
   have hR4:(w3.setCell ⟨Y,1,none⟩ (Z (q:Nat))).heap[w.heap.size]?=_:=(qh w3 ⟨Y,1,none⟩ _ _ hRX).trans hR3;have hRn:w.heap.size≠w3.heap.size:=by have:=aA hR3;omega
   have hwl:=aA hR3;generalize hRR:w.heap.size=R at hR hR1 hR3 hR4 hRl hRX hRn hwl hZ⊢;obtain⟨q0,q1,q2,f0,f1,f2⟩:=dD hR3;have hR5:=gP (a:=Z vs) (b:=Z va) (c:=Z vo) hR4;have hS5:=hel _ _ (m7 (w3.setCell ⟨Y,1,none⟩ (Z (q:Nat))) R (Z vs) (Z va) (Z vo)) hS4 R (qj hRR) hR4 (by decide) (fun j hj=>pG _ _ _ _ _ j hj);have a5:=rG a4 (qj hRR) (Z vs) (Z va) (Z vo);have hS6:=hS5.step ((qb _ _).alloc (qa _) (.cells #[Z vs,Z va,Z vo] 75));have a6:=a5.alloc (.cells #[Z vs,Z va,Z vo] 75);have hR6:=(Lib.alloc_old _ (.cells #[Z vs,Z va,Z vo] 75) R (aA hR5)).trans hR5;clear hel hst hR hR1 hR3 hR4 hS3 hS4 hS5 hBs hKs a4 a5 hR5 h hZ hbk;unfold m7 at hR6 hS6 a6;go_wp2;refine qg (qp rfl _ _ R 75 _ (0,0) _ rfl hR6 Tryz.underlying75 rfl Tryz.sizePitch3) rfl ?_;exact⟨rfl,hS6,a6⟩
end
section
variable{W0:World}{T:List aX}{Y M KK:Nat}{free:Fr}{st:aD}{w:World}
theorem aDR(s:ByteArray)(hs:s.size<=281474976710656)(g:AE w):Calls Tryz.prog 104 #[.string s] w fun r w'=>(∃b,r=.returned (.tuple #[qM (E7 s).1,.bool b])/\(b=true↔(E7 s).2=0))/\Below w.heap.size w w':=by
 have hR:=qd w (.cells #[Z 0,Z 0] 26);have b0:=(qb _ w).alloc (qa _) (.cells #[Z 0,Z 0] 26);have hc:=aGB s hs _ (g.stay b0);generalize E7 s=pr at hc⊢;obtain⟨pv,pe⟩:=pr;obtain⟨vs,va⟩:=pv;simp only[qM]at hc⊢;clear g;by_cases he:pe=0
 ·subst he;go_enter Tryz.func104,Tryz.ntmps104;go_wp2_with(go_at_call 67;refine hc.mono ?_);intro r w1;first |(intro he1 b1;subst he1)|rintro⟨rfl,b1⟩
  have hR1:=(b1.block _ (by first|exact aA hR|simpa using aA hR)).trans hR;have b01:=b0.trans (b1.mono (by first|exact b0.size|simpa using b0.size));have hRl:=aA hR1;have hRn:w.heap.size≠w1.heap.size:=by omega
  generalize hRR:w.heap.size=R at hR hR1 hRl hRn⊢;obtain⟨q0,q1,f0,f1⟩:=bL hR1;have hR5:=fN (a:=Z vs) (b:=Z va) hR1;have b5:=EE b01 (qj hRR) (Z vs) (Z va);have hR6:=(Lib.alloc_old _ (.cells #[Z vs,Z va] 26) R (aA hR5)).trans hR5;have b6:=b5.alloc b5.size (.cells #[Z vs,Z va] 26);clear hR hR1 hc b01 hR5 b5;unfold g8 at hR6 b6;go_wp2;exact qg (dG rfl _ _ R 26 _ (0,0) _ rfl hR6 Tryz.underlying26 rfl Tryz.sizeVal) rfl ⟨⟨true,rfl,by simp⟩,b6⟩
 ·go_enter Tryz.func104,Tryz.ntmps104;go_wp2_with(go_at_call 67;refine hc.mono ?_);intro r w1;first |(intro he1 b1;subst he1)|rintro⟨rfl,b1⟩
  have hR1:=(b1.block _ (by first|exact aA hR|simpa using aA hR)).trans hR;have b01:=b0.trans (b1.mono (by first|exact b0.size|simpa using b0.size));have hRl:=aA hR1;have hRn:w.heap.size≠w1.heap.size:=by omega
  generalize hRR:w.heap.size=R at hR hR1 hRl hRn⊢;obtain⟨q0,q1,f0,f1⟩:=bL hR1;have hR5:=fN (a:=Z vs) (b:=Z va) hR1;have b5:=EE b01 (qj hRR) (Z vs) (Z va);have hR6:=(Lib.alloc_old _ (.cells #[Z vs,Z va] 26) R (aA hR5)).trans hR5;have b6:=b5.alloc b5.size (.cells #[Z vs,Z va] 26);clear hR hR1 hc b01 hR5 b5;unfold g8 at hR6 b6;go_wp2;exact qg (dG rfl _ _ R 26 _ (0,0) _ rfl hR6 Tryz.underlying26 rfl Tryz.sizeVal) rfl ⟨⟨false,by first|rfl|simp[he],by simp[he]⟩,b6⟩
theorem KW(h:PS T Y M free st w)(B:mF W0 [Y,M] w)(hK:gF KK nS w){b:Bool}(hb:rE T st=b) :
  Calls Tryz.prog 103 #[.pointer (some ⟨Y,0,none⟩),.bool b,Z 17,.func (.func 104) #[] #[],.bool false,.slice (some ⟨KK,0,none⟩) 1 1] w fun r w' =>
   r=.returned (qM (mQ aK T st).1)/\PS T Y M free (mQ aK T st).2 w'/\aC [Y,M] w w':=by
 have hYl:=h.lt;have hMl:=h.ltM;have hR:=(Lib.alloc_old (w.alloc (.cells #[Z 0,Z 0] 26)) (.cells #[Z 0,Z 0] 26) w.heap.size (aA (qd w _))).trans (qd w (.cells #[Z 0,Z 0] 26));have hZ:=qd (w.alloc (.cells #[Z 0,Z 0] 26)) (.cells #[Z 0,Z 0] 26);have b0:=((qb _ w).alloc (qa _) (.cells #[Z 0,Z 0] 26)).alloc (by simp) (.cells #[Z 0,Z 0] 26);have hel:=fun(s1:aD)(w1 w2:World)(h1:PS T Y M free s1 w1)(R:Nat)=>h1.else (w':=w2) (R:=R) h;have hRl:=aA hR;rw[World.size_alloc]at hZ;cases b with
 |false =>
  have e1:mQ aK T st=(((0:Int),(0:Int)),cC T 13 st):=if_neg (by rw[hb];decide);rw[e1];simp only[qM];have hx2:=jC (h.step b0) 13 (by decide);generalize cC T 13 st=s1 at hx2⊢;clear e1 hb h;go_enter Tryz.func103,Tryz.ntmps103;go_wp2_with(go_at_call 63;refine hx2.mono ?_);intro r w2;first |(intro he hS2 a2;subst he)|rintro⟨rfl,hS2,a2⟩
  have hR2:=a2.at hR (by simp;omega);have hZ2:=a2.at hZ (by simp;omega);have a02:=(aC.of_below (bs:=[Y,M]) b0).trans a2;generalize hRR:w.heap.size=R at hR hZ hZ2 hR2 hRl⊢;obtain⟨q0,q1,f0,f1⟩:=bL hR2;obtain⟨z0,z1,zf0,zf1⟩:=bL hZ2;have hR3:=fN (a:=Z 0) (b:=Z 0) hR2;have hS3:=hel _ w2 (g8 w2 R (Z 0) (Z 0)) hS2 R (qj hRR) hR2 (by decide) (fun j hj=>fE _ _ _ _ j hj);have a3:=iE a02 (qj hRR) (Z 0) (Z 0);clear hel hR hR2 hx2 hS2 hZ hZ2;unfold g8 at hR3 hS3 a3;go_wp2;refine qg (qp rfl _ _ R 26 _ (0,0) _ rfl hR3 Tryz.underlying26 rfl Tryz.sizeVal) rfl ?_;exact⟨rfl,hS3,a3⟩
 |true =>
  obtain⟨p,rfl⟩:=aCR hb;have g:=h.good;have hpl:=h.atCell.2.2;have hlt:=aCS g hpl hb;have hrl:=BY g false nS hlt;have hm:=g.max;have hcs:=C0 g false nS hlt;have c2:=fun w' (h:PS T Y M free (.ok p) w') (hk:gF KK nS w')=>AC h hlt false nS (by decide) hk;have c3:=fun w' (b:mF W0 [Y,M] w')=>aDR (w:=w') _ hcs b.glo;have hst:=fun w' (b:Below w.heap.size w w')=>h.step b;have hwq:IntKind.i64.wrap ((p:Int)+(((kN T false nS (.ok p)).length:Int)+1))=((p+((kN T false nS (.ok p)).length+1):Nat):Int):=by
   rw[IntWalk.i64_in _ (by omega)];omega
  have hq:p+((kN T false nS (.ok p)).length+1)<T.length:=by omega
  have hBs:=fun w' (b:Below w.heap.size w w')=>B.step b;have hKs:=fun w' (b:Below w.heap.size w w')=>hK.step b
  have epit : mQ aK T (.ok p) = match aK.val (pE T false nS (.ok p)) with
    |none=>(((0:Int),(0:Int)),cC T 17 (.ok p))
    |some v=>(v,.ok (p+((kN T false nS (.ok p)).length+1))):=by unfold mQ;rw[if_pos hb];rfl
  rw[epit];have hpt:=aDN (pE T false nS (.ok p));generalize pE T false nS (.ok p)=cs at c2 c3 hpt⊢;generalize (kN T false nS (.ok p)).length=m at c2 hwq hq⊢;generalize E7 cs=pr at c3 hpt;obtain⟨pv,pe⟩:=pr;obtain⟨vs,va⟩:=pv;simp only[qM]at c3⊢;simp only[nS,qk,qql,Nat.zero_add]at c2;rcases hpt with⟨ho,hne⟩ |⟨v,ho,rfl,hpe⟩
  ·have hne':¬pe=0:=hne;clear hne;rw[ho];simp only;have c4:=fun w' (h:PS T Y M free (.ok p) w')=>jC h 17 (by decide);generalize cC T 17 (.ok p)=s1 at c4⊢;clear ho hb h;go_enter Tryz.func103,Tryz.ntmps103;have hx2:=c2 _ (hst _ b0) (hKs _ b0);clear c2;go_wp2_with(go_at_call 144;refine hx2.mono ?_);intro r w1;first |(intro he b1;subst he)|rintro⟨rfl,b1⟩
   have b01:=b0.trans (b1.mono (by first|exact b0.size|simpa using b0.size));have hR1:=(b1.block _ (by first|exact aA hR|simpa using aA hR)).trans hR;have hZ1:=(b1.block _ (by first|exact aA hZ|simpa using aA hZ)).trans hZ;have hx3:=c3 _ (hBs _ b01);clear hx2 c3;go_wp2_with(go_at_call 104;refine hx3.mono ?_);rintro r w3 ⟨⟨bk,rfl,hbk⟩,b3⟩;have hbf:bk=false:=by
    cases bk with
    |false=>rfl
    |true=>exact absurd (hbk.1 rfl) hne'
   subst hbf;have b03:=(b01.trans (b3.mono b01.size)).alloc (qx b01.size b3.size) (.cells #[Z vs,Z va] 26);have bt3:=(qb _ w3).alloc (qa _) (.cells #[Z vs,Z va] 26);have hR3:=(bt3.block _ (qqa (aA hR1) b3.size)).trans ((b3.block _ (aA hR1)).trans hR1);have hZ3:=(bt3.block _ (qqa (aA hZ1) b3.size)).trans ((b3.block _ (aA hZ1)).trans hZ1);have hx4:=c4 _ (hst _ b03);clear hx3 c4 hbk;go_wp2_with(go_at_call 63;refine hx4.mono ?_);intro r w4;first |(intro he hS4 a4;subst he)|rintro⟨rfl,hS4,a4⟩
   have hR4:=a4.at hR3 (by simp;omega);have hZ4:=a4.at hZ3 (by simp;omega);have a04:=(aC.of_below (bs:=[Y,M]) b03).trans a4;generalize hRR:w.heap.size=R at hR hR1 hR3 hR4 hZ hZ1 hZ3 hZ4 hRl⊢;obtain⟨q0,q1,f0,f1⟩:=bL hR4;obtain⟨z0,z1,zf0,zf1⟩:=bL hZ4;have hR5:=fN (a:=Z 0) (b:=Z 0) hR4;have hS5:=hel _ w4 (g8 w4 R (Z 0) (Z 0)) hS4 R (qj hRR) hR4 (by decide) (fun j hj=>fE _ _ _ _ j hj);have a5:=iE a04 (qj hRR) (Z 0) (Z 0);clear hel hst hR hR1 hR3 hR4 hx4 hS4 hBs hKs hZ hZ1 hZ3 hZ4;unfold g8 at hR5 hS5 a5;go_wp2;refine qg (qp rfl _ _ R 26 _ (0,0) _ rfl hR5 Tryz.underlying26 rfl Tryz.sizeVal) rfl ?_;exact⟨rfl,hS5,a5⟩
  ·rw[ho];simp only;clear ho hb;generalize hQQ:p+(m+1)=q at hwq hq⊢;go_enter Tryz.func103,Tryz.ntmps103;have hx2:=c2 _ (hst _ b0) (hKs _ b0);clear c2;go_wp2_with(go_at_call 144;refine hx2.mono ?_);intro r w1;first |(intro he b1;subst he)|rintro⟨rfl,b1⟩
   have b01:=b0.trans (b1.mono (by first|exact b0.size|simpa using b0.size));have hR1:=(b1.block _ (by first|exact aA hR|simpa using aA hR)).trans hR;have hx3:=c3 _ (hBs _ b01);clear hx2 c3;go_wp2_with(go_at_call 104;refine hx3.mono ?_);rintro r w3 ⟨⟨bk,rfl,hbk⟩,b3⟩;obtain rfl:bk=true:=hbk.2 hpe;have b03:=b01.trans (b3.mono b01.size);have hR3:=(b3.block _ (aA hR1)).trans hR1;have hS3:=hst _ b03;obtain⟨x1,xf1,_⟩:=hS3.atCell;have n1:=qqd w3 _ x1;have l1:=hS3.lt;have hS4:=hS3.jump hq;have a4:=(aC.of_below (bs:=[Y,M]) b03).setCell (p:=⟨Y,1,none⟩) (.inl (by simp)) (Z (q:Nat));have hRX:w.heap.size≠Y:=by omega
   have hR4:(w3.setCell ⟨Y,1,none⟩ (Z (q:Nat))).heap[w.heap.size]?=_:=(qh w3 ⟨Y,1,none⟩ _ _ hRX).trans hR3;have hRn:w.heap.size≠w3.heap.size:=by have:=aA hR3;omega
   have hwl:=aA hR3;generalize hRR:w.heap.size=R at hR hR1 hR3 hR4 hRl hRX hRn hwl hZ⊢;obtain⟨q0,q1,f0,f1⟩:=bL hR3;have hR5:=fN (a:=Z vs) (b:=Z va) hR4;have hS5:=hel _ _ (g8 (w3.setCell ⟨Y,1,none⟩ (Z (q:Nat))) R (Z vs) (Z va)) hS4 R (qj hRR) hR4 (by decide) (fun j hj=>fE _ _ _ _ j hj);have a5:=iE a4 (qj hRR) (Z vs) (Z va);have hS6:=hS5.step ((qb _ _).alloc (qa _) (.cells #[Z vs,Z va] 26));have a6:=a5.alloc (.cells #[Z vs,Z va] 26);have hR6:=(Lib.alloc_old _ (.cells #[Z vs,Z va] 26) R (aA hR5)).trans hR5;clear hel hst hR hR1 hR3 hR4 hS3 hS4 hS5 hBs hKs a4 a5 hR5 h hZ hbk;unfold g8 at hR6 hS6 a6;go_wp2;refine qg (qp rfl _ _ R 26 _ (0,0) _ rfl hR6 Tryz.underlying26 rfl Tryz.sizeVal) rfl ?_;exact⟨rfl,hS6,a6⟩
end
section
variable{W0:World}{T:List aX}{Y M:Nat}{free:Fr}{st:aD}{w:World}
theorem X0(h:PS T Y M free st w)(B:mF W0 [Y,M] w):Calls Tryz.prog 102 #[.pointer (some ⟨Y,0,none⟩)] w fun r w'=>r=.returned (JQ (cD aK T st).1)/\PS T Y M free (cD aK T st).2 w'/\aC [Y,M] w w':=by
 have hYl:=h.lt;have hMl:=h.ltM;have hR:=qd w (.cells #[Z 0,Z 0,Z 0] 75);have hRl:=aA hR;have b0:=(qb _ w).alloc (qa _) (.cells #[Z 0,Z 0,Z 0] 75);have hx1:=LP (h.step b0);obtain⟨b,hb⟩:∃b,fV T st=b:=⟨_,rfl⟩;have c2:=fun w' K (bw:Below w.heap.size w w') (hK:gF K jP w')=>KV (h.step bw) (B.step bw) hK hb;rw[hb]at hx1;have hel:=fun(s1:aD)(w1 w2:World)(h1:PS T Y M free s1 w1)(R:Nat)=>h1.else (w':=w2) (R:=R) h;generalize cD aK T st=q at c2⊢;obtain⟨⟨vs,va,vo⟩,s1⟩:=q;simp only[JQ]at c2⊢;clear h hb;go_enter Tryz.func102,Tryz.ntmps102;go_wp2_with(go_at_call 116;refine hx1.mono ?_);intro r w1;first |(intro he b1;subst he)|rintro⟨rfl,b1⟩
 have b01:=b0.trans (b1.mono b0.size);have hR1:=(b1.block _ (aA hR)).trans hR;have bK:=b01.alloc b01.size (.cells #[.string ⟨#[35]⟩,.string ⟨#[45]⟩] 9);have hK:gF w1.heap.size jP (w1.alloc (.cells #[.string ⟨#[35]⟩,.string ⟨#[45]⟩] 9)):=qd w1 _;have hR1':=(((qb _ w1).alloc (qa _) (.cells #[.string ⟨#[35]⟩,.string ⟨#[45]⟩] 9)).block _ (aA hR1)).trans hR1;have hx2:=c2 _ _ bK hK;clear hx1 c2 hK;go_wp2_with(go_at_call 142;refine hx2.mono ?_);intro r w2;first |(intro he hS2 a2;subst he)|rintro⟨rfl,hS2,a2⟩
 have hR2:=a2.at hR1' (by simp;omega);have a02:=(aC.of_below (bs:=[Y,M]) bK).trans a2;generalize hRR:w.heap.size=R at hR hR1 hR1' hR2 hRl⊢;obtain⟨q0,q1,q2,f0,f1,f2⟩:=dD hR2;have hR3:=gP (a:=Z vs) (b:=Z va) (c:=Z vo) hR2;have hS3:=hel _ w2 (m7 w2 R (Z vs) (Z va) (Z vo)) hS2 R (qj hRR) hR2 (by decide) (fun j hj=>pG _ _ _ _ _ j hj);have a3:=rG a02 (qj hRR) (Z vs) (Z va) (Z vo);clear hel hR hR1 hR1' hR2 hx2 hS2;unfold m7 at hR3 hS3 a3;go_wp2;refine qg (qp rfl _ _ R 75 _ (0,0) _ rfl hR3 Tryz.underlying75 rfl Tryz.sizePitch3) rfl ?_;exact⟨rfl,hS3,a3⟩
theorem aGH(h:PS T Y M free st w)(B:mF W0 [Y,M] w):Calls Tryz.prog 59 #[.pointer (some ⟨Y,0,none⟩)] w fun r w'=>r=.returned (qM (mQ aK T st).1)/\PS T Y M free (mQ aK T st).2 w'/\aC [Y,M] w w':=by
 have hYl:=h.lt;have hMl:=h.ltM;have hR:=qd w (.cells #[Z 0,Z 0] 26);have hRl:=aA hR;have b0:=(qb _ w).alloc (qa _) (.cells #[Z 0,Z 0] 26);have hx1:=nX (h.step b0);have hx1b:=fun w' (bw:Below w.heap.size w w')=>KY (h.step bw) ⟨#[98]⟩;obtain⟨b,hb⟩:∃b,rE T st=b:=⟨_,rfl⟩;have c2:=fun w' K (bw:Below w.heap.size w w') (hK:gF K nS w')=>KW (h.step bw) (B.step bw) hK hb;have hel:=fun(s1:aD)(w1 w2:World)(h1:PS T Y M free s1 w1)(R:Nat)=>h1.else (w':=w2) (R:=R) h;generalize mQ aK T st=q at c2⊢;obtain⟨⟨vs,va⟩,s1⟩:=q;simp only[qM]at c2⊢;unfold rE at hb;generalize isS T ⟨#[98]⟩ st=bi at hx1b hb;unfold uL at hx1;generalize aZ T st=t at hx1 hb;obtain⟨kd,text,v,bt,lin,cl,j⟩:=t;simp only at hx1 hb;clear h;by_cases hk:kd=2
 ·subst hk;obtain rfl:b=true:=by rw[<-hb];rfl
  have hfd:=BH 2 v lin cl text bt j;clear hb hx1b;go_enter Tryz.func59,Tryz.ntmps59;go_wp2_with(go_at_call 62;refine hx1.mono ?_);intro r w1;first |(intro he b1;subst he)|rintro⟨rfl,b1⟩
  have b01:=b0.trans (b1.mono b0.size);have hR1:=(b1.block _ (aA hR)).trans hR;have bK:=b01.alloc b01.size (.cells #[.string ⟨#[46]⟩] 9);have hK:gF w1.heap.size nS (w1.alloc (.cells #[.string ⟨#[46]⟩] 9)):=qd w1 _;have hR1':=(((qb _ w1).alloc (qa _) (.cells #[.string ⟨#[46]⟩] 9)).block _ (aA hR1)).trans hR1;have hx2:=c2 _ _ bK hK;clear hx1 c2 hK;go_wp2_with(go_at_call 103;refine hx2.mono ?_);intro r w2;first |(intro he hS2 a2;subst he)|rintro⟨rfl,hS2,a2⟩
  have hR2:=a2.at hR1' (by simp;omega);have a02:=(aC.of_below (bs:=[Y,M]) bK).trans a2;generalize hRR:w.heap.size=R at hR hR1 hR1' hR2 hRl⊢;obtain⟨q0,q1,f0,f1⟩:=bL hR2;have hR3:=fN (a:=Z vs) (b:=Z va) hR2;have hS3:=hel _ w2 (g8 w2 R (Z vs) (Z va)) hS2 R (qj hRR) hR2 (by decide) (fun j hj=>fE _ _ _ _ j hj);have a3:=iE a02 (qj hRR) (Z vs) (Z va);clear hel hR hR1 hR1' hR2 hx2 hS2;unfold g8 at hR3 hS3 a3;go_wp2;generalize (w2.setCell ⟨R,0,none⟩ (Z vs)).setCell ⟨R,1,none⟩ (Z va)=w3 at hR3 hS3 a3⊢;refine qg (qp rfl _ _ R 26 _ (0,0) _ rfl hR3 Tryz.underlying26 rfl Tryz.sizeVal) rfl ?_;exact⟨rfl,hS3,a3⟩
 ·obtain rfl:b=bi:=by rw[<-hb];simp[hk]
  have hkb:(kd==2)=false:=by simp[hk]
  have hfd:=BH kd v lin cl text bt j;clear hb;go_enter Tryz.func59,Tryz.ntmps59;go_wp2_with(go_at_call 62;refine hx1.mono ?_);intro r w1a;first |(intro he b1a;subst he)|rintro⟨rfl,b1a⟩
  have b01a:=b0.trans (b1a.mono b0.size);have hR1a:=(b1a.block _ (aA hR)).trans hR;have hx1c:=hx1b _ b01a;clear hx1b;go_wp2_with(go_at_call 76;refine hx1c.mono ?_);intro r w1;first |(intro he b1;subst he)|rintro⟨rfl,b1⟩
  have b01:=b01a.trans (b1.mono b01a.size);have hR1:=(b1.block _ (aA hR1a)).trans hR1a;clear hx1c;have bK:=b01.alloc b01.size (.cells #[.string ⟨#[46]⟩] 9);have hK:gF w1.heap.size nS (w1.alloc (.cells #[.string ⟨#[46]⟩] 9)):=qd w1 _;have hR1':=(((qb _ w1).alloc (qa _) (.cells #[.string ⟨#[46]⟩] 9)).block _ (aA hR1)).trans hR1;have hx2:=c2 _ _ bK hK;clear hx1 c2 hK;go_wp2_with(go_at_call 103;refine hx2.mono ?_);intro r w2;first |(intro he hS2 a2;subst he)|rintro⟨rfl,hS2,a2⟩
  have hR2:=a2.at hR1' (by simp;omega);have a02:=(aC.of_below (bs:=[Y,M]) bK).trans a2;generalize hRR:w.heap.size=R at hR hR1 hR1' hR2 hRl⊢;obtain⟨q0,q1,f0,f1⟩:=bL hR2;have hR3:=fN (a:=Z vs) (b:=Z va) hR2;have hS3:=hel _ w2 (g8 w2 R (Z vs) (Z va)) hS2 R (qj hRR) hR2 (by decide) (fun j hj=>fE _ _ _ _ j hj);have a3:=iE a02 (qj hRR) (Z vs) (Z va);clear hel hR hR1 hR1' hR2 hx2 hS2;unfold g8 at hR3 hS3 a3;go_wp2;generalize (w2.setCell ⟨R,0,none⟩ (Z vs)).setCell ⟨R,1,none⟩ (Z va)=w3 at hR3 hS3 a3⊢;refine qg (qp rfl _ _ R 26 _ (0,0) _ rfl hR3 Tryz.underlying26 rfl Tryz.sizeVal) rfl ?_;exact⟨rfl,hS3,a3⟩
end
section
variable{W0:World}{T:List aX}{Y M:Nat}{free:Fr}{st:aD}{w:World}
theorem VK(h:PS T Y M free st w)(B:mF W0 [Y,M] w):Calls Tryz.prog 58 #[.pointer (some ⟨Y,0,none⟩)] w fun r w'=>r=.returned (UD (dQ aK T st).1)/\PS T Y M free (dQ aK T st).2 w'/\aC [Y,M] w w':=by
 have hYl:=h.lt;have hMl:=h.ltM;have hel:=fun(s1:aD)(w1 w2:World)(h1:PS T Y M free s1 w1)(R:Nat)=>h1.else (w':=w2) (R:=R) h
 have hh : dQ aK T st = if isS T ⟨#[33]⟩ (aY T ⟨#[126]⟩ (cD aK T st).2) = true then (⟨(cD aK T st).1, isS T ⟨#[126]⟩ (cD aK T st).2, 1⟩, aY T ⟨#[33]⟩ (aY T ⟨#[126]⟩ (cD aK T st).2))
   else if isS T ⟨#[63]⟩ (aY T ⟨#[126]⟩ (cD aK T st).2)=true then(⟨(cD aK T st).1,isS T ⟨#[126]⟩ (cD aK T st).2,2⟩,aY T ⟨#[63]⟩ (aY T ⟨#[126]⟩ (cD aK T st).2))
   else(⟨(cD aK T st).1,isS T ⟨#[126]⟩ (cD aK T st).2,0⟩,aY T ⟨#[126]⟩ (cD aK T st).2):=by
  unfold dQ;simp only;split
  ·rename_i h1;rw[show aY T ⟨#[33]⟩ (aY T ⟨#[126]⟩ (cD aK T st).2)=(aY T ⟨#[126]⟩ (cD aK T st).2).next 1 from if_pos h1]
  ·split
   ·rename_i h1;rw[show aY T ⟨#[63]⟩ (aY T ⟨#[126]⟩ (cD aK T st).2)=(aY T ⟨#[126]⟩ (cD aK T st).2).next 1 from if_pos h1]
   ·rfl
 rw[hh];clear hh;have hpi:=fun w' (b:Below w.heap.size w w')=>X0 (h.step b) (B.step b);generalize cD aK T st=q1 at hpi⊢;obtain⟨⟨ps,pa,po⟩,s1⟩:=q1;simp only[JQ]at hpi⊢;have c2:=fun w' (h:PS T Y M free s1 w')=>d9 h ⟨#[126]⟩;generalize aY T ⟨#[126]⟩ s1=s2 at c2⊢;generalize isS T ⟨#[126]⟩ s1=td at c2⊢;have c3:=fun w' (h:PS T Y M free s2 w')=>d9 h ⟨#[33]⟩;have c4:=fun w' (h:PS T Y M free s2 w')=>d9 h ⟨#[63]⟩;have e3:isS T ⟨#[33]⟩ s2=false->aY T ⟨#[33]⟩ s2=s2:=fun h=>if_neg (by rw[h];decide);have e4:isS T ⟨#[63]⟩ s2=false->aY T ⟨#[63]⟩ s2=s2:=fun h=>if_neg (by rw[h];decide);generalize aY T ⟨#[33]⟩ s2=s3 at c3 e3⊢;generalize aY T ⟨#[63]⟩ s2=s4 at c4 e4⊢;generalize isS T ⟨#[33]⟩ s2=b3 at c3 e3⊢;generalize isS T ⟨#[63]⟩ s2=b4 at c4 e4⊢;cases b3 with
 |true =>
  rw[if_pos rfl];simp only[UD];have HEL:=aJ hel;clear hel B h;go_enter Tryz.func58,Tryz.ntmps58;go_wp2;have hR0:=qd w (.cells #[Z 0,Z 0,Z 0,.bool false,Z 0] 80);have b0:=(qb w.heap.size w).alloc (qa _) (.cells #[Z 0,Z 0,Z 0,.bool false,Z 0] 80);have hX1:(((w.alloc dU).drew).alloc dU).heap[w.heap.size+1]?=some dU:=by
   have:=qd ((w.alloc dU).drew) dU;simpa using this
  have hR0Y:w.heap.size∉[Y,M]:=by simp;omega
  have hX1Y:w.heap.size+1∉[Y,M]:=by simp;omega
  have hmem:∀w':World,aC [Y,M] (((w.alloc dU).drew).alloc dU) w'->w'.heap[w.heap.size+1]?=some dU:=fun w' ha=>ha.at hX1 hX1Y;have hmem2:∀w1 w':World,Y<w1.heap.size->M<w1.heap.size->aC [Y,M] (w1.alloc dU) w'->w'.heap[w1.heap.size]?=some dU:=fun w1 w' hy hm hb=>hb.at (qd w1 _) (by simp;omega)
  go_cut [3] from 4 (fun s3 wc => ∃ X, s3 = .pointer (some ⟨X, 0, none⟩) /\ w.heap.size < X /\ wc.heap[X]? = some (.cells #[Z ps, Z pa, Z po, .bool td, Z 0] 80 (0, 0)) /\
    wc.heap[w.heap.size]?=some (.cells #[Z 0,Z 0,Z 0,.bool false,Z 0] 80 (0,0))/\PS T Y M free s2 wc/\aC [Y,M] w wc)
  case first =>
   go_region_held3 (fun _=>True) (trivial) (first
    |(go_at_call 102;refine(hpi _ (by first|exact b0.drew|exact b0.drew.alloc (by simp) _)).mono ?_;rintro r w1 ⟨rfl,hS,ha⟩;have lY1:=hS.lt;have lM1:=hS.ltM;try have hx1:=hmem w1 ha)
    |(go_at_call 53;refine(c2 _ (by first|exact hS|exact hS.step ((qb _ _).alloc (qa _) _))).mono ?_;rintro r w2 ⟨rfl,hS2,a2⟩;(first |(have hx:=a2.at hx1 hX1Y;obtain⟨⟨q0,q1,q2,q3,q4⟩,r0,r1,r2,r3,r4⟩:=cQ hx) |(have hx:=hmem2 _ _ lY1 lM1 a2;obtain⟨⟨q0,q1,q2,q3,q4⟩,r0,r1,r2,r3,r4⟩:=cQ hx)|skip)))
   ·go_wp2
    go_meet
    case rel =>
     have aw:=((aC.of_below (bs:=[Y,M]) b0.drew).trans ha).trans a2;have hRw:=a2.at (ha.at hR0 hR0Y) hR0Y;have hl:=(qe.1 hRw).1;exact⟨w2.heap.size,rfl,hl,qd w2 _,(Lib.alloc_old w2 _ _ hl).trans hRw,hS2.step ((qb _ _).alloc (qa _) _),aw.alloc _⟩
   ·go_wp2
    go_meet
    case rel =>
     have aw:=(((aC.of_below (bs:=[Y,M]) b0.drew).trans ha).alloc dU).trans a2;have hR1:=ha.at hR0 hR0Y;have hl:=(qe.1 hR1).1;have hRw:=a2.at ((Lib.alloc_old w1 dU _ hl).trans hR1) hR0Y;have hw1:w.heap.size<=w1.heap.size:=Nat.le_of_lt hl;exact⟨w1.heap.size,rfl,hl,fP _ _ _ _ _ hx,(cZ w2 w1.heap.size _ _ _ _ _ _ (by omega)).trans hRw,HEL.out _ w2 (kC w2 w1.heap.size _ _ _ _ _) hS2 w1.heap.size hw1 hx (by decide) (fun j hj=>cZ _ _ _ _ _ _ _ j hj),fQ aw hw1 _ _ _ _ _⟩
   ·go_wp2
    go_meet
    case rel =>
     have aw:=((aC.of_below (bs:=[Y,M]) (b0.drew.alloc (by simp) dU)).trans ha).trans a2;have hR1:=ha.at ((Lib.alloc_old (w.alloc dU).drew dU w.heap.size (by simp)).trans hR0) hR0Y;have hRw:=a2.at hR1 hR0Y;exact⟨w.heap.size+1,rfl,by omega,fP _ _ _ _ _ hx,(cZ w2 (w.heap.size+1) _ _ _ _ _ _ (by omega)).trans hRw,HEL.out _ w2 (kC w2 (w.heap.size+1) _ _ _ _ _) hS2 (w.heap.size+1) (Nat.le_succ _) hx (by decide) (fun j hj=>cZ _ _ _ _ _ _ _ j hj),fQ aw (Nat.le_succ _) _ _ _ _ _⟩
  case rest =>
   obtain⟨Q,rfl,hRQ,hQ3,hR3,hS3,a03⟩:=hcut;have hel:=HEL.out;have hx3:=c3 _ hS3;clear hpi c2 c3 hR0 b0 hX1 hX1Y hmem hmem2 HEL;have hQR:Q≠w.heap.size:=by omega
   generalize hRR:w.heap.size=R at hRQ hR3 hR0Y hQR⊢;have hRY:R∉[Y,M]:=hR0Y;have hQY:Q∉[Y,M]:=by simp;omega
   clear hR0Y;go_wp2_with(go_at_call 53;refine hx3.mono ?_);intro r w4;first |(intro he hS4 a4;subst he)|rintro⟨rfl,hS4,a4⟩
   have hR4:=a4.at hR3 hRY;have hQ4:=a4.at hQ3 hQY;have a04:=a03.trans a4;clear hx3 hS3;have hQ6:(w4.setCell ⟨Q,4,none⟩ (Z 1)).heap[Q]?=_:=Lib.heap_setCell_same hQ4 _;have hR6:(w4.setCell ⟨Q,4,none⟩ (Z 1)).heap[R]?=_:=(aH w4 Q 4 (Z 1) R hQR.symm).trans hR4;have hS6:=hel _ w4 (w4.setCell ⟨Q,4,none⟩ (Z 1)) hS4 Q (by omega) hQ4 (by decide) (aH _ _ _ _);have a06:=a04.setCell (p:=⟨Q,4,none⟩) (.inr (by show w.heap.size<=Q;omega)) (Z 1);obtain⟨⟨r0,r1,r2,r3,r4⟩,g0,g1,g2,g3,g4⟩:=cQ hR4;obtain⟨⟨q0,q1,q2,q3,q4⟩,f0,f1,f2,f3,f4⟩:=cQ hQ4;have hR7:=fP (Z ps) (Z pa) (Z po) (.bool td) (Z 1) hR6;have hS7:=hel _ _ (kC (w4.setCell ⟨Q,4,none⟩ (Z 1)) R (Z ps) (Z pa) (Z po) (.bool td) (Z 1)) hS6 R (qj hRR) hR6 (by decide) (fun j hj=>cZ _ _ _ _ _ _ _ j hj);have a7:=fQ a06 (qj hRR) (Z ps) (Z pa) (Z po) (.bool td) (Z 1);clear hel;unfold kC at hR7 hS7 a7;go_wp2;refine qg (qp rfl _ _ R 80 _ (0,0) _ rfl hR7 Tryz.underlying80 rfl Tryz.sizeHead) rfl ?_;exact⟨rfl,hS7,a7⟩
 |false =>
  rw[if_neg (by decide)];have e5:=(e3 rfl).symm;subst e5;cases b4 with
  |true =>
   rw[if_pos rfl];simp only[UD];have HEL:=aJ hel;clear hel B h;go_enter Tryz.func58,Tryz.ntmps58;go_wp2;have hR0:=qd w (.cells #[Z 0,Z 0,Z 0,.bool false,Z 0] 80);have b0:=(qb w.heap.size w).alloc (qa _) (.cells #[Z 0,Z 0,Z 0,.bool false,Z 0] 80);have hX1:(((w.alloc dU).drew).alloc dU).heap[w.heap.size+1]?=some dU:=by
    have:=qd ((w.alloc dU).drew) dU;simpa using this
   have hR0Y:w.heap.size∉[Y,M]:=by simp;omega
   have hX1Y:w.heap.size+1∉[Y,M]:=by simp;omega
   have hmem:∀w':World,aC [Y,M] (((w.alloc dU).drew).alloc dU) w'->w'.heap[w.heap.size+1]?=some dU:=fun w' ha=>ha.at hX1 hX1Y;have hmem2:∀w1 w':World,Y<w1.heap.size->M<w1.heap.size->aC [Y,M] (w1.alloc dU) w'->w'.heap[w1.heap.size]?=some dU:=fun w1 w' hy hm hb=>hb.at (qd w1 _) (by simp;omega)
   go_cut [3] from 4 (fun s3 wc => ∃ X, s3 = .pointer (some ⟨X, 0, none⟩) /\ w.heap.size < X /\ wc.heap[X]? = some (.cells #[Z ps, Z pa, Z po, .bool td, Z 0] 80 (0, 0)) /\
     wc.heap[w.heap.size]?=some (.cells #[Z 0,Z 0,Z 0,.bool false,Z 0] 80 (0,0))/\PS T Y M free s2 wc/\aC [Y,M] w wc)
   case first =>
    go_region_held3 (fun _=>True) (trivial) (first
     |(go_at_call 102;refine(hpi _ (by first|exact b0.drew|exact b0.drew.alloc (by simp) _)).mono ?_;rintro r w1 ⟨rfl,hS,ha⟩;have lY1:=hS.lt;have lM1:=hS.ltM;try have hx1:=hmem w1 ha)
     |(go_at_call 53;refine(c2 _ (by first|exact hS|exact hS.step ((qb _ _).alloc (qa _) _))).mono ?_;rintro r w2 ⟨rfl,hS2,a2⟩;(first |(have hx:=a2.at hx1 hX1Y;obtain⟨⟨q0,q1,q2,q3,q4⟩,r0,r1,r2,r3,r4⟩:=cQ hx) |(have hx:=hmem2 _ _ lY1 lM1 a2;obtain⟨⟨q0,q1,q2,q3,q4⟩,r0,r1,r2,r3,r4⟩:=cQ hx)|skip)))
    ·go_wp2
     go_meet
     case rel =>
      have aw:=((aC.of_below (bs:=[Y,M]) b0.drew).trans ha).trans a2;have hRw:=a2.at (ha.at hR0 hR0Y) hR0Y;have hl:=(qe.1 hRw).1;exact⟨w2.heap.size,rfl,hl,qd w2 _,(Lib.alloc_old w2 _ _ hl).trans hRw,hS2.step ((qb _ _).alloc (qa _) _),aw.alloc _⟩
    ·go_wp2
     go_meet
     case rel =>
      have aw:=(((aC.of_below (bs:=[Y,M]) b0.drew).trans ha).alloc dU).trans a2;have hR1:=ha.at hR0 hR0Y;have hl:=(qe.1 hR1).1;have hRw:=a2.at ((Lib.alloc_old w1 dU _ hl).trans hR1) hR0Y;have hw1:w.heap.size<=w1.heap.size:=Nat.le_of_lt hl;exact⟨w1.heap.size,rfl,hl,fP _ _ _ _ _ hx,(cZ w2 w1.heap.size _ _ _ _ _ _ (by omega)).trans hRw,HEL.out _ w2 (kC w2 w1.heap.size _ _ _ _ _) hS2 w1.heap.size hw1 hx (by decide) (fun j hj=>cZ _ _ _ _ _ _ _ j hj),fQ aw hw1 _ _ _ _ _⟩
    ·go_wp2
     go_meet
     case rel =>
      have aw:=((aC.of_below (bs:=[Y,M]) (b0.drew.alloc (by simp) dU)).trans ha).trans a2;have hR1:=ha.at ((Lib.alloc_old (w.alloc dU).drew dU w.heap.size (by simp)).trans hR0) hR0Y;have hRw:=a2.at hR1 hR0Y;exact⟨w.heap.size+1,rfl,by omega,fP _ _ _ _ _ hx,(cZ w2 (w.heap.size+1) _ _ _ _ _ _ (by omega)).trans hRw,HEL.out _ w2 (kC w2 (w.heap.size+1) _ _ _ _ _) hS2 (w.heap.size+1) (Nat.le_succ _) hx (by decide) (fun j hj=>cZ _ _ _ _ _ _ _ j hj),fQ aw (Nat.le_succ _) _ _ _ _ _⟩
   case rest =>
    obtain⟨Q,rfl,hRQ,hQ3,hR3,hS3,a03⟩:=hcut;have hel:=HEL.out;have hx3:=c3 _ hS3;clear hpi c2 c3 hR0 b0 hX1 hX1Y hmem hmem2 HEL;have hQR:Q≠w.heap.size:=by omega
    generalize hRR:w.heap.size=R at hRQ hR3 hR0Y hQR⊢;have hRY:R∉[Y,M]:=hR0Y;have hQY:Q∉[Y,M]:=by simp;omega
    clear hR0Y;go_wp2_with(go_at_call 53;refine hx3.mono ?_);intro r w4;first |(intro he hS4 a4;subst he)|rintro⟨rfl,hS4,a4⟩
    have hR4:=a4.at hR3 hRY;have hQ4:=a4.at hQ3 hQY;have a04:=a03.trans a4;clear hx3 hS3;have hx4:=c4 _ hS4;clear c4;go_wp2_with(go_at_call 53;refine hx4.mono ?_);intro r w5;first |(intro he hS5 a5;subst he)|rintro⟨rfl,hS5,a5⟩
    have hR5:=a5.at hR4 hRY;have hQ5:=a5.at hQ4 hQY;have a05:=a04.trans a5;clear hx4;have hQ6:(w5.setCell ⟨Q,4,none⟩ (Z 2)).heap[Q]?=_:=Lib.heap_setCell_same hQ5 _;have hR6:(w5.setCell ⟨Q,4,none⟩ (Z 2)).heap[R]?=_:=(aH w5 Q 4 (Z 2) R hQR.symm).trans hR5;have hS6:=hel _ w5 (w5.setCell ⟨Q,4,none⟩ (Z 2)) hS5 Q (by omega) hQ5 (by decide) (aH _ _ _ _);have a06:=a05.setCell (p:=⟨Q,4,none⟩) (.inr (by show w.heap.size<=Q;omega)) (Z 2);obtain⟨⟨r0,r1,r2,r3,r4⟩,g0,g1,g2,g3,g4⟩:=cQ hR5;obtain⟨⟨q0,q1,q2,q3,q4⟩,f0,f1,f2,f3,f4⟩:=cQ hQ5;have hR7:=fP (Z ps) (Z pa) (Z po) (.bool td) (Z 2) hR6;have hS7:=hel _ _ (kC (w5.setCell ⟨Q,4,none⟩ (Z 2)) R (Z ps) (Z pa) (Z po) (.bool td) (Z 2)) hS6 R (qj hRR) hR6 (by decide) (fun j hj=>cZ _ _ _ _ _ _ _ j hj);have a7:=fQ a06 (qj hRR) (Z ps) (Z pa) (Z po) (.bool td) (Z 2);clear hel;unfold kC at hR7 hS7 a7;go_wp2;refine qg (qp rfl _ _ R 80 _ (0,0) _ rfl hR7 Tryz.underlying80 rfl Tryz.sizeHead) rfl ?_;exact⟨rfl,hS7,a7⟩
  |false =>
   rw[if_neg (by decide)];have e6:=(e4 rfl).symm;subst e6;simp only[UD];have HEL:=aJ hel;clear hel B h;go_enter Tryz.func58,Tryz.ntmps58;go_wp2;have hR0:=qd w (.cells #[Z 0,Z 0,Z 0,.bool false,Z 0] 80);have b0:=(qb w.heap.size w).alloc (qa _) (.cells #[Z 0,Z 0,Z 0,.bool false,Z 0] 80);have hX1:(((w.alloc dU).drew).alloc dU).heap[w.heap.size+1]?=some dU:=by
    have:=qd ((w.alloc dU).drew) dU;simpa using this
   have hR0Y:w.heap.size∉[Y,M]:=by simp;omega
   have hX1Y:w.heap.size+1∉[Y,M]:=by simp;omega
   have hmem:∀w':World,aC [Y,M] (((w.alloc dU).drew).alloc dU) w'->w'.heap[w.heap.size+1]?=some dU:=fun w' ha=>ha.at hX1 hX1Y;have hmem2:∀w1 w':World,Y<w1.heap.size->M<w1.heap.size->aC [Y,M] (w1.alloc dU) w'->w'.heap[w1.heap.size]?=some dU:=fun w1 w' hy hm hb=>hb.at (qd w1 _) (by simp;omega)
   go_cut [3] from 4 (fun s3 wc => ∃ X, s3 = .pointer (some ⟨X, 0, none⟩) /\ w.heap.size < X /\ wc.heap[X]? = some (.cells #[Z ps, Z pa, Z po, .bool td, Z 0] 80 (0, 0)) /\
     wc.heap[w.heap.size]?=some (.cells #[Z 0,Z 0,Z 0,.bool false,Z 0] 80 (0,0))/\PS T Y M free s2 wc/\aC [Y,M] w wc)
   case first =>
    go_region_held3 (fun _=>True) (trivial) (first
     |(go_at_call 102;refine(hpi _ (by first|exact b0.drew|exact b0.drew.alloc (by simp) _)).mono ?_;rintro r w1 ⟨rfl,hS,ha⟩;have lY1:=hS.lt;have lM1:=hS.ltM;try have hx1:=hmem w1 ha)
     |(go_at_call 53;refine(c2 _ (by first|exact hS|exact hS.step ((qb _ _).alloc (qa _) _))).mono ?_;rintro r w2 ⟨rfl,hS2,a2⟩;(first |(have hx:=a2.at hx1 hX1Y;obtain⟨⟨q0,q1,q2,q3,q4⟩,r0,r1,r2,r3,r4⟩:=cQ hx) |(have hx:=hmem2 _ _ lY1 lM1 a2;obtain⟨⟨q0,q1,q2,q3,q4⟩,r0,r1,r2,r3,r4⟩:=cQ hx)|skip)))
    ·go_wp2
     go_meet
     case rel =>
      have aw:=((aC.of_below (bs:=[Y,M]) b0.drew).trans ha).trans a2;have hRw:=a2.at (ha.at hR0 hR0Y) hR0Y;have hl:=(qe.1 hRw).1;exact⟨w2.heap.size,rfl,hl,qd w2 _,(Lib.alloc_old w2 _ _ hl).trans hRw,hS2.step ((qb _ _).alloc (qa _) _),aw.alloc _⟩
    ·go_wp2
     go_meet
     case rel =>
      have aw:=(((aC.of_below (bs:=[Y,M]) b0.drew).trans ha).alloc dU).trans a2;have hR1:=ha.at hR0 hR0Y;have hl:=(qe.1 hR1).1;have hRw:=a2.at ((Lib.alloc_old w1 dU _ hl).trans hR1) hR0Y;have hw1:w.heap.size<=w1.heap.size:=Nat.le_of_lt hl;exact⟨w1.heap.size,rfl,hl,fP _ _ _ _ _ hx,(cZ w2 w1.heap.size _ _ _ _ _ _ (by omega)).trans hRw,HEL.out _ w2 (kC w2 w1.heap.size _ _ _ _ _) hS2 w1.heap.size hw1 hx (by decide) (fun j hj=>cZ _ _ _ _ _ _ _ j hj),fQ aw hw1 _ _ _ _ _⟩
    ·go_wp2
     go_meet
     case rel =>
      have aw:=((aC.of_below (bs:=[Y,M]) (b0.drew.alloc (by simp) dU)).trans ha).trans a2;have hR1:=ha.at ((Lib.alloc_old (w.alloc dU).drew dU w.heap.size (by simp)).trans hR0) hR0Y;have hRw:=a2.at hR1 hR0Y;exact⟨w.heap.size+1,rfl,by omega,fP _ _ _ _ _ hx,(cZ w2 (w.heap.size+1) _ _ _ _ _ _ (by omega)).trans hRw,HEL.out _ w2 (kC w2 (w.heap.size+1) _ _ _ _ _) hS2 (w.heap.size+1) (Nat.le_succ _) hx (by decide) (fun j hj=>cZ _ _ _ _ _ _ _ j hj),fQ aw (Nat.le_succ _) _ _ _ _ _⟩
   case rest =>
    obtain⟨Q,rfl,hRQ,hQ3,hR3,hS3,a03⟩:=hcut;have hel:=HEL.out;have hx3:=c3 _ hS3;clear hpi c2 c3 hR0 b0 hX1 hX1Y hmem hmem2 HEL;have hQR:Q≠w.heap.size:=by omega
    generalize hRR:w.heap.size=R at hRQ hR3 hR0Y hQR⊢;have hRY:R∉[Y,M]:=hR0Y;have hQY:Q∉[Y,M]:=by simp;omega
    clear hR0Y;go_wp2_with(go_at_call 53;refine hx3.mono ?_);intro r w4;first |(intro he hS4 a4;subst he)|rintro⟨rfl,hS4,a4⟩
    have hR4:=a4.at hR3 hRY;have hQ4:=a4.at hQ3 hQY;have a04:=a03.trans a4;clear hx3 hS3;have hx4:=c4 _ hS4;clear c4;go_wp2_with(go_at_call 53;refine hx4.mono ?_);intro r w5;first |(intro he hS5 a5;subst he)|rintro⟨rfl,hS5,a5⟩
    have hR5:=a5.at hR4 hRY;have hQ5:=a5.at hQ4 hQY;have a05:=a04.trans a5;clear hx4;obtain⟨⟨r0,r1,r2,r3,r4⟩,g0,g1,g2,g3,g4⟩:=cQ hR5;obtain⟨⟨q0,q1,q2,q3,q4⟩,f0,f1,f2,f3,f4⟩:=cQ hQ5;have hR7:=fP (Z ps) (Z pa) (Z po) (.bool td) (Z 0) hR5;have hS7:=hel _ _ (kC w5 R (Z ps) (Z pa) (Z po) (.bool td) (Z 0)) hS5 R (qj hRR) hR5 (by decide) (fun j hj=>cZ _ _ _ _ _ _ _ j hj);have a7:=fQ a05 (qj hRR) (Z ps) (Z pa) (Z po) (.bool td) (Z 0);clear hel;unfold kC at hR7 hS7 a7;go_wp2;refine qg (qp rfl _ _ R 80 _ (0,0) _ rfl hR7 Tryz.underlying80 rfl Tryz.sizeHead) rfl ?_;exact⟨rfl,hS7,a7⟩
end
end Go.Proofs.YtgkhemnmcgicnaaGreatDoor
