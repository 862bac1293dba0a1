/- Towards the law ParserBlanks, true for every text and all blanks (no condition): one part of the proof. -/
import Derived.Test.YtgkhemnmcgicnaaGreatDoorG01
import Derived.Test.YtgkhemnmcgicnaaGreatDoorG27
import Derived.Test.YtgkhemnmcgicnaaGreatDoorG20
import Derived.Deep.AppendLies
import Derived.Test.YtgkhemnmcgicnaaGreatDoorG06
import Derived.MapKept
namespace Go.Proofs.YtgkhemnmcgicnaaGreatDoor
set_option maxHeartbeats 16000000
set_option maxRecDepth 100000
open Go.RowKit
def Pw(k:Nat)(pw:Int):Prop:=(k=1/\pw=2)\/(k=2/\pw=4)\/(k=3/\pw=8)\/(k=4/\pw=16)\/(k=5/\pw=32)\/(k=6/\pw=64)
theorem aG4{k:Nat}(h1:1<=k)(h6:k<=6):∃pw,Pw k pw:=by
 unfold Pw;rcases(by omega:k=1\/k=2\/k=3\/k=4\/k=5\/k=6)with rfl|rfl|rfl|rfl|rfl|rfl<;>simp
theorem aDS{k:Nat}{pw:Int}(h:Pw k pw):BM pw=k:=by
 rcases h with⟨rfl,rfl⟩ |⟨rfl,rfl⟩ |⟨rfl,rfl⟩ |⟨rfl,rfl⟩ |⟨rfl,rfl⟩ |⟨rfl,rfl⟩<;>decide
theorem aJP{v:Int}(h:BM v≠0):∃k:Nat,Pw k v/\BM v=k:=by
 unfold BM at h⊢;unfold Pw;by_cases h1:v=2
 ·exact⟨1,by simp[h1]⟩
 by_cases h2:v=4
 ·exact⟨2,by simp[h2]⟩
 by_cases h3:v=8
 ·exact⟨3,by simp[h3]⟩
 by_cases h4:v=16
 ·exact⟨4,by simp[h4]⟩
 by_cases h5:v=32
 ·exact⟨5,by simp[h5]⟩
 by_cases h6:v=64
 ·exact⟨6,by simp[h6]⟩
 simp[h1,h2,h3,h4,h5,h6]at h
section
variable{W0:World}{T:List aX}{Y M:Nat}{free:Fr}{st:aD}{w:World}
theorem XY(h:PS T Y M free st w)(B:mF W0 [Y,M] w):Calls Tryz.prog 56 #[.pointer (some ⟨Y,0,none⟩)] w fun r w'=>r=.returned (ZC (dE aK T 7 st).1)/\PS T Y M free (dE aK T 7 st).2 w'/\aC [Y,M] w w':=by
 have hYl:=h.lt;have hMl:=h.ltM;have hR:=qd w (.cells #[Z 0,Z 0,Z 0,Z 0,.bool false] 77);have b0:=(qb _ w).alloc (qa _) (.cells #[Z 0,Z 0,Z 0,Z 0,.bool false] 77);have hRl:=aA hR;have hRY:w.heap.size∉[Y,M]:=by simp;omega
 have hx1:=d9 (h.step b0) ⟨#[47]⟩;have g:=h.good;have hm:=g.max;have hBs:=fun w' (a:aC [Y,M] w w')=>B.away a;have hel:=fun(s1:aD)(w1 w2:World)(h1:PS T Y M free s1 w1)(R:Nat)=>h1.else (w':=w2) (R:=R) h
 have hh : dE aK T 7 st = if (aZ T (bY T ⟨#[58]⟩ (cD aK T (aY T ⟨#[47]⟩ st)).2)).kind ≠ 2 then (⟨(cD aK T (aY T ⟨#[47]⟩ st)).1, 0, isS T ⟨#[47]⟩ st⟩, cC T 13 (bY T ⟨#[58]⟩ (cD aK T (aY T ⟨#[47]⟩ st)).2))
   else if BM (aZ T (bY T ⟨#[58]⟩ (cD aK T (aY T ⟨#[47]⟩ st)).2)).value=0 then(⟨(cD aK T (aY T ⟨#[47]⟩ st)).1,7,isS T ⟨#[47]⟩ st⟩,cC T 2 (bY T ⟨#[58]⟩ (cD aK T (aY T ⟨#[47]⟩ st)).2))
   else(⟨(cD aK T (aY T ⟨#[47]⟩ st)).1,BM (aZ T (bY T ⟨#[58]⟩ (cD aK T (aY T ⟨#[47]⟩ st)).2)).value,isS T ⟨#[47]⟩ st⟩,(bY T ⟨#[58]⟩ (cD aK T (aY T ⟨#[47]⟩ st)).2).next 1):=rfl
 rw[hh];clear hh;have c2:=fun w' (h:PS T Y M free (aY T ⟨#[47]⟩ st) w') (b:mF W0 [Y,M] w')=>X0 h b;generalize isS T ⟨#[47]⟩ st=sl at hx1⊢;generalize aY T ⟨#[47]⟩ st=s1 at hx1 c2⊢;generalize cD aK T s1=q2 at c2⊢;obtain⟨⟨ps,pa,po⟩,s2⟩:=q2;simp only[JQ]at c2⊢;have c3:=fun w' (h:PS T Y M free s2 w')=>iX h ⟨#[58]⟩;generalize bY T ⟨#[58]⟩ s2=s3 at c3⊢;have c4:=fun w' (h:PS T Y M free s3 w')=>nX h;by_cases hk:(aZ T s3).kind≠2
 ·rw[if_pos hk];simp only[ZC];have c5:=fun w' (h:PS T Y M free s3 w')=>jC h 13 (by decide);generalize cC T 13 s3=s4 at c5⊢;unfold uL at c4;generalize aZ T s3=t at c4 hk;obtain⟨kd,text,v,bt,lin,cl,j⟩:=t;simp only at hk c4;clear h;go_enter Tryz.func56,Tryz.ntmps56;go_wp2_with(go_at_call 53;refine hx1.mono ?_);intro r w1;first |(intro he hS1 a1;subst he)|rintro⟨rfl,hS1,a1⟩
  have hR1:=a1.at hR hRY;have a01:=(aC.of_below (bs:=[Y,M]) b0).trans a1;have hx2:=c2 _ hS1 (hBs _ a01);have hs1:=a1.size;clear hx1 c2;go_wp2_with(go_at_call 102;refine hx2.mono ?_);intro r w2;first |(intro he hS2 a2;subst he)|rintro⟨rfl,hS2,a2⟩
  have hR2:=a2.at hR1 hRY;have a02:=a01.trans a2;have bq:=(qb _ w2).alloc (qa _) (.cells #[Z ps,Z pa,Z po,Z 0,.bool sl] 77);have hQ3:=qd w2 (.cells #[Z ps,Z pa,Z po,Z 0,.bool sl] 77);have hR3:=(bq.block _ (aA hR2)).trans hR2;have a03:=a02.trans (aC.of_below bq);have hx3:=c3 _ (hS2.step bq);have hwQ:w.heap.size<w2.heap.size:=aA hR2;have hYQ:=hS2.lt;have hMQ:=hS2.ltM;clear hx2 c3;go_wp2_with(go_at_call 54;refine hx3.mono ?_);intro r w4;first |(intro he hS4 a4;subst he)|rintro⟨rfl,hS4,a4⟩
  generalize hRR:w.heap.size=R at hR hR1 hR2 hR3 hRl hRY hwQ⊢;generalize hQQ:w2.heap.size=Q at hQ3 hwQ hYQ hMQ⊢;have hQY:Q∉[Y,M]:=by simp;omega
  have hQR:Q≠R:=by omega
  have hQYn:Q≠Y:=by omega
  have hRYn:R≠Y:=by omega
  have hR4:=a4.at hR3 hRY;have hQ4:=a4.at hQ3 hQY;have a04:=a03.trans a4;have hx4:=c4 _ hS4;clear hx3 c4 a03 hR3 hQ3 bq;go_wp2_with(go_at_call 62;refine hx4.mono ?_);intro r w5;first |(intro he b5;subst he)|rintro⟨rfl,b5⟩
  have bt5:=(qb _ w5).alloc (qa _) (.cells #[Z kd,.string text,Z v,.string bt,Z lin,Z cl,.bool j] 59);have b45:=b5.trans (bt5.mono b5.size);have hR5:=(b45.block _ (aA hR4)).trans hR4;have hQ5:=(b45.block _ (aA hQ4)).trans hQ4;have hT5:=qd w5 (.cells #[Z kd,.string text,Z v,.string bt,Z lin,Z cl,.bool j] 59);have hS5:=hS4.step b45;have a05:=a04.trans (aC.of_below b45);have hsz5:=b5.size;have hsz4:=aA hQ4;have hsz4r:=aA hR4;have hYl5:=hS4.lt;have hMl5:=hS4.ltM;clear hx4;have hx5:=c5 _ hS5;clear c5;go_wp2_with(go_at_call 63;refine hx5.mono ?_);intro r w6;first |(intro he hS6 a6;subst he)|rintro⟨rfl,hS6,a6⟩
  have hR6:=a6.at hR5 hRY;have hQ6:=a6.at hQ5 hQY;have a06:=a05.trans a6;clear hx5;obtain⟨⟨r0,r1,r2,r3,r4⟩,g0,g1,g2,g3,g4⟩:=cQ hR6;obtain⟨⟨q0,q1,q2,q3,q4⟩,f0,f1,f2,f3,f4⟩:=cQ hQ6;have hR7:=fP (Z ps) (Z pa) (Z po) (Z 0) (.bool sl) hR6;have hS7:=hel _ _ (kC w6 R (Z ps) (Z pa) (Z po) (Z 0) (.bool sl)) hS6 R (qj hRR) hR6 (by decide) (fun j hj=>cZ _ _ _ _ _ _ _ j hj);have a7:=fQ a06 (qj hRR) (Z ps) (Z pa) (Z po) (Z 0) (.bool sl);clear hel;unfold kC at hR7 hS7 a7;go_wp2;refine qg (qp rfl _ _ R 77 _ (0,0) _ rfl hR7 Tryz.underlying77 rfl Tryz.sizeGrace) rfl ?_;exact⟨rfl,hS7,a7⟩
 ·rw[if_neg hk];have hk2:(aZ T s3).kind=2:=by omega
  obtain⟨p,rfl⟩:=aH8 hk2;have hp4:p<=4001:=by
   by_cases hlt:p<T.length
   ·omega
   ·exact absurd hk2 (by show(T.getD p cH).kind≠2;rw[qqf,List.getElem?_eq_none (by omega)];decide)
  have hmore:p<T.length->p+1<T.length:=fun hp=>g.more hp (by rw[show(T.getD p cH).kind=2 from hk2];decide);have c6:=fun w' (h:PS T Y M free (.ok p) w')=>jC h 2 (by decide);have c7:=fun w' (h:PS T Y M free (.ok p) w')=>h.atCell;have c8:=fun w' (h:PS T Y M free (.ok p) w')=>h.jump (hmore h.atCell.2.2);unfold uL at c4;generalize aZ T (.ok p)=t at c4 hk2⊢;obtain⟨kd,text,v,bt,lin,cl,j⟩:=t;simp only at hk2 c4⊢;subst hk2;clear h hk g;by_cases hlg:BM v=0
  ·rw[if_pos hlg];generalize cC T 2 (.ok p)=s4 at c6⊢;simp only[ZC];have HL:=aJ hlg;clear hlg;go_enter Tryz.func56,Tryz.ntmps56;go_wp2_with(go_at_call 53;refine hx1.mono ?_);intro r w1;first |(intro he hS1 a1;subst he)|rintro⟨rfl,hS1,a1⟩
   have hR1:=a1.at hR hRY;have a01:=(aC.of_below (bs:=[Y,M]) b0).trans a1;have hx2:=c2 _ hS1 (hBs _ a01);have hs1:=a1.size;clear hx1 c2;go_wp2_with(go_at_call 102;refine hx2.mono ?_);intro r w2;first |(intro he hS2 a2;subst he)|rintro⟨rfl,hS2,a2⟩
   have hR2:=a2.at hR1 hRY;have a02:=a01.trans a2;have bq:=(qb _ w2).alloc (qa _) (.cells #[Z ps,Z pa,Z po,Z 0,.bool sl] 77);have hQ3:=qd w2 (.cells #[Z ps,Z pa,Z po,Z 0,.bool sl] 77);have hR3:=(bq.block _ (aA hR2)).trans hR2;have a03:=a02.trans (aC.of_below bq);have hx3:=c3 _ (hS2.step bq);have hwQ:w.heap.size<w2.heap.size:=aA hR2;have hYQ:=hS2.lt;have hMQ:=hS2.ltM;clear hx2 c3;go_wp2_with(go_at_call 54;refine hx3.mono ?_);intro r w4;first |(intro he hS4 a4;subst he)|rintro⟨rfl,hS4,a4⟩
   generalize hRR:w.heap.size=R at hR hR1 hR2 hR3 hRl hRY hwQ⊢;generalize hQQ:w2.heap.size=Q at hQ3 hwQ hYQ hMQ⊢;have hQY:Q∉[Y,M]:=by simp;omega
   have hQR:Q≠R:=by omega
   have hQYn:Q≠Y:=by omega
   have hRYn:R≠Y:=by omega
   have hR4:=a4.at hR3 hRY;have hQ4:=a4.at hQ3 hQY;have a04:=a03.trans a4;have hx4:=c4 _ hS4;clear hx3 c4 a03 hR3 hQ3 bq;go_wp2_with(go_at_call 62;refine hx4.mono ?_);intro r w5;first |(intro he b5;subst he)|rintro⟨rfl,b5⟩
   have bt5:=(qb _ w5).alloc (qa _) (.cells #[Z 2,.string text,Z v,.string bt,Z lin,Z cl,.bool j] 59);have b45:=b5.trans (bt5.mono b5.size);have hR5:=(b45.block _ (aA hR4)).trans hR4;have hQ5:=(b45.block _ (aA hQ4)).trans hQ4;have hT5:=qd w5 (.cells #[Z 2,.string text,Z v,.string bt,Z lin,Z cl,.bool j] 59);have hS5:=hS4.step b45;have a05:=a04.trans (aC.of_below b45);have hsz5:=b5.size;have hsz4:=aA hQ4;have hsz4r:=aA hR4;have hYl5:=hS4.lt;have hMl5:=hS4.ltM;clear hx4;have hT5':=hT5;have hBQ:w5.heap.size≠Q:=by omega
   have hBR:w5.heap.size≠R:=by omega
   have q3a:w5.cell? ⟨Q,3,none⟩=some (Z 0):=by
    have:=(b5.block _ hsz4).trans hQ4;rw[Lib.cell_of_heap this];rfl
   have f3a:w5.frozen? ⟨Q,3,none⟩=false:=Lib.frozen_of_heap ((b5.block _ hsz4).trans hQ4) 3;have hQ6:((w5.setCell ⟨Q,3,none⟩ (Z 1)).alloc (.cells #[Z 2,.string text,Z v,.string bt,Z lin,Z cl,.bool j] 59)).heap[Q]?=some (.cells #[Z ps,Z pa,Z po,Z ((1:Nat):Int),.bool sl] 77 (0,0)):=by
    have h1:=(Lib.heap_setCell_same (i:=3) ((b5.block _ hsz4).trans hQ4) (Z 1));exact(Lib.alloc_old _ _ _ (aA h1)).trans (h1.trans rfl)
   have hR6:((w5.setCell ⟨Q,3,none⟩ (Z 1)).alloc (.cells #[Z 2,.string text,Z v,.string bt,Z lin,Z cl,.bool j] 59)).heap[R]?=some (.cells #[Z 0,Z 0,Z 0,Z 0,.bool false] 77 (0,0)):=by
    have h1:=(aH w5 Q 3 (Z 1) R hQR.symm).trans ((b5.block _ hsz4r).trans hR4);exact(Lib.alloc_old _ _ _ (aA h1)).trans h1
   have hT6:((w5.setCell ⟨Q,3,none⟩ (Z 1)).alloc (.cells #[Z 2,.string text,Z v,.string bt,Z lin,Z cl,.bool j] 59)).heap[w5.heap.size]?=some (.cells #[Z 2,.string text,Z v,.string bt,Z lin,Z cl,.bool j] 59 (0,0)):=by
    have:=qd (w5.setCell ⟨Q,3,none⟩ (Z 1)) (.cells #[Z 2,.string text,Z v,.string bt,Z lin,Z cl,.bool j] 59);rw[show(w5.setCell ⟨Q,3,none⟩ (Z 1)).heap.size=w5.heap.size by simp[World.setCell]]at this;exact this
   have hS6:=(hel _ w5 (w5.setCell ⟨Q,3,none⟩ (Z 1)) (hS4.step b5) Q (by omega) ((b5.block _ hsz4).trans hQ4) (by decide) (aH _ _ _ _)).step ((qb _ _).alloc (qa _) (.cells #[Z 2,.string text,Z v,.string bt,Z lin,Z cl,.bool j] 59));have a06:=((a04.trans (aC.of_below b5)).setCell (p:=⟨Q,3,none⟩) (.inr (by show w.heap.size<=Q;omega)) (Z 1)).alloc (.cells #[Z 2,.string text,Z v,.string bt,Z lin,Z cl,.bool j] 59);have hQn:Q≠w5.heap.size:=hBQ.symm;have n3a:=qqd w5 _ q3a;have l3a:=qo w5 _ q3a;simp only at l3a;have f3b:(w5.alloc (.cells #[Z 2,.string text,Z v,.string bt,Z lin,Z cl,.bool j] 59)).frozen? ⟨Q,3,none⟩=false:=Lib.frozen_of_heap ((Lib.alloc_old w5 (.cells #[Z 2,.string text,Z v,.string bt,Z lin,Z cl,.bool j] 59) Q l3a).trans ((b5.block _ hsz4).trans hQ4)) 3;clear hS5 a05 hT5 hR5 hQ5 hS4 a04 hR4 hQ4 bt5 b45 hT5';go_wp2;generalize hW6:(w5.setCell ⟨Q,3,none⟩ (Z 1)).alloc (.cells #[Z 2,.string text,Z v,.string bt,Z lin,Z cl,.bool j] 59)=W6 at hQ6 hR6 hT6 hS6 a06⊢;clear n3a l3a f3b;generalize hTT:w5.heap.size=Bt at hT6 hBQ hBR hQn⊢;have HC:=aJ (And.intro c6 (And.intro c7 c8));have HE:=aJ hel;clear c6 c7 c8 hel hmore hBs q3a f3a
   go_loopg [] (6:Nat) (fun gq wr=>∃k:Nat,1<=k/\k<=7/\gq=7-k/\(∀j pw,j<k->Pw j pw->v≠pw)/\PS T Y M free (.ok p) wr/\aC [Y,M] w wr/\wr.heap[Bt]?=some (.cells #[Z 2,.string text,Z v,.string bt,Z lin,Z cl,.bool j] 59 (0,0))/\wr.heap[R]?=some (.cells #[Z 0,Z 0,Z 0,Z 0,.bool false] 77 (0,0)) /\
    wr.heap[Q]?=some (.cells #[Z ps,Z pa,Z po,Z (k:Nat),.bool sl] 77 (0,0)))
   case atStart=>exact⟨1,qa _,by omega,rfl,fun j pw hj hp=>by rcases hp with⟨h,_⟩ |⟨h,_⟩ |⟨h,_⟩ |⟨h,_⟩ |⟨h,_⟩ |⟨h,_⟩<;>omega,hS6,a06,hT6,hR6,hQ6⟩
   case round =>
    clear hS6 a06 hT6 hR6 hQ6;obtain⟨k,hk1,hk7,hgq,hmiss,hSk,ak,hTk,hRk,hQk⟩:=hrel;have HM:=aJ hmiss;clear hmiss;have t2:wr.cell? ⟨Bt,2,none⟩=some (Z v):=by rw[Lib.cell_of_heap hTk];rfl
    obtain⟨⟨q0,q1,q2,q3,q4⟩,f0,f1,f2,f3,f4⟩:=cQ hQk;by_cases hk6:k<=6
    ·obtain⟨pw,hpw⟩:=aG4 hk1 hk6;have hk6':(k:Int)<=6:=by omega
     have HP:=aJ hpw;clear hpw;by_cases hv:v=pw
     ·exact absurd (HL.out) (by rw[hv,aDS HP.out];omega)
     ·have hvd:(v != pw)=true:=by simpa using hv
      go_wp2;have hSd0:wr.drew.cell? ⟨Q,3,none⟩=some (Z (k:Nat))/\wr.drew.cell? ⟨Bt,2,none⟩=some (Z v):=⟨q3,t2⟩;refine qqo ?_;refine qqi (S:=fun w'=>w'.cell? ⟨Q,3,none⟩=some (Z (k:Nat))/\w'.cell? ⟨Bt,2,none⟩=some (Z v)) (by kernel_rfl) hSd0 (fun hHeld => ?_);refine gQ 0 ?v0 rfl ?hy0 ?_;case hy0=>(intro wq hSw;go_simp;try(with_reducible rfl))
      try simp only[ap,nm]
      refine gQ 1 (Z (k:Nat)) rfl ?hy1 ?_;case hy1=>(intro wq hSw;obtain⟨hS0,hS1⟩:=hSw;go_simp;try rfl)
      try simp only[ap,nm]
      refine fB 2 (.bool true) rfl ?_;try simp only[ap,nm]
      refine fB 3 (.bool true) rfl ?_;try simp only[ap,nm]
      refine gQ 4 ?v4 rfl ?hy4 ?_;case hy4=>(intro wq hSw;go_simp;try(with_reducible rfl))
      try simp only[ap,nm]
      refine gQ 5 (Z v) rfl ?hy5 ?_;case hy5=>(intro wq hSw;obtain⟨hS0,hS1⟩:=hSw;go_simp;try rfl)
      try simp only[ap,nm]
      refine gQ 6 ?v6 rfl ?hy6 ?_;case hy6=>(intro wq hSw;go_simp;try(with_reducible rfl))
      try simp only[ap,nm]
      refine gQ 7 (Z (k:Nat)) rfl ?hy7 ?_;case hy7=>(intro wq hSw;obtain⟨hS0,hS1⟩:=hSw;go_simp;try rfl)
      try simp only[ap,nm]
      refine gQ 8 (Z pw) rfl ?hy8 ?_;case hy8=>(intro wq hSw;rcases HP.out with⟨rfl,rfl⟩ |⟨rfl,rfl⟩ |⟨rfl,rfl⟩ |⟨rfl,rfl⟩ |⟨rfl,rfl⟩ |⟨rfl,rfl⟩<;>(go_simp;try rfl))
      try simp only[ap,nm]
      refine fB 9 (.bool true) rfl ?_;try simp only[ap,nm]
      refine fB 10 (.bool true) rfl ?_;try simp only[ap,nm]
      refine wpAnyH_done (by kernel_rfl) ?_ _;refine qqx ?_;have hSd:=hSk.step ((qb _ wr).drew);have ad:=ak.drew;have mk:IntKind.i64.wrap ((k:Int)+1)=((k+1:Nat):Int):=by rw[show((k+1:Nat):Int)=(k:Int)+1 by omega];exact IntWalk.i64_in _ (by omega)
      have hS8:=HE.out _ wr.drew (wr.drew.setCell ⟨Q,3,none⟩ (Z ((k+1:Nat):Int))) hSd Q (by omega) hQk (by decide) (aH _ _ _ _);have hQ8:(wr.drew.setCell ⟨Q,3,none⟩ (Z ((k+1:Nat):Int))).heap[Q]?=some (.cells #[Z ps,Z pa,Z po,Z ((k+1:Nat):Int),.bool sl] 77 (0,0)):=(Lib.heap_setCell_same (w:=wr.drew) hQk (Z ((k+1:Nat):Int)) (i:=3)).trans rfl;have hR8:(wr.drew.setCell ⟨Q,3,none⟩ (Z ((k+1:Nat):Int))).heap[R]?=_:=(aH wr.drew Q 3 (Z ((k+1:Nat):Int)) R hQR.symm).trans hRk;have hT8:(wr.drew.setCell ⟨Q,3,none⟩ (Z ((k+1:Nat):Int))).heap[Bt]?=_:=(aH wr.drew Q 3 (Z ((k+1:Nat):Int)) Bt hBQ).trans hTk;have a8:=ad.setCell (p:=⟨Q,3,none⟩) (.inr (by show w.heap.size<=Q;omega)) (Z ((k+1:Nat):Int));have HZ:=aJ (And.intro hS8 (And.intro a8 (And.intro hT8 (And.intro hR8 hQ8))));clear hS8 hQ8 hR8 hT8 a8 hSk ak hTk hRk hQk hSd ad;go_wp2;go_roundg (7-(k+1));case measure=>omega
      case rel =>
       obtain⟨z1,z2,z3,z4,z5⟩:=HZ.out;refine⟨k+1,by omega,by omega,rfl,fun j pj hj hp => ?_,z1,z2,z3,z4,z5⟩;rcases(by omega:j<k\/j=k)with h1|rfl
       ·exact HM.out j pj h1 hp
       ·have e:pj=pw:=by
         have:=HP.out;rcases hp with⟨h,rfl⟩ |⟨h,rfl⟩ |⟨h,rfl⟩ |⟨h,rfl⟩ |⟨h,rfl⟩ |⟨h,rfl⟩<;>rcases this with⟨h',rfl⟩ |⟨h',rfl⟩ |⟨h',rfl⟩ |⟨h',rfl⟩ |⟨h',rfl⟩ |⟨h',rfl⟩<;>first|rfl|omega
        rw[e];exact hv
    ·have hk77:k=7:=by omega
     subst hk77;go_wp2;have hSd0:wr.drew.cell? ⟨Q,3,none⟩=some (Z 7)/\wr.drew.cell? ⟨Bt,2,none⟩=some (Z v):=⟨q3,t2⟩;refine qqo ?_;refine qqi (S:=fun w'=>w'.cell? ⟨Q,3,none⟩=some (Z 7)/\w'.cell? ⟨Bt,2,none⟩=some (Z v)) (by kernel_rfl) hSd0 (fun hHeld => ?_);refine gQ 0 ?v0 rfl ?hy0 ?_;case hy0=>(intro wq hSw;go_simp;try(with_reducible rfl))
     try simp only[ap,nm]
     refine gQ 1 (Z 7) rfl ?hy1 ?_;case hy1=>(intro wq hSw;obtain⟨hS0,hS1⟩:=hSw;go_simp;try rfl)
     try simp only[ap,nm]
     refine fB 2 (.bool false) rfl ?_;try simp only[ap,nm]
     refine fB 3 (.bool false) rfl ?_;try simp only[ap,nm]
     refine oB 4 rfl ?_;try simp only[ap,nm]
     refine oB 5 rfl ?_;try simp only[ap,nm]
     refine oB 6 rfl ?_;try simp only[ap,nm]
     refine oB 7 rfl ?_;try simp only[ap,nm]
     refine oB 8 rfl ?_;try simp only[ap,nm]
     refine oB 9 rfl ?_;try simp only[ap,nm]
     refine fB 10 (.bool false) rfl ?_;try simp only[ap,nm]
     refine wpAnyH_done (by kernel_rfl) ?_ _;refine qqx ?_;have hel:=HE.out;obtain⟨c6,c7,c8⟩:=HC.out;have hSd:=hSk.step ((qb _ wr).drew);have hx9:=c6 _ hSd;have ad:=ak.drew;clear HE HC HM c6 c7 c8;go_wp2_with(go_at_call 63;refine hx9.mono ?_);intro r w9;first |(intro he hS9 a9;subst he)|rintro⟨rfl,hS9,a9⟩
     have hR9:=a9.at (w:=wr.drew) hRk hRY;have hQ9:=a9.at (w:=wr.drew) hQk hQY;have a09:=ad.trans a9;clear hx9 f0 f1 f2 f3 f4 q0 q1 q2 q3 q4 t2 hSk ak hTk hRk hQk;obtain⟨⟨r0,r1,r2,r3,r4⟩,g0,g1,g2,g3,g4⟩:=cQ hR9;obtain⟨⟨q0,q1,q2,q3,q4⟩,f0,f1,f2,f3,f4⟩:=cQ hQ9;have hR7:=fP (Z ps) (Z pa) (Z po) (Z 7) (.bool sl) hR9;have hS7:=hel _ _ (kC w9 R (Z ps) (Z pa) (Z po) (Z 7) (.bool sl)) hS9 R (qj hRR) hR9 (by decide) (fun j hj=>cZ _ _ _ _ _ _ _ j hj);have a7:=fQ a09 (qj hRR) (Z ps) (Z pa) (Z po) (Z 7) (.bool sl);clear hel;unfold kC at hR7 hS7 a7;go_wp2;refine qg (qp rfl _ _ R 77 _ (0,0) _ rfl hR7 Tryz.underlying77 rfl Tryz.sizeGrace) rfl ?_;exact⟨rfl,hS7,a7⟩
  ·rw[if_neg hlg];obtain⟨kq,hpq,hlk⟩:=aJP hlg;rw[hlk,show aD.next 1 (.ok p)=.ok (p+1)from rfl];simp only[ZC];have HL:=aJ (And.intro hpq hlk);clear hlg hpq hlk;go_enter Tryz.func56,Tryz.ntmps56;go_wp2_with(go_at_call 53;refine hx1.mono ?_);intro r w1;first |(intro he hS1 a1;subst he)|rintro⟨rfl,hS1,a1⟩
   have hR1:=a1.at hR hRY;have a01:=(aC.of_below (bs:=[Y,M]) b0).trans a1;have hx2:=c2 _ hS1 (hBs _ a01);have hs1:=a1.size;clear hx1 c2;go_wp2_with(go_at_call 102;refine hx2.mono ?_);intro r w2;first |(intro he hS2 a2;subst he)|rintro⟨rfl,hS2,a2⟩
   have hR2:=a2.at hR1 hRY;have a02:=a01.trans a2;have bq:=(qb _ w2).alloc (qa _) (.cells #[Z ps,Z pa,Z po,Z 0,.bool sl] 77);have hQ3:=qd w2 (.cells #[Z ps,Z pa,Z po,Z 0,.bool sl] 77);have hR3:=(bq.block _ (aA hR2)).trans hR2;have a03:=a02.trans (aC.of_below bq);have hx3:=c3 _ (hS2.step bq);have hwQ:w.heap.size<w2.heap.size:=aA hR2;have hYQ:=hS2.lt;have hMQ:=hS2.ltM;clear hx2 c3;go_wp2_with(go_at_call 54;refine hx3.mono ?_);intro r w4;first |(intro he hS4 a4;subst he)|rintro⟨rfl,hS4,a4⟩
   generalize hRR:w.heap.size=R at hR hR1 hR2 hR3 hRl hRY hwQ⊢;generalize hQQ:w2.heap.size=Q at hQ3 hwQ hYQ hMQ⊢;have hQY:Q∉[Y,M]:=by simp;omega
   have hQR:Q≠R:=by omega
   have hQYn:Q≠Y:=by omega
   have hRYn:R≠Y:=by omega
   have hR4:=a4.at hR3 hRY;have hQ4:=a4.at hQ3 hQY;have a04:=a03.trans a4;have hx4:=c4 _ hS4;clear hx3 c4 a03 hR3 hQ3 bq;go_wp2_with(go_at_call 62;refine hx4.mono ?_);intro r w5;first |(intro he b5;subst he)|rintro⟨rfl,b5⟩
   have bt5:=(qb _ w5).alloc (qa _) (.cells #[Z 2,.string text,Z v,.string bt,Z lin,Z cl,.bool j] 59);have b45:=b5.trans (bt5.mono b5.size);have hR5:=(b45.block _ (aA hR4)).trans hR4;have hQ5:=(b45.block _ (aA hQ4)).trans hQ4;have hT5:=qd w5 (.cells #[Z 2,.string text,Z v,.string bt,Z lin,Z cl,.bool j] 59);have hS5:=hS4.step b45;have a05:=a04.trans (aC.of_below b45);have hsz5:=b5.size;have hsz4:=aA hQ4;have hsz4r:=aA hR4;have hYl5:=hS4.lt;have hMl5:=hS4.ltM;clear hx4;have hT5':=hT5;have hBQ:w5.heap.size≠Q:=by omega
   have hBR:w5.heap.size≠R:=by omega
   have q3a:w5.cell? ⟨Q,3,none⟩=some (Z 0):=by
    have:=(b5.block _ hsz4).trans hQ4;rw[Lib.cell_of_heap this];rfl
   have f3a:w5.frozen? ⟨Q,3,none⟩=false:=Lib.frozen_of_heap ((b5.block _ hsz4).trans hQ4) 3;have hQ6:((w5.setCell ⟨Q,3,none⟩ (Z 1)).alloc (.cells #[Z 2,.string text,Z v,.string bt,Z lin,Z cl,.bool j] 59)).heap[Q]?=some (.cells #[Z ps,Z pa,Z po,Z ((1:Nat):Int),.bool sl] 77 (0,0)):=by
    have h1:=(Lib.heap_setCell_same (i:=3) ((b5.block _ hsz4).trans hQ4) (Z 1));exact(Lib.alloc_old _ _ _ (aA h1)).trans (h1.trans rfl)
   have hR6:((w5.setCell ⟨Q,3,none⟩ (Z 1)).alloc (.cells #[Z 2,.string text,Z v,.string bt,Z lin,Z cl,.bool j] 59)).heap[R]?=some (.cells #[Z 0,Z 0,Z 0,Z 0,.bool false] 77 (0,0)):=by
    have h1:=(aH w5 Q 3 (Z 1) R hQR.symm).trans ((b5.block _ hsz4r).trans hR4);exact(Lib.alloc_old _ _ _ (aA h1)).trans h1
   have hT6:((w5.setCell ⟨Q,3,none⟩ (Z 1)).alloc (.cells #[Z 2,.string text,Z v,.string bt,Z lin,Z cl,.bool j] 59)).heap[w5.heap.size]?=some (.cells #[Z 2,.string text,Z v,.string bt,Z lin,Z cl,.bool j] 59 (0,0)):=by
    have:=qd (w5.setCell ⟨Q,3,none⟩ (Z 1)) (.cells #[Z 2,.string text,Z v,.string bt,Z lin,Z cl,.bool j] 59);rw[show(w5.setCell ⟨Q,3,none⟩ (Z 1)).heap.size=w5.heap.size by simp[World.setCell]]at this;exact this
   have hS6:=(hel _ w5 (w5.setCell ⟨Q,3,none⟩ (Z 1)) (hS4.step b5) Q (by omega) ((b5.block _ hsz4).trans hQ4) (by decide) (aH _ _ _ _)).step ((qb _ _).alloc (qa _) (.cells #[Z 2,.string text,Z v,.string bt,Z lin,Z cl,.bool j] 59));have a06:=((a04.trans (aC.of_below b5)).setCell (p:=⟨Q,3,none⟩) (.inr (by show w.heap.size<=Q;omega)) (Z 1)).alloc (.cells #[Z 2,.string text,Z v,.string bt,Z lin,Z cl,.bool j] 59);have hQn:Q≠w5.heap.size:=hBQ.symm;have n3a:=qqd w5 _ q3a;have l3a:=qo w5 _ q3a;simp only at l3a;have f3b:(w5.alloc (.cells #[Z 2,.string text,Z v,.string bt,Z lin,Z cl,.bool j] 59)).frozen? ⟨Q,3,none⟩=false:=Lib.frozen_of_heap ((Lib.alloc_old w5 (.cells #[Z 2,.string text,Z v,.string bt,Z lin,Z cl,.bool j] 59) Q l3a).trans ((b5.block _ hsz4).trans hQ4)) 3;clear hS5 a05 hT5 hR5 hQ5 hS4 a04 hR4 hQ4 bt5 b45 hT5';go_wp2;generalize hW6:(w5.setCell ⟨Q,3,none⟩ (Z 1)).alloc (.cells #[Z 2,.string text,Z v,.string bt,Z lin,Z cl,.bool j] 59)=W6 at hQ6 hR6 hT6 hS6 a06⊢;clear n3a l3a f3b;generalize hTT:w5.heap.size=Bt at hT6 hBQ hBR hQn⊢;have HC:=aJ (And.intro c6 (And.intro c7 c8));have HE:=aJ hel;clear c6 c7 c8 hel hmore hBs q3a f3a
   go_loopg [] (6:Nat) (fun gq wr=>∃k:Nat,1<=k/\k<=7/\gq=7-k/\(∀j pw,j<k->Pw j pw->v≠pw)/\PS T Y M free (.ok p) wr/\aC [Y,M] w wr/\wr.heap[Bt]?=some (.cells #[Z 2,.string text,Z v,.string bt,Z lin,Z cl,.bool j] 59 (0,0))/\wr.heap[R]?=some (.cells #[Z 0,Z 0,Z 0,Z 0,.bool false] 77 (0,0)) /\
    wr.heap[Q]?=some (.cells #[Z ps,Z pa,Z po,Z (k:Nat),.bool sl] 77 (0,0)))
   case atStart=>exact⟨1,qa _,by omega,rfl,fun j pw hj hp=>by rcases hp with⟨h,_⟩ |⟨h,_⟩ |⟨h,_⟩ |⟨h,_⟩ |⟨h,_⟩ |⟨h,_⟩<;>omega,hS6,a06,hT6,hR6,hQ6⟩
   case round =>
    clear hS6 a06 hT6 hR6 hQ6;obtain⟨k,hk1,hk7,hgq,hmiss,hSk,ak,hTk,hRk,hQk⟩:=hrel;have HM:=aJ hmiss;clear hmiss;have t2:wr.cell? ⟨Bt,2,none⟩=some (Z v):=by rw[Lib.cell_of_heap hTk];rfl
    obtain⟨⟨q0,q1,q2,q3,q4⟩,f0,f1,f2,f3,f4⟩:=cQ hQk;by_cases hk6:k<=6
    ·obtain⟨pw,hpw⟩:=aG4 hk1 hk6;have hk6':(k:Int)<=6:=by omega
     have HP:=aJ hpw;clear hpw;by_cases hv:v=pw
     ·have hkq:k=kq:=by have h1:=aDS HP.out;have h2:=HL.out.2;rw[hv]at h2;omega
      subst hkq;have hvd:(v != pw)=false:=by simpa using hv
      go_wp2;have hSd0:wr.drew.cell? ⟨Q,3,none⟩=some (Z (k:Nat))/\wr.drew.cell? ⟨Bt,2,none⟩=some (Z v):=⟨q3,t2⟩;refine qqo ?_;refine qqi (S:=fun w'=>w'.cell? ⟨Q,3,none⟩=some (Z (k:Nat))/\w'.cell? ⟨Bt,2,none⟩=some (Z v)) (by kernel_rfl) hSd0 (fun hHeld => ?_);refine gQ 0 ?x0 rfl ?hx0 ?_;case hx0=>(intro wq hSw;go_simp;try(with_reducible rfl))
      try simp only[ap,nm]
      refine gQ 1 (Z (k:Nat)) rfl ?hx1 ?_;case hx1=>(intro wq hSw;obtain⟨hS0,hS1⟩:=hSw;go_simp;try rfl)
      try simp only[ap,nm]
      refine fB 2 (.bool true) rfl ?_;try simp only[ap,nm]
      refine fB 3 (.bool true) rfl ?_;try simp only[ap,nm]
      refine gQ 4 ?x4 rfl ?hx4 ?_;case hx4=>(intro wq hSw;go_simp;try(with_reducible rfl))
      try simp only[ap,nm]
      refine gQ 5 (Z v) rfl ?hx5 ?_;case hx5=>(intro wq hSw;obtain⟨hS0,hS1⟩:=hSw;go_simp;try rfl)
      try simp only[ap,nm]
      refine gQ 6 ?x6 rfl ?hx6 ?_;case hx6=>(intro wq hSw;go_simp;try(with_reducible rfl))
      try simp only[ap,nm]
      refine gQ 7 (Z (k:Nat)) rfl ?hx7 ?_;case hx7=>(intro wq hSw;obtain⟨hS0,hS1⟩:=hSw;go_simp;try rfl)
      try simp only[ap,nm]
      refine gQ 8 (Z pw) rfl ?hx8 ?_;case hx8=>(intro wq hSw;rcases HP.out with⟨rfl,rfl⟩ |⟨rfl,rfl⟩ |⟨rfl,rfl⟩ |⟨rfl,rfl⟩ |⟨rfl,rfl⟩ |⟨rfl,rfl⟩<;>(go_simp;try rfl))
      try simp only[ap,nm]
      refine fB 9 (.bool false) rfl ?_;try simp only[ap,nm]
      refine fB 10 (.bool false) rfl ?_;try simp only[ap,nm]
      refine wpAnyH_done (by kernel_rfl) ?_ _;refine qqx ?_;have hel:=HE.out;obtain⟨c6,c7,c8⟩:=HC.out;have hSd:=hSk.step ((qb _ wr).drew);have ad:=ak.drew;have hQd:wr.drew.heap[Q]?=some (.cells #[Z ps,Z pa,Z po,Z (k:Nat),.bool sl] 77 (0,0)):=hQk;have hRd:wr.drew.heap[R]?=some (.cells #[Z 0,Z 0,Z 0,Z 0,.bool false] 77 (0,0)):=hRk;clear f0 f1 f2 f3 f4 q0 q1 q2 q3 q4 t2 hSk ak hTk hRk hQk hSd0;generalize wr.drew=wd at hSd ad hQd hRd⊢;obtain⟨x1,xf1,hpp⟩:=c7 _ hSd;have hS9:=c8 _ hSd;have hR9:=(aH wd Y 1 (Z ((p:Int)+1)) R hRYn).trans hRd;have hQ9:=(aH wd Y 1 (Z ((p:Int)+1)) Q hQYn).trans hQd;have a09:=ad.setCell (p:=⟨Y,1,none⟩) (.inl (by simp)) (Z ((p:Int)+1));have mp:IntKind.i64.wrap ((p:Int)+1)=(p:Int)+1:=IntWalk.i64_in _ (by omega);rw[show((p+1:Nat):Int)=(p:Int)+1 by omega]at hS9;have hk66:¬(6:Int)<(k:Nat):=by omega
      obtain⟨⟨q0,q1,q2,q3,q4⟩,f0,f1,f2,f3,f4⟩:=cQ hQd;have HK:=aJ (And.intro hk1 (And.intro hk7 (And.intro hgq hk6')));clear hk1 hk7 hgq hk6 hk6';clear HE HC HM c6 c7 c8 HP HL hv hvd;go_upto_region 14 with(fail);generalize wd.setCell ⟨Y,1,none⟩ (Z ((p:Int)+1))=w9 at hS9 hR9 hQ9 a09⊢;clear x1 xf1 f0 f1 f2 f3 f4 q0 q1 q2 q3 q4 hSd ad hQd hRd;obtain⟨⟨r0,r1,r2,r3,r4⟩,g0,g1,g2,g3,g4⟩:=cQ hR9;obtain⟨⟨q0,q1,q2,q3,q4⟩,f0,f1,f2,f3,f4⟩:=cQ hQ9;have hR7:=fP (Z ps) (Z pa) (Z po) (Z (k:Nat)) (.bool sl) hR9;have hS7:=hel _ _ (kC w9 R (Z ps) (Z pa) (Z po) (Z (k:Nat)) (.bool sl)) hS9 R (qj hRR) hR9 (by decide) (fun j hj=>cZ _ _ _ _ _ _ _ j hj);have a7:=fQ a09 (qj hRR) (Z ps) (Z pa) (Z po) (Z (k:Nat)) (.bool sl);clear hel;unfold kC at hR7 hS7 a7;go_wp2;refine qg (qp rfl _ _ R 77 _ (0,0) _ rfl hR7 Tryz.underlying77 rfl Tryz.sizeGrace) rfl ?_;exact⟨rfl,hS7,a7⟩
     ·have hvd:(v != pw)=true:=by simpa using hv
      go_wp2;have hSd0:wr.drew.cell? ⟨Q,3,none⟩=some (Z (k:Nat))/\wr.drew.cell? ⟨Bt,2,none⟩=some (Z v):=⟨q3,t2⟩;refine qqo ?_;refine qqi (S:=fun w'=>w'.cell? ⟨Q,3,none⟩=some (Z (k:Nat))/\w'.cell? ⟨Bt,2,none⟩=some (Z v)) (by kernel_rfl) hSd0 (fun hHeld => ?_);refine gQ 0 ?u0 rfl ?hz0 ?_;case hz0=>(intro wq hSw;go_simp;try(with_reducible rfl))
      try simp only[ap,nm]
      refine gQ 1 (Z (k:Nat)) rfl ?hz1 ?_;case hz1=>(intro wq hSw;obtain⟨hS0,hS1⟩:=hSw;go_simp;try rfl)
      try simp only[ap,nm]
      refine fB 2 (.bool true) rfl ?_;try simp only[ap,nm]
      refine fB 3 (.bool true) rfl ?_;try simp only[ap,nm]
      refine gQ 4 ?u4 rfl ?hz4 ?_;case hz4=>(intro wq hSw;go_simp;try(with_reducible rfl))
      try simp only[ap,nm]
      refine gQ 5 (Z v) rfl ?hz5 ?_;case hz5=>(intro wq hSw;obtain⟨hS0,hS1⟩:=hSw;go_simp;try rfl)
      try simp only[ap,nm]
      refine gQ 6 ?u6 rfl ?hz6 ?_;case hz6=>(intro wq hSw;go_simp;try(with_reducible rfl))
      try simp only[ap,nm]
      refine gQ 7 (Z (k:Nat)) rfl ?hz7 ?_;case hz7=>(intro wq hSw;obtain⟨hS0,hS1⟩:=hSw;go_simp;try rfl)
      try simp only[ap,nm]
      refine gQ 8 (Z pw) rfl ?hz8 ?_;case hz8=>(intro wq hSw;rcases HP.out with⟨rfl,rfl⟩ |⟨rfl,rfl⟩ |⟨rfl,rfl⟩ |⟨rfl,rfl⟩ |⟨rfl,rfl⟩ |⟨rfl,rfl⟩<;>(go_simp;try rfl))
      try simp only[ap,nm]
      refine fB 9 (.bool true) rfl ?_;try simp only[ap,nm]
      refine fB 10 (.bool true) rfl ?_;try simp only[ap,nm]
      refine wpAnyH_done (by kernel_rfl) ?_ _;refine qqx ?_;have hSd:=hSk.step ((qb _ wr).drew);have ad:=ak.drew;have mk:IntKind.i64.wrap ((k:Int)+1)=((k+1:Nat):Int):=by rw[show((k+1:Nat):Int)=(k:Int)+1 by omega];exact IntWalk.i64_in _ (by omega)
      have hS8:=HE.out _ wr.drew (wr.drew.setCell ⟨Q,3,none⟩ (Z ((k+1:Nat):Int))) hSd Q (by omega) hQk (by decide) (aH _ _ _ _);have hQ8:(wr.drew.setCell ⟨Q,3,none⟩ (Z ((k+1:Nat):Int))).heap[Q]?=some (.cells #[Z ps,Z pa,Z po,Z ((k+1:Nat):Int),.bool sl] 77 (0,0)):=(Lib.heap_setCell_same (w:=wr.drew) hQk (Z ((k+1:Nat):Int)) (i:=3)).trans rfl;have hR8:(wr.drew.setCell ⟨Q,3,none⟩ (Z ((k+1:Nat):Int))).heap[R]?=_:=(aH wr.drew Q 3 (Z ((k+1:Nat):Int)) R hQR.symm).trans hRk;have hT8:(wr.drew.setCell ⟨Q,3,none⟩ (Z ((k+1:Nat):Int))).heap[Bt]?=_:=(aH wr.drew Q 3 (Z ((k+1:Nat):Int)) Bt hBQ).trans hTk;have a8:=ad.setCell (p:=⟨Q,3,none⟩) (.inr (by show w.heap.size<=Q;omega)) (Z ((k+1:Nat):Int));have HZ:=aJ (And.intro hS8 (And.intro a8 (And.intro hT8 (And.intro hR8 hQ8))));clear hS8 hQ8 hR8 hT8 a8 hSk ak hTk hRk hQk hSd ad;go_wp2;go_roundg (7-(k+1));case measure=>omega
      case rel =>
       obtain⟨z1,z2,z3,z4,z5⟩:=HZ.out;refine⟨k+1,by omega,by omega,rfl,fun j pj hj hp => ?_,z1,z2,z3,z4,z5⟩;rcases(by omega:j<k\/j=k)with h1|rfl
       ·exact HM.out j pj h1 hp
       ·have e:pj=pw:=by
         have:=HP.out;rcases hp with⟨h,rfl⟩ |⟨h,rfl⟩ |⟨h,rfl⟩ |⟨h,rfl⟩ |⟨h,rfl⟩ |⟨h,rfl⟩<;>rcases this with⟨h',rfl⟩ |⟨h',rfl⟩ |⟨h',rfl⟩ |⟨h',rfl⟩ |⟨h',rfl⟩ |⟨h',rfl⟩<;>first|rfl|omega
        rw[e];exact hv
    ·have hk77:k=7:=by omega
     subst hk77;exact absurd rfl (HM.out kq v (by rcases HL.out.1 with⟨h,_⟩ |⟨h,_⟩ |⟨h,_⟩ |⟨h,_⟩ |⟨h,_⟩ |⟨h,_⟩<;>omega) HL.out.1)
end
section
variable{O:yB}{T:List aX}
theorem LY{α:Type}(f:aD->α×aD)(cl:ByteArray)(k:Nat)(e l c:Int):gC T f cl k (.bad e l c)=([],.bad e l c):=by cases k<;>rfl
end
def need(T:List aX):aD->Nat
 | .ok p=>T.length-p
 | .bad ..=>0
def aD7{α:Type}(f:aD->α×aD):Prop:=∀p p',(f (.ok p)).2=.ok p'->p<p'
theorem lS(T:List aX)(c:Int)(s:aD)(p:Nat):cC T c s≠.ok p:=by cases s<;>(intro h;cases h)
theorem kQ{s:aD}{k p:Nat}(h:s.next k=.ok p):∃q,s=.ok q/\p=q+k:=by
 cases s with
 |ok q=>injection h with h;exact⟨q,rfl,h.symm⟩
 |bad e l c=>cases h
theorem VR{T:List aX}{x:ByteArray}{s:aD}{p:Nat}(h:aY T x s=.ok p):∃q,s=.ok q/\q<=p:=by
 unfold aY at h;split at h
 ·obtain⟨q,h1,h2⟩:=kQ h;exact⟨q,h1,by omega⟩
 ·exact⟨p,h,qa _⟩
theorem N9{T:List aX}{x:ByteArray}{s:aD}{p:Nat}(h:bY T x s=.ok p):∃q,s=.ok q/\q<p:=by
 unfold bY at h;split at h
 ·obtain⟨q,h1,h2⟩:=kQ h;exact⟨q,h1,by omega⟩
 ·exact absurd h (lS T 13 s p)
theorem uM{O:yB}{T:List aX}{s:aD}{p:Nat}(h:(cD O T s).2=.ok p):∃q,s=.ok q/\q<p:=by
 unfold cD at h;split at h
 ·split at h
  ·exact absurd h (lS T 18 s p)
  ·obtain⟨q,h1,h2⟩:=kQ h;exact⟨q,h1,by omega⟩
 ·exact absurd h (lS T 13 s p)
theorem Z8(O:yB)(T:List aX):aD7 (dQ O T):=fun p p' h=>by
 unfold dQ at h;simp only at h;have key:∀q,aY T ⟨#[126]⟩ (cD O T (.ok p)).2=.ok q->p<q:=fun q hq=>by
  obtain⟨q1,h1,h2⟩:=VR hq;obtain⟨q2,h3,h4⟩:=uM h1;injection h3 with h3;omega
 split at h
 ·obtain⟨q,h1,h2⟩:=kQ h;have:=key q h1;omega
 ·split at h
  ·obtain⟨q,h1,h2⟩:=kQ h;have:=key q h1;omega
  ·exact key p' h
theorem VU(O:yB)(T:List aX)(q0:Int):aD7 (dE O T q0):=fun p p' h=>by
 unfold dE at h;simp only at h;have key:∀q,bY T ⟨#[58]⟩ (cD O T (aY T ⟨#[47]⟩ (.ok p))).2=.ok q->p<q:=fun q hq=>by
  obtain⟨q1,h1,h2⟩:=N9 hq;obtain⟨q2,h3,h4⟩:=uM h1;obtain⟨q3,h5,h6⟩:=VR h3;injection h5 with h5;omega
 split at h
 ·exact absurd h (lS T 13 _ p')
 ·split at h
  ·exact absurd h (lS T 2 _ p')
  ·obtain⟨q,h1,h2⟩:=kQ h;have:=key q h1;omega
theorem L2{α:Type}{f:aD->α×aD}(hf:aD7 f){T:List aX}{p k:Nat}(hp:p<T.length)(h:need T (.ok p)<=k+1):need T (f (.ok p)).2<=k:=by
 cases h2:(f (.ok p)).2 with
 |bad e l c=>exact ql _
 |ok p' =>
  have:=hf p p' h2;unfold need at h⊢;simp only at h⊢;omega
theorem bA{w:World}{B:Nat}{e:TypeId}{size:Nat}{v:Value}{n:Nat}{xs:List Value}(h:w.ownsRow B e size v n xs){k:Nat}(hk:v.ownBlock=some k):∃cur,w.heap[k]?=some (.cells cur e (0,0)):=by
 rcases h.2 with⟨rfl,_⟩ |⟨g,cap,cur,rfl,_,hg,_⟩
 ·simp[Value.ownBlock]at hk
 ·simp only[Value.ownBlock,qv]at hk;subst hk;exact⟨cur,hg⟩
theorem PS.grown{T:List aX}{Y M:Nat}{free:Fr}{st:aD}{w w':World}(h:PS T Y M free st w){row:Option Nat}(hg:w.grownBy w' row)(hn:∀k,row=some k->k≠Y/\k≠M/\∃cur e,w.heap[k]?=some (.cells cur e (0,0))/\e≠59):PS T Y M free st w':=by
 obtain⟨g,tv,pos,line,col,e,ls,ln,es,clk,h1,h2,h3⟩:=h;refine⟨g,tv,pos,line,col,e,ls,ln,es,clk,⟨(hg.block Y h1.lt fun e=>(hn Y e.symm).1 rfl).trans h1.blk,(hg.block M h1.ltM fun e=>(hn M e.symm).2.1 rfl).trans h1.map,fun he=>aB (h1.row he) fun k hk=>hg.block k ((h1.row he).lt k hk).2 fun e => ?_⟩,h2,h3⟩;obtain⟨cur,t,hc,ht⟩:=(hn k e.symm).2.2;exact kE (h1.row he) hc (by intro cs' fr' hcc;injection hcc with _ h2 _;exact ht h2) hk
theorem aC.grown{bs:List Nat}{a w w':World}{row:Option Nat}(h:aC bs a w)(hg:w.grownBy w' row)(hr:∀k,row=some k->a.heap.size<=k):aC bs a w' :=
 ⟨hg.os.trans h.os,hg.tape.trans h.tape,hg.output.trans h.output,qx h.size hg.size,fun k hk hb=>(hg.block k (qqa hk h.size) fun e=>by have:=hr k e.symm;omega).trans (h.block k hk hb)⟩
theorem aC.step{bs:List Nat}{a w w':World}(h:aC bs a w)(hb:Below w.heap.size w w'):aC bs a w':=h.trans (aC.of_below hb)
theorem aL{w:World}{B:Nat}{e:TypeId}{size:Nat}{v:Value}{n:Nat}{xs:List Value}(h:w.ownsRow B e size v n xs):∃ao c,v=.slice ao n c:=by
 rcases h.2 with⟨hv,h0⟩ |⟨g,cap,cur,hv,_⟩
 ·exact⟨none,0,by rw[hv,h0]⟩
 ·exact⟨_,_,hv⟩
def bT{α:Type}(c:α->Array Value)(l:List α):List Value:=(l.map c).flatMap (·.toList)
theorem eV{α:Type}(c:α->Array Value)(l:List α)(x:α):bT c (l++[x])=bT c l++(c x).toList:=by simp[bT]
section
variable{T:List aX}{Y M:Nat}{free:Fr}{w:World}
theorem PS.okCell{p:Nat}(h:PS T Y M free (.ok p) w):w.cell? ⟨Y,4,none⟩=some (Z 0):=by
 obtain⟨g,tv,pos,line,col,e,ls,ln,es,clk,h1,h2,h3⟩:=h;obtain⟨rfl,rfl,rfl,rfl,hlt⟩:=h3;exact h1.c4
theorem PS.errCell{e l c:Int}(h:PS T Y M free (.bad e l c) w):w.cell? ⟨Y,4,none⟩=some (Z e)/\¬e=0:=by
 obtain⟨g,tv,pos,line,col,e',ls,ln,es,clk,h1,h2,h3⟩:=h;obtain⟨rfl,he,rfl,rfl,hlt⟩:=h3;exact⟨h1.c4,he⟩
end
theorem Tryz.infoheads:(Tryz.prog.info? 80).map (fun i=>(i.zero.isSome,i.size,i.bytes))=some (true,5,40):=by kernel_rfl
theorem C7{i:TypeInfo}{z:Value}(h1:Tryz.prog.info? 80=some i)(h2:i.zero=some z):z.cells.size=5:=by
 have:(Tryz.prog.info? 80).map (fun i=>i.zero.map fun z=>z.cells.size)=some (some 5):=by kernel_rfl
 rw[h1]at this;simp only[qqu,h2,qv]at this;exact this
section
variable{W0:World}{T:List aX}{Y M:Nat}{free:Fr}{st:aD}{w:World}
theorem KZ(h:PS T Y M free st w)(B:mF W0 [Y,M] w) :
  Calls Tryz.prog 57 #[.pointer (some ⟨Y,0,none⟩),.func (.func 58) #[.pointer (some ⟨Y,0,none⟩)] #[],.string ⟨#[62]⟩] w fun rr w' =>
   ∃v,rr=.returned v/\w'.ownsRow w.heap.size 80 5 v (tA T (dQ aK T) ⟨#[62]⟩ st).1.length (bT gT.cells (tA T (dQ aK T) ⟨#[62]⟩ st).1)/\PS T Y M free (tA T (dQ aK T) ⟨#[62]⟩ st).2 w'/\aC [Y,M] w w':=by
 obtain⟨i0,hi0,hz0,hz1,hz2⟩:∃i,Tryz.prog.info? 80=some i/\i.zero.isSome=true/\i.size=5/\i.bytes=40:=by
  have:=Tryz.infoheads;cases hi:Tryz.prog.info? 80 with
  |none=>rw[hi]at this;cases this
  |some i=>rw[hi]at this;simp only[qqu,qv,qu]at this;exact⟨i,rfl,this.1,this.2.1,this.2.2⟩
 have g:=h.good;have hm:=g.max;have lY:=h.lt;have lM:=h.ltM;have x1:=VK h B;have hpr:aD7 (dQ aK T):=Z8 _ _;have hsev:tA T (dQ aK T) ⟨#[62]⟩ st=((dQ aK T st).1::(gC T (dQ aK T) ⟨#[62]⟩ T.length (dQ aK T st).2).1,bY T ⟨#[62]⟩ (gC T (dQ aK T) ⟨#[62]⟩ T.length (dQ aK T st).2).2):=rfl;rw[hsev];clear hsev;have hn0:need T (dQ aK T st).2<=T.length:=by
  cases (dQ aK T st).2 with
  |ok p=>exact Nat.sub_le _ _
  |bad e l c=>exact ql _
 obtain⟨tot,htot⟩:∃tot,tot=gC T (dQ aK T) ⟨#[62]⟩ T.length (dQ aK T st).2:=⟨_,rfl⟩;rw[<-htot];generalize hq1:dQ aK T st=q1 at x1 htot hn0⊢;obtain⟨x,s1⟩:=q1;simp only at x1 htot hn0⊢;have c9:=fun w' (h:PS T Y M free tot.2 w')=>iX h ⟨#[62]⟩;generalize bY T ⟨#[62]⟩ tot.2=s9 at c9⊢;obtain⟨N,hN⟩:∃N,Shut (T.length=N):=⟨_,rfl⟩;have hN4:N<=4001:=by rw[<-hN.out];exact hm
 rw[hN.out]at htot hn0;have HT:=aJ (And.intro htot hn0);have HX0:∃x':gT,Shut (x'=x):=⟨x,rfl⟩;obtain⟨x',HX'⟩:=HX0;clear h htot hn0 hq1 g hm;obtain⟨⟨y0,y1,y2⟩,y3,y4⟩:=x;simp only[UD]at x1;go_enter Tryz.func57,Tryz.ntmps57;go_wp2_with(go_at_call 58;refine x1.mono ?_);intro rr w1;first |(intro he hS1 a1;subst he)|rintro⟨rfl,hS1,a1⟩
 have sz1:=a1.size;have hS2:=hS1.step ((qb _ w1).alloc (qa _) (.cells #[Z y0,Z y1,Z y2,.bool y3,Z y4] 80));have aw2:=a1.alloc (.cells #[Z y0,Z y1,Z y2,.bool y3,Z y4] 80);have ho2:(w1.alloc (.cells #[Z y0,Z y1,Z y2,.bool y3,Z y4] 80)).ownsRow w.heap.size 80 5 (.slice (some ⟨w1.heap.size,0,none⟩) 1 1) 1 #[Z y0,Z y1,Z y2,.bool y3,Z y4].toList:=World.ownsRow_lit (size:=5) w1 #[Z y0,Z y1,Z y2,.bool y3,Z y4] 1 sz1 (by decide) rfl;clear x1 hS1 a1;go_wp2
 go_loopg [7] N (fun gk s7 wr=>∃(l:List gT)(s:aD),l.length+gk=N/\need T s<=gk/\(l++(gC T (dQ aK T) ⟨#[62]⟩ gk s).1,(gC T (dQ aK T) ⟨#[62]⟩ gk s).2)=tot/\wr.ownsRow w.heap.size 80 5 s7 (l.length+1) (bT gT.cells (x'::l))/\PS T Y M free s wr/\aC [Y,M] w wr)
 case atStart=>exact⟨[],s1,by simp,HT.out.2,by rw[HT.out.1];rfl,by rw[HX'.out];exact ho2,hS2,aw2⟩
 case round =>
  clear hS2 aw2 ho2;obtain⟨l,s,hlen,hneed,htotal,hown,hS,aw⟩:=hrel;have hN1:(l.length:Int)<=4001:=by omega
  have hB2:mF W0 [Y,M] wr:=B.away aw;obtain⟨ao,cp,rfl⟩:=aL hown;have hlo:∀j,(Value.slice ao (l.length+1) cp).ownBlock=some j->w.heap.size<=j:=fun j hj=>(hown.lt j hj).1;have hx9:∀w',Below wr.heap.size wr w'->s=tot.2->Calls Tryz.prog 54 #[.pointer (some ⟨Y,0,none⟩),.string ⟨#[62]⟩] w' fun r w''=>r=.returned (.tuple #[])/\PS T Y M free s9 w''/\aC [Y,M] w' w'':=fun w' b e=>c9 w' (by rw[<-e];exact hS.step b);have HT2:=aJ (And.intro hlen (And.intro hneed htotal));have fin0:(gC T (dQ aK T) ⟨#[62]⟩ gk s)=([],s)->l=tot.1/\s=tot.2:=fun e=>by
   rw[e]at htotal;simp only[qqe]at htotal;exact⟨congrArg (·.1) htotal,congrArg (·.2) htotal⟩
  clear htotal hlen hneed;cases s with
  |bad ee el ec =>
   obtain⟨c4,hee⟩:=hS.errCell;obtain⟨hl,hs⟩:=fin0 (LY _ _ _ _ _ _);have xe:=hx9 wr (qb _ _) hs;clear fin0 hx9 hS hB2;go_wp2_with(go_at_call 54;refine xe.mono ?_);intro rr w4;first |(intro he hS4 a4;subst he)|rintro⟨rfl,hS4,a4⟩
   have hown4:=aB hown fun j hj=>a4.block j (hown.lt j hj).2 (by have:=hlo j hj;simp;omega);have aw4:=aw.trans a4;clear xe hown aw a4 c4;go_wp2;go_ret;refine⟨_,rfl,?_,hS4,aw4⟩;rw[<-hl];have e:=HX'.out;rw[<-e];exact hown4
  |ok p =>
   have c4:=hS.okCell;have hpl:=hS.atCell.2.2;have xi:=KY hS ⟨#[62]⟩;cases hb:isS T ⟨#[62]⟩ (.ok p)with
   |true =>
    rw[hb]at xi;obtain⟨hl,hs⟩:=fin0 (by
     cases gk with
     |zero=>rfl
     |succ k=>rw[gC,if_neg (by rw[hb];simp)])
    clear fin0 hS hB2;go_wp2_with(go_at_call 76;refine xi.mono ?_);intro rr w3;first |(intro he b3;subst he)|rintro⟨rfl,b3⟩
    have xe:=hx9 w3 b3 hs;have hown3:=aB hown fun j hj=>b3.block j (hown.lt j hj).2;have aw3:=aw.step b3;clear xi hx9 hown aw b3 c4;go_wp2_with(go_at_call 54;refine xe.mono ?_);intro rr w4;first |(intro he hS4 a4;subst he)|rintro⟨rfl,hS4,a4⟩
    have hown4:=aB hown3 fun j hj=>a4.block j (hown3.lt j hj).2 (by have:=hlo j hj;simp;omega);have aw4:=aw3.trans a4;clear xe hown3 aw3 a4;go_wp2;go_ret;refine⟨_,rfl,?_,hS4,aw4⟩;rw[<-hl];have e:=HX'.out;rw[<-e];exact hown4
   |false =>
    rw[hb]at xi;obtain⟨k,hgk⟩:∃k,gk=k+1:=by
     have:=HT2.out.2.1;unfold need at this;exact⟨gk-1,by simp only at this;omega⟩
    have hmore:gC T (dQ aK T) ⟨#[62]⟩ gk (.ok p)=((dQ aK T (.ok p)).1::(gC T (dQ aK T) ⟨#[62]⟩ k (dQ aK T (.ok p)).2).1,(gC T (dQ aK T) ⟨#[62]⟩ k (dQ aK T (.ok p)).2).2):=by
     rw[hgk,gC,if_pos ⟨rfl,hb⟩]
    have hnx:need T (dQ aK T (.ok p)).2<=k:=L2 hpr hpl (by have:=HT2.out.2.1;omega);have htot2:=HT2.out.2.2;rw[hmore]at htot2;have hlen2:=HT2.out.1;have xr:=fun W (bW:Below wr.heap.size wr W)=>VK (hS.step bW) (hB2.step bW);generalize hqq:dQ aK T (.ok p)=qq at xr hnx htot2;obtain⟨y,s2⟩:=qq;simp only at xr hnx htot2;have hcat:bT gT.cells (x'::(l++[y]))=bT gT.cells (x'::l)++y.cells.toList:=eV _ (x'::l) y;obtain⟨⟨z0,z1,z2⟩,z3,z4⟩:=y;simp only[UD]at xr;have HC:=aJ hcat;have HA:=aJ (And.intro hnx (And.intro htot2 (And.intro hlen2 hgk)));clear fin0 hx9 hmore hnx htot2 hlen2 hcat hqq hb HT2 hS hB2;generalize hcur:bT gT.cells (x'::l)=cur at hown HC;go_wp2_with(go_at_call 76;refine xi.mono ?_);intro rr w3;first |(intro he b3;subst he)|rintro⟨rfl,b3⟩
    have xr3:=xr w3 b3;have hown3:=aB hown fun j hj=>b3.block j (hown.lt j hj).2;have aw3:=aw.step b3;clear xr xi c4 hown aw b3;go_wp2_with(go_at_call 58;refine xr3.mono ?_);intro rr w4;first |(intro he hS4 a4;subst he)|rintro⟨rfl,hS4,a4⟩
    have hown4:=aB hown3 fun j hj=>a4.block j (hown3.lt j hj).2 (by have:=hlo j hj;simp;omega);have aw4:=aw3.trans a4;have sz4:=aw4.size;clear xr3 hown3 aw3 a4;obtain⟨zz,hzz⟩:=Option.isSome_iff_exists.1 hz0;go_wp2_with(at_builtin;refine wpList_append_lies _ rfl _ _ 27 rfl w.heap.size 80 i0 _ 5 40 Tryz.underlying27 hi0 hzz hz1 hz2 (C7 hi0 hzz) (by omega) _ (l.length+1) _ rfl (hown4.alloc _) ⟨w4.heap.size,0,none⟩ 1 1 #[Z z0,Z z1,Z z2,.bool z3,Z z4].toList rfl rfl (World.news_of_block (cs:=#[Z z0,Z z1,Z z2,.bool z3,Z z4]) (t:=80) (fr:=(0,0)) (qd _ _)) (by simp[Value.oneCell']) (by omega) (by unfold maxLen;omega) (by omega) (by simp;omega) (w4.heap.size+1) (by simp) ?_;intro gg wcap w5 hown5 hgrow hat hgl);go_roundg (gk-1);case measure=>have:=HA.out.2.2.2;omega
    case rel =>
     obtain⟨q1,q2,q3,q4⟩:=HA.out;have e1:gk-1=k:=by omega
     rw[e1];refine⟨l++[⟨⟨z0,z1,z2⟩,z3,z4⟩],s2,by rw[qf];simp only[qk,qql];omega,q1,?_,?_,(hS4.step ((qb _ w4).alloc (qa _) _)).grown hgrow (fun j hj => ?_),(aw4.alloc _).grown hgrow hlo⟩
     ·rw[<-q2];simp
     ·rw[HC.out,qf];exact hown5
     ·have h1:=hlo j hj;obtain⟨cur',hc'⟩:=bA hown4 hj;exact⟨by omega,by omega,cur',80,(Lib.alloc_old w4 _ _ (aA hc')).trans hc',by decide⟩
end
theorem Tryz.infograces:(Tryz.prog.info? 77).map (fun i=>(i.zero.isSome,i.size,i.bytes))=some (true,5,40):=by kernel_rfl
theorem BX{i:TypeInfo}{z:Value}(h1:Tryz.prog.info? 77=some i)(h2:i.zero=some z):z.cells.size=5:=by
 have:(Tryz.prog.info? 77).map (fun i=>i.zero.map fun z=>z.cells.size)=some (some 5):=by kernel_rfl
 rw[h1]at this;simp only[qqu,h2,qv]at this;exact this
section
variable{W0:World}{T:List aX}{Y M:Nat}{free:Fr}{st:aD}{w:World}
theorem JS(h:PS T Y M free st w)(B:mF W0 [Y,M] w) :
  Calls Tryz.prog 55 #[.pointer (some ⟨Y,0,none⟩),.func (.func 56) #[.pointer (some ⟨Y,0,none⟩)] #[],.string ⟨#[41]⟩] w fun rr w' =>
   ∃v,rr=.returned v/\w'.ownsRow w.heap.size 77 5 v (tA T (dE aK T 7) ⟨#[41]⟩ st).1.length (bT eG.cells (tA T (dE aK T 7) ⟨#[41]⟩ st).1)/\PS T Y M free (tA T (dE aK T 7) ⟨#[41]⟩ st).2 w'/\aC [Y,M] w w':=by
 obtain⟨i0,hi0,hz0,hz1,hz2⟩:∃i,Tryz.prog.info? 77=some i/\i.zero.isSome=true/\i.size=5/\i.bytes=40:=by
  have:=Tryz.infograces;cases hi:Tryz.prog.info? 77 with
  |none=>rw[hi]at this;cases this
  |some i=>rw[hi]at this;simp only[qqu,qv,qu]at this;exact⟨i,rfl,this.1,this.2.1,this.2.2⟩
 have g:=h.good;have hm:=g.max;have lY:=h.lt;have lM:=h.ltM;have x1:=XY h B;have hpr:aD7 (dE aK T 7):=VU _ _ _;have hsev:tA T (dE aK T 7) ⟨#[41]⟩ st=((dE aK T 7 st).1::(gC T (dE aK T 7) ⟨#[41]⟩ T.length (dE aK T 7 st).2).1,bY T ⟨#[41]⟩ (gC T (dE aK T 7) ⟨#[41]⟩ T.length (dE aK T 7 st).2).2):=rfl;rw[hsev];clear hsev;have hn0:need T (dE aK T 7 st).2<=T.length:=by
  cases (dE aK T 7 st).2 with
  |ok p=>exact Nat.sub_le _ _
  |bad e l c=>exact ql _
 obtain⟨tot,htot⟩:∃tot,tot=gC T (dE aK T 7) ⟨#[41]⟩ T.length (dE aK T 7 st).2:=⟨_,rfl⟩;rw[<-htot];generalize hq1:dE aK T 7 st=q1 at x1 htot hn0⊢;obtain⟨x,s1⟩:=q1;simp only at x1 htot hn0⊢;have c9:=fun w' (h:PS T Y M free tot.2 w')=>iX h ⟨#[41]⟩;generalize bY T ⟨#[41]⟩ tot.2=s9 at c9⊢;obtain⟨N,hN⟩:∃N,Shut (T.length=N):=⟨_,rfl⟩;have hN4:N<=4001:=by rw[<-hN.out];exact hm
 rw[hN.out]at htot hn0;have HT:=aJ (And.intro htot hn0);have HX0:∃x':eG,Shut (x'=x):=⟨x,rfl⟩;obtain⟨x',HX'⟩:=HX0;clear h htot hn0 hq1 g hm;obtain⟨⟨y0,y1,y2⟩,y3,y4⟩:=x;simp only[ZC]at x1;go_enter Tryz.func55,Tryz.ntmps55;go_wp2_with(go_at_call 56;refine x1.mono ?_);intro rr w1;first |(intro he hS1 a1;subst he)|rintro⟨rfl,hS1,a1⟩
 have sz1:=a1.size;have hS2:=hS1.step ((qb _ w1).alloc (qa _) (.cells #[Z y0,Z y1,Z y2,Z y3,.bool y4] 77));have aw2:=a1.alloc (.cells #[Z y0,Z y1,Z y2,Z y3,.bool y4] 77);have ho2:(w1.alloc (.cells #[Z y0,Z y1,Z y2,Z y3,.bool y4] 77)).ownsRow w.heap.size 77 5 (.slice (some ⟨w1.heap.size,0,none⟩) 1 1) 1 #[Z y0,Z y1,Z y2,Z y3,.bool y4].toList:=World.ownsRow_lit (size:=5) w1 #[Z y0,Z y1,Z y2,Z y3,.bool y4] 1 sz1 (by decide) rfl;clear x1 hS1 a1;go_wp2
 go_loopg [7] N (fun gk s7 wr=>∃(l:List eG)(s:aD),l.length+gk=N/\need T s<=gk/\(l++(gC T (dE aK T 7) ⟨#[41]⟩ gk s).1,(gC T (dE aK T 7) ⟨#[41]⟩ gk s).2)=tot/\wr.ownsRow w.heap.size 77 5 s7 (l.length+1) (bT eG.cells (x'::l))/\PS T Y M free s wr/\aC [Y,M] w wr)
 case atStart=>exact⟨[],s1,by simp,HT.out.2,by rw[HT.out.1];rfl,by rw[HX'.out];exact ho2,hS2,aw2⟩
 case round =>
  clear hS2 aw2 ho2;obtain⟨l,s,hlen,hneed,htotal,hown,hS,aw⟩:=hrel;have hN1:(l.length:Int)<=4001:=by omega
  have hB2:mF W0 [Y,M] wr:=B.away aw;obtain⟨ao,cp,rfl⟩:=aL hown;have hlo:∀j,(Value.slice ao (l.length+1) cp).ownBlock=some j->w.heap.size<=j:=fun j hj=>(hown.lt j hj).1;have hx9:∀w',Below wr.heap.size wr w'->s=tot.2->Calls Tryz.prog 54 #[.pointer (some ⟨Y,0,none⟩),.string ⟨#[41]⟩] w' fun r w''=>r=.returned (.tuple #[])/\PS T Y M free s9 w''/\aC [Y,M] w' w'':=fun w' b e=>c9 w' (by rw[<-e];exact hS.step b);have HT2:=aJ (And.intro hlen (And.intro hneed htotal));have fin0:(gC T (dE aK T 7) ⟨#[41]⟩ gk s)=([],s)->l=tot.1/\s=tot.2:=fun e=>by
   rw[e]at htotal;simp only[qqe]at htotal;exact⟨congrArg (·.1) htotal,congrArg (·.2) htotal⟩
  clear htotal hlen hneed;cases s with
  |bad ee el ec =>
   obtain⟨c4,hee⟩:=hS.errCell;obtain⟨hl,hs⟩:=fin0 (LY _ _ _ _ _ _);have xe:=hx9 wr (qb _ _) hs;clear fin0 hx9 hS hB2;go_wp2_with(go_at_call 54;refine xe.mono ?_);intro rr w4;first |(intro he hS4 a4;subst he)|rintro⟨rfl,hS4,a4⟩
   have hown4:=aB hown fun j hj=>a4.block j (hown.lt j hj).2 (by have:=hlo j hj;simp;omega);have aw4:=aw.trans a4;clear xe hown aw a4 c4;go_wp2;go_ret;refine⟨_,rfl,?_,hS4,aw4⟩;rw[<-hl];have e:=HX'.out;rw[<-e];exact hown4
  |ok p =>
   have c4:=hS.okCell;have hpl:=hS.atCell.2.2;have xi:=KY hS ⟨#[41]⟩;cases hb:isS T ⟨#[41]⟩ (.ok p)with
   |true =>
    rw[hb]at xi;obtain⟨hl,hs⟩:=fin0 (by
     cases gk with
     |zero=>rfl
     |succ k=>rw[gC,if_neg (by rw[hb];simp)])
    clear fin0 hS hB2;go_wp2_with(go_at_call 76;refine xi.mono ?_);intro rr w3;first |(intro he b3;subst he)|rintro⟨rfl,b3⟩
    have xe:=hx9 w3 b3 hs;have hown3:=aB hown fun j hj=>b3.block j (hown.lt j hj).2;have aw3:=aw.step b3;clear xi hx9 hown aw b3 c4;go_wp2_with(go_at_call 54;refine xe.mono ?_);intro rr w4;first |(intro he hS4 a4;subst he)|rintro⟨rfl,hS4,a4⟩
    have hown4:=aB hown3 fun j hj=>a4.block j (hown3.lt j hj).2 (by have:=hlo j hj;simp;omega);have aw4:=aw3.trans a4;clear xe hown3 aw3 a4;go_wp2;go_ret;refine⟨_,rfl,?_,hS4,aw4⟩;rw[<-hl];have e:=HX'.out;rw[<-e];exact hown4
   |false =>
    rw[hb]at xi;obtain⟨k,hgk⟩:∃k,gk=k+1:=by
     have:=HT2.out.2.1;unfold need at this;exact⟨gk-1,by simp only at this;omega⟩
    have hmore:gC T (dE aK T 7) ⟨#[41]⟩ gk (.ok p)=((dE aK T 7 (.ok p)).1::(gC T (dE aK T 7) ⟨#[41]⟩ k (dE aK T 7 (.ok p)).2).1,(gC T (dE aK T 7) ⟨#[41]⟩ k (dE aK T 7 (.ok p)).2).2):=by
     rw[hgk,gC,if_pos ⟨rfl,hb⟩]
    have hnx:need T (dE aK T 7 (.ok p)).2<=k:=L2 hpr hpl (by have:=HT2.out.2.1;omega);have htot2:=HT2.out.2.2;rw[hmore]at htot2;have hlen2:=HT2.out.1;have xr:=fun W (bW:Below wr.heap.size wr W)=>XY (hS.step bW) (hB2.step bW);generalize hqq:dE aK T 7 (.ok p)=qq at xr hnx htot2;obtain⟨y,s2⟩:=qq;simp only at xr hnx htot2;have hcat:bT eG.cells (x'::(l++[y]))=bT eG.cells (x'::l)++y.cells.toList:=eV _ (x'::l) y;obtain⟨⟨z0,z1,z2⟩,z3,z4⟩:=y;simp only[ZC]at xr;have HC:=aJ hcat;have HA:=aJ (And.intro hnx (And.intro htot2 (And.intro hlen2 hgk)));clear fin0 hx9 hmore hnx htot2 hlen2 hcat hqq hb HT2 hS hB2;generalize hcur:bT eG.cells (x'::l)=cur at hown HC;go_wp2_with(go_at_call 76;refine xi.mono ?_);intro rr w3;first |(intro he b3;subst he)|rintro⟨rfl,b3⟩
    have xr3:=xr w3 b3;have hown3:=aB hown fun j hj=>b3.block j (hown.lt j hj).2;have aw3:=aw.step b3;clear xr xi c4 hown aw b3;go_wp2_with(go_at_call 56;refine xr3.mono ?_);intro rr w4;first |(intro he hS4 a4;subst he)|rintro⟨rfl,hS4,a4⟩
    have hown4:=aB hown3 fun j hj=>a4.block j (hown3.lt j hj).2 (by have:=hlo j hj;simp;omega);have aw4:=aw3.trans a4;have sz4:=aw4.size;clear xr3 hown3 aw3 a4;obtain⟨zz,hzz⟩:=Option.isSome_iff_exists.1 hz0;go_wp2_with(at_builtin;refine wpList_append_lies _ rfl _ _ 28 rfl w.heap.size 77 i0 _ 5 40 Tryz.underlying28 hi0 hzz hz1 hz2 (BX hi0 hzz) (by omega) _ (l.length+1) _ rfl (hown4.alloc _) ⟨w4.heap.size,0,none⟩ 1 1 #[Z z0,Z z1,Z z2,Z z3,.bool z4].toList rfl rfl (World.news_of_block (cs:=#[Z z0,Z z1,Z z2,Z z3,.bool z4]) (t:=77) (fr:=(0,0)) (qd _ _)) (by simp[Value.oneCell']) (by omega) (by unfold maxLen;omega) (by omega) (by simp;omega) (w4.heap.size+1) (by simp) ?_;intro gg wcap w5 hown5 hgrow hat hgl);go_roundg (gk-1);case measure=>have:=HA.out.2.2.2;omega
    case rel =>
     obtain⟨q1,q2,q3,q4⟩:=HA.out;have e1:gk-1=k:=by omega
     rw[e1];refine⟨l++[⟨⟨z0,z1,z2⟩,z3,z4⟩],s2,by rw[qf];simp only[qk,qql];omega,q1,?_,?_,(hS4.step ((qb _ w4).alloc (qa _) _)).grown hgrow (fun j hj => ?_),(aw4.alloc _).grown hgrow hlo⟩
     ·rw[<-q2];simp
     ·rw[HC.out,qf];exact hown5
     ·have h1:=hlo j hj;obtain⟨cur',hc'⟩:=bA hown4 hj;exact⟨by omega,by omega,cur',77,(Lib.alloc_old w4 _ _ (aA hc')).trans hc',by decide⟩
end
set_option maxRecDepth 1000000
open Go.RowKit Go.Dam
def AF(i:Nat):ByteArray:=bF.getD i ByteArray.empty
def wE:List ByteArray->Nat->List MapEntry
 | [],_=>[]
 |y::r,b=>⟨.string y,Z (b:Nat),b⟩::wE r (b+1)
def wEs(k:Nat):Array MapEntry:=(wE (bF.take k) 0).toArray
theorem WN:∀(l:List ByteArray)(b:Nat)(y:ByteArray),wE (l++[y]) b=wE l b++[⟨.string y,Z ((b+l.length:Nat):Int),b+l.length⟩]
 | [],b,y=>rfl
 |x::r,b,y=>by
  show _::wE (r++[y]) (b+1)=_::(wE r (b+1)++_);rw[WN r (b+1) y,qk,show b+1+r.length=b+(r.length+1)by omega]
theorem FN:bF.length=22:=rfl
theorem PK{i:Nat}(h:i<22):bF[i]?=some (AF i):=by
 unfold AF;rw[qqf,qr (by rw[FN];exact h)];rfl
theorem aAS{k:Nat}(h:k<22):(wEs k).push ⟨.string (AF k),Z (k:Nat),k⟩=wEs (k+1):=by
 unfold wEs;have e:bF.take (k+1)=bF.take k++[AF k]:=by
  rw[List.take_add_one,PK h];rfl
 have hl:(bF.take k).length=k:=by rw[List.length_take,FN];omega
 rw[e,WN,hl];simp
theorem MC(x:ByteArray):∀(l:List ByteArray)(b i:Nat),Instr.findNow .string (.string x) (wE l b) i=some ((cM x l).map fun j=>(i+j,Z ((b+j:Nat):Int)))
 | [],b,i=>rfl
 |y::r,b,i=>by
  unfold wE Instr.findNow cM;by_cases h:x=y
  ·have:(x==y)=true:=(Go.MapKept.bytes_beq x y).2 h;simp only[Instr.sameNow,this];simp[h]
  ·have:(x==y)=false:=by
    cases hb:(x==y)with
    |false=>rfl
    |true=>exact absurd ((Go.MapKept.bytes_beq x y).1 hb) h
   simp only[Instr.sameNow,this];rw[if_neg h];rw[MC x r (b+1) (i+1)];simp only[Option.map_map,qv]
   congr 1
   funext j
   simp only[Function.comp,qu,Value.int.injEq,true_and];exact⟨by omega,by omega⟩
theorem yX{x:ByteArray}:∀{l:List ByteArray}{i:Nat},cM x l=some i->i<l.length
 | [],i,h=>by cases h
 |y::r,i,h=>by
  unfold cM at h;split at h
  ·injection h with h;subst h;simp
  ·obtain⟨j,hj,rfl⟩:=Option.map_eq_some_iff.1 h;have:=yX hj;simp only[qk];omega
theorem K0{x:ByteArray}:Instr.findNow .string (.string x) (wEs 22).toList 0=some ((cM x bF).map fun j=>(j,Z (j:Nat))):=by
 have e:(wEs 22).toList=wE bF 0:=by unfold wEs;rw[List.take_of_length_le (by rw[FN];omega)]
 rw[e,MC];simp
theorem aAT:(List.range 22).all (fun i=>(cM (AF i) (bF.take i)).isNone)=true:=by decide +kernel
theorem PL{i:Nat}(h:i<22):Instr.findNow .string (.string (AF i)) (wEs i).toList 0=some none:=by
 have:=qqm.1 aAT i (List.mem_range.2 h);unfold wEs;rw[List.toList_toArray,MC,Option.isNone_iff_eq_none.1 this];rfl
def pW:Obj:=.cells (bF.map Value.string).toArray 9 (0,0)
theorem S5(w:World):Calls Tryz.prog 105 #[] w fun r w'=>r=.returned (.slice (some ⟨w.heap.size,0,none⟩) 22 22)/\w'=w.alloc pW:=by
 go_enter Tryz.func105,Tryz.ntmps105;go_wp2;go_ret;exact⟨rfl,rfl⟩
def S6(n:Nat):List Int:=(List.range n).map Int.ofNat
theorem FP{n:Nat}{x:Int}(h0:0<=x)(h1:x<n):x∈S6 n:=List.mem_map.2 ⟨x.toNat,List.mem_range.2 (by omega),Int.toNat_of_nonneg h0⟩
theorem aAU:(S6 22).all (fun i=>BV 108 [Z i] (Z (grp i)))=true:=by kernel_rfl
theorem FQ{i:Int}(h0:0<=i)(h1:i<22)(w:World):Calls Tryz.prog 108 #[Z i] w fun e w'=>e=.returned (Z (grp i))/\Below w.heap.size w w' :=
 mR (args:=[Z i]) rfl rfl (qqm.1 aAU i (FP h0 (by omega))) w
end Go.Proofs.YtgkhemnmcgicnaaGreatDoor
