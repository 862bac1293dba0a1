/- Towards the law ParserBlanks, true for every text and all blanks (no condition): one part of the proof. -/
import Derived.Test.YtgkhemnmcgicnaaGreatDoorG36
import Derived.Test.YtgkhemnmcgicnaaGreatDoorG01
namespace Go.Proofs.YtgkhemnmcgicnaaGreatDoor
open Go.RowKit
section
variable{W0:World}{T:List aX}{Y M V B:Nat}
end
set_option maxHeartbeats 32000000
set_option maxRecDepth 100000
theorem ZT{O:yB}{T:List aX}{k:Nat}{v:fG}{I:eQ}{s:aD}(hb:isS T ⟨#[40]⟩ s=true) :
  (BT O T k v I s).1.1.evs.length+need T (BT O T k v I s).2<=v.evs.length+need T s/\(BT O T k v I s).1.1.tups.length+need T (BT O T k v I s).2<=v.tups.length+need T s/\need T (BT O T k v I s).2<need T s:=by
 have h0:=eF hb;have h1:=eX (T:=T) (eP s) h0;have h2:=bU (T:=T) (eE T 1 32 (s.next 1)).back;have h3:=bU (T:=T) (fY T ⟨#[58]⟩ (bD T 1 32 (s.next 1)).2).back;have h4:=bU (T:=T) (eE T 1 32 (bY T ⟨#[58]⟩ (bD T 1 32 (s.next 1)).2)).back;unfold BT;simp only;have i1:=pH O T k ⟨v.evs,v.tups++[⟨v.evs.length,0,(bD T 1 32 (s.next 1)).1,(bD T 1 32 (bY T ⟨#[58]⟩ (bD T 1 32 (s.next 1)).2)).1⟩]⟩ 1 0 I (bD T 1 32 (bY T ⟨#[58]⟩ (bD T 1 32 (s.next 1)).2)).2;have i2:=bU (T:=T) (i6 O T k ⟨v.evs,v.tups++[⟨v.evs.length,0,(bD T 1 32 (s.next 1)).1,(bD T 1 32 (bY T ⟨#[58]⟩ (bD T 1 32 (s.next 1)).2)).1⟩]⟩ 1 0 I (bD T 1 32 (bY T ⟨#[58]⟩ (bD T 1 32 (s.next 1)).2)).2);generalize cL O T k ⟨v.evs,v.tups++[⟨v.evs.length,0,(bD T 1 32 (s.next 1)).1,(bD T 1 32 (bY T ⟨#[58]⟩ (bD T 1 32 (s.next 1)).2)).1⟩]⟩ 1 0 I (bD T 1 32 (bY T ⟨#[58]⟩ (bD T 1 32 (s.next 1)).2)).2=r at i1 i2⊢;have h5:=bU (T:=T) (fY T ⟨#[41]⟩ r.2).back;simp only[qf,qz]at i1;simp only[List.length_set];refine⟨?_,?_,?_⟩<;>omega
section
variable{W0:World}{T:List aX}{Y M V B:Nat}
theorem SA(K:Nat):aC4 W0 T Y M V B K:=by
 induction K using Nat.strongRecOn with
 |ind K IHK =>
 intro I st v least ev tv cs w hn hle hlt h;obtain⟨i9,hi9,hz9⟩:∃i,Tryz.prog.info? 31=some i/\∃z,i.zero=some z/\z.cells.size=13/\i.size=13/\i.bytes=152:=by
  have:=Tryz.infoevs;cases hi:Tryz.prog.info? 31 with
  |none=>rw[hi]at this;cases this
  |some i =>
   rw[hi]at this;simp only[qqu,qv,qu]at this;obtain⟨h1,h2,h3⟩:=this;cases hz:i.zero with
   |none=>rw[hz]at h1;cases h1
   |some z=>rw[hz]at h1;simp only[qqu,qv]at h1;exact⟨i,rfl,z,hz,h1,h2,h3⟩
 obtain⟨z9,hz9,hc9,hs9,hy9⟩:=hz9;obtain⟨tot,htot⟩:∃tot,tot=cL aK T K v least 0 I st:=⟨_,rfl⟩;rw[<-htot];have HT:=aJ htot;have IHS:=aJ IHK;have nYV:=h.nY;have nMV:=h.nM;clear htot IHK;go_enter Tryz.func35,Tryz.ntmps35;go_wp2
 go_loopg [6] K (fun gk s6 wr => ∃ (v' : fG) (n : Int) (I' : eQ) (s' : aD) (ev' tv' : Value) (cs' : List Value), gk <= K /\ need T s' <= gk /\ cL aK T gk v' least n I' s' = tot /\ s6 = Z n /\ 0 <= n /\ n + need T s' <= 4001 /\
   v'.evs.length+need T s'<=4001/\v'.tups.length+need T s'<=4001/\yV W0 T Y M V B ev' tv' cs' v' I' s' wr/\VS [Y,M,V] ev tv ev' tv' w wr)
 case atStart=>exact⟨v,0,I,st,ev,tv,cs,qa _,hn,HT.out.symm,rfl,Int.le_refl _,by omega,hle,hlt,h,VS.refl _ _ _ _⟩
 case round =>
  clear h hn hle hlt HT;obtain⟨v',n,I',s',ev',tv',cs',hgK,hneed,htotal,rfl,hn0,hnb,hle,hlt,H,VW⟩:=hrel;cases s' with
  |bad e l c =>
   obtain⟨c4,hee⟩:=H.ps.errCell;rw[U7]at htotal;subst htotal;go_wp2
   go_end0
   exact⟨rfl,_,_,⟨_,H⟩,VW⟩
  |ok p =>
   have c4:=H.ps.okCell;have hpl:=H.ps.atCell.2.2;obtain⟨j,rfl⟩:∃j,gk=j+1:=by
    have:0<need T (.ok p):=by unfold need;simp only;omega
    exact⟨gk-1,by omega⟩
   have m1:IntKind.i64.wrap (n+1)=n+1:=IntWalk.i64_in _ (by omega);have xi:=KY H.ps ⟨#[40]⟩;cases hb:isS T ⟨#[40]⟩ (.ok p)with
   |true =>
    rw[hb]at xi;rw[U5 rfl hb]at htotal;have hnd:=ZT (O:=aK) (k:=j) (v:=v') (I:=I') hb;have xt:=fun w2 (b:Below wr.heap.size wr w2)=>ZQ (IHS.out j (by omega)) hb hneed hle hlt (H.step b);generalize BT aK T j v' I' (.ok p)=q5 at htotal hnd xt;have HQ:=aJ (And.intro htotal hnd);have HV:=aJ (And.intro H VW);clear htotal hnd hb H VW;go_wp2_with(go_at_call 76;(with_reducible refine xi.mono ?_));intro rr w1;(first|(intro he9 b1;subst he9)|rintro ⟨rfl,b1⟩);have xt1:=xt _ b1;clear xt;go_wp2_with(go_at_call 77;(with_reducible refine xt1.mono ?_));intro rr w2;(first|(intro he9 ev2 tv2 cs2 H2 V2;subst he9)|rintro ⟨rfl,ev2,tv2,cs2,H2,V2⟩);go_wp2;go_roundg j;case measure=>omega
    case rel =>
     obtain⟨h1,h2,h3,h4⟩:=HQ.out;exact⟨q5.1.1,n+1,q5.1.2,q5.2,ev2,tv2,cs2,by omega,by omega,h1,rfl,by omega,by omega,by omega,by omega,H2,(HV.out.2.trans (VS.of_below b1)).trans V2⟩
   |false =>
    rw[hb]at xi;have xb:=fun w2 (b:Below wr.heap.size wr w2)=>Z0 (H.step b).ps;cases he:mE T (.ok p)with
    |false =>
     rw[U6 rfl hb he]at htotal;rw[he]at xb;have xf:=fun w2 (b:Below wr.heap.size wr w2)=>jC (H.step b).ps 13 (by decide);by_cases hl:n<least
     ·rw[if_pos hl]at htotal;subst htotal;have HV:=aJ (And.intro H VW);clear H VW hb he;go_wp2_with(go_at_call 76;(with_reducible refine xi.mono ?_));intro rr w1;(first|(intro he9 b1;subst he9)|rintro ⟨rfl,b1⟩);have xb1:=xb _ b1;clear xb;go_wp2_with(go_at_call 78;(with_reducible refine xb1.mono ?_));intro rr w2;(first|(intro he9 b2;subst he9)|rintro ⟨rfl,b2⟩);have b12:=b1.trans (b2.mono b1.size);have xf1:=xf _ b12;clear xf;go_wp2_with(go_at_call 63;(with_reducible refine xf1.mono ?_));intro rr w3;(first|(intro he9 hS3 a3;subst he9)|rintro ⟨rfl,hS3,a3⟩);go_wp2;refine qg (results_none rfl _ _ _) rfl ?_;exact⟨rfl,_,_,⟨_,(HV.out.1.step b12).call hS3 a3⟩,(HV.out.2.trans (VS.of_below b12)).trans (VS.of_away (a3.more (by simp)))⟩
     ·rw[if_neg hl]at htotal;subst htotal;have HV:=aJ (And.intro H VW);clear H VW hb he;go_wp2_with(go_at_call 76;(with_reducible refine xi.mono ?_));intro rr w1;(first|(intro he9 b1;subst he9)|rintro ⟨rfl,b1⟩);have xb1:=xb _ b1;clear xb;go_wp2_with(go_at_call 78;(with_reducible refine xb1.mono ?_));intro rr w2;(first|(intro he9 b2;subst he9)|rintro ⟨rfl,b2⟩);have b12:=b1.trans (b2.mono b1.size);clear xf;go_wp2;refine qg (results_none rfl _ _ _) rfl ?_;exact⟨rfl,_,_,⟨_,HV.out.1.step b12⟩,HV.out.2.trans (VS.of_below b12)⟩
    |true =>
     rw[ZP rfl hb he]at htotal;rw[he]at xb;have hnd:=eX (T:=T) (xA aK T I' (.ok p)) (ES he);have hio:=EC (O:=aK) (T:=T) (s:=.ok p) H.io;have xe:=fun w2 (h:PS T Y M (gS I') (.ok p) w2) (b:mF W0 [Y,M] w2)=>aC5 H.io h b;generalize jM aK T I' (.ok p)=q5 at htotal hnd xe hio;obtain⟨⟨x5,I5⟩,s5⟩:=q5;simp only at htotal hnd xe hio;have HQ:=aJ (And.intro htotal hnd);clear htotal hnd hb he;obtain⟨ao,ca,rfl⟩:=aL H.vo.oe;go_wp2_with(go_at_call 76;(with_reducible refine xi.mono ?_));intro rr w1;(first|(intro he9 b1;subst he9)|rintro ⟨rfl,b1⟩);have xb1:=xb _ b1;clear xb xi;go_wp2_with(go_at_call 78;(with_reducible refine xb1.mono ?_));intro rr w2;(first|(intro he9 b2;subst he9)|rintro ⟨rfl,b2⟩);have b12:=b1.trans (b2.mono b1.size);have H2:=H.step b12;have V2:=VW.trans (VS.of_below (bs:=[Y,M,V]) b12);clear H VW xb1 b1 b2 b12 c4;have lV2:=H2.vo.lt;have ltB:∀k,(Value.slice ao v'.evs.length ca).ownBlock=some k->k≠V:=fun k hk=>by have:=(H2.vo.oe.lt k hk).1;have:=H2.vo.lV;omega
     go_wp2;have H2d:=H2.step (qb _ w2).drew;have c2:=H2.cell0;have c2d:=H2d.cell0;have xe5:=xe _ H2d.ps H2d.bas;clear xe;obtain⟨i0,i1,kd,lg,dt,hs,gs,ar,orn,dy,ys,sm,be⟩:=x5
     go_region_law ((first
      |(go_simp;go_at_call 20;(with_reducible refine xe5.mono ?_);rintro r w6 ⟨vv,rfl,⟨hv,gv,lyv,rfl,rows⟩,hS6,a6⟩;have H6:=H2d.callI hio hS6 a6;have rows6:=rows.lo H2d.vo.lB;obtain⟨ha,hc,rfl⟩:=aL rows6.oh;obtain⟨ga,gc,rfl⟩:=aL rows6.og;obtain⟨la,lc,rfl⟩:=aL rows6.ol;clear rows;simp only[B7.cells];simp only at rows6;have c6:=H6.cell0;have H6a:=H6.step ((qb w6.heap.size w6).alloc (qa _) (.cells #[Z i0,Z i1,Z kd,Z lg,Z dt,.slice ha hs.length hc,.slice ga gs.length gc,Z ar,Z orn,Z dy,.slice la ys.length lc,Z sm,Z be] 31));have c6a:=H6a.cell0;have sz6:=H6.vo.lB;have lV6:=H6.vo.lt)
      |(refine step_append_lies _ (by rfl) _ _ _ (by rfl) B 31 i9 _ 13 152 Tryz.underlying45 hi9 hz9 hs9 hy9 hc9 (by omega) (.slice ao v'.evs.length ca) v'.evs.length cs' (by rfl) H6a.vo.oe ⟨w6.heap.size,0,none⟩ 1 1 #[.int .i64 i0,.int .i64 i1,.int .i64 kd,.int .i64 lg,.int .i64 dt,.slice ha hs.length hc,.slice ga gs.length gc,.int .i64 ar,.int .i64 orn,.int .i64 dy,.slice la ys.length lc,.int .i64 sm,.int .i64 be].toList (by rfl) (by rfl) (World.news_of_block (cs:=#[.int .i64 i0,.int .i64 i1,.int .i64 kd,.int .i64 lg,.int .i64 dt,.slice ha hs.length hc,.slice ga gs.length gc,.int .i64 ar,.int .i64 orn,.int .i64 dy,.slice la ys.length lc,.int .i64 sm,.int .i64 be]) (t:=31) (fr:=(0,0)) (qd _ _)) (by simp[Value.oneCell']) (by omega) (by simp only[maxLen];omega) (by omega) (by simp;omega) (w6.heap.size+1) (by simp) ?_;intro gg cap w7 hown hgrow hat hgl;have hV7:=(hgrow.block V H6a.vo.lt (fun e=>ltB V e.symm rfl)).trans H6a.vo.hV;have q1:=Lib.cell_of_heap hV7 0;have f1:=Lib.frozen_of_heap hV7 0;simp only[List.getElem?_toArray,List.getElem?_cons_zero]at q1)))
     all_goals go_wp2
     all_goals go_roundg j
     all_goals first
      |omega
      | (obtain ⟨h1, h2⟩ := HQ.out
         have b6a:=(qb w6.heap.size w6).alloc (qa _) (.cells #[Z i0,Z i1,Z kd,Z lg,Z dt,.slice ha hs.length hc,.slice ga gs.length gc,Z ar,Z orn,Z dy,.slice la ys.length lc,Z sm,Z be] 31);have H7:=H6a.pushE hgrow (n:=v'.evs.length+1) (x:=⟨i0,i1,kd,lg,dt,hs,gs,ar,orn,dy,ys,sm,be⟩) rfl hown (rows6.step fun k o T hk _ _=>b6a.block k (aA hk));have V7:=((((V2.trans (VS.of_below (qb _ w2).drew)).trans (VS.of_away (a6.more (by simp)))).trans (VS.of_below b6a)).trans (VS.growE (a:=⟨gg,0,none⟩) (n:=v'.evs.length+1) (cap:=cap) hgrow (hat.imp id (fun e=>by rw[e];simp)))).trans (VS.set V 0 (.slice (some ⟨gg,0,none⟩) (v'.evs.length+1) cap) (by simp));exact⟨_,n+1,I5,s5,_,tv',_,by omega,by omega,h1,rfl,by omega,by omega,by simp only[qf,qz];omega,by simp only;omega,H7,V7⟩)
end
structure J2(B:Nat)(ev tv:Value)(cs:List Value)(v:fG)(w:World):Prop where
 oe:w.ownsRow B 31 13 ev v.evs.length cs
 ot:w.ownsRow B 100 4 tv v.tups.length (bT jH.cells v.tups)
 es:yF B v.evs cs w
theorem PG.r{V B:Nat}{ev tv:Value}{cs:List Value}{v:fG}{w:World}(h:PG V B ev tv cs v w):J2 B ev tv cs v w:=⟨h.oe,h.ot,h.es⟩
theorem J2.keep{B:Nat}{ev tv:Value}{cs:List Value}{v:fG}{w w':World}(h:J2 B ev tv cs v w)(hb:∀k (o:Array Value) (T:TypeId),w.heap[k]?=some (.cells o T (0,0))->B<=k->w'.heap[k]?=w.heap[k]?):J2 B ev tv cs v w':=by
 refine⟨aB h.oe fun k hk => ?_,aB h.ot fun k hk => ?_,h.es.step fun k o T ho _ hB=>hb k o T ho hB⟩
 ·obtain⟨c,hc⟩:=bA h.oe hk;exact hb k c _ hc (h.oe.lt k hk).1
 ·obtain⟨c,hc⟩:=bA h.ot hk;exact hb k c _ hc (h.ot.lt k hk).1
theorem J2.step{B:Nat}{ev tv:Value}{cs:List Value}{v:fG}{w w':World}(h:J2 B ev tv cs v w)(b:Below w.heap.size w w'):J2 B ev tv cs v w':=h.keep fun k _ _ ho _=>b.block k (aA ho)
set_option maxRecDepth 1000000
def iA:List ByteArray:=[⟨#[116,114,101,98,108,101]⟩,⟨#[98,97,115,115]⟩,⟨#[97,108,116,111]⟩,⟨#[116,101,110,111,114]⟩,⟨#[115,111,112,114,97,110,111]⟩,⟨#[109,101,122,122,111,115,111,112,114,97,110,111]⟩,⟨#[98,97,114,105,116,111,110,101]⟩,⟨#[116,114,101,98,108,101,56]⟩,⟨#[98,97,115,115,56]⟩]
def iL:Nat->Array Value
 |0=>#[.string ⟨#[116,114,101,98,108,101]⟩,.int .u8 71,Z (-2),Z 0,Z 34,Z (-1),Z (-3)]
 |1=>#[.string ⟨#[98,97,115,115]⟩,.int .u8 70,Z 2,Z 0,Z 22,Z (-3),Z (-5)]
 |2=>#[.string ⟨#[97,108,116,111]⟩,.int .u8 67,Z 0,Z 0,Z 28,Z (-2),Z (-4)]
 |3=>#[.string ⟨#[116,101,110,111,114]⟩,.int .u8 67,Z 2,Z 0,Z 26,Z (-2),Z (-2)]
 |4=>#[.string ⟨#[115,111,112,114,97,110,111]⟩,.int .u8 67,Z (-4),Z 0,Z 32,Z (-2),Z (-3)]
 |5=>#[.string ⟨#[109,101,122,122,111,115,111,112,114,97,110,111]⟩,.int .u8 67,Z (-2),Z 0,Z 30,Z (-2),Z (-3)]
 |6=>#[.string ⟨#[98,97,114,105,116,111,110,101]⟩,.int .u8 70,Z 0,Z 0,Z 24,Z (-2),Z (-3)]
 |7=>#[.string ⟨#[116,114,101,98,108,101,56]⟩,.int .u8 71,Z (-2),Z (-1),Z 27,Z (-1),Z (-3)]
 | _=>#[.string ⟨#[98,97,115,115,56]⟩,.int .u8 70,Z 2,Z (-1),Z 15,Z (-3),Z (-5)]
def pN:Value:=.agg (iL 0++iL 1++iL 2++iL 3++iL 4++iL 5++iL 6++iL 7++iL 8)
theorem YA:BV 193 [] pN=true:=by kernel_rfl
theorem S9(w:World):Calls Tryz.prog 193 #[] w fun e w'=>e=.returned pN/\Below w.heap.size w w':=mR (args:=[]) rfl rfl YA w
theorem aA2(w:World):(Instr.index 260 pN (Z 0)).run Tryz.prog w=.ok (.agg (iL 0)) w:=by kernel_rfl
theorem aA3(w:World):(Instr.index 260 pN (Z 1)).run Tryz.prog w=.ok (.agg (iL 1)) w:=by kernel_rfl
theorem aA4(w:World):(Instr.index 260 pN (Z 2)).run Tryz.prog w=.ok (.agg (iL 2)) w:=by kernel_rfl
theorem aA5(w:World):(Instr.index 260 pN (Z 3)).run Tryz.prog w=.ok (.agg (iL 3)) w:=by kernel_rfl
theorem aA6(w:World):(Instr.index 260 pN (Z 4)).run Tryz.prog w=.ok (.agg (iL 4)) w:=by kernel_rfl
theorem aA7(w:World):(Instr.index 260 pN (Z 5)).run Tryz.prog w=.ok (.agg (iL 5)) w:=by kernel_rfl
theorem aA8(w:World):(Instr.index 260 pN (Z 6)).run Tryz.prog w=.ok (.agg (iL 6)) w:=by kernel_rfl
theorem aA9(w:World):(Instr.index 260 pN (Z 7)).run Tryz.prog w=.ok (.agg (iL 7)) w:=by kernel_rfl
theorem aBA(w:World):(Instr.index 260 pN (Z 8)).run Tryz.prog w=.ok (.agg (iL 8)) w:=by kernel_rfl
def aP(s:ByteArray):Option Int:=(cM s iA).map fun i=>(i:Int)+1
def pU(s:ByteArray):Int×Int:=match aP s with
 |some n=>(n,0)
 |none=>(0,8)
theorem FW{x:ByteArray}:∀{l:List ByteArray},(∀(j:Nat),l[j]?≠some x)->cM x l=none
 | [],_=>rfl
 |y::l,hn=>by
  have hy:¬x=y:=fun e=>hn 0 (by rw[e];rfl);rw[cM,if_neg hy,FW (l:=l) (fun j=>by have:=hn (j+1);simpa using this)];rfl
theorem tR{l:List UInt8}{s:ByteArray}(h:¬(⟨l.toArray⟩:ByteArray)=s):(l==s.toList)=false:=by
 rw[Go.ByteArray.toList_eq];refine Bool.eq_false_iff.2 fun e=>h ?_;have e:l=s.data.toList:=by simpa using e
 subst e;rfl
theorem aHE(s:ByteArray)(w:World):Calls Tryz.prog 159 #[.string s] w fun e w'=>e=.returned (.tuple #[Z (pU s).1,Z (pU s).2])/\Below w.heap.size w w':=by
 have xk:=S9 w;generalize hV:pN=V at xk;have HV:=aJ hV;clear hV;go_enter Tryz.func159,Tryz.ntmps159;go_wp2_with(go_at_call 193;(with_reducible refine xk.mono ?_));rintro r w1 ⟨rfl,b1⟩;go_wp2
 go_loopg [7] 9 (fun g s7 wr=>∃k:Nat,k<=9/\g=9-k/\s7=Z (k:Nat)/\(∀j,j<k->iA[j]?≠some s)/\Below w.heap.size w wr)
 case atStart=>exact⟨0,by omega,rfl,rfl,fun j hj=>by omega,b1⟩
 case round =>
  obtain⟨k,hk,hg,rfl,hno,hb⟩:=hrel;by_cases hlt:k<9
  ·skip
   rcases(by omega:k=0\/k=1\/k=2\/k=3\/k=4\/k=5\/k=6\/k=7\/k=8)with rfl|rfl|rfl|rfl|rfl|rfl|rfl|rfl|rfl
   ·have hx:=aA2 wr;rw[HV.out]at hx;simp only[iL]at hx;by_cases hs:⟨#[116,114,101,98,108,101]⟩=s
    ·have hf:pU s=(1,0):=by rw[<-hs];decide
     have HF:=aJ hf;have hf2:([116,114,101,98,108,101]==s.toList)=true:=by rw[Go.ByteArray.toList_eq,<-hs];rfl
     clear hno hf;go_wp2;refine qg (qqb rfl _ _ _) rfl ?_;rw[HF.out];exact⟨rfl,hb.alloc hb.size _⟩
    ·have hf2:([116,114,101,98,108,101]==s.toList)=false:=tR hs;have HN:Shut (∀j,j<1->iA[j]?≠some s):=fun j hj=>by
      by_cases h:j<0
      ·exact hno j h
      ·obtain rfl:j=0:=by omega
       intro e;exact hs (by simpa [iA]using e)
     clear hno;go_wp2;go_roundg (9-(0+1));case measure=>omega
     case rel=>exact⟨0+1,by omega,rfl,rfl,HN.out,hb.alloc hb.size _⟩
   ·have hx:=aA3 wr;rw[HV.out]at hx;simp only[iL]at hx;by_cases hs:⟨#[98,97,115,115]⟩=s
    ·have hf:pU s=(2,0):=by rw[<-hs];decide
     have HF:=aJ hf;have hf2:([98,97,115,115]==s.toList)=true:=by rw[Go.ByteArray.toList_eq,<-hs];rfl
     clear hno hf;go_wp2;refine qg (qqb rfl _ _ _) rfl ?_;rw[HF.out];exact⟨rfl,hb.alloc hb.size _⟩
    ·have hf2:([98,97,115,115]==s.toList)=false:=tR hs;have HN:Shut (∀j,j<2->iA[j]?≠some s):=fun j hj=>by
      by_cases h:j<1
      ·exact hno j h
      ·obtain rfl:j=1:=by omega
       intro e;exact hs (by simpa [iA]using e)
     clear hno;go_wp2;go_roundg (9-(1+1));case measure=>omega
     case rel=>exact⟨1+1,by omega,rfl,rfl,HN.out,hb.alloc hb.size _⟩
   ·have hx:=aA4 wr;rw[HV.out]at hx;simp only[iL]at hx;by_cases hs:⟨#[97,108,116,111]⟩=s
    ·have hf:pU s=(3,0):=by rw[<-hs];decide
     have HF:=aJ hf;have hf2:([97,108,116,111]==s.toList)=true:=by rw[Go.ByteArray.toList_eq,<-hs];rfl
     clear hno hf;go_wp2;refine qg (qqb rfl _ _ _) rfl ?_;rw[HF.out];exact⟨rfl,hb.alloc hb.size _⟩
    ·have hf2:([97,108,116,111]==s.toList)=false:=tR hs;have HN:Shut (∀j,j<3->iA[j]?≠some s):=fun j hj=>by
      by_cases h:j<2
      ·exact hno j h
      ·obtain rfl:j=2:=by omega
       intro e;exact hs (by simpa [iA]using e)
     clear hno;go_wp2;go_roundg (9-(2+1));case measure=>omega
     case rel=>exact⟨2+1,by omega,rfl,rfl,HN.out,hb.alloc hb.size _⟩
   ·have hx:=aA5 wr;rw[HV.out]at hx;simp only[iL]at hx;by_cases hs:⟨#[116,101,110,111,114]⟩=s
    ·have hf:pU s=(4,0):=by rw[<-hs];decide
     have HF:=aJ hf;have hf2:([116,101,110,111,114]==s.toList)=true:=by rw[Go.ByteArray.toList_eq,<-hs];rfl
     clear hno hf;go_wp2;refine qg (qqb rfl _ _ _) rfl ?_;rw[HF.out];exact⟨rfl,hb.alloc hb.size _⟩
    ·have hf2:([116,101,110,111,114]==s.toList)=false:=tR hs;have HN:Shut (∀j,j<4->iA[j]?≠some s):=fun j hj=>by
      by_cases h:j<3
      ·exact hno j h
      ·obtain rfl:j=3:=by omega
       intro e;exact hs (by simpa [iA]using e)
     clear hno;go_wp2;go_roundg (9-(3+1));case measure=>omega
     case rel=>exact⟨3+1,by omega,rfl,rfl,HN.out,hb.alloc hb.size _⟩
   ·have hx:=aA6 wr;rw[HV.out]at hx;simp only[iL]at hx;by_cases hs:⟨#[115,111,112,114,97,110,111]⟩=s
    ·have hf:pU s=(5,0):=by rw[<-hs];decide
     have HF:=aJ hf;have hf2:([115,111,112,114,97,110,111]==s.toList)=true:=by rw[Go.ByteArray.toList_eq,<-hs];rfl
     clear hno hf;go_wp2;refine qg (qqb rfl _ _ _) rfl ?_;rw[HF.out];exact⟨rfl,hb.alloc hb.size _⟩
    ·have hf2:([115,111,112,114,97,110,111]==s.toList)=false:=tR hs;have HN:Shut (∀j,j<5->iA[j]?≠some s):=fun j hj=>by
      by_cases h:j<4
      ·exact hno j h
      ·obtain rfl:j=4:=by omega
       intro e;exact hs (by simpa [iA]using e)
     clear hno;go_wp2;go_roundg (9-(4+1));case measure=>omega
     case rel=>exact⟨4+1,by omega,rfl,rfl,HN.out,hb.alloc hb.size _⟩
   ·have hx:=aA7 wr;rw[HV.out]at hx;simp only[iL]at hx;by_cases hs:⟨#[109,101,122,122,111,115,111,112,114,97,110,111]⟩=s
    ·have hf:pU s=(6,0):=by rw[<-hs];decide
     have HF:=aJ hf;have hf2:([109,101,122,122,111,115,111,112,114,97,110,111]==s.toList)=true:=by rw[Go.ByteArray.toList_eq,<-hs];rfl
     clear hno hf;go_wp2;refine qg (qqb rfl _ _ _) rfl ?_;rw[HF.out];exact⟨rfl,hb.alloc hb.size _⟩
    ·have hf2:([109,101,122,122,111,115,111,112,114,97,110,111]==s.toList)=false:=tR hs;have HN:Shut (∀j,j<6->iA[j]?≠some s):=fun j hj=>by
      by_cases h:j<5
      ·exact hno j h
      ·obtain rfl:j=5:=by omega
       intro e;exact hs (by simpa [iA]using e)
     clear hno;go_wp2;go_roundg (9-(5+1));case measure=>omega
     case rel=>exact⟨5+1,by omega,rfl,rfl,HN.out,hb.alloc hb.size _⟩
   ·have hx:=aA8 wr;rw[HV.out]at hx;simp only[iL]at hx;by_cases hs:⟨#[98,97,114,105,116,111,110,101]⟩=s
    ·have hf:pU s=(7,0):=by rw[<-hs];decide
     have HF:=aJ hf;have hf2:([98,97,114,105,116,111,110,101]==s.toList)=true:=by rw[Go.ByteArray.toList_eq,<-hs];rfl
     clear hno hf;go_wp2;refine qg (qqb rfl _ _ _) rfl ?_;rw[HF.out];exact⟨rfl,hb.alloc hb.size _⟩
    ·have hf2:([98,97,114,105,116,111,110,101]==s.toList)=false:=tR hs;have HN:Shut (∀j,j<7->iA[j]?≠some s):=fun j hj=>by
      by_cases h:j<6
      ·exact hno j h
      ·obtain rfl:j=6:=by omega
       intro e;exact hs (by simpa [iA]using e)
     clear hno;go_wp2;go_roundg (9-(6+1));case measure=>omega
     case rel=>exact⟨6+1,by omega,rfl,rfl,HN.out,hb.alloc hb.size _⟩
   ·have hx:=aA9 wr;rw[HV.out]at hx;simp only[iL]at hx;by_cases hs:⟨#[116,114,101,98,108,101,56]⟩=s
    ·have hf:pU s=(8,0):=by rw[<-hs];decide
     have HF:=aJ hf;have hf2:([116,114,101,98,108,101,56]==s.toList)=true:=by rw[Go.ByteArray.toList_eq,<-hs];rfl
     clear hno hf;go_wp2;refine qg (qqb rfl _ _ _) rfl ?_;rw[HF.out];exact⟨rfl,hb.alloc hb.size _⟩
    ·have hf2:([116,114,101,98,108,101,56]==s.toList)=false:=tR hs;have HN:Shut (∀j,j<8->iA[j]?≠some s):=fun j hj=>by
      by_cases h:j<7
      ·exact hno j h
      ·obtain rfl:j=7:=by omega
       intro e;exact hs (by simpa [iA]using e)
     clear hno;go_wp2;go_roundg (9-(7+1));case measure=>omega
     case rel=>exact⟨7+1,by omega,rfl,rfl,HN.out,hb.alloc hb.size _⟩
   ·have hx:=aBA wr;rw[HV.out]at hx;simp only[iL]at hx;by_cases hs:⟨#[98,97,115,115,56]⟩=s
    ·have hf:pU s=(9,0):=by rw[<-hs];decide
     have HF:=aJ hf;have hf2:([98,97,115,115,56]==s.toList)=true:=by rw[Go.ByteArray.toList_eq,<-hs];rfl
     clear hno hf;go_wp2;refine qg (qqb rfl _ _ _) rfl ?_;rw[HF.out];exact⟨rfl,hb.alloc hb.size _⟩
    ·have hf2:([98,97,115,115,56]==s.toList)=false:=tR hs;have HN:Shut (∀j,j<9->iA[j]?≠some s):=fun j hj=>by
      by_cases h:j<8
      ·exact hno j h
      ·obtain rfl:j=8:=by omega
       intro e;exact hs (by simpa [iA]using e)
     clear hno;go_wp2;go_roundg (9-(8+1));case measure=>omega
     case rel=>exact⟨8+1,by omega,rfl,rfl,HN.out,hb.alloc hb.size _⟩
  ·obtain rfl:k=9:=by omega
   have HN:Shut (cM s iA=none):=FW fun j=>by
    by_cases hj:j<9
    ·exact hno j hj
    ·rw[List.getElem?_eq_none (by show 9<=j;omega)];intro h;cases h
   clear hno;go_wp2;refine qg (qqb rfl _ _ _) rfl ?_;refine⟨?_,hb⟩;unfold pU aP;rw[HN.out];rfl
end Go.Proofs.YtgkhemnmcgicnaaGreatDoor
