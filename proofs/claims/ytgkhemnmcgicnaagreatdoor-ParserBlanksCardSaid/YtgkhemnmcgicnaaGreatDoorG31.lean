/- Towards the law ParserBlanks, true for every text and all blanks (no condition): one part of the proof. -/
import Derived.Test.YtgkhemnmcgicnaaGreatDoorG01
import Derived.Test.YtgkhemnmcgicnaaGreatDoorG30
namespace Go.Proofs.YtgkhemnmcgicnaaGreatDoor
set_option maxHeartbeats 16000000
set_option maxRecDepth 100000
open Go.RowKit
theorem PN{T:List aX}{s:aD}{p:Nat}(h:(bV T bF s).2=.ok p):∃q,s=.ok q/\p=q+1:=by
 rcases rM T s with⟨h1,h2⟩ |⟨i,h1,h2,h3,h4⟩
 ·rw[h]at h2;cases h2
 ·rw[h3]at h;exact kQ h
theorem J3(T:List aX)(last:Int)(A:A5)(p p':Nat)(h:(aT T last A (.ok p)).2.2=.ok p'):p<p':=by
 rw[vH]at h;simp only at h;obtain⟨q,h1,h2⟩:=PN h;unfold aD.orFail at h1;split at h1
 ·exact absurd h1 (lS T 13 _ q)
 ·injection h1 with h1;omega
theorem WQ{T:List aX}{p k:Nat}{s2:aD}(hp:p<T.length)(h2:∀p',s2=.ok p'->p<p')(h:need T (.ok p)<=k+1):need T s2<=k:=by
 cases s2 with
 |bad e l c=>exact ql _
 |ok p' =>
  have:=h2 p' rfl;unfold need at h⊢;simp only at h⊢;omega
theorem ME(T:List aX)(k:Nat)(last:Int)(A:A5)(e l c:Int):dR T k last A (.bad e l c)=(A,.bad e l c):=by
 cases k with
 |zero=>rfl
 |succ k=>rw[dR,if_neg (by simp[aD.good])]
theorem Tryz.infoInt3:(Tryz.prog.info? 3).map (fun i=>(i.zero.map fun z=>z.cells.size,i.size,i.bytes))=some (some 1,1,8):=by kernel_rfl
section
variable{T:List aX}{Bw Bp Bl Be Q E Y M:Nat}{free:Fr}{st st':aD}{last:Int}{F:EF}{A:A5}{w0 w w':World}
theorem Cl.grown(h:Cl T Bw Bp Bl Be Q E Y M free st last F A w0 w){row:Option Nat}(hg:w.grownBy w' row){B:Nat}(hB:Bw<B/\Bp<B/\Bl<B/\Be<B/\Q<B/\E<B/\Y<B/\M<B/\w0.heap.size<=B)(hr:∀k,row=some k->B<=k)(hn:∀k,row=some k->∃cur e,w.heap[k]?=some (.cells cur e (0,0))/\e≠59):Cl T Bw Bp Bl Be Q E Y M free st last F A w0 w':=by
 obtain⟨b1,b2,b3,b4,b5,b6,b7,b8,b9⟩:=hB;have o:∀k o,w.heap[k]?=some o->k<B->w'.heap[k]?=some o:=fun k o hk hl=>(hg.block k (aA hk) fun e=>by have:=hr k e.symm;omega).trans hk;exact⟨h.prs.grown hg fun k hk=>⟨by have:=hr k hk;omega,by have:=hr k hk;omega,hn k hk⟩,o _ _ h.hw b1,o _ _ h.hp b2,o _ _ h.hl b3,o _ _ h.he b4,o _ _ h.hq b5,o _ _ h.hE b6,h.aw.grown hg fun k hk=>by have:=hr k hk;omega,h.bl,h.ne⟩
theorem J4(h:Cl T Bw Bp Bl Be Q E Y M free st last F A w0 w)(hI:MD last A st) :
  Calls Tryz.prog 106 #[.pointer (some ⟨Y,0,none⟩),.func (.func 107) #[] #[.pointer (some ⟨Bw,0,none⟩),.pointer (some ⟨Bp,0,none⟩),.pointer (some ⟨Bl,0,none⟩),.pointer (some ⟨Be,0,none⟩)],.string ⟨#[93]⟩] w fun rr w'=>∃v l',rr=.returned v/\Cl T Bw Bp Bl Be Q E Y M free (bY T ⟨#[93]⟩ (dR T T.length (aT T last A st).1 (aT T last A st).2.1 (aT T last A st).2.2).2) l' F (dR T T.length (aT T last A st).1 (aT T last A st).2.1 (aT T last A st).2.2).1 w0 w':=by
 obtain⟨i0,zz,hi0,hzz,hzc,hz1,hz2⟩:∃i z,Tryz.prog.info? 3=some i/\i.zero=some z/\z.cells.size=1/\i.size=1/\i.bytes=8:=by
  have:=Tryz.infoInt3;cases hi:Tryz.prog.info? 3 with
  |none=>rw[hi]at this;cases this
  |some i =>
   rw[hi]at this;simp only[qqu,qv,qu]at this;cases hz:i.zero with
   |none=>rw[hz]at this;cases this.1
   |some z=>rw[hz]at this;exact⟨i,z,rfl,hz,by simpa using this.1,this.2.1,this.2.2⟩
 have hB:Bw<w.heap.size/\Bp<w.heap.size/\Bl<w.heap.size/\Be<w.heap.size/\Q<w.heap.size/\E<w.heap.size/\Y<w.heap.size/\M<w.heap.size/\w0.heap.size<=w.heap.size :=
  ⟨aA h.hw,aA h.hp,aA h.hl,aA h.he,aA h.hq,aA h.hE,h.prs.lt,h.prs.ltM,h.aw.size⟩
 have hm:=h.prs.good.max;have x1:=AG h hI;have hI1:=hI.step (T:=T);have hn0:need T (aT T last A st).2.2<=T.length:=by
  cases (aT T last A st).2.2 with
  |ok p=>exact Nat.sub_le _ _
  |bad e l c=>exact ql _
 obtain⟨tot,htot⟩:∃tot,tot=dR T T.length (aT T last A st).1 (aT T last A st).2.1 (aT T last A st).2.2:=⟨_,rfl⟩;rw[<-htot];generalize aT T last A st=q1 at x1 htot hn0 hI1;obtain⟨l1,A1,s1⟩:=q1;simp only at x1 htot hn0 hI1;have c9:=fun w' (h:PS T Y M free tot.2 w')=>iX h ⟨#[93]⟩;generalize bY T ⟨#[93]⟩ tot.2=s9 at c9⊢;obtain⟨N,hN⟩:∃N,Shut (T.length=N):=⟨_,rfl⟩;have hN4:N<=4001:=by rw[<-hN.out];exact hm
 rw[hN.out]at htot hn0;have HT:=aJ (And.intro htot hn0);clear h htot hn0 hm hI;go_enter Tryz.func106,Tryz.ntmps106;go_wp2_with(go_at_call 107;refine x1.mono ?_);intro rr w1;first |(intro he V1 a1;subst he)|rintro⟨rfl,V1,a1⟩
 have sz1:=a1.size;have V2:=V1.step ((qb _ w1).alloc (qa _) (.cells #[Z l1] 3));have ho2:(w1.alloc (.cells #[Z l1] 3)).ownsRow w.heap.size 3 1 (.slice (some ⟨w1.heap.size,0,none⟩) 1 1) 1 [Z l1]:=World.ownsRow_lit (size:=1) w1 #[Z l1] 1 sz1 (by decide) rfl;have sz2:w.heap.size<=(w1.alloc (.cells #[Z l1] 3)).heap.size:=by simp;omega
 clear x1 V1 a1;go_wp2
 go_loopg [7] N (fun gk s7 wr=>∃(k:Nat)(last:Int)(xs:List Value)(A2:A5)(s:aD),k+gk=N/\need T s<=gk/\dR T gk last A2 s=tot/\wr.ownsRow w.heap.size 3 1 s7 (k+1) xs/\MD last A2 s/\Cl T Bw Bp Bl Be Q E Y M free s last F A2 w0 wr/\w.heap.size<=wr.heap.size)
 case atStart=>exact⟨0,l1,_,A1,s1,by omega,HT.out.2,HT.out.1.symm,ho2,hI1,V2,sz2⟩
 case round =>
  clear V2 ho2 sz2 hI1;obtain⟨k,last,xs,A2,s,hlen,hneed,htotal,hown,hI,V,szr⟩:=hrel;have hN1:(k:Int)<=4001:=by omega
  obtain⟨ao,cp,rfl⟩:=aL hown;have hlo:∀j,(Value.slice ao (k+1) cp).ownBlock=some j->w.heap.size<=j:=fun j hj=>(hown.lt j hj).1;have hx9:∀w',Cl T Bw Bp Bl Be Q E Y M free s last F A2 w0 w'->s=tot.2->Calls Tryz.prog 54 #[.pointer (some ⟨Y,0,none⟩),.string ⟨#[93]⟩] w' fun r w''=>r=.returned (.tuple #[])/\PS T Y M free s9 w''/\aC [Y,M] w' w'':=fun w' b e=>c9 w' (by rw[<-e];exact b.prs);have HT2:=aJ (And.intro hlen (And.intro hneed htotal));have fin0:dR T gk last A2 s=(A2,s)->A2=tot.1/\s=tot.2:=fun e=>by
   rw[e]at htotal;exact⟨congrArg (·.1) htotal,congrArg (·.2) htotal⟩
  clear htotal hlen hneed;cases s with
  |bad ee el ec =>
   obtain⟨c4,hee⟩:=V.prs.errCell;obtain⟨hl,hs⟩:=fin0 (ME _ _ _ _ _ _ _);have xe:=hx9 wr V hs;clear fin0 hx9;go_wp2_with(go_at_call 54;refine xe.mono ?_);intro r w4;first |(intro he hS4 a4;subst he)|rintro⟨rfl,hS4,a4⟩
   have V4:=V.away a4 hS4;clear xe hown V a4 c4;go_wp2;go_ret;exact⟨_,last,rfl,by rw[<-hl];exact V4⟩
  |ok p =>
   have c4:=V.prs.okCell;have hpl:=V.prs.atCell.2.2;have xi:=KY V.prs ⟨#[93]⟩;cases hb:isS T ⟨#[93]⟩ (.ok p)with
   |true =>
    rw[hb]at xi;obtain⟨hl,hs⟩:=fin0 (by
     cases gk with
     |zero=>rfl
     |succ k=>rw[dR,if_neg (by rw[hb];simp)])
    clear fin0;go_wp2_with(go_at_call 76;refine xi.mono ?_);intro rr w3;first |(intro he b3;subst he)|rintro⟨rfl,b3⟩
    have V3:=V.step b3;have xe:=hx9 w3 V3 hs;clear xi hx9 hown V b3 c4;go_wp2_with(go_at_call 54;refine xe.mono ?_);intro rr w4;first |(intro he hS4 a4;subst he)|rintro⟨rfl,hS4,a4⟩
    have V4:=V3.away a4 hS4;clear xe V3 a4;go_wp2;go_ret;exact⟨_,last,rfl,by rw[<-hl];exact V4⟩
   |false =>
    rw[hb]at xi;obtain⟨g,hgk⟩:∃g,gk=g+1:=by
     have:=HT2.out.2.1;unfold need at this;exact⟨gk-1,by simp only at this;omega⟩
    have hmore:dR T gk last A2 (.ok p)=dR T g (aT T last A2 (.ok p)).1 (aT T last A2 (.ok p)).2.1 (aT T last A2 (.ok p)).2.2:=by
     rw[hgk,dR,if_pos ⟨rfl,hb⟩]
    have hnx:need T (aT T last A2 (.ok p)).2.2<=g:=WQ hpl (J3 T last A2 p) (by have:=HT2.out.2.1;omega);have htot2:=HT2.out.2.2;rw[hmore]at htot2;have hlen2:=HT2.out.1;have hI2:=hI.step (T:=T);have xr:=fun W (bW:Below wr.heap.size wr W)=>AG (V.step bW) hI;generalize aT T last A2 (.ok p)=qq at xr hnx htot2 hI2;obtain⟨l3,A3,s3⟩:=qq;simp only at xr hnx htot2 hI2;have HA:=aJ (And.intro hnx (And.intro htot2 (And.intro hlen2 (And.intro hgk hI2))));clear fin0 hx9 hmore hnx htot2 hlen2 hb HT2 hI hI2;go_wp2_with(go_at_call 76;refine xi.mono ?_);intro rr w3;first |(intro he b3;subst he)|rintro⟨rfl,b3⟩
    have xr3:=xr w3 b3;have hown3:=aB hown fun j hj=>b3.block j (hown.lt j hj).2;have sz3:=b3.size;clear xr xi c4 hown b3 V;go_wp2_with(go_at_call 107;refine xr3.mono ?_);intro rr w4;first |(intro he V4 a4;subst he)|rintro⟨rfl,V4,a4⟩
    have hown4:=aB hown3 fun j hj=>a4.block j (hown3.lt j hj).2 (by
     have:=hlo j hj;obtain⟨b1,b2,b3,b4,b5,b6,b7,b8,b9⟩:=hB;simp;omega)
    have sz4:=a4.size;clear xr3 hown3 a4;go_wp2_with(at_builtin;refine wpList_append_lies _ rfl _ _ 106 rfl w.heap.size 3 i0 _ 1 8 Tryz.underlying106 hi0 hzz hz1 hz2 hzc (by omega) _ (k+1) _ rfl (hown4.alloc _) ⟨w4.heap.size,0,none⟩ 1 1 [Z l3] rfl rfl (World.news_of_block (cs:=#[Z l3]) (t:=3) (fr:=(0,0)) (qd _ _)) (by simp[Value.oneCell']) (by omega) (by unfold maxLen;omega) (by omega) (by simp;omega) (w4.heap.size+1) (by simp) ?_;intro gg wcap w5 hown5 hgrow hat hgl);go_roundg (gk-1);case measure=>have:=HA.out.2.2.2.1;omega
    case rel =>
     obtain⟨q1,q2,q3,q4,q5⟩:=HA.out;have e1:gk-1=g:=by omega
     rw[e1];exact⟨k+1,l3,_,A3,s3,by omega,q1,q2,hown5,q5,(V4.step ((qb _ w4).alloc (qa _) _)).grown hgrow hB hlo (fun j hj=>by
      obtain⟨cur',hc'⟩:=bA hown4 hj;exact⟨cur',3,(Lib.alloc_old w4 _ _ (aA hc')).trans hc',by decide⟩),by have:=hgrow.size;simp at this;omega⟩
end
section
variable{T:List aX}{E Y M:Nat}{free:Fr}{st:aD}{F:EF}{w w':World}
theorem DA{B:Nat}{a w:World}(h:Below B a w){Q:Nat}(hQ:B<=Q)(o:Obj):Below B a { w with heap:=w.heap.setIfInBounds Q o } :=
 ⟨h.os,h.tape,h.output,by simpa using h.size,fun k hk=>by
  show(w.heap.setIfInBounds Q o)[k]?=_;rw[Array.getElem?_setIfInBounds_ne (by omega)];exact h.block k hk⟩
theorem MF{w:World}{Q k:Nat}{o o':Obj}(h:w.heap[k]?=some o)(hk:Q≠k):({ w with heap:=w.heap.setIfInBounds Q o' }:World).heap[k]?=some o:=by
 show(w.heap.setIfInBounds Q o')[k]?=_;rw[Array.getElem?_setIfInBounds_ne hk];exact h
theorem aAX{w:World}{Q:Nat}{o o':Obj}(h:w.heap[Q]?=some o):({ w with heap:=w.heap.setIfInBounds Q o' }:World).heap[Q]?=some o':=by
 show(w.heap.setIfInBounds Q o')[Q]?=_;rw[Array.getElem?_setIfInBounds_self_of_lt (qe.1 h).1]
theorem MG(h:PS T Y M free st w)(hE:w.heap[E]?=some (.cells (F.c ⟨0,0,0,0,0⟩) 31 (0,0)))(hEY:E≠Y)(hEM:E≠M) :
  Calls Tryz.prog 60 #[.pointer (some ⟨Y,0,none⟩),.pointer (some ⟨E,0,none⟩)] w fun rr w'=>rr=.returned (.tuple #[])/\PS T Y M free (BN T st).2 w'/\w'.heap[E]?=some (.cells (F.c (BN T st).1) 31 (0,0))/\aC [Y,M,E] w w':=by
 have hYl:=h.lt;have hMl:=h.ltM;have hEl:=aA hE;have hres:BN T st=((dR T T.length (aT T (-1) ⟨0,0,0,0,0⟩ st).1 (aT T (-1) ⟨0,0,0,0,0⟩ st).2.1 (aT T (-1) ⟨0,0,0,0,0⟩ st).2.2).1,bY T ⟨#[93]⟩ (dR T T.length (aT T (-1) ⟨0,0,0,0,0⟩ st).1 (aT T (-1) ⟨0,0,0,0,0⟩ st).2.1 (aT T (-1) ⟨0,0,0,0,0⟩ st).2.2).2):=rfl;rw[hres];clear hres;have xsv:=fun(Bw Bp Bl Be Q:Nat)(w1:World)(V:Cl T Bw Bp Bl Be Q E Y M free st (-1) F ⟨0,0,0,0,0⟩ w w1)=>J4 V (MD.start st);generalize (dR T T.length (aT T (-1) ⟨0,0,0,0,0⟩ st).1 (aT T (-1) ⟨0,0,0,0,0⟩ st).2.1 (aT T (-1) ⟨0,0,0,0,0⟩ st).2.2).1=A9 at xsv⊢;generalize bY T ⟨#[93]⟩ (dR T T.length (aT T (-1) ⟨0,0,0,0,0⟩ st).1 (aT T (-1) ⟨0,0,0,0,0⟩ st).2.1 (aT T (-1) ⟨0,0,0,0,0⟩ st).2.2).2=s9 at xsv⊢;have hmk:∀ww:World,(Instr.makeMap 164 none).run Tryz.prog ww=.ok (.map (some ww.heap.size)) (ww.alloc (.map #[] 0)):=fun ww=>by
  simp[Instr.makeMap,newObj,Sem.run]
 have b1:=(qb w.heap.size w).alloc (qa _) (.cells #[.pointer (some ⟨Y,0,none⟩)] 69);have b2:=b1.alloc b1.size (.cells #[.pointer (some ⟨E,0,none⟩)] 84);have b3:=b2.alloc b2.size (.map #[] 0);have b4:=b3.alloc b3.size (.cells #[.map (some (w.heap.size+1+1))] 164);have b5:=b4.alloc b4.size pW;have e1:(w.alloc (.cells #[.pointer (some ⟨Y,0,none⟩)] 69)).heap.size=w.heap.size+1:=by simp
 have e2:((w.alloc (.cells #[.pointer (some ⟨Y,0,none⟩)] 69)).alloc (.cells #[.pointer (some ⟨E,0,none⟩)] 84)).heap.size=w.heap.size+1+1:=by simp
 have e3:(((w.alloc (.cells #[.pointer (some ⟨Y,0,none⟩)] 69)).alloc (.cells #[.pointer (some ⟨E,0,none⟩)] 84)).alloc (.map #[] 0)).heap.size=w.heap.size+1+1+1:=by simp
 have e4:((((w.alloc (.cells #[.pointer (some ⟨Y,0,none⟩)] 69)).alloc (.cells #[.pointer (some ⟨E,0,none⟩)] 84)).alloc (.map #[] 0)).alloc (.cells #[.map (some (w.heap.size+1+1))] 164)).heap.size=w.heap.size+1+1+1+1:=by simp
 have old:∀(ww:World)(o o':Obj)(k:Nat),ww.heap[k]?=some o->(ww.alloc o').heap[k]?=some o:=fun ww o o' k hk=>(Lib.alloc_old _ o' _ (qe.1 hk).1).trans hk;have p5:=old _ _ pW _ (old _ _ (.cells #[.map (some (w.heap.size+1+1))] 164) _ (old _ _ (.map #[] 0) _ (old _ _ (.cells #[.pointer (some ⟨E,0,none⟩)] 84) _ (qd w (.cells #[.pointer (some ⟨Y,0,none⟩)] 69)))));have q2:=qd (w.alloc (.cells #[.pointer (some ⟨Y,0,none⟩)] 69)) (.cells #[.pointer (some ⟨E,0,none⟩)] 84);rw[e1]at q2;have q5:=old _ _ pW _ (old _ _ (.cells #[.map (some (w.heap.size+1+1))] 164) _ (old _ _ (.map #[] 0) _ q2));have m3:=qd ((w.alloc (.cells #[.pointer (some ⟨Y,0,none⟩)] 69)).alloc (.cells #[.pointer (some ⟨E,0,none⟩)] 84)) (.map #[] 0);rw[e2]at m3;have m5:=old _ _ pW _ (old _ _ (.cells #[.map (some (w.heap.size+1+1))] 164) _ m3);have n4:=qd (((w.alloc (.cells #[.pointer (some ⟨Y,0,none⟩)] 69)).alloc (.cells #[.pointer (some ⟨E,0,none⟩)] 84)).alloc (.map #[] 0)) (.cells #[.map (some (w.heap.size+1+1))] 164);rw[e3]at n4;have n5:=old _ _ pW _ n4;have r5:=qd ((((w.alloc (.cells #[.pointer (some ⟨Y,0,none⟩)] 69)).alloc (.cells #[.pointer (some ⟨E,0,none⟩)] 84)).alloc (.map #[] 0)).alloc (.cells #[.map (some (w.heap.size+1+1))] 164)) pW;rw[e4]at r5;clear q2 m3 n4 b1 b2 b3 b4 e1 e2 e3 e4 old;go_enter Tryz.func60,Tryz.ntmps60;go_wp2_with(go_at_call 105;(with_reducible refine(S5 _).mono ?_);rintro rr ww ⟨rfl,rfl⟩);generalize ((((w.alloc (.cells #[.pointer (some ⟨Y,0,none⟩)] 69)).alloc (.cells #[.pointer (some ⟨E,0,none⟩)] 84)).alloc (.map #[] 0)).alloc (.cells #[.map (some (w.heap.size+1+1))] 164)).alloc pW=wA at b5 p5 q5 m5 n5 r5⊢;have lt1:w.heap.size+1+1<w.heap.size+1+1+1+1:=by omega
 have lt2:w.heap.size+1+1<w.heap.size+1+1+1:=by omega
 have lt3:w.heap.size+1<w.heap.size+1+1:=by omega
 have lt4:w.heap.size<w.heap.size+1:=by omega
 generalize w.heap.size+1+1+1+1=R at r5 lt1⊢;generalize w.heap.size+1+1+1=Bw at n5 lt2⊢;generalize w.heap.size+1+1=Q at m5 n5 lt1 lt2 lt3⊢;generalize w.heap.size+1=Be at q5 lt3 lt4⊢;have H0:=aJ (And.intro h (And.intro hE (And.intro hYl (And.intro hMl hEl))));have lt5:w.heap.size<w.heap.size+1+1+1:=by omega
 clear h hE hYl hMl hEl
 go_loopg [11] 22 (fun g s11 wr=>∃k:Nat,k<=22/\g=22-k/\s11=Z (k:Nat)/\Below w.heap.size w wr/\wr.heap[w.heap.size]?=some (.cells #[.pointer (some ⟨Y,0,none⟩)] 69 (0,0))/\wr.heap[Be]?=some (.cells #[.pointer (some ⟨E,0,none⟩)] 84 (0,0))/\wr.heap[Q]?=some (.map (wEs k) k)/\wr.heap[Bw]?=some (.cells #[.map (some Q)] 164 (0,0))/\wr.heap[R]?=some pW)
 case atStart=>exact⟨0,by omega,rfl,rfl,b5,p5,q5,m5,n5,r5⟩
 case round =>
  clear b5 p5 q5 m5 n5 r5;obtain⟨k,hk,hg,rfl,bb,hp,hq,hm,hn,hr⟩:=hrel;by_cases hlt:k<22
  ·have hlt':(k:Int)<22:=by omega
   have hk0:(0:Int)<=(k:Int):=by omega
   have m1:IntKind.i64.wrap ((k:Int)+1)=(k:Int)+1:=IntWalk.i64_in _ (by omega);have cR:wr.cell? ⟨R,k,none⟩=some (.string (AF k)):=by rw[Lib.cell_of_heap hr];simp[PK hlt]
   have cW:wr.cell? ⟨Bw,0,none⟩=some (.map (some Q)):=by rw[Lib.cell_of_heap hn];rfl
   have hput:=yZ hm (AF k) (Z (k:Nat)) (PL hlt);rw[aAS hlt]at hput;generalize AF k=tx at cR hput;go_wp2;go_roundg (22-(k+1));case measure=>omega
   case rel =>
    exact⟨k+1,by omega,rfl,by simp,DA bb (by omega) _,MF hp (by omega),MF hq (by omega),aAX hm,MF hn (by omega),MF hr (by omega)⟩
  ·have hkl:k=22:=by omega
   subst hkl;obtain⟨h,hE,hYl,hMl,hEl⟩:=H0.out;have bl:=bb.alloc bb.size (.cells #[Z (-1)] 3);have szr:=bb.size;have old:∀(o:Obj)(k:Nat),wr.heap[k]?=some o->(wr.alloc (.cells #[Z (-1)] 3)).heap[k]?=some o:=fun o k hk=>(Lib.alloc_old _ _ _ (qe.1 hk).1).trans hk;have V:Cl T Bw w.heap.size wr.heap.size Be Q E Y M free st (-1) F ⟨0,0,0,0,0⟩ w (wr.alloc (.cells #[Z (-1)] 3)) :=
    ⟨h.step bl,old _ _ hn,old _ _ hp,qd wr _,old _ _ hq,old _ _ hm,(bl.block _ hEl).trans hE,aC.of_below bl,szr,fun k hk=>by
     simp only[qqt,List.not_mem_nil,or_false]at hk;rcases hk with rfl|rfl|rfl|rfl|rfl|rfl
     ·exact⟨by omega,by omega⟩
     ·exact⟨by omega,by omega⟩
     ·exact⟨by omega,by omega⟩
     ·exact⟨by omega,by omega⟩
     ·exact⟨by omega,by omega⟩
     ·exact⟨hEY,hEM⟩⟩
   have xs:=xsv _ _ _ _ _ _ V;have cP:(wr.alloc (.cells #[Z (-1)] 3)).cell? ⟨w.heap.size,0,none⟩=some (.pointer (some ⟨Y,0,none⟩)):=by rw[Lib.cell_of_heap (old _ _ hp)];rfl
   clear V bl old hp hq hm hn hr bb h hE xsv;go_wp2_with(go_at_call 106;(with_reducible refine xs.mono ?_));rintro rr w5 ⟨v,l',rfl,V5⟩;go_wp2
   go_end0
   exact⟨rfl,V5.prs,V5.hE,V5.aw⟩
end
theorem Tryz.infosyll:(Tryz.prog.info? 147).map (fun i=>(i.zero.map fun z=>z.cells.size,i.size,i.bytes))=some (some 2,2,24):=by kernel_rfl
theorem aGG(T:List aX)(k:Nat)(s:aD)(h:rZ T s=false):qD T k s=([],s):=by
 cases k with
 |zero=>rfl
 |succ k=>rw[qD,if_neg (by rw[h];decide)]
theorem aD1(T:List aX)(k:Nat)(s:aD)(h:rZ T s=true):qD T (k+1) s=((iV T s).1::(qD T k (iV T s).2).1,(qD T k (iV T s).2).2):=by
 rw[qD,if_pos h]
theorem SD{T:List aX}{s:aD}(h:rZ T s=true):∃p,s=.ok p:=by
 cases s with
 |ok p=>exact⟨p,rfl⟩
 |bad e l c=>exact absurd h (by simp[rZ,isS,wX,aZ,cH])
theorem Z5{T:List aX}{s:aD}(h:(aZ T s).kind=3)(x:ByteArray):isS T x s=false:=by
 unfold isS wX;rw[h];rfl
theorem aJR{T:List aX}{s:aD}{p':Nat}(h3:(aZ T s).kind=3)(h:(fU T s).2=.ok p'):∃q,s=.ok q/\p'=q+1:=by
 unfold fU at h;rw[if_pos h3]at h;exact kQ h
theorem L0{T:List aX}{p p':Nat}(hb:rZ T (.ok p)=true)(h:(iV T (.ok p)).2=.ok p'):p<p':=by
 unfold iV at h;by_cases hu:isS T ⟨#[95]⟩ (.ok p)=true
 ·rw[if_pos hu]at h;obtain⟨q,h1,h2⟩:=kQ (k:=1) (s:=.ok p) h;injection h1 with h1;omega
 ·rw[if_neg hu]at h;have h3:(aZ T (.ok p)).kind=3:=by
   unfold rZ at hb;rw[Bool.eq_false_iff.2 hu,Bool.or_false]at hb;exact of_decide_eq_true hb
  have key:∀q,(fU T (.ok p)).2=.ok q->p<q:=fun q hq=>by
   obtain⟨q2,h1,h2⟩:=aJR h3 hq;injection h1 with h1;omega
  simp only at h;repeat' split at h
  all_goals first
   |exact key _ h
   |(obtain⟨q,h1,h2⟩:=kQ (k:=1) (s:=(fU T (.ok p)).2) h;have:=key q h1;omega)
section
variable{T:List aX}{Y M:Nat}{free:Fr}{st:aD}{w:World}
theorem aD2(h:PS T Y M free st w) :
  Calls Tryz.prog 61 #[.pointer (some ⟨Y,0,none⟩)] w fun rr w'=>∃v,rr=.returned v/\w'.ownsRow w.heap.size 147 2 v (qD T T.length st).1.length (bT eY.cells (qD T T.length st).1)/\PS T Y M free (qD T T.length st).2 w'/\aC [Y,M] w w':=by
 obtain⟨i0,zz,hi0,hzz,hzc,hz1,hz2⟩:∃i z,Tryz.prog.info? 147=some i/\i.zero=some z/\z.cells.size=2/\i.size=2/\i.bytes=24:=by
  have:=Tryz.infosyll;cases hi:Tryz.prog.info? 147 with
  |none=>rw[hi]at this;cases this
  |some i =>
   rw[hi]at this;simp only[qqu,qv,qu]at this;cases hz:i.zero with
   |none=>rw[hz]at this;cases this.1
   |some z=>rw[hz]at this;exact⟨i,z,rfl,hz,by simpa using this.1,this.2.1,this.2.2⟩
 have hm:=h.good.max;have lY:=h.lt;have lM:=h.ltM;have hn0:need T st<=T.length:=by
  cases st with
  |ok p=>exact Nat.sub_le _ _
  |bad e l c=>exact ql _
 obtain⟨tot,htot⟩:∃tot,tot=qD T T.length st:=⟨_,rfl⟩;rw[<-htot];obtain⟨N,hN⟩:∃N,Shut (T.length=N):=⟨_,rfl⟩;have hN4:N<=4001:=by rw[<-hN.out];exact hm
 rw[hN.out]at htot hn0;have HT:=aJ (And.intro htot.symm hn0);have hS0:=h;have a0:=aC.refl [Y,M] w;have ho0:w.ownsRow w.heap.size 147 2 (.slice none 0 0) 0 (bT eY.cells []):=qw w _ _ _;clear h htot hn0 hm;go_enter Tryz.func61,Tryz.ntmps61;go_wp2
 go_loopg [3] N (fun gk s3 wr=>∃(l:List eY)(s:aD),l.length+gk=N/\need T s<=gk/\(l++(qD T gk s).1,(qD T gk s).2)=tot/\wr.ownsRow w.heap.size 147 2 s3 l.length (bT eY.cells l)/\PS T Y M free s wr/\aC [Y,M] w wr)
 case atStart=>exact⟨[],st,by simp,HT.out.2,by rw[HT.out.1];rfl,ho0,hS0,a0⟩
 case round =>
  clear hS0 a0 ho0;obtain⟨l,s,hlen,hneed,htotal,hown,hS,aw⟩:=hrel;have hN1:(l.length:Int)<=4001:=by omega
  obtain⟨ao,cp,rfl⟩:=aL hown;have hlo:∀j,(Value.slice ao l.length cp).ownBlock=some j->w.heap.size<=j:=fun j hj=>(hown.lt j hj).1;have fin0:rZ T s=false->l=tot.1/\s=tot.2:=fun e=>by
   rw[aGG T gk s e,qqe]at htotal;exact⟨congrArg (·.1) htotal,congrArg (·.2) htotal⟩
  have more:rZ T s=true->∃g,gk=g+1/\(l++[(iV T s).1]).length+g=N/\need T (iV T s).2<=g/\((l++[(iV T s).1])++(qD T g (iV T s).2).1,(qD T g (iV T s).2).2)=tot:=fun e=>by
   obtain⟨p,rfl⟩:=SD e;have hpl:=hS.atCell.2.2;obtain⟨g,rfl⟩:∃g,gk=g+1:=⟨gk-1,by unfold need at hneed;simp only at hneed;omega⟩;refine⟨g,rfl,by simp only[qf,qk,qql];omega,WQ hpl (fun p' hp'=>L0 e hp') hneed,?_⟩;rw[aD1 T g _ e]at htotal;rw[<-htotal];simp
  have xp:=nX hS;have xi:=fun w' (b:Below wr.heap.size wr w')=>KY (hS.step b) ⟨#[95]⟩;have xa:=fun w' (b:Below wr.heap.size wr w')=>d9 (hS.step b) ⟨#[95]⟩;have hsb:rZ T s=(decide ((aZ T s).kind=3) || isS T ⟨#[95]⟩ s):=rfl;have hs3:=fun h3:(aZ T s).kind=3=>Z5 h3 ⟨#[95]⟩;have hau:isS T ⟨#[95]⟩ s=true->iV T s=(⟨ByteArray.empty,2⟩,s.next 1)/\aY T ⟨#[95]⟩ s=s.next 1:=fun e=>⟨by unfold iV;rw[if_pos e],by unfold aY;rw[if_pos e]⟩;have han:isS T ⟨#[95]⟩ s=false->aY T ⟨#[95]⟩ s=s/\((aZ T (fU T s).2).joined=false->iV T s=(⟨(fU T s).1,0⟩,(fU T s).2))/\((aZ T (fU T s).2).joined=true->isS T ⟨#[45]⟩ (fU T s).2=true->iV T s=(⟨(fU T s).1,1⟩,(fU T s).2.next 1))/\((aZ T (fU T s).2).joined=true->isS T ⟨#[45]⟩ (fU T s).2=false->isS T ⟨#[95]⟩ (fU T s).2=true->iV T s=(⟨(fU T s).1,2⟩,(fU T s).2.next 1))/\((aZ T (fU T s).2).joined=true->isS T ⟨#[45]⟩ (fU T s).2=false->isS T ⟨#[95]⟩ (fU T s).2=false->iV T s=(⟨(fU T s).1,0⟩,(fU T s).2)):=fun e=>by
   refine⟨by unfold aY;rw[e];rfl,fun j => ?_,fun j h1 => ?_,fun j h1 h2 => ?_,fun j h1 h2 => ?_⟩
   ·unfold iV;rw[e];simp only[j];rfl
   ·unfold iV;rw[e];simp only[j,h1];rfl
   ·unfold iV;rw[e];simp only[j,h1,h2];rfl
   ·unfold iV;rw[e];simp only[j,h1,h2];rfl
  have xstr:=fun w' (hh:PS T Y M free s w')=>X2 hh;generalize fU T s=qs at han xstr;obtain⟨y,s1⟩:=qs;simp only at han xstr;have xp1:=fun w' (hh:PS T Y M free s1 w')=>nX hh;have xm:=fun w' (hh:PS T Y M free s1 w')=>d9 hh ⟨#[45]⟩;have xu:=fun w' (hh:PS T Y M free s1 w')=>d9 hh ⟨#[95]⟩;have hm1:isS T ⟨#[45]⟩ s1=true->aY T ⟨#[45]⟩ s1=s1.next 1:=fun e=>by unfold aY;rw[if_pos e]
  have hm0:isS T ⟨#[45]⟩ s1=false->aY T ⟨#[45]⟩ s1=s1:=fun e=>by unfold aY;rw[e];rfl
  have hu1:isS T ⟨#[95]⟩ s1=true->aY T ⟨#[95]⟩ s1=s1.next 1:=fun e=>by unfold aY;rw[if_pos e]
  have hu0:isS T ⟨#[95]⟩ s1=false->aY T ⟨#[95]⟩ s1=s1:=fun e=>by unfold aY;rw[e];rfl
  generalize aY T ⟨#[45]⟩ s1=sm at xm hm1 hm0;generalize aY T ⟨#[95]⟩ s1=su at xu hu1 hu0;generalize aY T ⟨#[95]⟩ s=sa at xa hau han;generalize isS T ⟨#[45]⟩ s1=bm at xm hm1 hm0 han;generalize isS T ⟨#[95]⟩ s1=bu at xu hu1 hu0 han;generalize isS T ⟨#[95]⟩ s=ba at xi xa hsb hs3 hau han;unfold uL at xp xp1;generalize aZ T s=t at xp hsb hs3;obtain⟨kd,text,v,bt,lin,cln,j⟩:=t;generalize aZ T s1=t1 at xp1 han;obtain⟨kd1,text1,v1,bt1,lin1,cln1,j1⟩:=t1;simp only at xp hsb hs3 xp1 han;have hfd:=BH kd v lin cln text bt j;have hfd6:=aKR kd1 v1 lin1 cln1 text1 bt1 j1;clear htotal hlen hneed;by_cases hk:kd=3
  ·subst hk;obtain rfl:ba=false:=hs3 rfl;obtain⟨g,hgk,q1,q2,q3⟩:=more (by rw[hsb];rfl);obtain⟨rfl,hj0,hj1,hj2,hj3⟩:=han rfl;clear hsb hs3 hau han more fin0 xi hS;go_wp2_with(go_at_call 62;refine xp.mono ?_);intro rr w1;first |(intro he b1;subst he)|rintro⟨rfl,b1⟩
   have xa1:=xa _ b1;have hown1:=aB hown fun j hj=>b1.block j (hown.lt j hj).2;have aw1:=aw.step b1;clear xp xa hown aw b1;go_wp2_with(go_at_call 53;refine xa1.mono ?_);intro rr w2;first |(intro he hS2 a2;subst he)|rintro⟨rfl,hS2,a2⟩
   have xs:=xstr _ hS2;have hown2:=aB hown1 fun j hj=>a2.block j (hown1.lt j hj).2 (by have:=hlo j hj;simp;omega);have aw2:=aw1.trans a2;clear xa1 xstr hown1 aw1 a2 hS2;go_wp2_with(go_at_call 91;refine xs.mono ?_);intro rr w3;first |(intro he hS3 a3;subst he)|rintro⟨rfl,hS3,a3⟩
   have hown3:=aB hown2 fun j hj=>a3.block j (hown2.lt j hj).2 (by have:=hlo j hj;simp;omega);have aw3:=aw2.trans a3;have sz3:=aw3.size;have bK:=(qb _ w3).alloc (qa _) (.cells #[.string y,Z 0] 147);have hK:=qd w3 (.cells #[.string y,Z 0] 147);have hS3a:=hS3.step bK;have hown3a:=hown3.alloc (.cells #[.string y,Z 0] 147);have aw3a:=aw3.step bK;have xp3:=xp1 _ hS3a;have hKn:∀j,(Value.slice ao l.length cp).ownBlock=some j->j≠w3.heap.size:=fun j hj=>by have:=(hown3.lt j hj).2;omega
   clear xs xp1 hown2 aw2 a3 hS3 hown3 bK;go_wp2_with(go_at_call 62;refine xp3.mono ?_);intro rr w4;first |(intro he b4;subst he)|rintro⟨rfl,b4⟩
   have hS4:=hS3a.step b4;have hown4:=aB hown3a fun j hj=>b4.block j (hown3a.lt j hj).2;have aw4:=aw3a.step b4;have hK4:=(b4.block _ (aA hK)).trans hK;clear xp3 hS3a hown3a aw3a b4 hK aw3;generalize hKK:w3.heap.size=K at hK4 hKn sz3⊢;have hKY:K≠Y:=by omega
   have hKM:K≠M:=by omega
   cases j1 with
   |false =>
    have hr:=hj0 (by trivial);rw[hr]at q1 q2 q3;have cK0:w4.cell? ⟨K,0,none⟩=some (.string y):=by rw[Lib.cell_of_heap hK4];rfl
    have cK1:w4.cell? ⟨K,1,none⟩=some (Z 0):=by rw[Lib.cell_of_heap hK4];rfl
    clear hj0 hj1 hj2 hj3 hr xm xu hm1 hm0 hu1 hu0;have szw:=aw4.size;have hnew:(w4.alloc (.cells #[.string y,Z 0] 147)).heap[w4.heap.size]?=some (.cells #[.string y,Z 0] 147 (0,0)):=qd _ _;have HQ:=aJ (And.intro hgk (And.intro q1 (And.intro q2 q3)));have HC:=aJ (eV eY.cells l ⟨y,0⟩);generalize bT eY.cells l=cur at hown4 HC;clear hgk q1 q2 q3;go_wp2_with(at_builtin;refine wpList_append_lies _ rfl _ _ 29 rfl w.heap.size 147 i0 _ 2 24 Tryz.underlying29 hi0 hzz hz1 hz2 hzc (by omega) _ l.length _ rfl (hown4.alloc _) ⟨w4.heap.size,0,none⟩ 1 1 #[.string y,Z 0].toList rfl rfl (World.news_of_block (cs:=#[.string y,Z 0]) (t:=147) (fr:=(0,0)) hnew) (by simp[Value.oneCell']) (by omega) (by unfold maxLen;omega) (by omega) (by simp;omega) (w4.heap.size+1) (by simp) ?_;intro gg wcap w9 hown9 hgrow hat hgl);go_roundg (gk-1);case measure=>have:=HQ.out.1;omega
    case rel =>
     obtain⟨r1,r2,r3,r4⟩:=HQ.out;have e1:gk-1=g:=by omega
     rw[e1];refine⟨l++[⟨y,0⟩],_,r2,r3,r4,?_,(hS4.step ((qb _ w4).alloc (qa _) _)).grown hgrow (fun j hj => ?_),(aw4.alloc _).grown hgrow hlo⟩
     ·rw[HC.out,qf];exact hown9
     ·have h1:=hlo j hj;obtain⟨cur',hc'⟩:=bA hown4 hj;exact⟨by omega,by omega,cur',147,(Lib.alloc_old w4 _ _ (aA hc')).trans hc',by decide⟩
   |true =>
    have xm4:=xm _ hS4;clear xm;go_wp2_with(go_at_call 53;refine xm4.mono ?_);intro rr w5;first |(intro he hS5 a5;subst he)|rintro⟨rfl,hS5,a5⟩
    have hown5:=aB hown4 fun j hj=>a5.block j (hown4.lt j hj).2 (by have:=hlo j hj;simp;omega);have aw5:=aw4.trans a5;have hK5:=a5.at hK4 (by simp;omega);clear xm4 hown4 aw4 a5 hK4 hS4;cases bm with
    |true =>
     have hr:=hj1 (by trivial) (by trivial);rw[hr]at q1 q2 q3;rw[hm1 (by trivial)]at hS5;have cK0:w5.cell? ⟨K,0,none⟩=some (.string y):=by rw[Lib.cell_of_heap hK5];rfl
     have cK1:w5.cell? ⟨K,1,none⟩=some (Z 0):=by rw[Lib.cell_of_heap hK5];rfl
     have fK1:=Lib.frozen_of_heap hK5 1;have nKK:K≠w5.heap.size:=by have:=aA hK5;omega
     have oK:∀j,j≠K->(w5.setCell ⟨K,1,none⟩ (Z 1)).heap[j]?=w5.heap[j]?:=fun j hj=>aH w5 K 1 _ j hj;have hS8:=hS5.put hKY hKM hK5 (by decide) oK;have hown8:=aB hown5 fun j hj=>oK j (hKn j hj);have aw8:=aw5.setCell (p:=⟨K,1,none⟩) (.inr sz3) (Z 1);have sz8:(w5.setCell ⟨K,1,none⟩ (Z 1)).heap.size=w5.heap.size:=by simp[World.setCell]
     clear hj0 hj1 hj2 hj3 hr hm1 hm0 hu1 hu0 hown5 aw5 hK5 hS5 oK;have szw:=aw8.size;have hnew:((w5.setCell ⟨K,1,none⟩ (Z 1)).alloc (.cells #[.string y,Z 1] 147)).heap[w5.heap.size]?=some (.cells #[.string y,Z 1] 147 (0,0)):=by rw[<-sz8];exact qd _ _
     have HQ:=aJ (And.intro hgk (And.intro q1 (And.intro q2 q3)));have HC:=aJ (eV eY.cells l ⟨y,1⟩);generalize bT eY.cells l=cur at hown8 HC;clear hgk q1 q2 q3;go_wp2_with(at_builtin;refine wpList_append_lies _ rfl _ _ 29 rfl w.heap.size 147 i0 _ 2 24 Tryz.underlying29 hi0 hzz hz1 hz2 hzc (by omega) _ l.length _ rfl (hown8.alloc _) ⟨w5.heap.size,0,none⟩ 1 1 #[.string y,Z 1].toList rfl rfl (World.news_of_block (cs:=#[.string y,Z 1]) (t:=147) (fr:=(0,0)) hnew) (by simp[Value.oneCell']) (by omega) (by unfold maxLen;omega) (by omega) (by simp;omega) (w5.heap.size+1) (by simp) ?_;intro gg wcap w9 hown9 hgrow hat hgl);go_roundg (gk-1);case measure=>have:=HQ.out.1;omega
     case rel =>
      obtain⟨r1,r2,r3,r4⟩:=HQ.out;have e1:gk-1=g:=by omega
      rw[e1];refine⟨l++[⟨y,1⟩],_,r2,r3,r4,?_,(hS8.step ((qb _ (w5.setCell ⟨K,1,none⟩ (Z 1))).alloc (qa _) _)).grown hgrow (fun j hj => ?_),(aw8.alloc _).grown hgrow hlo⟩
      ·rw[HC.out,qf];exact hown9
      ·have h1:=hlo j hj;obtain⟨cur',hc'⟩:=bA hown8 hj;exact⟨by omega,by omega,cur',147,(Lib.alloc_old (w5.setCell ⟨K,1,none⟩ (Z 1)) _ _ (aA hc')).trans hc',by decide⟩
    |false =>
     rw[hm0 (by trivial)]at hS5;have xu5:=xu _ hS5;clear xu;go_wp2_with(go_at_call 53;refine xu5.mono ?_);intro rr w6;first |(intro he hS6 a6;subst he)|rintro⟨rfl,hS6,a6⟩
     have hown6:=aB hown5 fun j hj=>a6.block j (hown5.lt j hj).2 (by have:=hlo j hj;simp;omega);have aw6:=aw5.trans a6;have hK6:=a6.at hK5 (by simp;omega);clear xu5 hown5 aw5 a6 hK5 hS5;cases bu with
     |true =>
      have hr:=hj2 (by trivial) (by trivial) (by trivial);rw[hr]at q1 q2 q3;rw[hu1 (by trivial)]at hS6;have cK0:w6.cell? ⟨K,0,none⟩=some (.string y):=by rw[Lib.cell_of_heap hK6];rfl
      have cK1:w6.cell? ⟨K,1,none⟩=some (Z 0):=by rw[Lib.cell_of_heap hK6];rfl
      have fK1:=Lib.frozen_of_heap hK6 1;have nKK:K≠w6.heap.size:=by have:=aA hK6;omega
      have oK:∀j,j≠K->(w6.setCell ⟨K,1,none⟩ (Z 2)).heap[j]?=w6.heap[j]?:=fun j hj=>aH w6 K 1 _ j hj;have hS8:=hS6.put hKY hKM hK6 (by decide) oK;have hown8:=aB hown6 fun j hj=>oK j (hKn j hj);have aw8:=aw6.setCell (p:=⟨K,1,none⟩) (.inr sz3) (Z 2);have sz8:(w6.setCell ⟨K,1,none⟩ (Z 2)).heap.size=w6.heap.size:=by simp[World.setCell]
      clear hj0 hj1 hj2 hj3 hr hm1 hm0 hu1 hu0 hown6 aw6 hK6 hS6 oK;have szw:=aw8.size;have hnew:((w6.setCell ⟨K,1,none⟩ (Z 2)).alloc (.cells #[.string y,Z 2] 147)).heap[w6.heap.size]?=some (.cells #[.string y,Z 2] 147 (0,0)):=by rw[<-sz8];exact qd _ _
      have HQ:=aJ (And.intro hgk (And.intro q1 (And.intro q2 q3)));have HC:=aJ (eV eY.cells l ⟨y,2⟩);generalize bT eY.cells l=cur at hown8 HC;clear hgk q1 q2 q3;go_wp2_with(at_builtin;refine wpList_append_lies _ rfl _ _ 29 rfl w.heap.size 147 i0 _ 2 24 Tryz.underlying29 hi0 hzz hz1 hz2 hzc (by omega) _ l.length _ rfl (hown8.alloc _) ⟨w6.heap.size,0,none⟩ 1 1 #[.string y,Z 2].toList rfl rfl (World.news_of_block (cs:=#[.string y,Z 2]) (t:=147) (fr:=(0,0)) hnew) (by simp[Value.oneCell']) (by omega) (by unfold maxLen;omega) (by omega) (by simp;omega) (w6.heap.size+1) (by simp) ?_;intro gg wcap w9 hown9 hgrow hat hgl);go_roundg (gk-1);case measure=>have:=HQ.out.1;omega
      case rel =>
       obtain⟨r1,r2,r3,r4⟩:=HQ.out;have e1:gk-1=g:=by omega
       rw[e1];refine⟨l++[⟨y,2⟩],_,r2,r3,r4,?_,(hS8.step ((qb _ (w6.setCell ⟨K,1,none⟩ (Z 2))).alloc (qa _) _)).grown hgrow (fun j hj => ?_),(aw8.alloc _).grown hgrow hlo⟩
       ·rw[HC.out,qf];exact hown9
       ·have h1:=hlo j hj;obtain⟨cur',hc'⟩:=bA hown8 hj;exact⟨by omega,by omega,cur',147,(Lib.alloc_old (w6.setCell ⟨K,1,none⟩ (Z 2)) _ _ (aA hc')).trans hc',by decide⟩
     |false =>
      have hr:=hj3 (by trivial) (by trivial) (by trivial);rw[hr]at q1 q2 q3;rw[hu0 (by trivial)]at hS6;have cK0:w6.cell? ⟨K,0,none⟩=some (.string y):=by rw[Lib.cell_of_heap hK6];rfl
      have cK1:w6.cell? ⟨K,1,none⟩=some (Z 0):=by rw[Lib.cell_of_heap hK6];rfl
      clear hj0 hj1 hj2 hj3 hr hm1 hm0 hu1 hu0;have szw:=aw6.size;have hnew:(w6.alloc (.cells #[.string y,Z 0] 147)).heap[w6.heap.size]?=some (.cells #[.string y,Z 0] 147 (0,0)):=qd _ _;have HQ:=aJ (And.intro hgk (And.intro q1 (And.intro q2 q3)));have HC:=aJ (eV eY.cells l ⟨y,0⟩);generalize bT eY.cells l=cur at hown6 HC;clear hgk q1 q2 q3;go_wp2_with(at_builtin;refine wpList_append_lies _ rfl _ _ 29 rfl w.heap.size 147 i0 _ 2 24 Tryz.underlying29 hi0 hzz hz1 hz2 hzc (by omega) _ l.length _ rfl (hown6.alloc _) ⟨w6.heap.size,0,none⟩ 1 1 #[.string y,Z 0].toList rfl rfl (World.news_of_block (cs:=#[.string y,Z 0]) (t:=147) (fr:=(0,0)) hnew) (by simp[Value.oneCell']) (by omega) (by unfold maxLen;omega) (by omega) (by simp;omega) (w6.heap.size+1) (by simp) ?_;intro gg wcap w9 hown9 hgrow hat hgl);go_roundg (gk-1);case measure=>have:=HQ.out.1;omega
      case rel =>
       obtain⟨r1,r2,r3,r4⟩:=HQ.out;have e1:gk-1=g:=by omega
       rw[e1];refine⟨l++[⟨y,0⟩],_,r2,r3,r4,?_,(hS6.step ((qb _ w6).alloc (qa _) _)).grown hgrow (fun j hj => ?_),(aw6.alloc _).grown hgrow hlo⟩
       ·rw[HC.out,qf];exact hown9
       ·have h1:=hlo j hj;obtain⟨cur',hc'⟩:=bA hown6 hj;exact⟨by omega,by omega,cur',147,(Lib.alloc_old w6 _ _ (aA hc')).trans hc',by decide⟩
  ·have hk3:(kd==3)=false:=by simp[hk]
   have hsb':rZ T s=ba:=by rw[hsb,qqp hk];rfl
   clear xstr xp1 xm xu hm1 hm0 hu1 hu0 han hs3 hsb;go_wp2_with(go_at_call 62;refine xp.mono ?_);intro rr w1;first |(intro he b1;subst he)|rintro⟨rfl,b1⟩
   have xi1:=xi _ b1;clear xi xp;go_wp2_with(go_at_call 76;refine xi1.mono ?_);intro rr w2;first |(intro he b2;subst he)|rintro⟨rfl,b2⟩
   have b12:=b1.trans (b2.mono b1.size);clear xi1;cases ba with
   |false =>
    obtain⟨hl,hs⟩:=fin0 hsb';have hown2:=aB hown fun j hj=>b12.block j (hown.lt j hj).2;have aw2:=aw.step b12;have hS2:=hS.step b12;have HE:=aJ (And.intro hl hs);clear hau xa more fin0 hown hS aw hsb' hl hs;go_wp2;go_ret;rw[<-HE.out.1,<-HE.out.2];exact⟨_,rfl,hown2,hS2,aw2⟩
   |true =>
    obtain⟨g,hgk,q1,q2,q3⟩:=more hsb';obtain⟨hr,rfl⟩:=hau rfl;rw[hr]at q1 q2 q3;have xa2:=xa _ b12;have hown2:=aB hown fun j hj=>b12.block j (hown.lt j hj).2;have aw2:=aw.step b12;clear hau xa more fin0 hown hS aw hsb' hr;go_wp2_with(go_at_call 53;refine xa2.mono ?_);intro rr w5;first |(intro he hS5 a5;subst he)|rintro⟨rfl,hS5,a5⟩
    have hown5:=aB hown2 fun j hj=>a5.block j (hown2.lt j hj).2 (by have:=hlo j hj;simp;omega);have aw5:=aw2.trans a5;clear xa2 hown2 aw2 a5;have szw:=aw5.size;have hnew:(w5.alloc (.cells #[.string ByteArray.empty,Z 2] 147)).heap[w5.heap.size]?=some (.cells #[.string ByteArray.empty,Z 2] 147 (0,0)):=qd _ _;have HQ:=aJ (And.intro hgk (And.intro q1 (And.intro q2 q3)));have HC:=aJ (eV eY.cells l ⟨ByteArray.empty,2⟩);generalize bT eY.cells l=cur at hown5 HC;clear hgk q1 q2 q3;go_wp2_with(at_builtin;refine wpList_append_lies _ rfl _ _ 29 rfl w.heap.size 147 i0 _ 2 24 Tryz.underlying29 hi0 hzz hz1 hz2 hzc (by omega) _ l.length _ rfl (hown5.alloc _) ⟨w5.heap.size,0,none⟩ 1 1 #[.string ByteArray.empty,Z 2].toList rfl rfl (World.news_of_block (cs:=#[.string ByteArray.empty,Z 2]) (t:=147) (fr:=(0,0)) hnew) (by simp[Value.oneCell']) (by omega) (by unfold maxLen;omega) (by omega) (by simp;omega) (w5.heap.size+1) (by simp) ?_;intro gg wcap w9 hown9 hgrow hat hgl);go_roundg (gk-1);case measure=>have:=HQ.out.1;omega
    case rel =>
     obtain⟨r1,r2,r3,r4⟩:=HQ.out;have e1:gk-1=g:=by omega
     rw[e1];refine⟨l++[⟨ByteArray.empty,2⟩],_,r2,r3,r4,?_,(hS5.step ((qb _ w5).alloc (qa _) _)).grown hgrow (fun j hj => ?_),(aw5.alloc _).grown hgrow hlo⟩
     ·rw[HC.out,qf];exact hown9
     ·have h1:=hlo j hj;obtain⟨cur',hc'⟩:=bA hown5 hj;exact⟨by omega,by omega,cur',147,(Lib.alloc_old w5 _ _ (aA hc')).trans hc',by decide⟩
end
section
variable{T:List aX}{X:Nat}{free:Bool}{lv iv:Value}{st st0:aD}{w w0 w':World}
end
end Go.Proofs.YtgkhemnmcgicnaaGreatDoor
