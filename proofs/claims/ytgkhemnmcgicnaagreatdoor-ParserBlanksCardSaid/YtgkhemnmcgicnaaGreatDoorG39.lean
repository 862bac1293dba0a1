/- Towards the law ParserBlanks, true for every text and all blanks (no condition): one part of the proof. -/
import Derived.Test.YtgkhemnmcgicnaaGreatDoorG01
import Derived.Test.YtgkhemnmcgicnaaGreatDoorG37
import Derived.Test.YtgkhemnmcgicnaaGreatDoorG38
namespace Go.Proofs.YtgkhemnmcgicnaaGreatDoor
set_option maxHeartbeats 32000000
set_option maxRecDepth 100000
open Go.RowKit
def clC(p:Int×Int):Array Value:=#[Z p.1,Z p.2]
def PJ(B:Nat):List fG->List Value->World->Prop
 | [],cs,_=>cs=[]
 |v::vs,cs,w=>∃ev tv es cs',cs=ev::tv::cs'/\J2 B ev tv es v w/\PJ B vs cs' w
def VT(t:TypeId):Prop:=t=31\/t=100\/t=80\/t=77\/t=147
theorem J2.keepT{B:Nat}{ev tv:Value}{cs:List Value}{v:fG}{w w':World}(h:J2 B ev tv cs v w)(hb:∀k (o:Array Value) (T:TypeId),w.heap[k]?=some (.cells o T (0,0))->VT T->B<=k->w'.heap[k]?=w.heap[k]?):J2 B ev tv cs v w':=by
 refine⟨aB h.oe fun k hk => ?_,aB h.ot fun k hk => ?_,h.es.step fun k o T ho hT hB=>hb k o T ho (by rcases hT with e|e|e<;>simp[VT,e]) hB⟩
 ·obtain⟨c,hc⟩:=bA h.oe hk;exact hb k c _ hc (.inl rfl) (h.oe.lt k hk).1
 ·obtain⟨c,hc⟩:=bA h.ot hk;exact hb k c _ hc (.inr (.inl rfl)) (h.ot.lt k hk).1
theorem PJ.keepT{B:Nat}:∀{vs:List fG}{cs:List Value}{w w':World},PJ B vs cs w->(∀k (o:Array Value) (T:TypeId),w.heap[k]?=some (.cells o T (0,0))->VT T->B<=k->w'.heap[k]?=w.heap[k]?)->PJ B vs cs w'
 | [],_,_,_,h,_=>h
 | _::_,_,_,_,⟨ev,tv,es,cs',e,r,t⟩,hb=>⟨ev,tv,es,cs',e,r.keepT hb,t.keepT hb⟩
theorem aE8{w:World}{K B:Nat}{T:TypeId}{a b:Value}(h:w.heap[K]?=some (.cells #[a,b] T (0,0)))(hB:B<=K):w.ownsRow B T 2 (.slice (some ⟨K,0,none⟩) 1 1) 1 [a,b] :=
 ⟨rfl,.inr ⟨K,1,#[a,b],rfl,hB,h,qa _,by unfold maxLen;omega,rfl,rfl⟩⟩
theorem PJ.keep{B:Nat}:∀{vs:List fG}{cs:List Value}{w w':World},PJ B vs cs w->(∀k (o:Array Value) (T:TypeId),w.heap[k]?=some (.cells o T (0,0))->B<=k->w'.heap[k]?=w.heap[k]?)->PJ B vs cs w'
 | [],_,_,_,h,_=>h
 | _::_,_,_,_,⟨ev,tv,es,cs',e,r,t⟩,hb=>⟨ev,tv,es,cs',e,r.keep hb,t.keep hb⟩
theorem yF.lo{B B':Nat}(hB:B<=B'):∀{xs:List B7}{cs:List Value}{w:World},yF B' xs cs w->yF B xs cs w
 | [],_,_,h=>h
 | _::_,_,_,⟨hv,gv,lv,cs',e,r,t⟩=>⟨hv,gv,lv,cs',e,r.lo hB,t.lo hB⟩
theorem J2.lo{B B':Nat}{ev tv:Value}{cs:List Value}{v:fG}{w:World}(h:J2 B' ev tv cs v w)(hB:B<=B'):J2 B ev tv cs v w:=⟨oD h.oe hB,oD h.ot hB,h.es.lo hB⟩
theorem PJ.lo{B B':Nat}(hB:B<=B'):∀{vs:List fG}{cs:List Value}{w:World},PJ B' vs cs w->PJ B vs cs w
 | [],_,_,h=>h
 | _::_,_,_,⟨ev,tv,es,cs',e,r,t⟩=>⟨ev,tv,es,cs',e,r.lo hB,t.lo hB⟩
theorem PJ.snoc{B:Nat}{v:fG}{ev tv:Value}{es:List Value}:∀{vs:List fG}{cs:List Value}{w:World},PJ B vs cs w->J2 B ev tv es v w->PJ B (vs++[v]) (cs++[ev,tv]) w
 | [],cs,w,h,r=>by
  have h:cs=[]:=h;subst h;exact⟨ev,tv,es,[],rfl,r,rfl⟩
 |y::ys,cs,w,⟨ev',tv',es',cs',e,r',t⟩,r=>⟨ev',tv',es',_,by rw[e];rfl,r',t.snoc r⟩
structure qL(B:Nat)(cv vv:Value)(c:jF)(w:World):Prop where
 oc:w.ownsRow B 217 2 cv c.clefs.length (bT clC c.clefs)
 ex:∃cs,w.ownsRow B 48 2 vv c.vs.length cs/\PJ B c.vs cs w
theorem qL.keep{B:Nat}{cv vv:Value}{c:jF}{w w':World}(h:qL B cv vv c w)(hb:∀k (o:Array Value) (T:TypeId),w.heap[k]?=some (.cells o T (0,0))->B<=k->w'.heap[k]?=w.heap[k]?):qL B cv vv c w':=by
 obtain⟨h1,cs,h2,h3⟩:=h;refine⟨aB h1 fun k hk => ?_,cs,aB h2 fun k hk => ?_,h3.keep hb⟩
 ·obtain⟨c,hc⟩:=bA h1 hk;exact hb k c _ hc (h1.lt k hk).1
 ·obtain⟨c,hc⟩:=bA h2 hk;exact hb k c _ hc (h2.lt k hk).1
theorem qL.lo{B B':Nat}{cv vv:Value}{c:jF}{w:World}(h:qL B' cv vv c w)(hB:B<=B'):qL B cv vv c w:=by
 obtain⟨h1,cs,h2,h3⟩:=h;exact⟨oD h1 hB,cs,oD h2 hB,h3.lo hB⟩
theorem Tryz.infocl:(Tryz.prog.info? 217).map (fun i=>(i.zero.map fun z=>z.cells.size,i.size,i.bytes))=some (some 2,2,16):=by kernel_rfl
theorem Tryz.infovo:(Tryz.prog.info? 48).map (fun i=>(i.zero.map fun z=>z.cells.size,i.size,i.bytes))=some (some 2,2,48):=by kernel_rfl
theorem Tryz.sizeCell:(Tryz.prog.info? 98).map (·.size)=some 2:=by kernel_rfl
theorem oR{t n b:Nat}(this:(Tryz.prog.info? t).map (fun i=>(i.zero.map fun z=>z.cells.size,i.size,i.bytes))=some (some n,n,b)):∃i,Tryz.prog.info? t=some i/\∃z,i.zero=some z/\z.cells.size=n/\i.size=n/\i.bytes=b:=by
 cases hi:Tryz.prog.info? t with
 |none=>rw[hi]at this;cases this
 |some i =>
  rw[hi]at this;simp only[qqu,qv,qu]at this;obtain⟨h1,h2,h3⟩:=this;cases hz:i.zero with
  |none=>rw[hz]at h1;cases h1
  |some z=>rw[hz]at h1;simp only[qqu,qv]at h1;exact⟨i,rfl,z,hz,h1,h2,h3⟩
section
variable{O:yB}{B:XP}{T:List aX}
theorem aAY{k:Nat}{s:aD}(h:isS T ⟨#[99,108,101,102]⟩ s=false):jB B T k s=([],s):=by
 cases k with
 |zero=>rfl
 |succ k=>rw[jB,if_neg (by rw[h];decide)]
theorem X8{k:Nat}{s:aD}(h:isS T ⟨#[99,108,101,102]⟩ s=true):jB B T (k+1) s =
  (((bD T 0 4398046511104 (s.next 1)).1,(tN B T (bD T 0 4398046511104 (s.next 1)).2).1)::(jB B T k (tN B T (bD T 0 4398046511104 (s.next 1)).2).2).1,(jB B T k (tN B T (bD T 0 4398046511104 (s.next 1)).2).2).2):=by
 rw[jB,if_pos h]
theorem aAZ{I I1:eQ}{s s1 s2:aD}{cl:List (Int×Int)}{v1:fG}(h1:jB B T T.length s=(cl,s1))(h2:cL O T T.length ⟨[],[]⟩ 0 0 I s1=((v1,I1),s2))(h3:v1.evs.length=0/\isS T ⟨#[59]⟩ s2=false) :
  jY O B T I s=((⟨cl,[]⟩,I1),s2):=by
 unfold jY;rw[h1];simp only;rw[h2];simp only;rw[if_pos h3]
theorem X9{I I1:eQ}{s s1 s2:aD}{cl:List (Int×Int)}{v1:fG}(h1:jB B T T.length s=(cl,s1))(h2:cL O T T.length ⟨[],[]⟩ 0 0 I s1=((v1,I1),s2))(h3:¬(v1.evs.length=0/\isS T ⟨#[59]⟩ s2=false)) :
  jY O B T I s=((⟨cl,v1::(kF O T T.length I1 s2).1.1⟩,(kF O T T.length I1 s2).1.2),(kF O T T.length I1 s2).2):=by
 unfold jY;rw[h1];simp only;rw[h2];simp only;rw[if_neg h3]
theorem aE9{k:Nat}{I:eQ}{s:aD}(h:isS T ⟨#[59]⟩ s=false):kF O T k I s=(([],I),s):=by
 cases k with
 |zero=>rfl
 |succ k=>rw[kF,if_neg (by rw[h];decide)]
theorem aA0{k:Nat}{I I2:eQ}{s s2:aD}{v2:fG}(h:isS T ⟨#[59]⟩ s=true)(h2:cL O T T.length ⟨[],[]⟩ 0 0 I (s.next 1)=((v2,I2),s2)):kF O T (k+1) I s=((v2::(kF O T k I2 s2).1.1,(kF O T k I2 s2).1.2),(kF O T k I2 s2).2):=by
 rw[kF,if_pos h];simp only;rw[h2]
theorem xH(s:aD):dM s (tN B T s).2:=by
 unfold tN;split
 ·exact(fL _ _ _).back
 ·split
  ·exact(fL _ _ _).back
  ·exact dS _ _
end
section
variable{W0:World}{T:List aX}{Y M:Nat}{I:eQ}{st:aD}{w:World}{mo:ByteArray->Option kM}
theorem aG7 (hI : dH I) (h : PS T Y M (gS I) st w) (B : mF W0 [Y, M] w) : Calls Tryz.prog 136 #[.pointer (some ⟨Y, 0, none⟩)] w fun r w' => ∃ cv vv, r = .returned (.agg #[cv, vv]) /\
  qL w.heap.size cv vv (jY aK ⟨aP,mo⟩ T I st).1.1 w'/\PS T Y M (gS (jY aK ⟨aP,mo⟩ T I st).1.2) (jY aK ⟨aP,mo⟩ T I st).2 w'/\aC [Y,M] w w':=by
 obtain⟨i1,hi1,z1,hz1,hc1,hs1,hy1⟩:=oR Tryz.infocl;obtain⟨i2,hi2,z2,hz2,hc2,hs2,hy2⟩:=oR Tryz.infovo;have lY:=h.lt;have lM:=h.ltM;have hmax:=h.good.max;have hnd:need T st<=T.length:=by
  cases st with
  |ok p=>exact Nat.sub_le _ _
  |bad e l c=>exact ql _
 have b0:=(qb w.heap.size w).alloc (qa _) (.cells #[.slice none 0 0,.slice none 0 0] 98);have b1:=b0.alloc b0.size (.cells #[.slice none 0 0,.slice none 0 0] 98);have hR:=(Lib.alloc_old (w.alloc (.cells #[.slice none 0 0,.slice none 0 0] 98)) (.cells #[.slice none 0 0,.slice none 0 0] 98) w.heap.size (aA (qd w _))).trans (qd w (.cells #[.slice none 0 0,.slice none 0 0] 98));have hC:=qd (w.alloc (.cells #[.slice none 0 0,.slice none 0 0] 98)) (.cells #[.slice none 0 0,.slice none 0 0] 98);rw[World.size_alloc]at hC;have h1:=h.step b1;have B1:=B.step b1;generalize hcf:jY aK ⟨aP,mo⟩ T I st=tot;obtain⟨⟨ct,It⟩,sT⟩:=tot;simp only;have HCF:=aJ hcf;obtain⟨q,hq⟩:∃q,jB ⟨aP,mo⟩ T T.length st=q:=⟨_,rfl⟩;obtain⟨cl,s1⟩:=q;have HQ:=aJ hq;have HB:=aJ B;have a1:=aC.of_below (bs:=[Y,M]) b1;clear hcf h B b0 b1;have HQ0:=aJ hq;clear hq;go_enter Tryz.func136,Tryz.ntmps136
 go_upto_block 0 with(fail)
 generalize (w.alloc (.cells #[.slice none 0 0,.slice none 0 0] 98)).alloc (.cells #[.slice none 0 0,.slice none 0 0] 98)=W at hR hC h1 B1 a1⊢;obtain⟨C,hCe⟩:∃C,C=w.heap.size+1:=⟨_,rfl⟩;rw[<-hCe]at hC⊢;have HCe:=aJ hCe;clear hCe
 go_cut []from 4 to 54 (fun wc=>∃cv,wc.heap[C]?=some (.cells #[cv,.slice none 0 0] 98 (0,0))/\wc.heap[w.heap.size]?=some (.cells #[.slice none 0 0,.slice none 0 0] 98 (0,0))/\wc.ownsRow (C+1) 217 2 cv cl.length (bT clC cl)/\PS T Y M (gS I) s1 wc/\aC [Y,M] w wc)
 case first =>
  obtain⟨N,hN⟩:∃N,Shut (T.length=N):=⟨_,rfl⟩;have hN4:N<=4001:=by rw[<-hN.out];exact hmax
  have hq:=HQ.out;rw[hN.out]at hq hnd;have HT:=aJ (And.intro hq hnd);have lC:C=w.heap.size+1:=HCe.out;have hlC:=aA hC;have HL:=aJ (And.intro lC hlC);have hCY:C≠Y:=by omega
  have hCM:C≠M:=by omega
  have hCw:w.heap.size<=C:=by omega
  have hRC:w.heap.size≠C:=by omega
  clear hq hnd hmax HQ lC hlC;go_wp2_with(fail)
  go_loopg [] N (fun gk wr => ∃ (l : List (Int × Int)) (s : aD) (cv : Value), l.length + gk = N /\ need T s <= gk /\ (l ++ (jB ⟨aP, mo⟩ T gk s).1, (jB ⟨aP, mo⟩ T gk s).2) = (cl, s1) /\ wr.heap[C]? = some (.cells #[cv, .slice none 0 0] 98 (0, 0)) /\
    wr.heap[w.heap.size]?=some (.cells #[.slice none 0 0,.slice none 0 0] 98 (0,0))/\wr.ownsRow (C+1) 217 2 cv l.length (bT clC l)/\PS T Y M (gS I) s wr/\aC [Y,M] w wr/\C<wr.heap.size)
  case atStart=>exact⟨[],st,.slice none 0 0,by simp,HT.out.2,by rw[HT.out.1];rfl,hC,hR,qw _ _ _ _,h1,a1,HL.out.2⟩
  case round =>
   clear hC hR h1 B1 a1 HT;obtain⟨l,s,cv,hlen,hneed,htotal,hC,hR,hown,hS,aw,hlC⟩:=hrel;have xa:=d9 hS ⟨#[99,108,101,102]⟩;cases hb:isS T ⟨#[99,108,101,102]⟩ s with
   |false =>
    rw[hb]at xa;rw[show aY T ⟨#[99,108,101,102]⟩ s=s by unfold aY;rw[if_neg (by rw[hb];decide)]]at xa;rw[aAY hb,qqe,qu]at htotal;obtain⟨rfl,rfl⟩:=htotal;clear hb hS;go_wp2_with(go_at_call 53;(with_reducible refine xa.mono ?_));intro r w1;(first|(intro he9 hS1 b1;subst he9)|rintro ⟨rfl,hS1,b1⟩);have hC1:=b1.at hC (by simp;omega);have hR1:=b1.at hR (by simp;omega);have hown1:=aB hown fun k hk=>b1.block k (hown.lt k hk).2 (by have:=(hown.lt k hk).1;have:=HL.out.1;simp;omega);have aw1:=aw.trans b1;clear xa hC hR hown aw b1;go_wp2
    go_meet
    case rel=>exact⟨cv,hC1,hR1,hown1,hS1,aw1⟩
   |true =>
    obtain⟨g,rfl⟩:∃g,gk=g+1:=⟨gk-1,by have:=eF hb;omega⟩;have n0:=eF hb;have n1:=eX (T:=T) (eP s) n0;have n2:=bU (T:=T) (eE T 0 4398046511104 (s.next 1)).back;have n3:=bU (T:=T) (xH (B:=⟨aP,mo⟩) (T:=T) (bD T 0 4398046511104 (s.next 1)).2);rw[X8 hb]at htotal;rw[hb]at xa;rw[show aY T ⟨#[99,108,101,102]⟩ s=s.next 1 by unfold aY;rw[if_pos hb]]at xa;have x2:=fun w' (h:PS T Y M (gS I) (s.next 1) w')=>jJ h 0 4398046511104;generalize bD T 0 4398046511104 (s.next 1)=qn at x2 n2 n3 htotal;obtain⟨n,s2⟩:=qn;simp only at x2 n2 n3 htotal;have x3:=fun w' (h:PS T Y M (gS I) s2 w')=>aA1 h;rw[WL]at n3 htotal;simp only at n3 htotal;generalize tQ T aP s2=qc at x3 n3 htotal;obtain⟨c,s3⟩:=qc;simp only at x3 n3 htotal;have HQ2:=aJ (And.intro htotal (show need T s3<=g by omega));have hlen2:l.length<=4001:=by omega
    have HG:=aJ hlen;clear htotal n0 n1 n2 n3 hneed hb hS hlen;obtain⟨ao,cp,rfl⟩:=aL hown;have hlo:∀j,(Value.slice ao l.length cp).ownBlock=some j->C+1<=j:=fun j hj=>(hown.lt j hj).1;go_wp2_with(go_at_call 53;(with_reducible refine xa.mono ?_));intro r w1;(first|(intro he9 hS1 b1;subst he9)|rintro ⟨rfl,hS1,b1⟩);have hC1:=b1.at hC (by simp;omega);have hR1:=b1.at hR (by simp;omega);have hown1:=aB hown fun k hk=>b1.block k (hown.lt k hk).2 (by have:=hlo k hk;have:=HL.out.1;simp;omega);have aw1:=aw.trans b1;have x21:=x2 _ hS1;clear xa hC hR hown aw b1 x2 hS1;go_wp2_with(go_at_call 114;(with_reducible refine x21.mono ?_));intro r w2;(first|(intro he9 hS2 b2;subst he9)|rintro ⟨rfl,hS2,b2⟩);have hC2:=b2.at hC1 (by simp;omega);have hR2:=b2.at hR1 (by simp;omega);have hown2:=aB hown1 fun k hk=>b2.block k (hown1.lt k hk).2 (by have:=hlo k hk;have:=HL.out.1;simp;omega);have aw2:=aw1.trans b2;have c2:=(qb w2.heap.size w2).alloc (qa _) (.cells #[Z n,Z 0] 217);have hE2:=qd w2 (.cells #[Z n,Z 0] 217);have x31:=x3 _ (hS2.step c2);have hC3:=(c2.block _ (aA hC2)).trans hC2;have hR3:=(c2.block _ (aA hR2)).trans hR2;have hown3:=hown2.alloc (.cells #[Z n,Z 0] 217);have aw3:=aw2.alloc (.cells #[Z n,Z 0] 217);have lE:C<w2.heap.size:=aA hC2;have own2lt:∀k,(Value.slice ao l.length cp).ownBlock=some k->k<w2.heap.size:=fun k hk=>(hown2.lt k hk).2;clear x21 hS2 b2 hC1 hR1 hown1 aw1 c2 hC2 hR2 hown2 aw2 x3;go_wp2_with(go_at_call 134;(with_reducible refine x31.mono ?_));intro r w4;(first|(intro he9 hS4 b4;subst he9)|rintro ⟨rfl,hS4,b4⟩);have lE0:=aA hE2;generalize hEE:w2.heap.size=E at hE2 lE own2lt⊢;clear hEE lE0;have hEY:E≠Y:=by have:=HL.out.1;omega
    have hEM:E≠M:=by have:=HL.out.1;omega
    have hC4:=b4.at hC3 (by simp;omega);have hR4:=b4.at hR3 (by simp;omega);have hE4:=b4.at hE2 (by simp;omega);have hown4:=aB hown3 fun k hk=>b4.block k (hown3.lt k hk).2 (by have:=hlo k hk;have:=HL.out.1;simp;omega);have aw4:=aw3.trans b4;obtain⟨q0,q1,f0,f1⟩:=bL hE4;have hE5:=Lib.heap_setCell_same (i:=1) hE4 (Z c);have hS5:=hS4.put (R:=E) (w':=w4.setCell ⟨E,1,none⟩ (Z c)) hEY hEM hE4 (by decide) (aH w4 E 1 _);have hC5:=(aH w4 E 1 (Z c) C (by omega)).trans hC4;have hR5:=(aH w4 E 1 (Z c) w.heap.size (by have:=HL.out.1;omega)).trans hR4;have hown5:=aB hown4 fun k hk=>aH w4 E 1 (Z c) k (by have:=own2lt k hk;omega);have aw5:=aw4.setCell (p:=⟨E,1,none⟩) (.inr (by show w.heap.size<=E;have:=HL.out.1;omega)) (Z c);clear x31 hS4 b4 hC3 hR3 hE2 hown3 aw3 hC4 hR4 hown4 aw4;go_upto_region 5 with(fail);generalize w4.setCell ⟨E,1,none⟩ (Z c)=w5 at hE5 hS5 hC5 hR5 hown5 aw5⊢;clear hE4 q0 q1 f0 f1;obtain⟨e0,e1,-,-⟩:=bL hE5;have k0:w5.cell? ⟨C,0,none⟩=some (.slice ao l.length cp):=by rw[Lib.cell_of_heap hC5];rfl
    have szw:=aw5.size;have lC5:=aA hC5;have hnew:=qd w5 (.cells #[Z n,Z c] 217);have HCs:=aJ (eV clC l (n,c));have nOC:∀k,(Value.slice ao l.length cp).ownBlock=some k->k≠C:=fun k hk=>by have:=hlo k hk;omega
    generalize bT clC l=cur at hown5 HCs;have lB5:C+1<=w5.heap.size:=lC5;go_wp2_with(at_builtin;refine wpList_append_lies _ rfl _ _ 95 rfl (C+1) 217 i1 _ 2 16 Tryz.underlying95 hi1 hz1 hs1 hy1 hc1 (by omega) _ l.length _ rfl (hown5.alloc _) ⟨w5.heap.size,0,none⟩ 1 1 #[Z n,Z c].toList rfl rfl (World.news_of_block (cs:=#[Z n,Z c]) (t:=217) (fr:=(0,0)) hnew) (by simp[Value.oneCell']) (by omega) (by unfold maxLen;omega) (by omega) (by simp;omega) (w5.heap.size+1) (by simp) ?_;intro gg wcap w9 hown9 hgrow hat hgl;have hC9:=(hgrow.block C (by simp;omega) (fun e=>nOC C e.symm rfl)).trans ((Lib.alloc_old w5 _ _ lC5).trans hC5);have cC9:w9.cell? ⟨C,0,none⟩=some (.slice ao l.length cp):=(by rw[Lib.cell_of_heap hC9];rfl);have fC9:=Lib.frozen_of_heap hC9 0;have lC9:=aA hC9);have hlo':∀j,(Value.slice ao l.length cp).ownBlock=some j->w.heap.size<=j:=fun j hj=>by have:=hlo j hj;omega
    have hC10:=Lib.heap_setCell_same (i:=0) hC9 (.slice (some ⟨gg,0,none⟩) (l.length+1) wcap);have p9:PS T Y M (gS I) s3 w9:=(hS5.step ((qb _ w5).alloc (qa _) _)).grown hgrow fun k hk=>by
     have:=hlo k hk;have:=HL.out.1;obtain⟨c',hc'⟩:=bA (hown5.alloc (.cells #[Z n,Z c] 217)) hk;exact⟨by omega,by omega,c',_,hc',by decide⟩
    have hS10:=p9.put (R:=C) (w':=w9.setCell ⟨C,0,none⟩ (.slice (some ⟨gg,0,none⟩) (l.length+1) wcap)) hCY hCM hC9 (by decide) (aH w9 C 0 _);have aw10:=((aw5.alloc (.cells #[Z n,Z c] 217)).grown hgrow hlo').setCell (p:=⟨C,0,none⟩) (.inr hCw) (.slice (some ⟨gg,0,none⟩) (l.length+1) wcap);have hown10:=aB hown9 fun j hj=>aH w9 C 0 (.slice (some ⟨gg,0,none⟩) (l.length+1) wcap) j (by have:=(hown9.lt j hj).1;omega);have hR10:=(aH w9 C 0 (.slice (some ⟨gg,0,none⟩) (l.length+1) wcap) w.heap.size hRC).trans ((hgrow.block w.heap.size (by have:=aA hR5;simp;omega) (fun e=>by have:=hlo _ e.symm;omega)).trans ((Lib.alloc_old w5 _ _ (aA hR5)).trans hR5));go_roundg g;case measure=>omega
    case rel =>
     obtain⟨r1,r2⟩:=HQ2.out;refine⟨l++[(n,c)],s3,.slice (some ⟨gg,0,none⟩) (l.length+1) wcap,?_,r2,?_,hC10,hR10,?_,hS10,aw10,?_⟩
     ·have:=HG.out;simp only[qf,qz];omega
     ·rw[qqk];exact r1
     ·rw[HCs.out,qf];exact hown10
     ·exact qqa lC9 (BG w9 C 0 _)
 case rest =>
  clear hC hR h1 B1 a1 HQ;obtain⟨cv,hC,hR,hown,hS,aw⟩:=hcut;obtain⟨co,cc,rfl⟩:=aL hown;have hnd1:need T s1<=T.length:=by
   cases s1 with
   |ok p=>exact Nat.sub_le _ _
   |bad e l c=>exact ql _
  have lC:=HCe.out;have lC2:=aA hC;have hV:=qd wc (.cells #[.slice none 0 0,.slice none 0 0] 48);have c0:=(qb wc.heap.size wc).alloc (qa _) (.cells #[.slice none 0 0,.slice none 0 0] 48);have sz0:(wc.alloc (.cells #[.slice none 0 0,.slice none 0 0] 48)).heap.size=wc.heap.size+1:=by simp
  have bas:=(HB.out.away aw).step c0;have lW:W0.heap.size<=wc.heap.size:=(HB.out.away aw).bel.size;have H0:yV W0 T Y M wc.heap.size (wc.heap.size+1) (.slice none 0 0) (.slice none 0 0) [] ⟨[],[]⟩ I s1 (wc.alloc (.cells #[.slice none 0 0,.slice none 0 0] 48)) :=
   ⟨hI,hS.step c0,bas,⟨hV,qw _ _ _ _,qw _ _ _ _,rfl,Nat.lt_succ_self _,qj sz0.symm⟩,by omega,by omega,by omega,by omega,lW⟩
  have xv:=SA T.length I s1 ⟨[],[]⟩ 0 _ _ _ _ hnd1 (by simp only[qql];omega) (by simp only[qql];omega) H0;generalize hvq:cL aK T T.length ⟨[],[]⟩ 0 0 I s1=q at xv;obtain⟨⟨v1,I1⟩,s2⟩:=q;simp only at xv;have HVQ:=aJ hvq;clear hvq;have hC1:=(c0.block _ lC2).trans hC;have hR1:=(c0.block _ (aA hR)).trans hR;have hown1:=hown.alloc (.cells #[.slice none 0 0,.slice none 0 0] 48);have aw1:=aw.alloc (.cells #[.slice none 0 0,.slice none 0 0] 48);have hlt1:∀k,(Value.slice co cl.length cc).ownBlock=some k->C+1<=k/\k<wc.heap.size:=fun k hk=>hown.lt k hk;have HI1:=aJ hnd1;clear hC hR hown aw hV c0 sz0 bas lW H0 hS;go_wp2_with(go_at_call 35;(with_reducible refine xv.mono ?_));intro r w2;(first|(intro he9 ev tv es H2 V2;subst he9)|rintro ⟨rfl,ev,tv,es,H2,V2⟩);have hVl:∀k,k<wc.heap.size->k≠Y->k≠M->w2.heap[k]?=(wc.alloc (.cells #[.slice none 0 0,.slice none 0 0] 48)).heap[k]?:=fun k hk h1 h2=>V2.aw.block k (by simp;omega) (by simp[Value.ownBlock];omega);have hC2:=(hVl C (by omega) (by omega) (by omega)).trans hC1;have hR2:=(hVl w.heap.size (by omega) (by omega) (by omega)).trans hR1;have hown2:=aB hown1 fun k hk=>hVl k (hlt1 k hk).2 (by have:=(hlt1 k hk).1;omega) (by have:=(hlt1 k hk).1;omega);have aw2:aC [Y,M] w w2:=⟨V2.aw.os.trans aw1.os,V2.aw.tape.trans aw1.tape,V2.aw.output.trans aw1.output,qx aw1.size V2.aw.size,fun k hk hb=>(V2.aw.block k (qqa hk aw1.size) (by
   simp[Value.ownBlock]at hb⊢;exact⟨hb.1,hb.2,by omega⟩)).trans (aw1.block k hk hb)⟩
  have hio:=H2.io;have hps:=H2.ps;have hvo:=H2.vo;have hbas:=H2.bas;have lW2:=H2.lW;clear hVl V2 aw1 hown1 hR1 hC1 xv H2;clear lC;obtain⟨ao,ca,rfl⟩:=aL hvo.oe;obtain⟨bo,cb,rfl⟩:=aL hvo.ot;have hV2:=hvo.hV;have hr2:=hvo.r;have lB2:=hvo.lB;clear hvo;generalize hVV:wc.heap.size=V at hlt1 lC2 lW2 hV2 hr2 lB2 hbas⊢;have HVV:=aJ hVV;clear hVV;have xi:=KY hps ⟨#[59]⟩;obtain⟨q0,q1,f0,f1⟩:=bL hV2;go_upto_region 8 with(fail)
  go_cut [36]from 26 to 36 (fun s36 wx=>s36=.bool (decide (v1.evs.length=0/\isS T ⟨#[59]⟩ s2=false))/\Below w2.heap.size w2 wx)
  case first =>
   by_cases hz:v1.evs.length=0
   ·have hzb:((v1.evs.length:Int)==0)=true:=by simp[hz]
    obtain⟨b,hb⟩:∃b,isS T ⟨#[59]⟩ s2=b:=⟨_,rfl⟩;rw[hb]at xi;have HZ:Shut (decide (v1.evs.length=0/\isS T ⟨#[59]⟩ s2=false)=!b):=by rw[hb];simp[hz,Shut]
    clear hz hb;go_wp2_with(go_at_call 76;(with_reducible refine xi.mono ?_));intro r w3;(first|(intro he9 b3;subst he9)|rintro ⟨rfl,b3⟩);cases b with
    |true =>
     go_wp2
     go_meet
     case rel=>exact⟨by rw[HZ.out];rfl,b3⟩
    |false =>
     go_wp2
     go_meet
     case rel=>exact⟨by rw[HZ.out];rfl,b3⟩
   ·have hzb:((v1.evs.length:Int)==0)=false:=by simpa using hz
    have HZ:Shut (decide (v1.evs.length=0/\isS T ⟨#[59]⟩ s2=false)=false):=by simp[hz,Shut]
    clear hz xi;go_wp2
    go_meet
    case rel=>exact⟨by rw[HZ.out],qb _ _⟩
  case rest =>
   obtain⟨rfl,b3⟩:=hcut;clear xi q0 q1 f0 f1;have hC3:=(b3.block _ (aA hC2)).trans hC2;have hR3:=(b3.block _ (aA hR2)).trans hR2;have hV3:=(b3.block _ (aA hV2)).trans hV2;have hown3:=aB hown2 fun k hk=>b3.block k (hown2.lt k hk).2;have hr3:=hr2.step b3;have hps3:=hps.step b3;have aw3:=aw2.trans (aC.of_below b3);have bas3:=hbas.step b3;have lB3:=qx lB2 b3.size;clear hC2 hR2 hV2 hown2 hr2 hps aw2 hbas lB2 b3;by_cases hbad:v1.evs.length=0/\isS T ⟨#[59]⟩ s2=false
   ·rw[show decide (v1.evs.length=0/\isS T ⟨#[59]⟩ s2=false)=true from qqr hbad];have HBD:=aJ hbad;have HLE:Shut (w.heap.size<=w.heap.size):=qa _;clear hbad hr3 hV3 bas3 lB3;obtain⟨k0,k1,-,-⟩:=bL hC3;obtain⟨r0,r1,rf0,rf1⟩:=bL hR3;have hRf:=fN (a:=.slice co cl.length cc) (b:=.slice none 0 0) hR3;have hSf:=hps3.put (R:=w.heap.size) (w':=g8 wc w.heap.size (.slice co cl.length cc) (.slice none 0 0)) (by omega) (by omega) hR3 (by decide) (fun j hj=>fE wc w.heap.size _ _ j hj);have awf:=iE aw3 (qa _) (.slice co cl.length cc) (.slice none 0 0);have hownf:=aB hown3 fun k hk=>fE wc w.heap.size (.slice co cl.length cc) (.slice none 0 0) k (by have:=(hlt1 k hk).1;have:=HCe.out;omega);have HF:=aJ (And.intro hRf (And.intro hSf (And.intro awf hownf)));clear hRf hSf awf hownf hC3 hR3 hown3 hps3 aw3 hlt1;go_wp2;obtain⟨hRf,hSf,awf,hownf⟩:=HF.out;unfold g8 at hRf hSf awf hownf;refine qg (qp rfl _ _ w.heap.size 98 _ (0,0) _ rfl hRf Tryz.underlying98 rfl Tryz.sizeCell) rfl ?_;have hres:=HCF.out;rw[aAZ HQ0.out HVQ.out HBD.out]at hres;simp only[qu]at hres;obtain⟨⟨rfl,rfl⟩,rfl⟩:=hres;exact⟨.slice co cl.length cc,.slice none 0 0,rfl,⟨oD hownf (by have:=HCe.out;omega),[],qw _ _ _ _,rfl⟩,hSf,awf⟩
   ·rw[show decide (v1.evs.length=0/\isS T ⟨#[59]⟩ s2=false)=false from qqp hbad];have hres:=HCF.out;rw[X9 HQ0.out HVQ.out hbad]at hres;simp only[qu]at hres;obtain⟨⟨hct,hIt⟩,hsT⟩:=hres;clear hbad;obtain⟨k0,k1,kf0,kf1⟩:=bL hC3;obtain⟨r0,r1,-,-⟩:=bL hV3;have lCw:=HCe.out;have HL:=aJ lCw;have hCY:C≠Y:=by omega
    have hCM:C≠M:=by omega
    have hCw:w.heap.size<=C:=by omega
    have lV3:=aA hV3;have lC3:=aA hC3;have so:=aH wc C 1 (.slice (some ⟨wc.heap.size,0,none⟩) 1 1);have eW:(wc.setCell ⟨C,1,none⟩ (.slice (some ⟨wc.heap.size,0,none⟩) 1 1)).heap.size=wc.heap.size:=by simp[World.setCell]
    have c4:=(qb (wc.setCell ⟨C,1,none⟩ (.slice (some ⟨wc.heap.size,0,none⟩) 1 1)).heap.size (wc.setCell ⟨C,1,none⟩ (.slice (some ⟨wc.heap.size,0,none⟩) 1 1))).alloc (qa _) (.cells #[.slice ao v1.evs.length ca,.slice bo v1.tups.length cb] 48);have hC4:=Lib.heap_setCell_same (i:=1) hC3 (.slice (some ⟨wc.heap.size,0,none⟩) 1 1);have hC5:=(c4.block _ (aA hC4)).trans hC4;have hK5:=qd (wc.setCell ⟨C,1,none⟩ (.slice (some ⟨wc.heap.size,0,none⟩) 1 1)) (.cells #[.slice ao v1.evs.length ca,.slice bo v1.tups.length cb] 48);rw[eW]at hK5;have hR4:=(so w.heap.size (by omega)).trans hR3;have hR5:=(c4.block _ (aA hR4)).trans hR4;have hV4:=(so V (by omega)).trans hV3;have hV5:=(c4.block _ (aA hV4)).trans hV4;have hown4:=aB hown3 fun k hk=>so k (by have:=(hlt1 k hk).1;omega);have hown5:=hown4.alloc (.cells #[.slice ao v1.evs.length ca,.slice bo v1.tups.length cb] 48);have hr5:=(hr3.keep fun k o T' ho hk=>so k (by omega)).step c4;have hps5:=(hps3.put (R:=C) (w':=(wc.setCell ⟨C,1,none⟩ (.slice (some ⟨wc.heap.size,0,none⟩) 1 1))) hCY hCM hC3 (by decide) so).step c4;have aw5:=(aw3.setCell (p:=⟨C,1,none⟩) (.inr hCw) (.slice (some ⟨wc.heap.size,0,none⟩) 1 1)).alloc (.cells #[.slice ao v1.evs.length ca,.slice bo v1.tups.length cb] 48);have bas5:=(bas3.row ((aC.refl [C] wc).setCell (p:=⟨C,1,none⟩) (.inl (by simp)) (.slice (some ⟨wc.heap.size,0,none⟩) 1 1)) (fun k hk=>by
     obtain rfl:=qqq.1 hk;have:=HB.out.bel.size;omega)).step c4
    have lVC:C<V:=lC2;have hvv5:=aE8 (B:=V+1) hK5 (by omega);have lK5:=aA hK5;clear hC3 hR3 hV3 hown3 hr3 hps3 aw3 bas3 lB3 c4 hC4 hR4 hV4 hown4 so lCw eW
    go_upto_block 2 with(fail)
    generalize (wc.setCell ⟨C,1,none⟩ (.slice (some ⟨wc.heap.size,0,none⟩) 1 1)).alloc (.cells #[.slice ao v1.evs.length ca,.slice bo v1.tups.length cb] 48)=w5 at hC5 hK5 hR5 hV5 hown5 hr5 hps5 aw5 bas5 hvv5 lK5⊢;generalize wc.heap.size=K at hC5 hK5 hvv5 lK5⊢;obtain⟨N,hN⟩:∃N,Shut (T.length=N):=⟨_,rfl⟩;have hN4:N<=4001:=by rw[<-hN.out];exact hmax
    have hnd2:need T s2<=T.length:=by
     cases s2 with
     |ok p=>exact Nat.sub_le _ _
     |bad e l c=>exact ql _
    rw[hN.out]at hct hIt hsT hnd2;have hvs:PJ (V+1) [v1] [.slice ao v1.evs.length ca,.slice bo v1.tups.length cb] w5:=⟨_,_,_,[],rfl,hr5,rfl⟩;have lV5:=aA hV5;have HT:=aJ (And.intro hct (And.intro hIt (And.intro hsT (And.intro hnd2 hio))));clear hct hIt hsT hnd2 hio hr5 hK5 k0 k1 kf0 kf1 r0 r1 hmax hnd hnd1 HI1 HVQ HQ0 HCF lV3 lC3 lC2;go_wp2_with(fail)
    go_loopg [] N (fun gk wr => ∃ (l : List fG) (I' : eQ) (s : aD) (vv ev tv : Value) (cs : List Value), l.length + gk = N + 1 /\ need T s <= gk /\ dH I' /\ ct = ⟨cl, l ++ (kF aK T gk I' s).1.1⟩ /\ (kF aK T gk I' s).1.2 = It /\ (kF aK T gk I' s).2 = sT /\
      wr.heap[C]?=some (.cells #[.slice co cl.length cc,vv] 98 (0,0))/\wr.heap[w.heap.size]?=some (.cells #[.slice none 0 0,.slice none 0 0] 98 (0,0))/\wr.heap[V]?=some (.cells #[ev,tv] 48 (0,0)) /\
      wr.ownsRow (C+1) 217 2 (.slice co cl.length cc) cl.length (bT clC cl)/\wr.ownsRow (V+1) 48 2 vv l.length cs/\PJ (V+1) l cs wr/\PS T Y M (gS I') s wr/\mF W0 [Y,M] wr/\aC [Y,M] w wr)
    case atStart =>
     obtain⟨h1,h2,h3,h4,h5⟩:=HT.out;exact⟨[v1],I1,s2,_,_,_,_,by simp;omega,h4,h5,h1.symm,h2,h3,hC5,hR5,hV5,hown5,hvv5,hvs,hps5,bas5,aw5⟩
    case round =>
     clear hC5 hR5 hV5 hown5 hvv5 hvs hps5 bas5 aw5 HT lV5 lK5;obtain⟨l,I',s,vv,ev,tv,cs,hlen,hneed,hio,hct,hIt,hsT,hC,hR,hV,hown,hvv,hvs,hS,bas,aw⟩:=hrel;obtain⟨vo,vc,rfl⟩:=aL hvv;have xa:=d9 hS ⟨#[59]⟩;have lCr:=aA hC;have lVr:=aA hV;cases hb:isS T ⟨#[59]⟩ s with
     |false =>
      rw[hb]at xa;rw[show aY T ⟨#[59]⟩ s=s by unfold aY;rw[if_neg (by rw[hb];decide)]]at xa;rw[aE9 hb]at hct hIt hsT;simp only[qqe]at hct hIt hsT;subst hct hIt hsT;clear hb hS;go_wp2_with(go_at_call 53;(with_reducible refine xa.mono ?_));intro r w1;(first|(intro he9 hS1 b1;subst he9)|rintro ⟨rfl,hS1,b1⟩);have hC1:=b1.at hC (by simp;omega);have hR1:=b1.at hR (by simp;omega);have hown1:=aB hown fun k hk=>b1.block k (hown.lt k hk).2 (by have:=(hown.lt k hk).1;have:=HL.out;simp;omega);have hvv1:=aB hvv fun k hk=>b1.block k (hvv.lt k hk).2 (by have:=(hvv.lt k hk).1;have:=HL.out;simp;omega);have hvs1:=hvs.keepT (w':=w1) fun k o T' ho _ hk=>b1.block k (aA ho) (by have:=HL.out;simp;omega);have aw1:=aw.trans b1;obtain⟨k0,k1,-,-⟩:=bL hC1;obtain⟨r0,r1,rf0,rf1⟩:=bL hR1;have hRf:=fN (a:=.slice co cl.length cc) (b:=.slice vo l.length vc) hR1;have so:=fun j hj=>fE w1 w.heap.size (.slice co cl.length cc) (.slice vo l.length vc) j hj;have hSf:=hS1.put (R:=w.heap.size) (w':=g8 w1 w.heap.size (.slice co cl.length cc) (.slice vo l.length vc)) (by omega) (by omega) hR1 (by decide) so;have awf:=iE aw1 (qa _) (.slice co cl.length cc) (.slice vo l.length vc);have hownf:=aB hown1 fun k hk=>so k (by have:=(hown.lt k hk).1;have:=HL.out;omega);have hvvf:=aB hvv1 fun k hk=>so k (by have:=(hvv.lt k hk).1;have:=HL.out;omega);have hvsf:=hvs1.keepT fun k o T' ho _ hk=>so k (by have:=HL.out;omega);have HF:=aJ (And.intro hRf (And.intro hSf (And.intro awf (And.intro hownf (And.intro hvvf hvsf)))));clear hRf hSf awf hownf hvvf hvsf so hC1 hR1 hown1 hvv1 hvs1 aw1 xa hC hR hV hown hvv hvs bas aw b1 hS1;go_wp2;obtain⟨hRf,hSf,awf,hownf,hvvf,hvsf⟩:=HF.out;unfold g8 at hRf hSf awf hownf hvvf hvsf;refine qg (qp rfl _ _ w.heap.size 98 _ (0,0) _ rfl hRf Tryz.underlying98 rfl Tryz.sizeCell) rfl ?_;exact⟨.slice co cl.length cc,.slice vo l.length vc,rfl,⟨oD hownf (by have:=HL.out;omega),cs,oD hvvf (by have:=HL.out;omega),hvsf.lo (by have:=HL.out;omega)⟩,hSf,awf⟩
     |true =>
      obtain⟨g,rfl⟩:∃g,gk=g+1:=⟨gk-1,by have:=eF hb;omega⟩;have n0:=eF hb;have n1:=eX (T:=T) (eP s) n0;have n2:=bU (T:=T) (i6 aK T T.length ⟨[],[]⟩ 0 0 I' (s.next 1));have hndn:need T (s.next 1)<=T.length:=by
       cases s.next 1 with
       |ok p=>exact Nat.sub_le _ _
       |bad e l c=>exact ql _
      have hT4:T.length<=4001:=by rw[hN.out];exact hN4
      obtain⟨q,hq⟩:∃q,cL aK T T.length ⟨[],[]⟩ 0 0 I' (s.next 1)=q:=⟨_,rfl⟩;obtain⟨⟨v2,I2⟩,s3⟩:=q;rw[hq]at n2;simp only at n2;rw[aA0 hb hq]at hct hIt hsT;simp only at hct hIt hsT;rw[hb]at xa;rw[show aY T ⟨#[59]⟩ s=s.next 1 by unfold aY;rw[if_pos hb]]at xa;have xv:=fun Bv w' (H:yV W0 T Y M V Bv (.slice none 0 0) (.slice none 0 0) [] ⟨[],[]⟩ I' (s.next 1) w')=>SA T.length I' (s.next 1) ⟨[],[]⟩ 0 _ _ _ w' hndn (by simp only[qql];omega) (by simp only[qql];omega) H;simp only[hq]at xv;have HQ2:=aJ (And.intro hct (And.intro hIt (And.intro hsT (show need T s3<=g by omega))));have hlen2:l.length<=4002:=by omega
      have HG:=aJ hlen;have lCw:=HL.out;have lYM:=hS.lt;have nVY:V≠Y:=by omega
      have nVM:V≠M:=by omega
      have hvl:∀k,(Value.slice vo l.length vc).ownBlock=some k->V+1<=k:=fun k hk=>(hvv.lt k hk).1;clear hct hIt hsT n0 n1 n2 hndn hT4 hq hneed hlen hb hS lYM;clear lCw;go_wp2_with(go_at_call 53;(with_reducible refine xa.mono ?_));intro r w1;(first|(intro he9 hS1 b1;subst he9)|rintro ⟨rfl,hS1,b1⟩);have nC:C∉[Y,M]:=by simp;omega
      have nR:w.heap.size∉[Y,M]:=by simp;omega
      have nV:V∉[Y,M]:=by simp;omega
      have gt:∀k,C<k->k∉[Y,M]:=fun k hk=>by have:=HL.out;simp;omega
      have hC1:=b1.at hC nC;have hR1:=b1.at hR nR;have hV1:=b1.at hV nV;have hown1:=aB hown fun k hk=>b1.block k (hown.lt k hk).2 (gt k (by have:=(hown.lt k hk).1;omega));have hvv1:=aB hvv fun k hk=>b1.block k (hvv.lt k hk).2 (gt k (by have:=(hvv.lt k hk).1;omega));have hvs1:=hvs.keepT (w':=w1) fun k o T' ho _ hk=>b1.block k (aA ho) (gt k (by omega));have aw1:=aw.trans b1;have bas1:=bas.away b1;clear xa hC hR hV hown hvv hvs aw bas b1 nC nR nV;obtain⟨z0,z1,zf0,zf1⟩:=bL hV1;have so:=fun j hj=>fE w1 V (.slice none 0 0) (.slice none 0 0) j hj;have hV2:=fN (a:=.slice none 0 0) (b:=.slice none 0 0) hV1;have hC2:=(so C (by omega)).trans hC1;have hR2:=(so w.heap.size (by have:=HL.out;omega)).trans hR1;have hown2:=aB hown1 fun k hk=>so k (by have:=(hlt1 k hk).2;omega);have hvv2:=aB hvv1 fun k hk=>so k (by have:=hvl k hk;omega);have hvs2:=hvs1.keepT fun k o T' ho _ hk=>so k (by omega);have hS2:=hS1.put (R:=V) (w':=g8 w1 V (.slice none 0 0) (.slice none 0 0)) nVY nVM hV1 (by decide) so;have aw2:=iE aw1 (by have:=HL.out;omega:w.heap.size<=V) (.slice none 0 0) (.slice none 0 0);have bas2:=bas1.row (((aC.refl [V] w1).setCell (p:=⟨V,0,none⟩) (.inl (by simp)) (.slice none 0 0)).setCell (p:=⟨V,1,none⟩) (.inl (by simp)) (.slice none 0 0)) (fun k hk=>by
       obtain rfl:=qqq.1 hk;exact lW2)
      have H0:yV W0 T Y M V (g8 w1 V (.slice none 0 0) (.slice none 0 0)).heap.size (.slice none 0 0) (.slice none 0 0) [] ⟨[],[]⟩ I' (s.next 1) (g8 w1 V (.slice none 0 0) (.slice none 0 0)) :=
       ⟨hio,hS2,bas2,⟨hV2,qw _ _ _ _,qw _ _ _ _,rfl,aA hV2,qa _⟩,hS2.lt,hS2.ltM,nVY,nVM,lW2⟩
      have xv1:=xv _ _ H0;clear xv H0 hV1 hC1 hR1 hown1 hvv1 hvs1 aw1 bas1 hS1 so hS2 bas2 hio;unfold g8 at hV2 hC2 hR2 hown2 hvv2 hvs2 aw2 xv1;go_wp2_with(go_at_call 35;(with_reducible refine xv1.mono ?_));intro r w2;(first|(intro he9 ev2 tv2 es2 H2 V2;subst he9)|rintro ⟨rfl,ev2,tv2,es2,H2,V2⟩);have hVl:∀k,k<((w1.setCell ⟨V,0,none⟩ (.slice none 0 0)).setCell ⟨V,1,none⟩ (.slice none 0 0)).heap.size->k∉[Y,M,V]->w2.heap[k]?=((w1.setCell ⟨V,0,none⟩ (.slice none 0 0)).setCell ⟨V,1,none⟩ (.slice none 0 0)).heap[k]?:=fun k hk h=>V2.aw.block k hk (by simpa [Value.ownBlock]using h);have gt2:∀k,C<k->k≠V->k∉[Y,M,V]:=fun k hk hv=>by have:=HL.out;simp;omega
      have hC3:=(hVl C (aA hC2) (by simp;omega)).trans hC2;have hR3:=(hVl w.heap.size (aA hR2) (by have:=HL.out;simp;omega)).trans hR2;have hown3:=aB hown2 fun k hk=>hVl k (hown2.lt k hk).2 (gt2 k (by have:=(hlt1 k hk).1;omega) (by have:=(hlt1 k hk).2;omega));have hvv3:=aB hvv2 fun k hk=>hVl k (hvv2.lt k hk).2 (gt2 k (by have:=hvl k hk;omega) (by have:=hvl k hk;omega));have hvs3:=hvs2.keepT (w':=w2) fun k o T' ho _ hk=>hVl k (aA ho) (gt2 k (by omega) (by omega));have aw3:aC [Y,M] w w2:=⟨V2.aw.os.trans aw2.os,V2.aw.tape.trans aw2.tape,V2.aw.output.trans aw2.output,qx aw2.size V2.aw.size,fun k hk hb=>(V2.aw.block k (qqa hk aw2.size) (by
       simp[Value.ownBlock]at hb⊢;exact⟨hb.1,hb.2,by have:=HL.out;omega⟩)).trans (aw2.block k hk hb)⟩
      have hV3:=H2.vo.hV;have hr3:=H2.vo.r.lo (aA hV2);have hio2:=H2.io;have hS3:=H2.ps;have bas3:=H2.bas;clear hVl gt2 V2 H2 hC2 hR2 hV2 hown2 hvv2 hvs2 aw2 xv1 z0 z1 zf0 zf1;obtain⟨eo,ec,rfl⟩:=aL hr3.oe;obtain⟨tto,tc,rfl⟩:=aL hr3.ot;obtain⟨k0,k1,-,-⟩:=bL hC3;obtain⟨y0,y1,-,-⟩:=bL hV3;have hnew:=qd w2 (.cells #[.slice eo v2.evs.length ec,.slice tto v2.tups.length tc] 48);have lC3:=aA hC3;have lV3:=aA hV3;have lB3:V+1<=w2.heap.size:=lV3;have nOC:∀k,(Value.slice vo l.length vc).ownBlock=some k->k≠C:=fun k hk=>by have:=hvl k hk;omega
      have hln:cs.length=l.length*2:=hvv3.1;go_wp2_with(at_builtin;refine wpList_append_lies _ rfl _ _ 96 rfl (V+1) 48 i2 _ 2 48 Tryz.underlying96 hi2 hz2 hs2 hy2 hc2 (by omega) _ l.length _ rfl (hvv3.alloc _) ⟨w2.heap.size,0,none⟩ 1 1 #[.slice eo v2.evs.length ec,.slice tto v2.tups.length tc].toList rfl rfl (World.news_of_block (cs:=#[.slice eo v2.evs.length ec,.slice tto v2.tups.length tc]) (t:=48) (fr:=(0,0)) hnew) (by simp[Value.oneCell']) (by omega) (by unfold maxLen;omega) (by omega) (by simp;omega) (w2.heap.size+1) (by simp) ?_;intro gg wcap w9 hvv9 hgrow hat hgl;have hC9:=(hgrow.block C (by simp;omega) (fun e=>nOC C e.symm rfl)).trans ((Lib.alloc_old w2 _ _ lC3).trans hC3);have cC9:w9.cell? ⟨C,1,none⟩=some (.slice vo l.length vc):=(by rw[Lib.cell_of_heap hC9];rfl);have fC9:=Lib.frozen_of_heap hC9 1;have lC9:=aA hC9);have ca:=(qb w2.heap.size w2).alloc (qa _) (.cells #[.slice eo v2.evs.length ec,.slice tto v2.tups.length tc] 48);have hvva:=hvv3.alloc (.cells #[.slice eo v2.evs.length ec,.slice tto v2.tups.length tc] 48);have keepA:∀k,k<w2.heap.size->(Value.slice vo l.length vc).ownBlock≠some k->w9.heap[k]?=w2.heap[k]?:=fun k hk hn=>(hgrow.block k (qqa hk ca.size) (fun e=>hn e.symm)).trans (ca.block k hk);have so:=aH w9 C 1 (.slice (some ⟨gg,0,none⟩) (l.length+1) wcap);have lRw:=aw3.size;have hC10:=Lib.heap_setCell_same (i:=1) hC9 (.slice (some ⟨gg,0,none⟩) (l.length+1) wcap);have hR10:=(so w.heap.size (by have:=HL.out;omega)).trans ((keepA w.heap.size (aA hR3) (fun e=>by have:=hvl _ e;have:=HL.out;omega)).trans hR3);have hV10:=(so V (by omega)).trans ((keepA V lV3 (fun e=>by have:=hvl _ e;omega)).trans hV3);have hown10:=aB (aB hown3 fun k hk=>keepA k (hown3.lt k hk).2 (fun e=>by have:=hvl k e;have:=(hlt1 k hk).2;omega)) fun k hk=>so k (by have:=(hlt1 k hk).1;omega);have hvv10:=aB hvv9 fun k hk=>so k (by have:=(hvv9.lt k hk).1;omega);have kT:∀k (o:Array Value) (T':TypeId),w2.heap[k]?=some (.cells o T' (0,0))->VT T'->V+1<=k->(w9.setCell ⟨C,1,none⟩ (.slice (some ⟨gg,0,none⟩) (l.length+1) wcap)).heap[k]?=w2.heap[k]?:=fun k o T' ho hT hk=>(so k (by omega)).trans (keepA k (aA ho) (fun e=>by
       obtain⟨c',hc'⟩:=bA hvv3 e;exact aS ho hc' (by rcases hT with e|e|e|e|e<;>rw[e]<;>decide)))
      have hvs10:=(hvs3.keepT kT).snoc (hr3.keepT kT);have p9:PS T Y M (gS I2) s3 w9:=(hS3.step ca).grown hgrow fun k hk=>by
       have:=hvl k hk;have:=HL.out;obtain⟨c',hc'⟩:=bA hvva hk;exact⟨by omega,by omega,c',_,hc',by decide⟩
      have hS10:=p9.put (R:=C) (w':=w9.setCell ⟨C,1,none⟩ (.slice (some ⟨gg,0,none⟩) (l.length+1) wcap)) hCY hCM hC9 (by decide) so;have hlo':∀j,(Value.slice vo l.length vc).ownBlock=some j->w.heap.size<=j:=fun j hj=>by have:=hvl j hj;have:=HL.out;omega
      have aw10:=((aw3.alloc (.cells #[.slice eo v2.evs.length ec,.slice tto v2.tups.length tc] 48)).grown hgrow hlo').setCell (p:=⟨C,1,none⟩) (.inr hCw) (.slice (some ⟨gg,0,none⟩) (l.length+1) wcap);have bas10:mF W0 [Y,M] (w9.setCell ⟨C,1,none⟩ (.slice (some ⟨gg,0,none⟩) (l.length+1) wcap)):=HB.out.away aw10;go_roundg g;case measure=>omega
      case rel =>
       obtain⟨r1,r2,r3,r4⟩:=HQ2.out;refine⟨l++[v2],I2,s3,.slice (some ⟨gg,0,none⟩) (l.length+1) wcap,_,_,cs++[.slice eo v2.evs.length ec,.slice tto v2.tups.length tc],?_,r4,hio2,?_,r2,r3,hC10,hR10,hV10,hown10,?_,hvs10,hS10,bas10,aw10⟩
       ·have:=HG.out;simp only[qf,qz];omega
       ·rw[qqk];exact r1
       ·rw[qf];exact hvv10
end
end Go.Proofs.YtgkhemnmcgicnaaGreatDoor
