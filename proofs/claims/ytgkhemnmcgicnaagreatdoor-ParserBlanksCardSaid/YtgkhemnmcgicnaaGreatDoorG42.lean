/- Towards the law ParserBlanks, true for every text and all blanks (no condition): one part of the proof. -/
import Derived.Test.YtgkhemnmcgicnaaGreatDoorG01
import Derived.Test.YtgkhemnmcgicnaaGreatDoorG41
namespace Go.Proofs.YtgkhemnmcgicnaaGreatDoor
set_option maxHeartbeats 32000000
set_option maxRecDepth 100000
open Go.RowKit
section
variable{W0:World}{T:List aX}{Y M:Nat}{I:eQ}{st:aD}{w:World}{f:ByteArray->kM×Int}
theorem ZG(hf:jQ f)(hI:dH I)(h:PS T Y M (gS I) st w)(B:mF W0 [Y,M] w)(b:bC){bta bca:Option Addr}{btn bcn btc bcc:Nat} :
  Calls Tryz.prog 94 #[.pointer (some ⟨Y,0,none⟩),.agg (aU b (.slice bta btn btc) (.slice bca bcn bcc))] w fun r w'=>∃tv cv,r=.returned (.agg (aU (lF aK ⟨aP,bJ f⟩ T b I st).1.1 tv cv)) /\
   sA w.heap.size tv cv (lF aK ⟨aP,bJ f⟩ T b I st).1.1 w'/\PS T Y M (gS (lF aK ⟨aP,bJ f⟩ T b I st).1.2) (lF aK ⟨aP,bJ f⟩ T b I st).2 w'/\aC [Y,M] w w':=by
 obtain⟨btv,hbt⟩:∃v,v=Value.slice bta btn btc:=⟨_,rfl⟩;obtain⟨bcv,hbc⟩:∃v,v=Value.slice bca bcn bcc:=⟨_,rfl⟩;rw[<-hbt,<-hbc];have lY:=h.lt;have lM:=h.ltM;generalize hmf:lF aK ⟨aP,bJ f⟩ T b I st=tot;obtain⟨⟨mt,It⟩,sT⟩:=tot;simp only;have hio:=kP (T:=T) (s:=st) hI;have hobj:=fun w' (bb:Below w.heap.size w w')=>JM hI (h.step bb);obtain⟨q,hq⟩:∃q,gR T I st=q:=⟨_,rfl⟩;rw[hq]at hio;simp only[hq]at hobj;obtain⟨⟨⟨v0,v1⟩,I1⟩,s1⟩:=q;simp only at hobj hio;have hbuilt:=UV v0 v1 b.m b.fif;have hz1:(Tryz.prog.info? 94).map (·.size)=some (aU (yU v0 v1 b.m b.fif) (.slice none 0 0) (.slice none 0 0)).size:=Tryz.sizeMeas;have hzs:eD.size=(aU (yU v0 v1 b.m b.fif) (.slice none 0 0) (.slice none 0 0)).size:=rfl;have hone:(aU (yU v0 v1 b.m b.fif) (.slice none 0 0) (.slice none 0 0)).all (·.oneCell')=true:=by simp[aU,Value.oneCell']
 have honeb:(aU b btv bcv).all (·.oneCell')=true:=by rw[hbt,hbc];simp[aU,Value.oneCell']
 generalize hm1:aU (yU v0 v1 b.m b.fif) (.slice none 0 0) (.slice none 0 0)=m1 at hbuilt hz1 hzs hone;have HM:=aJ (And.intro hm1 (And.intro hmf hq));have b0:=((qb w.heap.size w).alloc (qa _) (.cells (aU b btv bcv) 94)).alloc (by simp) EA;have hB0:((w.alloc (.cells (aU b btv bcv) 94)).alloc EA).heap[w.heap.size]?=some (.cells (aU b btv bcv) 94 (0,0)):=aV _ (iW _ _ rfl);have hR0:((w.alloc (.cells (aU b btv bcv) 94)).alloc EA).heap[w.heap.size+1]?=some EA:=iW _ _ (by simp);have HP:=aJ (And.intro h (And.intro B (And.intro hI (And.intro hbt hbc))));clear hm1 hmf hq hbt hbc;go_enter Tryz.func94,Tryz.ntmps94;go_wp2
 go_cut [5]from 9 to 82 (fun s5 wc=>∃X,s5=.pointer (some ⟨X,0,none⟩)/\w.heap.size+1<X/\wc.heap[X]?=some (.cells m1 94 (0,0))/\wc.heap[w.heap.size+1]?=some EA/\PS T Y M (gS I1) s1 wc/\aC [Y,M] w wc)
 case first =>
  refine qqo ?_;refine qqi (S:=fun w'=>w'.heap[w.heap.size]?=some (.cells (aU b btv bcv) 94 (0,0))/\w'.heap[w.heap.size+1]?=some EA) (by kernel_rfl) ⟨hB0,hR0⟩ (fun hHeld => ?_);refine gQ 0 ?va rfl ?hya ?_;case hya=>(intro w hSw;go_simp;with_reducible rfl)
  try simp only[ap,nm]
  refine gQ 2 ?vb rfl ?hyb ?_;case hyb=>(intro w hSw;go_simp;with_reducible rfl)
  try simp only[ap,nm]
  refine wpAnyH_take (i:=3) rfl (by kernel_rfl) (by kernel_rfl) (by kernel_rfl) (fun _ _ _ h=>h) (C1 (by rfl) 90 _ rfl ⟨w.heap.size,2,none⟩ rfl b.m.cells _ (fun w h=>aH9 h) Tryz.underlying90 rfl Tryz.sizeMet) (by assumption) ?_;try simp only[ap,nm]
  refine gQ 4 ?vc rfl ?hyc ?_;case hyc=>(intro w hSw;go_simp;with_reducible rfl)
  try simp only[ap,nm]
  refine gQ 5 ?vd rfl ?hyd ?_;case hyd=>(intro w hSw;have c11:=aJA hSw.1;go_simp;with_reducible rfl)
  try simp only[ap,nm]
  refine wpAnyH_ready (rs:=[1,7]) (by kernel_rfl) (by simp) ?_;refine AllReadyH.cons rfl (fun K hK => ?_) (AllReadyH.cons rfl (fun K hK => ?_) AllReadyH.nil)
  ·(go_simp;go_at_call 52;refine(hobj _ b0.drew).mono ?_;intro r w1;(first|(intro he9 hS1 ha1;subst he9)|rintro ⟨rfl,hS1,ha1⟩))
   have hB1:=ha1.at (k:=w.heap.size) hB0 (by simp;omega);have hR1:=ha1.at (k:=w.heap.size+1) hR0 (by simp;omega);refine hK.out _ _ ⟨hB1,hR1⟩ (fun hHeld => ?_);clear hK K;try simp only[ap,nm]
   refine wpAnyH_take (i:=6) rfl (by kernel_rfl) (by kernel_rfl) (by kernel_rfl) (fun _ _ _ h=>h) (wY (by rfl) 94 _ rfl (l:=[(0,.agg #[Z v0,Z v1]),(1,.agg b.m.cells),(3,Z b.fif)]) (by simp[Act.eval]) hbuilt) (by assumption) ?_;try simp only[ap,nm]
   refine wpAnyH_ready (rs:=[7]) (by kernel_rfl) (by simp) ?_;refine AllReadyH.cons rfl (fun K hK => ?_) AllReadyH.nil;go_simp;refine hK.out _ _ ⟨aV _ hB1,aV _ hR1⟩ (fun hHeld => ?_);clear hK K;try simp only[ap,nm]
   refine wpAnyH_ready (rs:=[8]) (by kernel_rfl) (by simp) ?_;refine AllReadyH.cons rfl (fun K hK => ?_) AllReadyH.nil;refine AB rfl (wp_store_row 94 _ _ rfl w1.heap.size m1 rfl rfl 94 eD (qd w1 _) hz1 hzs hone ?_);have l1:=(qe.1 hR1).1;have hBf:=(setRow_other (w1.alloc (.cells eD 94)) w1.heap.size w.heap.size m1 (by omega)).trans (aV (.cells eD 94) hB1);have hRf:=(setRow_other (w1.alloc (.cells eD 94)) w1.heap.size (w.heap.size+1) m1 (by omega)).trans (aV (.cells eD 94) hR1);refine hK.out _ _ ⟨hBf,hRf⟩ (fun hHeld => ?_);clear hK K;try simp only[ap,nm]
   refine wpAnyH_done (by kernel_rfl) ?_ _;refine qqx ?_;go_wp2
   go_meet
   case rel=>exact⟨w1.heap.size,rfl,l1,setRow_heap _ _ _ _ _ (qd w1 _),hRf,(hS1.step ((qb _ w1).alloc (qa _) (.cells eD 94))).put (R:=w1.heap.size) (by omega) (by omega) (qd w1 _) (by decide) (fun k hk=>setRow_other _ _ _ _ hk),(((aC.of_below b0.drew).trans ha1).alloc _).setRow (by omega) m1⟩
  ·go_simp;refine hK.out _ _ ⟨aV _ hB0,aV _ hR0⟩ (fun hHeld => ?_);clear hK K;try simp only[ap,nm]
   refine wpAnyH_ready (rs:=[1]) (by kernel_rfl) (by simp) ?_;refine AllReadyH.cons rfl (fun K hK => ?_) AllReadyH.nil
   (go_simp;go_at_call 52;refine(hobj _ (b0.drew.alloc (by simp;omega) (.cells eD 94))).mono ?_;intro r w1;(first|(intro he9 hS1 ha1;subst he9)|rintro ⟨rfl,hS1,ha1⟩))
   have hB1:=ha1.at (k:=w.heap.size) (aV _ hB0) (by simp;omega);have hR1:=ha1.at (k:=w.heap.size+1) (aV _ hR0) (by simp;omega);have hX1:w1.heap[w.heap.size+1+1]?=some (.cells eD 94 (0,0)):=ha1.at (iW _ _ (by simp)) (by simp;omega);refine hK.out _ _ ⟨hB1,hR1⟩ (fun hHeld => ?_);clear hK K;try simp only[ap,nm]
   refine wpAnyH_take (i:=6) rfl (by kernel_rfl) (by kernel_rfl) (by kernel_rfl) (fun _ _ _ h=>h) (wY (by rfl) 94 _ rfl (l:=[(0,.agg #[Z v0,Z v1]),(1,.agg b.m.cells),(3,Z b.fif)]) (by simp[Act.eval]) hbuilt) (by assumption) ?_;try simp only[ap,nm]
   refine wpAnyH_ready (rs:=[8]) (by kernel_rfl) (by simp) ?_;refine AllReadyH.cons rfl (fun K hK => ?_) AllReadyH.nil;refine AB rfl (wp_store_row 94 _ _ rfl (w.heap.size+1+1) m1 rfl rfl 94 eD hX1 hz1 hzs hone ?_);have hBf:=(setRow_other w1 (w.heap.size+1+1) w.heap.size m1 (by omega)).trans hB1;have hRf:=(setRow_other w1 (w.heap.size+1+1) (w.heap.size+1) m1 (by omega)).trans hR1;refine hK.out _ _ ⟨hBf,hRf⟩ (fun hHeld => ?_);clear hK K;try simp only[ap,nm]
   refine wpAnyH_done (by kernel_rfl) ?_ _;refine qqx ?_;go_wp2
   go_meet
   case rel=>exact⟨w.heap.size+1+1,rfl,by omega,setRow_heap _ _ _ _ _ hX1,hRf,hS1.put (R:=w.heap.size+1+1) (by omega) (by omega) hX1 (by decide) (fun k hk=>setRow_other _ _ _ _ hk),((aC.of_below (b0.drew.alloc (by simp;omega) (.cells eD 94))).trans ha1).setRow (by omega) m1⟩
 case rest =>
  obtain⟨E,rfl,lE,hE,hR,hS,aw⟩:=hcut;rw[<-HM.out.1]at hE;clear hobj hbuilt hz1 hzs hone honeb b0 hB0 hR0;have xo:=N7 Y E wc;have lEc:=aA hE;go_wp2_with(go_at_call 135;(with_reducible refine xo.mono ?_));rintro r w3 ⟨O,Bp,Bm,bb,rfl,hO,hBp,hBm,⟨hb1,hb2,hb4,hb8⟩,⟨e1,e2,e3,e4⟩,b3⟩;have Q3:sB w T Y M (gS I1) (w.heap.size+1) E O Bp Bm bb (yU v0 v1 b.m b.fif) s1 w3 :=
   ⟨⟨hS.step b3,hBp,hBm,(b3.block _ lEc).trans hE,by omega,by omega,by omega,by omega,by omega,by omega,by omega,by omega⟩,
    (b3.block _ (aA hR)).trans hR,hO,hb1,hb2,hb4,hb8,aw.trans (aC.of_below b3),lY,lM,by omega,lE,by omega,by omega,by omega,by omega⟩
  clear xo hE hR hS aw hO hBp hBm hb1 hb2 hb4 hb8 e1 e2 e3 e4 b3 lEc lE;have HBs:=aJ HP.out.2.1;clear HP;obtain⟨R,hRe⟩:∃R,R=w.heap.size+1:=⟨_,rfl⟩;rw[<-hRe]at Q3⊢;clear hRe
  go_upto_block 0 with(fail)
  go_cut []from 20 to 82 (fun wc=>∃(m:bC)(s:aD),nQ T (fT ⟨aP,bJ f⟩ T) (yU v0 v1 b.m b.fif) s1=(m,s)/\fS w T Y M (gS I1) R E m (.slice none 0 0) (.slice none 0 0) [] [] s wc)
  case first =>
   go_wp2_with(fail)
   go_loopg [19] 14 (fun g s19 wr => ∃ (j : Nat) (m : bC) (s : aD), j <= 14 /\ g = 14 - j /\ s19 = Z (j : Nat) /\ nQ T ((fT ⟨aP, bJ f⟩ T).drop j) m s = nQ T (fT ⟨aP, bJ f⟩ T) (yU v0 v1 b.m b.fif) s1 /\ lH j m.la /\
     sB w T Y M (gS I1) R E O Bp Bm bb m s wr)
   case atStart=>exact⟨0,_,_,by omega,rfl,rfl,rfl,⟨Int.le_refl _,fun _=>rfl,fun h=>by omega,fun h=>by omega,fun h=>by omega⟩,Q3⟩
   case round =>
    clear Q3;obtain⟨j,m,s,hj,hg,rfl,hopt,hla,Q⟩:=hrel;have j0:(0:Int)<=(j:Int):=by omega
    have m1:IntKind.i64.wrap ((j:Int)+1)=(j:Int)+1:=IntWalk.i64_in _ (by omega);by_cases hlt:j<14
    ·rw[ZF _ _ j hlt]at hopt;have hlt':(j:Int)<14:=by omega
     have hcl:=aK2 Q.hO hlt;obtain⟨rd,hrd⟩:=aL0 ⟨aP,bJ f⟩ T hlt;have xr:=fun m' s' w' (BB:mF W0 [Y,M] w') (HH:sB w T Y M (gS I1) R E O Bp Bm bb m' s' w') (hl:lH j m'.la)=>aL1 (f:=f) hlt hf BB HH hl;have hen:=fun a w=>aJD hlt a w;generalize aCF j=wd at hcl hrd;generalize oFn j=fn at hcl xr hen;have HEN:=aJ hen;clear hen;generalize aJC Bp Bm bb j=cp at hcl xr;have bz:=((qb wr.heap.size wr).alloc (qa _) (.cells #[.string wd,.func (.func fn) #[] cp] 212)).drew;have Q1:=Q.step bz;have hA:(wr.alloc (.cells #[.string wd,.func (.func fn) #[] cp] 212)).drew.heap[wr.heap.size]?=some (.cells #[.string wd,.func (.func fn) #[] cp] 212 (0,0)):=qd wr _;have a0:(wr.alloc (.cells #[.string wd,.func (.func fn) #[] cp] 212)).cell? ⟨wr.heap.size,0,none⟩=some (.string wd):=by rw[Lib.cell_of_heap (qd wr _)];rfl
     have lYw:=Q.op.ps.lt;have lMw:=Q.op.ps.ltM;have xa:=d9 Q1.op.ps wd;cases hb:isS T wd s with
     |false =>
      rw[hb]at xa;rw[show aY T wd s=s by unfold aY;rw[if_neg (by rw[hb];decide)]]at xa;rw[aKX hrd hb]at hopt;have HO:=aJ (And.intro hopt hla);clear hopt hla hb Q xr hrd;go_wp2_with(first
       |(refine dZ rfl 212 _ rfl ⟨O,j*2,none⟩ rfl #[.string wd,.func (.func fn) #[] cp] _ (fun m u hu=>by rw[NY];exact hcl m u hu) Tryz.underlying212 rfl Tryz.sizeOpt ?_)
       |(refine dA (w:=wr) rfl 212 _ _ rfl #[.string wd,.func (.func fn) #[] cp] _ _ rfl rfl rfl Tryz.sizeOpt rfl (XQ rfl) ?_))
      go_region_held3 (fun w'=>w'.cell? ⟨wr.heap.size,0,none⟩=some (.string wd)) (go_keep) ((go_at_call 53;refine xa.mono ?_;intro r w6;(first|(intro he9 hS6 b6;subst he9)|rintro ⟨rfl,hS6,b6⟩);have hA6:=b6.at hA (by simp;omega);have a6:w6.cell? ⟨wr.heap.size,0,none⟩=some (.string wd):=by rw[Lib.cell_of_heap hA6];rfl))
      all_goals go_wp2
      all_goals go_roundg (14-(j+1))
      all_goals first
       |omega
       |exact⟨j+1,m,s,by omega,rfl,by simp,HO.out.1,⟨HO.out.2.1,fun h=>HO.out.2.2.1 (by omega),fun h=>by have:=HO.out.2.2;omega,fun h=>by have:=HO.out.2.2;omega,fun h=>by have:=HO.out.2.2;omega⟩,Q1.call hS6 b6⟩
     |true =>
      rw[hb]at xa;rw[show aY T wd s=s.next 1 by unfold aY;rw[if_pos hb]]at xa;rw[aJB hrd hb]at hopt;have HO:=aJ (And.intro hopt hla);have HRD:=aJ hrd;clear hopt hla hb Q hrd;go_wp2_with(first
       |(refine dZ rfl 212 _ rfl ⟨O,j*2,none⟩ rfl #[.string wd,.func (.func fn) #[] cp] _ (fun m u hu=>by rw[NY];exact hcl m u hu) Tryz.underlying212 rfl Tryz.sizeOpt ?_)
       |(refine dA (w:=wr) rfl 212 _ _ rfl #[.string wd,.func (.func fn) #[] cp] _ _ rfl rfl rfl Tryz.sizeOpt rfl (XQ rfl) ?_))
      go_region_held3 (fun w'=>w'.cell? ⟨wr.heap.size,0,none⟩=some (.string wd)) (go_keep) ((go_at_call 53;refine xa.mono ?_;intro r w6;(first|(intro he9 hS6 b6;subst he9)|rintro ⟨rfl,hS6,b6⟩);have hA6:=b6.at hA (by simp;omega);have a6:w6.cell? ⟨wr.heap.size,0,none⟩=some (.string wd):=by rw[Lib.cell_of_heap hA6];rfl))
      have a7:w6.cell? ⟨wr.heap.size,1,none⟩=some (.func (.func fn) #[] cp):=by rw[Lib.cell_of_heap hA6];rfl
      have Q6:=Q1.call hS6 b6;have xk:=xr m _ w6 (HBs.out.away Q6.aw) Q6 HO.out.2;clear xa hA a0 hA6 xr Q1 hS6 b6 Q6 bz hcl;go_wp2;rw[HEN.out,Oper.upon_enter];refine xk.mono ?_;rintro r w7 ⟨rfl,m',s',hrd',hla',Q7,-⟩;rw[HRD.out,qqu,qv]at hrd';have hop2:=HO.out.1;have hrd2:rd m (aD.next 1 s)=(m',s'):=hrd';rw[hrd2]at hop2;simp only[Act.put,List.setIfInBounds_toArray,List.set_cons_zero,List.set_cons_succ];go_wp2;go_roundg (14-(j+1));case measure=>omega
      case rel=>exact⟨j+1,m',s',by omega,rfl,by simp,hop2,hla',Q7⟩
    ·obtain rfl:j=14:=by omega
     clear hj j0 m1 hlt;rw[show(fT ⟨aP,bJ f⟩ T).drop 14=[]from rfl,nQ]at hopt;go_wp2
     go_meet
     case rel=>exact⟨m,s,hopt.symm,Q.meas⟩
  case rest =>
   clear Q3;obtain⟨m,s2,hopt,Q2⟩:=hcut;obtain⟨qt,hqt⟩:∃q,jN T T.length s2=q:=⟨_,rfl⟩;obtain⟨ts,s3⟩:=qt;have HM2:=aJ (And.intro HM.out.2.1 (And.intro HM.out.2.2 (And.intro hopt hqt)));have hnd:=uF T s2;have hmax:=Q2.ps.good.max;clear HM hopt;obtain⟨i1,hi1,z1,hz1,hc1,hs1,hy1⟩:=oR Tryz.infotem;obtain⟨i2,hi2,z2,hz2,hc2,hs2,hy2⟩:=oR Tryz.infocell
   go_upto_block 2 with(fail)
   go_cut []from 8 to 82 (fun wc=>∃tv,fS w T Y M (gS I1) R E m tv (.slice none 0 0) ts [] s3 wc)
   case first =>
    obtain⟨N,hN⟩:∃N,Shut (T.length=N):=⟨_,rfl⟩;have hN4:N<=4001:=by rw[<-hN.out];exact hmax
    rw[hN.out]at hqt hnd;have HT:=aJ (And.intro hqt hnd);clear hqt hnd hmax;go_wp2_with(fail)
    go_loopg [] N (fun gk wr=>∃(l:List (Int×Int×Bool))(s:aD)(tv:Value),l.length+gk=N/\need T s<=gk/\(l++(jN T gk s).1,(jN T gk s).2)=(ts,s3)/\fS w T Y M (gS I1) R E m tv (.slice none 0 0) l [] s wr)
    case atStart=>exact⟨[],s2,_,by simp,HT.out.2,by rw[HT.out.1];rfl,Q2⟩
    case round =>
     clear Q2 HT;obtain⟨l,s,tv,hlen,hneed,htot,Q⟩:=hrel;have xa:=Q.accept ⟨#[116,101,109,112,111]⟩;cases hb:isS T ⟨#[116,101,109,112,111]⟩ s with
     |false =>
      rw[hb,show aY T ⟨#[116,101,109,112,111]⟩ s=s by unfold aY;rw[if_neg (by rw[hb];decide)]]at xa;rw[aCG hb,qqe,qu]at htot;obtain⟨rfl,rfl⟩:=htot;clear hb Q;go_wp2_with(go_at_call 53;(with_reducible refine xa.mono ?_));intro r w1;(first|(intro he9 Q1 b1;subst he9)|rintro ⟨rfl,Q1,b1⟩);clear xa;go_wp2
      go_meet
      case rel=>exact⟨tv,Q1⟩
     |true =>
      obtain⟨g,rfl⟩:∃g,gk=g+1:=⟨gk-1,by have:=eF hb;omega⟩;have n0:=eF hb;have n1:=eX (T:=T) (eP s) n0;have n2:=bU (T:=T) (eE T 0 4398046511104 (s.next 1)).back;have n3:=bU (T:=T) (eE T 1 60000000 (bD T 0 4398046511104 (s.next 1)).2).back;have n4:=bU (T:=T) (B4 T ⟨#[114,97,109,112]⟩ (bD T 1 60000000 (bD T 0 4398046511104 (s.next 1)).2).2);rw[ZH hb]at htot;rw[hb,show aY T ⟨#[116,101,109,112,111]⟩ s=s.next 1 by unfold aY;rw[if_pos hb]]at xa;have x1:=fun w' (h:fS w T Y M (gS I1) R E m tv (.slice none 0 0) l [] (s.next 1) w')=>h.number 0 4398046511104;generalize bD T 0 4398046511104 (s.next 1)=qn at x1 n2 n3 n4 htot;obtain⟨q1,s4⟩:=qn;simp only at x1 n2 n3 n4 htot;have x2:=fun w' (h:fS w T Y M (gS I1) R E m tv (.slice none 0 0) l [] s4 w')=>h.number 1 60000000;generalize bD T 1 60000000 s4=qn at x2 n3 n4 htot;obtain⟨q2,s5⟩:=qn;simp only at x2 n3 n4 htot;have x3:=fun w' (h:fS w T Y M (gS I1) R E m tv (.slice none 0 0) l [] s5 w')=>h.accept ⟨#[114,97,109,112]⟩;generalize aY T ⟨#[114,97,109,112]⟩ s5=s6 at x3 n4 htot;generalize isS T ⟨#[114,97,109,112]⟩ s5=q3 at x3 htot;have HG:=aJ (And.intro hlen (And.intro htot (show need T s6<=g by omega)));have hl4:l.length<=4001:=by omega
      clear htot n0 n1 n2 n3 n4 hneed hb hlen Q;go_wp2_with(go_at_call 53;(with_reducible refine xa.mono ?_));intro r w1;(first|(intro he9 Q1 b1;subst he9)|rintro ⟨rfl,Q1,b1⟩);clear xa b1;have Q1d:=Q1.step (qb _ w1).drew;have lE:=Q1.lE;have lR:=Q1.lR;go_upto_region 9 with(fail)
      go_cut [8]from 33 to 55 (fun s8 wc=>∃X,s8=.pointer (some ⟨X,0,none⟩)/\E<X/\wc.heap[X]?=some (.cells (RW (q1,q2,q3)) 175 (0,0))/\fS w T Y M (gS I1) R E m tv (.slice none 0 0) l [] s6 wc)
      case first =>
       have Q1a:=(Q1.alloc (.cells #[Z 0,Z 0,.bool false] 175)).step (qb _ (w1.alloc (.cells #[Z 0,Z 0,.bool false] 175))).drew;have hX1:(w1.alloc (.cells #[Z 0,Z 0,.bool false] 175)).drew.heap[w1.heap.size]?=some (.cells #[Z 0,Z 0,.bool false] 175 (0,0)):=qd w1 _;have s1:=Q1.aw.size;have sX:=aA Q1.hE
       go_region_law ((first
        |(go_simp;go_at_call_of 114 ((.int .i64 4398046511104:Value));first
         |(refine(x1 _ Q1a).mono ?_;intro r w2;(first|(intro he9 Q2 a2;subst he9)|rintro ⟨rfl,Q2,a2⟩);have hX:=Q1a.at hX1 s1 a2;have lX:=sX;have hn:=Q1.new;have s2:=Q2.aw.size;have lX2:=aA Q2.hE;obtain⟨c0,c1,c2,f0,f1,f2⟩:=dD hX)
         |(refine(x1 _ Q1d).mono ?_;intro r w2;(first|(intro he9 Q2 a2;subst he9)|rintro ⟨rfl,Q2,a2⟩);have s2:=Q2.aw.size;have lX2:=aA Q2.hE))
        |(go_simp;go_at_call_of 114 ((.int .i64 60000000:Value));first
         |(refine(x2 _ (Q2.alloc (.cells #[Z 0,Z 0,.bool false] 175))).mono ?_;intro r w3;(first|(intro he9 Q3 a3;subst he9)|rintro ⟨rfl,Q3,a3⟩);have hX:=Q2.at' (qd _ _) s2 a3;have lX:=lX2;have hn:=Q2.new;have s3:=Q3.aw.size;have lX3:=aA Q3.hE;obtain⟨c0,c1,c2,f0,f1,f2⟩:=dD hX)
         |(refine(x2 _ Q2).mono ?_;intro r w3;(first|(intro he9 Q3 a3;subst he9)|rintro ⟨rfl,Q3,a3⟩);have hX:=Q2.at hX (by omega) a3;obtain⟨c0,c1,c2,f0,f1,f2⟩:=dD hX)
         |(refine(x2 _ Q2).mono ?_;intro r w3;(first|(intro he9 Q3 a3;subst he9)|rintro ⟨rfl,Q3,a3⟩);have s3:=Q3.aw.size;have lX3:=aA Q3.hE))
        |(go_simp;go_at_call 53;first
         |(refine(x3 _ (Q3.alloc (.cells #[Z 0,Z 0,.bool false] 175))).mono ?_;intro r w4;(first|(intro he9 Q4 a4;subst he9)|rintro ⟨rfl,Q4,a4⟩);have hX:=Q3.at' (qd _ _) s3 a4;have lX:=lX3;have hn:=Q3.new;obtain⟨c0,c1,c2,f0,f1,f2⟩:=dD hX)
         |(refine(x3 _ Q3).mono ?_;intro r w4;(first|(intro he9 Q4 a4;subst he9)|rintro ⟨rfl,Q4,a4⟩);have hX:=Q3.at hX (by omega) a4;obtain⟨c0,c1,c2,f0,f1,f2⟩:=dD hX)
         |(refine(x3 _ Q3).mono ?_;intro r w4;(first|(intro he9 Q4 a4;subst he9)|rintro ⟨rfl,Q4,a4⟩);have lX:=aA Q4.hE))))
       all_goals go_wp2
       all_goals go_meet
       all_goals first
        |exact⟨_,rfl,lX,qd _ _,Q4.alloc _⟩
        |exact⟨_,rfl,lX,gP hX,Q4.else _ lX hX hn (by decide) (pG w4 _ _ _ _) (rG Q4.aw (by omega) _ _ _)⟩
      case rest =>
       clear Q1 Q1d x1 x2 x3;obtain⟨X,rfl,lX,hX,Q⟩:=hcut;obtain⟨ao,cp,rfl⟩:=aL Q.ot;obtain⟨e0,e1,e2,-⟩:=dD hX;obtain⟨k0,-,kf⟩:=Q.facts;have hown:=Q.ot;have Qa:=Q.alloc (.cells #[Z q1,Z q2,.bool q3] 175);have hnew:=qd wc (.cells #[Z q1,Z q2,.bool q3] 175);have szw:=Q.aw.size;go_wp2_with(at_builtin;refine wpList_append_lies _ rfl _ _ 91 rfl w.heap.size 175 i1 _ 3 24 Tryz.underlying91 hi1 hz1 hs1 hy1 hc1 (by omega) _ l.length _ rfl (hown.alloc _) ⟨wc.heap.size,0,none⟩ 1 1 #[Z q1,Z q2,.bool q3].toList rfl rfl (World.news_of_block (cs:=#[Z q1,Z q2,.bool q3]) (t:=175) (fr:=(0,0)) hnew) (by simp[Value.oneCell']) (by omega) (by unfold maxLen;omega) (by omega) (by simp;omega) (wc.heap.size+1) (by simp) ?_;intro gg wcap w9 hown9 hgrow hat hgl;obtain⟨hE9,Q9⟩:=Qa.pushT (t:=(q1,q2,q3)) hgrow hown9;have k9:w9.cell? ⟨E,20,none⟩=some (.slice ao l.length cp):=(by rw[Lib.cell_of_heap hE9];rfl);have f9:=Lib.frozen_of_heap hE9 20);go_roundg g;case measure=>omega
       case rel =>
        obtain⟨h1,h2,h3⟩:=HG.out;refine⟨l++[(q1,q2,q3)],s6,.slice (some ⟨gg,0,none⟩) (l.length+1) wcap,?_,h3,?_,Q9⟩
        ·simp only[qf,qz];omega
        ·rw[qqk];exact h2
   case rest =>
    clear Q2;obtain⟨tv,Q⟩:=hcut;obtain⟨qc,hqc⟩:∃q,jY aK ⟨aP,bJ f⟩ T I1 (bY T ⟨#[123]⟩ s3)=q:=⟨_,rfl⟩;obtain⟨⟨c0,I2⟩,s4⟩:=qc;obtain⟨qm,hqm⟩:∃q,kW aK ⟨aP,bJ f⟩ T T.length I2 s4=q:=⟨_,rfl⟩;obtain⟨⟨csm,I3⟩,s5⟩:=qm;obtain⟨h1,h2,h3,h4⟩:=HM2.out;have hfin:=aCJ h2 h3 h4 hqc hqm;rw[h1]at hfin;have HF:=aJ hfin;have hnd4:=uF T s4;have hio2:dH I2:=by
     have:=uE (O:=aK) (B:=⟨aP,bJ f⟩) (T:=T) (s:=bY T ⟨#[123]⟩ s3) hio;rw[hqc]at this;exact this
    have HQM:=aJ (And.intro hqm (And.intro hnd4 hio2));have xe:=Q.expect ⟨#[123]⟩;clear hfin h1 h2 h3 h4 HM2 hqm hnd hqt hnd4 hio2;go_wp2_with(go_at_call 54;(with_reducible refine xe.mono ?_));intro r w1;(first|(intro he9 Q1 b1;subst he9)|rintro ⟨rfl,Q1,b1⟩);clear xe b1 Q;have Q1d:=Q1.step (qb _ w1).drew;have k1:=Q1d.facts.2.1;have xc:=Q1d.cell (mo:=bJ f) hio HBs.out;rw[hqc]at xc;simp only at xc;clear hqc;generalize c0=c at xc HF;go_upto_region 12 with(fail)
    go_cut []from 9 to 82 (fun wc=>∃cv,fS w T Y M (gS I2) R E m tv cv ts [c] s4 wc)
    case first =>
     go_region_law ((first
      |(go_simp;go_at_call 136;refine xc.mono ?_;rintro r w2 ⟨ca,cb,rfl,hC,Q2,a2⟩;obtain⟨o1,p1,rfl⟩:=aL hC.oc;obtain⟨vs1,hv1,hv2⟩:=hC.ex;obtain⟨o2,p2,rfl⟩:=aL hv1;have k2:=Q2.facts.2.1;have kf2:=Q2.facts.2.2 21;have sz2:=Q2.aw.size;obtain⟨vs,ow2,cs2⟩:=(Q2.alloc (.cells #[.slice o1 c.clefs.length p1,.slice o2 c.vs.length p2] 98)).oc;have hC2:=hC.keepT (w':=w2.alloc (.cells #[.slice o1 c.clefs.length p1,.slice o2 c.vs.length p2] 98)) fun k o T ho _ _=>Lib.alloc_old _ _ k (aA ho);have Q2a:=Q2.alloc (.cells #[.slice o1 c.clefs.length p1,.slice o2 c.vs.length p2] 98);have lE2:=aA Q2.hE)
      |(refine step_append_lies _ (by rfl) _ _ _ (by rfl) w.heap.size 98 i2 _ 2 48 Tryz.underlying92 hi2 hz2 hs2 hy2 hc2 (by omega) (.slice none 0 0) 0 vs (by rfl) ow2 ⟨w2.heap.size,0,none⟩ 1 1 [.slice o1 c.clefs.length p1,.slice o2 c.vs.length p2] (by rfl) (by rfl) (World.news_of_block (cs:=#[.slice o1 c.clefs.length p1,.slice o2 c.vs.length p2]) (t:=98) (fr:=(0,0)) (qd _ _)) (by simp[Value.oneCell']) (by omega) (by simp only[maxLen];omega) (by omega) (by simp;omega) (w2.heap.size+1) (by simp) ?_;intro gg cap w9 hown9 hgrow hat hgl;obtain⟨hE9,Q9⟩:=Q2a.pushC hgrow ow2 cs2 hC2 hown9;have k9:w9.cell? ⟨E,21,none⟩=some (.slice none 0 0):=(by rw[Lib.cell_of_heap hE9];rfl);have f9:=Lib.frozen_of_heap hE9 21)))
     all_goals go_wp2
     all_goals go_meet
     all_goals exact⟨_,Q9⟩
    case rest =>
     clear Q1 Q1d xc k1;obtain⟨cv,Q⟩:=hcut
     go_upto_block 4 with(fail)
     go_cut []from 9 to 82 (fun wc=>∃cv,fS w T Y M (gS I3) R E m tv cv ts (c::csm) s5 wc)
     case first =>
      obtain⟨N,hN⟩:∃N,Shut (T.length=N):=⟨_,rfl⟩;have hN4:N<=4001:=by rw[<-hN.out];exact hmax
      have HT:=HQM.out;rw[hN.out]at HT;have HT:=aJ HT;clear hmax HQM;go_wp2_with(fail)
      go_loopg [] N (fun gk wr=>∃(l:List jF)(I':eQ)(s:aD)(cv:Value),l.length+gk=N+1/\need T s<=gk/\dH I'/\l++(kW aK ⟨aP,bJ f⟩ T gk I' s).1.1=c::csm/\(kW aK ⟨aP,bJ f⟩ T gk I' s).1.2=I3/\(kW aK ⟨aP,bJ f⟩ T gk I' s).2=s5/\fS w T Y M (gS I') R E m tv cv ts l s wr)
      case atStart =>
       obtain⟨h1,h2,h3⟩:=HT.out;exact⟨[c],I2,s4,cv,by simp;omega,h2,h3,by rw[h1];rfl,by rw[h1],by rw[h1],Q⟩
      case round =>
       clear Q HT;obtain⟨l,I',s,cv,hlen,hneed,hio',hct,hIt,hsT,Q⟩:=hrel;have xa:=Q.accept ⟨#[47]⟩;cases hb:isS T ⟨#[47]⟩ s with
       |false =>
        rw[hb,show aY T ⟨#[47]⟩ s=s by unfold aY;rw[if_neg (by rw[hb];decide)]]at xa;rw[aCH hb]at hct hIt hsT;simp only[qqe]at hct hIt hsT;subst hct hIt hsT;clear hb Q;go_wp2_with(go_at_call 53;(with_reducible refine xa.mono ?_));intro r w1;(first|(intro he9 Q1 b1;subst he9)|rintro ⟨rfl,Q1,b1⟩);clear xa;go_wp2
        go_meet
        case rel=>exact⟨cv,Q1⟩
       |true =>
        obtain⟨g,rfl⟩:∃g,gk=g+1:=⟨gk-1,by have:=eF hb;omega⟩;have n0:=eF hb;have n1:=eX (T:=T) (eP s) n0;have n2:=bU (T:=T) (CX (O:=aK) (B:=⟨aP,bJ f⟩) (T:=T) I' (s.next 1));have hio3:=uE (O:=aK) (B:=⟨aP,bJ f⟩) (T:=T) (s:=s.next 1) hio';obtain⟨qc,hqc⟩:∃q,jY aK ⟨aP,bJ f⟩ T I' (s.next 1)=q:=⟨_,rfl⟩;obtain⟨⟨c,I4⟩,s6⟩:=qc;rw[hqc]at n2 hio3;simp only at n2 hio3;rw[ZJ hb hqc]at hct hIt hsT;simp only at hct hIt hsT;rw[hb,show aY T ⟨#[47]⟩ s=s.next 1 by unfold aY;rw[if_pos hb]]at xa;have HG:=aJ (And.intro hlen (And.intro hct (And.intro hIt (And.intro hsT (And.intro hio3 (show need T s6<=g by omega))))));have hl4:l.length<=4002:=by omega
        clear hct hIt hsT n0 n1 n2 hneed hb hlen hio3 Q;go_wp2_with(go_at_call 53;(with_reducible refine xa.mono ?_));intro r w1;(first|(intro he9 Q1 b1;subst he9)|rintro ⟨rfl,Q1,b1⟩);clear xa b1;obtain⟨vs0,ow0,-⟩:=Q1.oc;obtain⟨ao,cp,rfl⟩:=aL ow0;have Q1d:=Q1.step (qb _ w1).drew;have k1:=Q1d.facts.2.1;have xc:=Q1d.cell (mo:=bJ f) hio' HBs.out;rw[hqc]at xc;simp only at xc;clear hqc ow0;go_upto_region 14 with(fail)
        go_region_law ((first
        |(go_simp;go_at_call 136;refine xc.mono ?_;rintro r w2 ⟨ca,cb,rfl,hC,Q2,a2⟩;obtain⟨o1,p1,rfl⟩:=aL hC.oc;obtain⟨vs1,hv1,hv2⟩:=hC.ex;obtain⟨o2,p2,rfl⟩:=aL hv1;have k2:=Q2.facts.2.1;have kf2:=Q2.facts.2.2 21;have sz2:=Q2.aw.size;obtain⟨vs,ow2,cs2⟩:=(Q2.alloc (.cells #[.slice o1 c.clefs.length p1,.slice o2 c.vs.length p2] 98)).oc;have hC2:=hC.keepT (w':=w2.alloc (.cells #[.slice o1 c.clefs.length p1,.slice o2 c.vs.length p2] 98)) fun k o T ho _ _=>Lib.alloc_old _ _ k (aA ho);have Q2a:=Q2.alloc (.cells #[.slice o1 c.clefs.length p1,.slice o2 c.vs.length p2] 98);have lE2:=aA Q2.hE)
        |(refine step_append_lies _ (by rfl) _ _ _ (by rfl) w.heap.size 98 i2 _ 2 48 Tryz.underlying92 hi2 hz2 hs2 hy2 hc2 (by omega) (.slice ao l.length cp) l.length vs (by rfl) ow2 ⟨w2.heap.size,0,none⟩ 1 1 [.slice o1 c.clefs.length p1,.slice o2 c.vs.length p2] (by rfl) (by rfl) (World.news_of_block (cs:=#[.slice o1 c.clefs.length p1,.slice o2 c.vs.length p2]) (t:=98) (fr:=(0,0)) (qd _ _)) (by simp[Value.oneCell']) (by omega) (by simp only[maxLen];omega) (by omega) (by simp;omega) (w2.heap.size+1) (by simp) ?_;intro gg cap w9 hown9 hgrow hat hgl;obtain⟨hE9,Q9⟩:=Q2a.pushC hgrow ow2 cs2 hC2 hown9;have k9:w9.cell? ⟨E,21,none⟩=some (.slice ao l.length cp):=(by rw[Lib.cell_of_heap hE9];rfl);have f9:=Lib.frozen_of_heap hE9 21)))
        all_goals go_wp2
        all_goals go_roundg g
        all_goals first
         |omega
         |(obtain⟨h1,h2,h3,h4,h5,h6⟩:=HG.out;exact⟨l++[c],I4,s6,_,by simp only[qf,qz];omega,h6,h5,by rw[qqk];exact h2,h3,h4,Q9⟩)
     case rest =>
      obtain⟨cv,Q⟩:=hcut;have xe:=Q.expect ⟨#[125]⟩;go_wp2_with(go_at_call 54;(with_reducible refine xe.mono ?_));intro r w1;(first|(intro he9 Q1 b1;subst he9)|rintro ⟨rfl,Q1,b1⟩);clear xe b1 Q;obtain⟨ao,ap,rfl⟩:=aL Q1.ot;obtain⟨vs,ow,-⟩:=Q1.oc;obtain⟨co,cp,rfl⟩:=aL ow;have hone:(aU m (.slice ao ts.length ap) (.slice co (c::csm).length cp)).all (·.oneCell')=true:=by simp[aU,Value.oneCell']
      have hz:(Tryz.prog.info? 94).map (·.size)=some (aU m (.slice ao ts.length ap) (.slice co (c::csm).length cp)).size:=Tryz.sizeMeas;have hsz:eD.size=(aU m (.slice ao ts.length ap) (.slice co (c::csm).length cp)).size:=rfl;have hE:=Q1.hE;have hR:=Q1.hR;obtain⟨hfm,hfs⟩:=Q1.done (w':=w1.setRow R (aU m (.slice ao ts.length ap) (.slice co (c::csm).length cp))) (fun k hk=>setRow_other _ _ _ _ hk);have awf:=Q1.aw.setRow Q1.lR (aU m (.slice ao ts.length ap) (.slice co (c::csm).length cp));have hq:=HF.out;rw[qu,qu]at hq;obtain⟨⟨rfl,rfl⟩,rfl⟩:=hq;have HFF:=aJ (And.intro hfm (And.intro hfs awf));clear hfm hfs awf Q1 ow HF;obtain⟨mm,hmm⟩:∃mm,aU m (.slice ao ts.length ap) (.slice co (c::csm).length cp)=mm:=⟨_,rfl⟩;rw[hmm]at hone hz hsz hE HFF;have hRf:(w1.setRow R mm).heap[R]?=some (.cells mm 94 (0,0)):=setRow_heap _ _ _ _ _ hR;have HMM:=aJ hmm;clear hmm;go_wp2_with(first
       |(refine qqv rfl 94 _ rfl E rfl 94 mm (0,0) _ hE Tryz.underlying94 rfl hz ?_)
       |(refine wpList_store_row rfl 94 _ _ rfl R mm rfl rfl 94 eD hR hz hsz hone ?_))
      refine qg (qp rfl _ _ R 94 mm (0,0) _ rfl hRf Tryz.underlying94 rfl hz) rfl ?_;refine⟨_,_,?_,HFF.out⟩;rw[<-HMM.out];rfl
end
end Go.Proofs.YtgkhemnmcgicnaaGreatDoor
