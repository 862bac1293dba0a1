/- Towards the law ParserBlanks, true for every text and all blanks (no condition): one part of the proof. -/
import Derived.Test.YtgkhemnmcgicnaaGreatDoorG01
import Derived.Test.YtgkhemnmcgicnaaGreatDoorG43
import Derived.Test.YtgkhemnmcgicnaaGreatDoorG40
import Derived.Great.Walk
import Derived.Deep.Cut
import Derived.Deep.CutBlock
namespace Go.Proofs.YtgkhemnmcgicnaaGreatDoor
set_option maxHeartbeats 32000000
set_option maxRecDepth 100000
open Go.RowKit
def JU(la:Bool)(l0 lo ll:List (Int×Int)):Prop:=(if la=true then l0 else lo)=ll
theorem JU.yes{l0 lo ll:List (Int×Int)}(h:JU true l0 lo ll):l0=ll:=h
theorem JU.no{l0 lo ll:List (Int×Int)}(h:JU false l0 lo ll):lo=ll:=h
theorem Tryz.sizeSco:(Tryz.prog.info? 64).map (·.size)=some 6:=by kernel_rfl
theorem Tryz.infoid:(Tryz.prog.info? 24).map (fun i=>(i.zero.map fun z=>z.cells.size,i.size,i.bytes))=some (some 2,2,16):=by kernel_rfl
theorem Tryz.infopart:(Tryz.prog.info? 117).map (fun i=>(i.zero.map fun z=>z.cells.size,i.size,i.bytes))=some (some 6,6,72):=by kernel_rfl
theorem Tryz.infomeas:(Tryz.prog.info? 94).map (fun i=>(i.zero.map fun z=>z.cells.size,i.size,i.bytes))=some (some 22,22,216):=by kernel_rfl
theorem Tryz.infospan:(Tryz.prog.info? 127).map (fun i=>(i.zero.map fun z=>z.cells.size,i.size,i.bytes))=some (some 7,7,56):=by kernel_rfl
theorem Tryz.sizeSpan:(Tryz.prog.info? 127).map (·.size)=some 7:=by kernel_rfl
theorem WA(m:bC)(ta ca:Option Addr)(tn tc cn cc:Nat):Tryz.prog.builtSlice 94 1 [(0,.agg (aU m (.slice ta tn tc) (.slice ca cn cc)))]=some (aU m (.slice ta tn tc) (.slice ca cn cc)):=by kernel_rfl
theorem aLD:¬ST 94:=by unfold ST CT VT;decide
theorem JV{P:Program}{ops:Array Oper}{rest:List Oper}{o:Oper}{a:Act}{w:World}{Q:Exit->Act->World->Prop}(hg:o.guard=none)(t e:TypeId)(len:Nat)(parts:Array (Nat×Operand))(ho:o.op=.buildSlice t len parts)
  (N:Nat) (hN:w.heap.size=N) (hu:P.underlying t=some (.slice e)) (cells:Array Value) {l:List (Nat×Value)} (hl:(parts.map fun(i,x)=>(i,a.eval x)).toList=l)
  (hf:P.builtSlice e len l=some cells) (h:wpList P ops Q rest (a.put o.dst (.slice (some ⟨N,0,none⟩) len len)) (w.alloc (.cells cells e))):wpList P ops Q (o::rest) a w:=by
 subst hl;exact Great.wpList_buildSliceTo hg t e len parts ho N hN _ rfl hu cells hf h
section
variable{w0:World}{T:List aX}{Y M:Nat}{fr:Fr}{R E Bm:Nat}{ti:ByteArray}{wr:Bool}{pv mv xv lv:Value}{pl:List iZ}{ms:List bC}{xs:List wV}{ls:List (Int×Int)}{s:aD}{w:World}
theorem bS.c2(h:bS w0 T Y M fr R E Bm ti wr pv mv xv lv pl ms xs ls s w):w.cell? ⟨E,2,none⟩=some pv:=h.facts.2.2.1
theorem bS.c3(h:bS w0 T Y M fr R E Bm ti wr pv mv xv lv pl ms xs ls s w):w.cell? ⟨E,3,none⟩=some mv:=h.facts.2.2.2.1
theorem bS.c4(h:bS w0 T Y M fr R E Bm ti wr pv mv xv lv pl ms xs ls s w):w.cell? ⟨E,4,none⟩=some xv:=h.facts.2.2.2.2.1
theorem bS.c5(h:bS w0 T Y M fr R E Bm ti wr pv mv xv lv pl ms xs ls s w):w.cell? ⟨E,5,none⟩=some lv:=h.facts.2.2.2.2.2.1
theorem bS.fresh2(h:bS w0 T Y M fr R E (Bm+1) ti wr pv mv xv lv pl ms xs ls s w){c:Array Value}(_hl:Bm<Bm+1)(hB:w.heap[Bm]?=some (.cells c 94 (0,0))):pv.ownBlock≠some Bm/\mv.ownBlock≠some Bm/\xv.ownBlock≠some Bm/\lv.ownBlock≠some Bm:=by
 obtain⟨c1,p1,p2⟩:=h.op;obtain⟨c2,m1,m2⟩:=h.om;have ne:∀{v:Value}{B sz n:Nat}{t:TypeId}{x:List Value},w.ownsRow B t sz v n x->t≠94->v.ownBlock≠some Bm:=fun r ht e=>by
  obtain⟨c',hc'⟩:=bA r e;exact aS hc' hB ht
 exact⟨ne p1 (by decide),fun e=>by have:=(m1.lt _ e).1;omega,ne h.ox (by decide),ne h.ol (by decide)⟩
theorem aLE:¬ST 127:=by unfold ST CT VT;decide
theorem bS.put2(h:bS w0 T Y M fr R E Bm ti wr pv mv xv lv pl ms xs ls s w){X:Nat}{c:Array Value}(hX:w.heap[X]?=some (.cells c 127 (0,0)))(lX:E<X)(hn:xv.ownBlock≠some X)(i j:Nat)(a b:Value) :
  bS w0 T Y M fr R E Bm ti wr pv mv xv lv pl ms xs ls s ((w.setCell ⟨X,i,none⟩ a).setCell ⟨X,j,none⟩ b):=by
 have:=h.lR;have:=h.lE;obtain⟨c1,p1,p2⟩:=h.op;obtain⟨c2,m1,m2⟩:=h.om;have ne:∀{v:Value}{B sz n:Nat}{t:TypeId}{x:List Value},w.ownsRow B t sz v n x->t≠127->v.ownBlock≠some X:=fun r ht e=>by
  obtain⟨c',hc'⟩:=bA r e;exact aS hc' hX ht
 exact h.else hX lX ⟨by decide,aLE⟩ ⟨ne p1 (by decide),ne m1 (by decide),hn,ne h.ol (by decide)⟩ (fun k hk=>(aH _ X j b k hk).trans (aH w X i a k hk)) ((h.aw.setCell (p:=⟨X,i,none⟩) (.inr (by show w0.heap.size<=X;omega)) a).setCell (p:=⟨X,j,none⟩) (.inr (by show w0.heap.size<=X;omega)) b)
theorem bS.done(h:bS w0 T Y M fr R E Bm ti wr pv mv xv lv pl ms xs ls s w){w':World}(so:∀k,k≠R->w'.heap[k]?=w.heap[k]?):B0 w0.heap.size pv mv xv lv ⟨ti,wr,pl,ms,xs,ls⟩ w'/\PS T Y M fr s w':=by
 have:=h.lY;have:=h.lM;have:=h.lR;obtain⟨c1,p1,p2⟩:=h.op;obtain⟨c2,m1,m2⟩:=h.om;have kT:∀(k:Nat)(o:Array Value)(T:TypeId),w.heap[k]?=some (.cells o T (0,0))->ST T->w0.heap.size<=k->w'.heap[k]?=w.heap[k]?:=fun k o T ho hT _=>so k (by
  rintro rfl;exact aS ho h.hR hT.not.2.1)
 have ne:∀{v:Value}{B sz n:Nat}{t:TypeId}{x:List Value},w.ownsRow B t sz v n x->t≠64->w'.ownsRow B t sz v n x:=fun r ht=>aB r fun k hk=>so k (by
  rintro rfl;obtain⟨c',hc'⟩:=bA r hk;exact aS hc' h.hR ht)
 exact⟨⟨⟨c1,ne p1 (by decide),p2.keepT kT⟩,⟨c2,oD (ne m1 (by decide)) h.lB,m2.keepT kT⟩,ne h.ox (by decide),ne h.ol (by decide)⟩,h.ps.put (R:=R) (by omega) (by omega) h.hR (by decide) so⟩
theorem bS.jump{p q:Nat}(h:bS w0 T Y M fr R E Bm ti wr pv mv xv lv pl ms xs ls (.ok p) w)(hq:q<T.length):bS w0 T Y M fr R E Bm ti wr pv mv xv lv pl ms xs ls (.ok q) (w.setCell ⟨Y,1,none⟩ (Z (q:Nat))) :=
 h.call (h.ps.jump hq) ((aC.refl _ _).setCell (p:=⟨Y,1,none⟩) (.inl (by simp)) _)
theorem xE{w:World}{k:Nat}{o:Obj}(h:w.heap[k]?=some o):k<w.heap.size:=(qe.1 h).1
theorem bS.fz(h:bS w0 T Y M fr R E Bm ti wr pv mv xv lv pl ms xs ls s w)(i:Nat):w.frozen? ⟨E,i,none⟩=false:=h.facts.2.2.2.2.2.2 i
end
section
variable{W0:World}{T:List aX}{Y M:Nat}{st:aD}{w:World}{f:ByteArray->kM×Int}
theorem aGU (hf : jQ f) (h : PS T Y M (gS ⟨0, 0, []⟩) st w) (B : mF W0 [Y, M] w) : Calls Tryz.prog 44 #[.pointer (some ⟨Y, 0, none⟩)] w fun r w' => ∃ pv mv xv lv I',
  r=.returned (.agg (lU (iU aK ⟨aP,bJ f⟩ T st).1.title (iU aK ⟨aP,bJ f⟩ T st).1.written pv mv xv lv))/\B0 w.heap.size pv mv xv lv (iU aK ⟨aP,bJ f⟩ T st).1 w'/\PS T Y M (gS I') (iU aK ⟨aP,bJ f⟩ T st).2 w'/\aC [Y,M] w w':=by
 have lY:=h.lt;have lM:=h.ltM;have hmax:=h.good.max;have b0:=((qb w.heap.size w).alloc (qa _) (.cells fK 64)).alloc (by simp) (.cells fK 64);have P0:bS w T Y M (gS ⟨0,0,[]⟩) w.heap.size (w.heap.size+1) w.heap.size ByteArray.empty false (.slice none 0 0) (.slice none 0 0) (.slice none 0 0) (.slice none 0 0) [] [] [] [] st ((w.alloc (.cells fK 64)).alloc (.cells fK 64)) :=
  ⟨h.step b0,iW _ _ (by simp),aV _ (iW _ _ rfl),⟨[],qw _ _ _ _,rfl⟩,⟨[],qw _ _ _ _,rfl⟩,qw _ _ _ _,qw _ _ _ _,aC.of_below b0,lY,lM,qa _,Nat.lt_succ_self _,qa _⟩
 obtain⟨s2,s3,s4,s5,s6,s7,ti,wt,la,l0,pl,ms,xs,I1,I2,I3,e1,ew,e2,el,e3,e4,e5,e6,etot⟩:=aAF (O:=aK) (B:=⟨aP,bJ f⟩) (T:=T) st;rw[etot];simp only;obtain⟨ll,hll⟩:∃ll,Shut ((if la=true then l0 else CY I3.es)=ll):=⟨_,rfl⟩;rw[hll.out];have HLL:JU la l0 (CY I3.es) ll:=hll.out;clear etot b0 h hll;have io0:dH ⟨0,0,[]⟩:=⟨by decide,by decide,by decide,fun p hp=>by cases hp⟩;have io1:dH I1:=by have:=EP (B:=⟨aP,bJ f⟩) (T:=T) T.length ⟨0,0,[]⟩ s4 io0;rw[e4]at this;exact this
 have io2:dH I2:=by have:=xF (O:=aK) (B:=⟨aP,bJ f⟩) (T:=T) T.length JE I1 s5 io1;rw[e5]at this;exact this
 have io3:dH I3:=by have:=EQ (T:=T) T.length I2 s6 io2;rw[e6]at this;exact this
 have HM:=aJ (And.intro e3 (And.intro e4 (And.intro e5 (And.intro e6 (And.intro io0 (And.intro io1 (And.intro io2 (And.intro io3 (And.intro hf B)))))))));have HL:Shut (la=false->l0=[]):=fun h=>by
  rw[h]at el;rw[show BZ T s3=([],s3)by unfold BZ;rw[if_neg (by rw[el];decide)]]at e3;exact(congrArg Prod.fst e3).symm
 have x1:=P0.expect PD;clear e3 e4 e5 e6 io0 io1 io2 io3 hf B;unfold fK lU at x1;rw[show ByteArray.empty=⟨#[]⟩from rfl]at x1;go_enter Tryz.func44,Tryz.ntmps44;go_wp2_with(go_at_call 54;(with_reducible refine x1.mono ?_));intro r w1;(first|(intro he9 P1 b1;subst he9)|rintro ⟨rfl,P1,b1⟩);clear P0 x1 b1;obtain⟨E,hEe⟩:∃E,Shut (w.heap.size+1=E):=⟨_,rfl⟩;rw[hEe.out]at P1⊢;obtain⟨R,hRe⟩:∃R,Shut (w.heap.size=R):=⟨_,rfl⟩;rw[show bS w T Y M (gS ⟨0,0,[]⟩) w.heap.size E w.heap.size=bS w T Y M (gS ⟨0,0,[]⟩) R E R by rw[hRe.out]]at P1;have x2:=P1.str;rw[e1]at x2;simp only at x2;go_wp2_with(go_at_call 91;(with_reducible refine x2.mono ?_));intro r w2;(first|(intro he9 P2 b2;subst he9)|rintro ⟨rfl,P2,b2⟩);clear P1 x2 b2 e1;have c0:=P2.facts.1;have f0:=P2.fz 0;have P2t:=P2.title ti;have x3:=P2t.accept L5;rw[ew,e2]at x3;clear ew e2;go_wp2_with(go_at_call 53;(with_reducible refine x3.mono ?_));intro r w3;(first|(intro he9 P3 b3;subst he9)|rintro ⟨rfl,P3,b3⟩);clear P2 P2t x3 b3 c0 f0;have c1:=P3.facts.2.1;have f1:=P3.fz 1;have P3t:=P3.writ wt;have x4:=P3t.accept EK;rw[el]at x4;go_upto_if 29 with(go_at_call 53;(with_reducible refine x4.mono ?_));intro r w4;(first|(intro he9 P4 b4;subst he9)|rintro ⟨rfl,P4,b4⟩);clear P3 P3t x4 b4 c1 f1;go_upto_if 29 with(fail)
 go_cut []from 30 to 156 (fun wc=>∃lv,bS w T Y M (gS ⟨0,0,[]⟩) R E R ti wt (.slice none 0 0) (.slice none 0 0) (.slice none 0 0) lv [] [] [] l0 s4 wc)
 case first =>
  cases la with
  |false =>
   rw[show aY T EK s3=s3 by unfold aY;rw[if_neg (by rw[el];decide)]]at P4;have h3:=HM.out.1;rw[show BZ T s3=([],s3)by unfold BZ;rw[if_neg (by rw[el];decide)],qu]at h3;obtain⟨rfl,rfl⟩:=h3;clear el HM;go_wp2
   go_meet
   case rel=>exact⟨_,P4⟩
  |true =>
   rw[show aY T EK s3=s3.next 1 by unfold aY;rw[if_pos el]]at P4;have h3:=HM.out.1;obtain⟨i1,hi1,z1,hz1,hc1,hs1,hy1⟩:=oR Tryz.infoid;have x5:=fun w' (h:bS w T Y M (gS ⟨0,0,[]⟩) R E R ti wt (.slice none 0 0) (.slice none 0 0) (.slice none 0 0) (.slice none 0 0) [] [] [] [] (s3.next 1) w')=>h.written;obtain⟨q,hq⟩:∃q,bG T (s3.next 1)=q:=⟨_,rfl⟩;rw[show BZ T s3=((bG T (s3.next 1)).1::(iR T T.length (bG T (s3.next 1)).2).1,(iR T T.length (bG T (s3.next 1)).2).2)by unfold BZ;rw[if_pos el],hq,qu]at h3;rw[hq]at x5;obtain⟨⟨a,b⟩,sa⟩:=q;simp only at x5 h3;have hnd:=uF T sa;obtain⟨N,hN⟩:∃N,Shut (T.length=N):=⟨_,rfl⟩;have hN4:N<=4001:=by rw[<-hN.out];exact hmax
   rw[hN.out]at h3 hnd;have HT:=aJ (And.intro h3 hnd);clear h3 hnd hq el HM hmax;have P4d:=P4.step (qb _ w4).drew;go_upto_region 7 with(fail)
   go_cut []from 30 to 156 (fun wc=>∃lv,bS w T Y M (gS ⟨0,0,[]⟩) R E R ti wt (.slice none 0 0) (.slice none 0 0) (.slice none 0 0) lv [] [] [] [(a,b)] sa wc)
   case first =>
    have k1:=P4d.c5;have ol0:=P4d.ol
    go_region_law ((first
     |(go_simp;go_at_call 92;refine(x5 _ P4d).mono ?_;intro r w5;(first|(intro he9 P5 b5;subst he9)|rintro ⟨rfl,P5,b5⟩);have k5:=P5.c5;have lE5:=aA P5.hE;have sz5:=P5.aw.size;have P5a:=P5.alloc (.cells #[Z a,Z b] 24);have ow5:=P5a.ol)
     |(refine step_append_lies _ (by rfl) _ _ _ (by rfl) w.heap.size 24 i1 _ 2 16 Tryz.underlying40 hi1 hz1 hs1 hy1 hc1 (by omega) (.slice none 0 0) 0 [] (by rfl) ow5 ⟨w5.heap.size,0,none⟩ 1 1 [Z a,Z b] (by rfl) (by rfl) (World.news_of_block (cs:=#[Z a,Z b]) (t:=24) (fr:=(0,0)) (qd _ _)) (by simp[Value.oneCell']) (by omega) (by simp only[maxLen];omega) (by omega) (by simp;omega) (w5.heap.size+1) (by simp) ?_;intro gg cap w9 hown9 hgrow hat hgl;obtain⟨hE9,P9⟩:=P5a.pushL (x:=(a,b)) hgrow hown9;have k9:w9.cell? ⟨E,5,none⟩=some (.slice none 0 0):=(by rw[Lib.cell_of_heap hE9];rfl);have f9:=Lib.frozen_of_heap hE9 5)))
    all_goals go_wp2
    all_goals go_meet
    all_goals exact⟨_,P9⟩
   case rest =>
    clear P4 P4d x5;obtain⟨lv,Q⟩:=hcut;go_wp2_with(fail)
    go_loopg [] N (fun gk wr=>∃(l:List (Int×Int))(s:aD)(lv:Value),l.length+gk=N+1/\need T s<=gk/\l++(iR T gk s).1=l0/\(iR T gk s).2=s4/\bS w T Y M (gS ⟨0,0,[]⟩) R E R ti wt (.slice none 0 0) (.slice none 0 0) (.slice none 0 0) lv [] [] [] l s wr)
    case atStart =>
     obtain⟨h1,h2⟩:=HT.out;exact⟨[(a,b)],sa,lv,by simp;omega,h2,h1.1,h1.2,Q⟩
    case round =>
     clear Q HT;obtain⟨l,s,lv,hlen,hneed,hl0,hs4,Q⟩:=hrel;have xi:=Q.is ⟨#[64]⟩;cases hb:isS T ⟨#[64]⟩ s with
     |false =>
      rw[hb]at xi;rw[aET hb]at hl0 hs4;simp only[qqe]at hl0 hs4;subst hl0 hs4;clear hb Q;go_wp2_with(go_at_call 76;(with_reducible refine xi.mono ?_));intro r w5;(first|(intro he9 Q1 b1;subst he9)|rintro ⟨rfl,Q1,b1⟩);clear xi;go_wp2
      go_meet
      case rel=>exact⟨lv,Q1⟩
     |true =>
      rw[hb]at xi;obtain⟨g,rfl⟩:∃g,gk=g+1:=⟨gk-1,by have:=eF hb;omega⟩;have n1:=eX (T:=T) (uD (T:=T) s) (eF hb);have x5:=fun w' (h:bS w T Y M (gS ⟨0,0,[]⟩) R E R ti wt (.slice none 0 0) (.slice none 0 0) (.slice none 0 0) lv [] [] [] l s w')=>h.written;obtain⟨q,hq⟩:∃q,bG T s=q:=⟨_,rfl⟩;rw[hq]at x5 n1;obtain⟨⟨a',b'⟩,sb⟩:=q;simp only at x5 n1;rw[aAG hb hq]at hl0 hs4;simp only at hl0 hs4;have HG:=aJ (And.intro hlen (And.intro hl0 (And.intro hs4 (show need T sb<=g by omega))));have hl4:l.length<=4002:=by omega
      clear hl0 hs4 n1 hneed hb hlen hq Q;go_wp2_with(go_at_call 76;(with_reducible refine xi.mono ?_));intro r w5;(first|(intro he9 Q1 b1;subst he9)|rintro ⟨rfl,Q1,b1⟩);clear xi b1;obtain⟨ao,cp,rfl⟩:=aL Q1.ol;have Q1d:=Q1.step (qb _ w5).drew;have k1:=Q1d.c5;go_upto_region 9 with(fail)
      go_region_law ((first
       |(go_simp;go_at_call 92;refine(x5 _ Q1d).mono ?_;intro r w6;(first|(intro he9 Q2 b2;subst he9)|rintro ⟨rfl,Q2,b2⟩);have k2:=Q2.c5;have lE2:=aA Q2.hE;have sz2:=Q2.aw.size;have Q2a:=Q2.alloc (.cells #[Z a',Z b'] 24);have ow2:=Q2a.ol)
       |(refine step_append_lies _ (by rfl) _ _ _ (by rfl) w.heap.size 24 i1 _ 2 16 Tryz.underlying40 hi1 hz1 hs1 hy1 hc1 (by omega) (.slice ao l.length cp) l.length (bT idC l) (by rfl) ow2 ⟨w6.heap.size,0,none⟩ 1 1 [Z a',Z b'] (by rfl) (by rfl) (World.news_of_block (cs:=#[Z a',Z b']) (t:=24) (fr:=(0,0)) (qd _ _)) (by simp[Value.oneCell']) (by omega) (by simp only[maxLen];omega) (by omega) (by simp;omega) (w6.heap.size+1) (by simp) ?_;intro gg cap w9 hown9 hgrow hat hgl;obtain⟨hE9,Q9⟩:=Q2a.pushL (x:=(a',b')) hgrow hown9;have k9:w9.cell? ⟨E,5,none⟩=some (.slice ao l.length cp):=(by rw[Lib.cell_of_heap hE9];rfl);have f9:=Lib.frozen_of_heap hE9 5)))
      all_goals go_wp2
      all_goals go_roundg g
      all_goals first
       |omega
       |(obtain⟨h1,h2,h3,h4⟩:=HG.out;exact⟨l++[(a',b')],sb,_,by simp only[qf,qz];omega,h4,by rw[qqk];exact h2,h3,Q9⟩)
 case rest =>
  clear P4 el;obtain⟨lv0,P5⟩:=hcut;have HM2:=aJ HM.out.2;clear HM
  go_upto_block 2 with(fail)
  go_cut []from 30 to 156 (fun wc=>∃pv lv,bS w T Y M (gS I1) R E R ti wt pv (.slice none 0 0) (.slice none 0 0) lv pl [] [] l0 s5 wc)
  case first =>
   obtain⟨e4,-,-,io0,io1,-⟩:=HM2.out;obtain⟨i1,hi1,z1,hz1,hc1,hs1,hy1⟩:=oR Tryz.infopart;have hnd:=uF T s4;obtain⟨N,hN⟩:∃N,Shut (T.length=N):=⟨_,rfl⟩;have hN4:N<=4001:=by rw[<-hN.out];exact hmax
   rw[hN.out]at e4 hnd;have HT:=aJ (And.intro e4 (And.intro hnd io0));clear e4 hnd hmax io0 io1 HM2;go_wp2_with(fail)
   go_loopg [] N (fun gk wr=>∃(l:List iZ)(I':eQ)(s:aD)(pv:Value),l.length+gk=N/\need T s<=gk/\dH I'/\l++(iS ⟨aP,bJ f⟩ T gk I' s).1.1=pl/\(iS ⟨aP,bJ f⟩ T gk I' s).1.2=I1/\(iS ⟨aP,bJ f⟩ T gk I' s).2=s5/\bS w T Y M (gS I') R E R ti wt pv (.slice none 0 0) (.slice none 0 0) lv0 l [] [] l0 s wr)
   case atStart =>
    obtain⟨h1,h2,h3⟩:=HT.out;exact⟨[],⟨0,0,[]⟩,s4,_,by simp,h2,h3,by rw[h1];rfl,by rw[h1],by rw[h1],P5⟩
   case round =>
    clear P5 HT;obtain⟨l,I',s,pv,hlen,hneed,hio',hct,hIt,hsT,Q⟩:=hrel;have xa:=Q.accept EM;cases hb:isS T EM s with
    |false =>
     rw[hb,show aY T EM s=s by unfold aY;rw[if_neg (by rw[hb];decide)]]at xa;rw[aEU hb]at hct hIt hsT;simp only[qqe]at hct hIt hsT;subst hct hIt hsT;clear hb Q;go_wp2_with(go_at_call 53;(with_reducible refine xa.mono ?_));intro r w5;(first|(intro he9 Q1 b1;subst he9)|rintro ⟨rfl,Q1,b1⟩);clear xa;go_wp2
     go_meet
     case rel=>exact⟨pv,lv0,Q1⟩
    |true =>
     obtain⟨g,rfl⟩:∃g,gk=g+1:=⟨gk-1,by have:=eF hb;omega⟩;have n0:=eF hb;have n1:=eX (T:=T) (eP s) n0;have n2:=bU (T:=T) (ZB (B:=⟨aP,bJ f⟩) (T:=T) I' (s.next 1));have hio3:=JC (B:=⟨aP,bJ f⟩) (T:=T) (s:=s.next 1) hio';have x1:=fun w' (h:bS w T Y M (gS I') R E R ti wt pv (.slice none 0 0) (.slice none 0 0) lv0 l [] [] l0 (s.next 1) w')=>h.part (mo:=bJ f) hio';obtain⟨q,hq⟩:∃q,jG ⟨aP,bJ f⟩ T I' (s.next 1)=q:=⟨_,rfl⟩;rw[hq]at n2 hio3 x1;obtain⟨⟨p,I4⟩,sb⟩:=q;simp only at n2 hio3 x1;rw[aAH hb hq]at hct hIt hsT;simp only at hct hIt hsT;rw[hb,show aY T EM s=s.next 1 by unfold aY;rw[if_pos hb]]at xa;have HG:=aJ (And.intro hlen (And.intro hct (And.intro hIt (And.intro hsT (And.intro hio3 (show need T sb<=g by omega))))));have hl4:l.length<=4002:=by omega
     clear hct hIt hsT n0 n1 n2 hneed hb hlen hio3 hq Q;obtain⟨p0,p1,pn,pa,pb,pst⟩:=p;go_wp2_with(go_at_call 53;(with_reducible refine xa.mono ?_));intro r w5;(first|(intro he9 Q1 b1;subst he9)|rintro ⟨rfl,Q1,b1⟩);clear xa b1;have xop:=Q1.op;obtain⟨cs0,ow0,pr0⟩:=xop;obtain⟨ao,cp,rfl⟩:=aL ow0;clear cs0 ow0 pr0;have Q1d:=Q1.step (qb _ w5).drew;have k1:=Q1d.c2;go_upto_region 11 with(fail)
     go_region_law ((first
      |(go_simp;go_at_call 93;refine(x1 _ Q1d).mono ?_;rintro r w6 ⟨sv,hr,ho2,Q2,b2⟩;obtain⟨sa,sc,hsv⟩:=aL ho2;simp only[kG]at hr ho2 hsv;subst hsv;subst hr;have k2:=Q2.c2;have lE2:=aA Q2.hE;have sz2:=Q2.aw.size;have Q2a:=Q2.alloc (.cells #[Z p0,Z p1,.string pn,Z pa,Z pb,.slice sa pst.length sc] 117);have ho2a:=ho2.alloc (.cells #[Z p0,Z p1,.string pn,Z pa,Z pb,.slice sa pst.length sc] 117);obtain⟨cs,ow2,pr2⟩:=Q2a.op)
      |(refine step_append_lies _ (by rfl) _ _ _ (by rfl) w.heap.size 117 i1 _ 6 72 Tryz.underlying60 hi1 hz1 hs1 hy1 hc1 (by omega) (.slice ao l.length cp) l.length cs (by rfl) ow2 ⟨w6.heap.size,0,none⟩ 1 1 [Z p0,Z p1,.string pn,Z pa,Z pb,.slice sa pst.length sc] (by rfl) (by rfl) (World.news_of_block (cs:=#[Z p0,Z p1,.string pn,Z pa,Z pb,.slice sa pst.length sc]) (t:=117) (fr:=(0,0)) (qd _ _)) (by simp[Value.oneCell']) (by omega) (by simp only[maxLen];omega) (by omega) (by simp;omega) (w6.heap.size+1) (by simp) ?_;intro gg cap w9 hown9 hgrow hat hgl;obtain⟨hE9,Q9⟩:=Q2a.pushP (p:=⟨p0,p1,pn,pa,pb,pst⟩) hgrow ow2 pr2 ho2a hown9;have k9:w9.cell? ⟨E,2,none⟩=some (.slice ao l.length cp):=(by rw[Lib.cell_of_heap hE9];rfl);have f9:=Lib.frozen_of_heap hE9 2)))
     all_goals go_wp2
     all_goals go_roundg g
     all_goals first
      |omega
      |(obtain⟨h1,h2,h3,h4,h5,h6⟩:=HG.out;exact⟨l++[⟨p0,p1,pn,pa,pb,pst⟩],I4,sb,_,by simp only[qf,qz];omega,h6,h5,by rw[qqk];exact h2,h3,h4,Q9⟩)
  case rest =>
   clear P5;obtain⟨pv,lv,P6⟩:=hcut;have lE6:=aA P6.hE;have hR6:=P6.aw.size;have lR6:=P6.lR;have lRE:=P6.lE;go_upto_region 12 with(fail);refine wp_region_lit (aCC rfl rfl rfl rfl rfl rfl rfl rfl rfl rfl rfl rfl (qqj rfl) ?_);intro v1 v2;have P7:=(P6.alloc (.cells eU 94)).up (B':=wc.heap.size+1) (by omega);have hB7:(wc.alloc (.cells eU 94)).heap[wc.heap.size]?=some (.cells (aU JE (.slice none 0 0) (.slice none 0 0)) 94 (0,0)):=qd wc _;generalize wc.alloc (.cells eU 94)=w7 at P7 hB7⊢;obtain⟨Bm,hBm⟩:∃Bm,Shut (wc.heap.size=Bm):=⟨_,rfl⟩;rw[hBm.out]at P7 hB7 lE6⊢;simp only[Act.put,List.setIfInBounds_toArray,List.set_cons_succ,List.set_cons_zero];clear P6 hR6
   go_upto_block 4 with(fail)
   go_cut []from 61 to 156 (fun wc=>∃mv,bS w T Y M (gS I2) R E (Bm+1) ti wt pv mv (.slice none 0 0) lv pl ms [] l0 s6 wc)
   case first =>
    obtain⟨-,e5,-,-,io1,-,-,hf,hBas⟩:=HM2.out;have HBas:=aJ hBas;obtain⟨i1,hi1,z1,hz1,hc1,hs1,hy1⟩:=oR Tryz.infomeas;have hnd:=uF T s5;obtain⟨N,hN⟩:∃N,Shut (T.length=N):=⟨_,rfl⟩;have hN4:N<=4001:=by rw[<-hN.out];exact hmax
    rw[hN.out]at e5 hnd;have HT:=aJ (And.intro e5 (And.intro hnd io1));have HF:=aJ hf;clear e5 hnd hmax io1 HM2 hBas hf;go_wp2_with(fail)
    go_loopg [] N (fun gk wr=>∃(l:List bC)(I':eQ)(s:aD)(b:bC)(mv:Value)(ta ca:Option Addr)(tn tc cn cc:Nat),l.length+gk=N/\need T s<=gk/\dH I'/\l++(dL aK ⟨aP,bJ f⟩ T gk b I' s).1.1=ms/\(dL aK ⟨aP,bJ f⟩ T gk b I' s).1.2=I2/\(dL aK ⟨aP,bJ f⟩ T gk b I' s).2=s6 /\
     wr.heap[Bm]?=some (.cells (aU b (.slice ta tn tc) (.slice ca cn cc)) 94 (0,0))/\bS w T Y M (gS I') R E (Bm+1) ti wt pv mv (.slice none 0 0) lv pl l [] l0 s wr)
    case atStart =>
     obtain⟨h1,h2,h3⟩:=HT.out;exact⟨[],I1,s5,JE,_,none,none,0,0,0,0,by simp,h2,h3,by rw[h1];rfl,by rw[h1],by rw[h1],hB7,P7⟩
    case round =>
     clear P7 HT hB7;obtain⟨l,I',s,b,mv,ta,ca,tn,tc,cn,cc,hlen,hneed,hio',hct,hIt,hsT,hB,Q⟩:=hrel;have xa:=Q.accept EN;cases hb:isS T EN s with
     |false =>
      rw[hb,show aY T EN s=s by unfold aY;rw[if_neg (by rw[hb];decide)]]at xa;rw[aEV hb]at hct hIt hsT;simp only[qqe]at hct hIt hsT;subst hct hIt hsT;clear hb Q;go_wp2_with(go_at_call 53;(with_reducible refine xa.mono ?_));intro r w8;(first|(intro he9 Q1 b1;subst he9)|rintro ⟨rfl,Q1,b1⟩);clear xa;go_wp2
      go_meet
      case rel=>exact⟨mv,Q1⟩
     |true =>
      obtain⟨g,rfl⟩:∃g,gk=g+1:=⟨gk-1,by have:=eF hb;omega⟩;have n0:=eF hb;have n1:=eX (T:=T) (eP s) n0;have n2:=bU (T:=T) (ZA (O:=aK) (B:=⟨aP,bJ f⟩) (T:=T) b I' (s.next 1));have hio3:=JB (O:=aK) (B:=⟨aP,bJ f⟩) (T:=T) (b:=b) (s:=s.next 1) hio';have x1:=fun w' (h:bS w T Y M (gS I') R E (Bm+1) ti wt pv mv (.slice none 0 0) lv pl l [] l0 (s.next 1) w')=>h.meas HF.out hio' HBas.out b (bta:=ta) (bca:=ca) (btn:=tn) (bcn:=cn) (btc:=tc) (bcc:=cc);obtain⟨q,hq⟩:∃q,lF aK ⟨aP,bJ f⟩ T b I' (s.next 1)=q:=⟨_,rfl⟩;rw[hq]at n2 hio3;simp only[hq]at x1;obtain⟨⟨m,I4⟩,sb⟩:=q;simp only at n2 hio3 x1;rw[aAJ hb hq]at hct hIt hsT;simp only at hct hIt hsT;rw[hb,show aY T EN s=s.next 1 by unfold aY;rw[if_pos hb]]at xa;have HG:=aJ (And.intro hlen (And.intro hct (And.intro hIt (And.intro hsT (And.intro hio3 (show need T sb<=g by omega))))));have hl4:l.length<=4002:=by omega
      clear hct hIt hsT n0 n1 n2 hneed hb hlen hio3 hq Q;go_wp2_with(go_at_call 53;(with_reducible refine xa.mono ?_));intro r w8;(first|(intro he9 Q1 b1;subst he9)|rintro ⟨rfl,Q1,b1⟩);have hB1:=Q1.at hB (by omega) b1;clear xa b1 hB;have xm:=x1 _ Q1;clear x1;have hz94:(Tryz.prog.info? 94).map (·.size)=some (aU b (.slice ta tn tc) (.slice ca cn cc)).size:=Tryz.sizeMeas;have hs94:(aU b (.slice ta tn tc) (.slice ca cn cc)).size=22:=rfl;generalize aU b (.slice ta tn tc) (.slice ca cn cc)=mq at xm hB1 hz94 hs94;go_wp2_with(first
       |(refine qqv rfl 94 _ rfl Bm rfl 94 mq (0,0) _ hB1 Tryz.underlying94 rfl hz94 ?_)
       |(go_at_call 94;refine xm.mono ?_))
      rintro r w9 ⟨tv,cv,rfl,hM,Q2,b2⟩;have hB2:=Q2.at hB1 (by omega) b2;clear Q1 b2 xm hB1;obtain⟨ta',tc',htv⟩:=aL hM.ot;obtain⟨vs,hcs,-⟩:=hM.ex;obtain⟨ca',cc',hcv⟩:=aL hcs;clear vs hcs;have hzm:(Tryz.prog.info? 94).map (·.size)=some (aU m tv cv).size:=Tryz.sizeMeas;have hsm:(aU m tv cv).size=22:=rfl;have hone:(aU m tv cv).all (·.oneCell')=true:=by rw[htv,hcv];simp[aU,Value.oneCell']
      have hbs:Tryz.prog.builtSlice 94 1 [(0,.agg (aU m tv cv))]=some (aU m tv cv):=by rw[htv,hcv];exact WA _ _ _ _ _ _ _
      have hsq:mq.size=(aU m tv cv).size:=by rw[hs94];rfl
      obtain⟨mc,hmc⟩:∃mc,Shut (aU m tv cv=mc):=⟨_,rfl⟩;rw[hmc.out]at hzm hsm hone hbs hsq⊢;have hf2:=Q2.fresh2 (Bm:=Bm) (by omega) hB2;have Q3:=Q2.else hB2 (by omega) ⟨by decide,aLD⟩ hf2 (fun k hk=>setRow_other w9 Bm k mc hk) (Q2.aw.setRow (by omega) mc);have hB3:=setRow_heap w9 Bm mc mq 94 hB2;have hM3:sA w.heap.size tv cv m (w9.setRow Bm mc):=hM.keepT fun k o T ho hT _=>setRow_other w9 Bm k mc (by rintro rfl;exact aS ho hB2 (by rintro rfl;exact aLD hT));go_upto_region 15 with(refine wpList_store_row rfl 94 _ _ rfl Bm mc rfl rfl 94 mq hB2 hzm hsq hone ?_);clear hB2 Q2 hM hsq hs94 hz94 hf2;generalize w9.setRow Bm mc=w10 at Q3 hB3 hM3⊢;obtain⟨cs,ow,mr⟩:=Q3.om;obtain⟨ao,cp,rfl⟩:=aL ow;have d3:=Q3.c3;have lE3:=aA Q3.hE;have lB3:=aA hB3;have sz3:=Q3.aw.size;have Q3a:=Q3.alloc (.cells mc 94);have mra:=mr.keepT (w':=w10.alloc (.cells mc 94)) fun k o T ho _ _=>Lib.alloc_old w10 _ _ (aA ho);have hM3a:=hM3.keepT (w':=w10.alloc (.cells mc 94)) fun k o T ho _ _=>Lib.alloc_old w10 _ _ (aA ho);go_wp2_with(first
       |(refine qqv rfl 94 _ rfl Bm rfl 94 mc (0,0) _ hB3 Tryz.underlying94 rfl hzm ?_)
       |(refine JV rfl 61 94 1 _ rfl w10.heap.size rfl Tryz.underlying61 mc (l:=[(0,.agg mc)]) (by simp[Act.eval,Act.put]) hbs ?_)
       |(at_builtin;refine wpList_append_lies _ rfl _ _ 61 rfl (Bm+1) 94 i1 _ 22 216 Tryz.underlying61 hi1 hz1 hs1 hy1 hc1 (by omega) (.slice ao l.length cp) l.length cs rfl (ow.alloc _) ⟨w10.heap.size,0,none⟩ 1 1 mc.toList rfl (by rw[Array.length_toList,hsm]) (World.news_of_block (qd _ _)) (by intro u hu;exact Array.all_eq_true'.1 hone u (by simpa using hu)) (by omega) (by unfold maxLen;omega) (by omega) (by simp;omega) (w10.heap.size+1) (by simp) ?_;intro gg cap w11 hown1 hgrow hat hgl;rw[<-hmc.out]at hown1;obtain⟨hE11,Q4⟩:=Q3a.pushM hgrow (ow.alloc _) mra hM3a hown1;have k11:w11.cell? ⟨E,3,none⟩=some (.slice ao l.length cp):=(by rw[Lib.cell_of_heap hE11];rfl);have f11:=Lib.frozen_of_heap hE11 3))
      have hB11:w11.heap[Bm]?=some (.cells mc 94 (0,0)):=(hgrow.block Bm (by simp;omega) (fun e=>by have:=(ow.lt Bm e.symm).1;omega)).trans (aV _ hB3);have hB12:=(qh w11 ⟨E,3,none⟩ (.slice (some ⟨gg,0,none⟩) (l.length+1) cap) Bm (by show Bm≠E;omega)).trans hB11;rw[<-hmc.out,htv,hcv]at hB12;go_roundg g;case measure=>omega
      case rel =>
       obtain⟨h1,h2,h3,h4,h5,h6⟩:=HG.out;exact⟨l++[m],I4,sb,m,_,ta',ca',_,tc',_,cc',by simp only[qf,qz];omega,h6,h5,by rw[qqk];exact h2,h3,h4,hB12,Q4⟩
   case rest =>
    clear P7 hB7;obtain⟨mv,P8⟩:=hcut
    go_upto_block 6 with(fail)
    go_cut [6,7,8]from 61 to 156 (fun _ _ _ wc=>∃xv,bS w T Y M (gS I3) R E (Bm+1) ti wt pv mv xv lv pl ms xs l0 s7 wc)
    case first =>
     obtain⟨-,-,e6,-,-,io2,-,-⟩:=HM2.out;obtain⟨i1,hi1,z1,hz1,hc1,hs1,hy1⟩:=oR Tryz.infospan;have hnd:=uF T s6;obtain⟨N,hN⟩:∃N,Shut (T.length=N):=⟨_,rfl⟩;have hN4:N<=4001:=by rw[<-hN.out];exact hmax
     rw[hN.out]at e6 hnd;have HT:=aJ (And.intro e6 (And.intro hnd io2));clear e6 hnd io2 HM2;go_wp2_with(fail)
     go_loopg [6,7,8] N (fun gk _ _ _ wr=>∃(l:List wV)(I':eQ)(s:aD)(xv:Value),l.length+gk=N/\need T s<=gk/\dH I'/\l++(iT T gk I' s).1.1=xs/\(iT T gk I' s).1.2=I3/\(iT T gk I' s).2=s7/\bS w T Y M (gS I') R E (Bm+1) ti wt pv mv xv lv pl ms l l0 s wr)
     case atStart =>
      obtain⟨h1,h2,h3⟩:=HT.out;exact⟨[],I2,s6,_,by simp,h2,h3,by rw[h1];rfl,by rw[h1],by rw[h1],P8⟩
     case round =>
      clear P8 HT;obtain⟨l,I',s,xv,hlen,hneed,hio',hct,hIt,hsT,Q⟩:=hrel;obtain⟨ao,cp,rfl⟩:=aL Q.ox;have kd:=S4 wr.drew;have bk:=(qb wr.heap.size wr).drew.alloc (qa _) (.map (gB bZ 0).toArray 7);have Qk:=Q.step bk;have hQm:=qd wr.drew (.map (gB bZ 0).toArray 7);have hfx:=J1 (aZ T s).text bZ 0 0;have pk:=fun w' (b:Below (wr.drew.alloc (.map (gB bZ 0).toArray 7)).heap.size (wr.drew.alloc (.map (gB bZ 0).toArray 7)) w')=>nX (Qk.step b).ps;have hcase:((aZ T s).kind≠1\/cM (aZ T s).text bZ=none)\/((aZ T s).kind=1/\∃i,cM (aZ T s).text bZ=some i):=by
       by_cases h1:(aZ T s).kind=1
       ·cases h2:cM (aZ T s).text bZ with
        |none=>exact .inl (.inr rfl)
        |some i=>exact .inr ⟨h1,i,rfl⟩
       ·exact .inl (.inl h1)
      rcases hcase with hno |⟨hk,i,hi⟩
      ·obtain ⟨kn, ok, hok, hlk⟩ : ∃ (kn : Int) (ok : Bool), (ok = true -> (aZ T s).kind ≠ 1) /\ ∀ w', Below (wr.drew.alloc (.map (gB bZ 0).toArray 7)).heap.size (wr.drew.alloc (.map (gB bZ 0).toArray 7)) w' ->
         (Instr.lookup 164 (.map (some wr.heap.size)) (.string (aZ T s).text) true).run Tryz.prog w'=.ok (.tuple #[Z kn,.bool ok]) w':=by
        cases hw:cM (aZ T s).text bZ with
        |none=>exact⟨0,false,fun h=>(by cases h),fun w' b=>mS ((b.block _ (xE hQm)).trans hQm) _ (by rw[hw]at hfx;exact hfx)⟩
        |some i=>exact⟨_,true,fun _=>hno.resolve_right (fun h=>by rw[hw]at h;cases h),fun w' b=>i8 ((b.block _ (xE hQm)).trans hQm) _ (by rw[hw]at hfx;exact hfx)⟩
       rw[aEW hno]at hct hIt hsT;simp only[qqe]at hct hIt hsT;subst hct hIt hsT;unfold uL at pk;generalize aZ T s=t at pk hlk hok;obtain⟨tk,tx,tv,tb,tl,tc,tj⟩:=t;simp only at pk hlk hok;have pk0:=pk _ (qb _ _);have fq0:∀w':World,(Instr.field 59 (.agg #[Z tk,.string tx,Z tv,.string tb,Z tl,Z tc,.bool tj]) 0).run Tryz.prog w'=.ok (Z tk) w':=BH tk tv tl tc tx tb tj;have fq1:∀w':World,(Instr.field 59 (.agg #[Z tk,.string tx,Z tv,.string tb,Z tl,Z tc,.bool tj]) 1).run Tryz.prog w'=.ok (.string tx) w':=XG tk tv tl tc tx tb tj;clear hno hfx hQm hneed hlen Q bk;go_upto_region 16 with(fail)
       go_region_held3 (fun _=>True) (trivial) (first
        |(go_at_call 95;refine kd.mono ?_;rintro r wk ⟨rfl,rfl⟩)
        |(go_at_call 62;refine pk0.mono ?_;intro r w11;(first|(intro he9 b11;subst he9)|rintro ⟨rfl,b11⟩);have hl11:=hlk _ b11))
       have Q11:=Qk.step b11;have pk1:=pk _ b11;clear pk pk0 hlk kd Qk b11 hl11;go_wp2_with(go_at_call 62;refine pk1.mono ?_);intro r w12;first |(intro he b12;subst he)|rintro⟨rfl,b12⟩
       have Q12:=Q11.step b12;clear pk1 Q11 b12;by_cases hk1:tk=1
       ·subst hk1;obtain rfl:ok=false:=by
         cases ok with
         |false=>rfl
         |true=>exact absurd rfl (hok rfl)
        go_wp2
        go_meet
        case rel=>exact⟨_,Q12⟩
       ·go_wp2
        go_meet
        case rel=>exact⟨_,Q12⟩
      ·obtain⟨p,rfl⟩:=vG hk;have hp1:p+1<T.length:=Q.ps.good.more Q.ps.atCell.2.2 (by rw[show(T.getD p cH).kind=1 from hk];decide);have hpw:IntKind.i64.wrap ((p:Int)+1)=(p:Int)+1:=IntWalk.i64_in _ (by have:=hN.out;omega);obtain⟨g,rfl⟩:∃g,gk=g+1:=⟨gk-1,by unfold need at hneed;simp only at hneed;omega⟩
       have hlk : ∀ w', Below (wr.drew.alloc (.map (gB bZ 0).toArray 7)).heap.size (wr.drew.alloc (.map (gB bZ 0).toArray 7)) w' ->
         (Instr.lookup 164 (.map (some wr.heap.size)) (.string (aZ T (.ok p)).text) true).run Tryz.prog w'=.ok (.tuple #[Z ((i:Int)+1),.bool true]) w':=fun w' b=>by
        have hf2:Instr.findNow .string (.string (aZ T (.ok p)).text) (gB bZ 0).toArray.toList 0=some (some (0+i,Z ((0:Nat)+(i:Int)+1))):=by rw[hi]at hfx;exact hfx
        have:=i8 ((b.block _ (xE hQm)).trans hQm) _ hf2;rw[show((0:Nat):Int)+(i:Int)+1=(i:Int)+1 by omega]at this;exact this
       have n1:need T (.ok (p+1))<=g:=by unfold need at hneed⊢;simp only at hneed⊢;omega
       have n2:=bU (T:=T) (oP T I' (.ok (p+1)));have hio3:=kP (T:=T) (s:=.ok (p+1)) hio';have x1:=fun w' (h:bS w T Y M (gS I') R E (Bm+1) ti wt pv mv (.slice ao l.length cp) lv pl ms l l0 (.ok (p+1)) w')=>h.object hio';obtain⟨q,hq⟩:∃q,gR T I' (.ok (p+1))=q:=⟨_,rfl⟩;rw[hq]at n2 hio3 x1;obtain⟨⟨⟨v0,v1⟩,I4⟩,sa⟩:=q;simp only at n2 hio3 x1;have n3:=bU (T:=T) (fY T ⟨#[40]⟩ sa).back;have n4:=bU (T:=T) (uD (T:=T) (bY T ⟨#[40]⟩ sa)).back;have x2:=fun w' (h:bS w T Y M (gS I4) R E (Bm+1) ti wt pv mv (.slice ao l.length cp) lv pl ms l l0 (bY T ⟨#[40]⟩ sa) w')=>h.written;obtain⟨q,hq2⟩:∃q,bG T (bY T ⟨#[40]⟩ sa)=q:=⟨_,rfl⟩;rw[hq2]at n4 x2;obtain⟨⟨f1,f2⟩,sb⟩:=q;simp only at n4 x2;have n5:=bU (T:=T) (uD (T:=T) sb).back;have x3:=fun w' (h:bS w T Y M (gS I4) R E (Bm+1) ti wt pv mv (.slice ao l.length cp) lv pl ms l l0 sb w')=>h.written;obtain⟨q,hq3⟩:∃q,bG T sb=q:=⟨_,rfl⟩;rw[hq3]at n5 x3;obtain⟨⟨t1,t2⟩,sc⟩:=q;simp only at n5 x3;have n6:=bU (T:=T) (fY T ⟨#[41]⟩ sc).back;rw[aAK hk hi hq hq2 hq3]at hct hIt hsT;simp only at hct hIt hsT;have HG:=aJ (And.intro hlen (And.intro hct (And.intro hIt (And.intro hsT (And.intro hio3 (show need T (bY T ⟨#[41]⟩ sc)<=g by omega))))));have hl4:l.length<=4002:=by omega
       unfold uL at pk;simp only[aZ]at pk hlk hk;generalize T.getD p cH=t at pk hlk hk;obtain⟨tk,tx,tv,tb,tl,tc,tj⟩:=t;simp only at pk hlk hk;subst hk;have pk0:=pk _ (qb _ _);have fq0:∀w':World,(Instr.field 59 (.agg #[Z 1,.string tx,Z tv,.string tb,Z tl,Z tc,.bool tj]) 0).run Tryz.prog w'=.ok (Z 1) w':=BH 1 tv tl tc tx tb tj;have fq1:∀w':World,(Instr.field 59 (.agg #[Z 1,.string tx,Z tv,.string tb,Z tl,Z tc,.bool tj]) 1).run Tryz.prog w'=.ok (.string tx) w':=XG 1 tv tl tc tx tb tj;clear hct hIt hsT n1 n2 n3 n4 n5 n6 hneed hlen hio3 hq hq2 hq3 hfx hQm hi Q bk;go_upto_region 16 with(fail)
       go_region_held3 (fun _=>True) (trivial) (first
        |(go_at_call 95;refine kd.mono ?_;rintro r wk ⟨rfl,rfl⟩)
        |(go_at_call 62;refine pk0.mono ?_;intro r w11;(first|(intro he9 b11;subst he9)|rintro ⟨rfl,b11⟩);have hl11:=hlk _ b11))
       have Q11:=Qk.step b11;have pk1:=pk _ b11;clear pk pk0 hlk kd Qk b11 hl11;go_wp2_with(go_at_call 62;refine pk1.mono ?_);intro r w12;first |(intro he b12;subst he)|rintro⟨rfl,b12⟩
       have Q12:=Q11.step b12;clear pk1 Q11 b12;obtain⟨c1,cf1,_⟩:=Q12.ps.atCell;have Q13:=Q12.jump hp1;rw[show((p+1:Nat):Int)=(p:Int)+1 by simp]at Q13;have xo:=x1 _ Q13;clear x1 Q12 Q13;go_wp2_with(go_at_call 52;(with_reducible refine xo.mono ?_));intro r w14;(first|(intro he9 Q14 b14;subst he9)|rintro ⟨rfl,Q14,b14⟩);have Q15:=Q14.alloc (.cells #[Z v0,Z v1,Z ((i:Int)+1),Z 0,Z 0,Z 0,Z 0] 127);have hX:=qd w14 (.cells #[Z v0,Z v1,Z ((i:Int)+1),Z 0,Z 0,Z 0,Z 0] 127);have hxX:=(Q14.fresh (qa _)).2.2.1;have lX:=aA Q14.hE;have x5:=Q15.expect ⟨#[40]⟩;clear xo b14 Q14 c1 cf1;go_wp2_with(go_at_call 54;(with_reducible refine x5.mono ?_));intro r w16;(first|(intro he9 Q16 b16;subst he9)|rintro ⟨rfl,Q16,b16⟩);have loX:w.heap.size<=w14.heap.size:=by omega
       have hX16:=Q15.at hX loX b16;obtain⟨X,hXe⟩:∃X,Shut (w14.heap.size=X):=⟨_,rfl⟩;rw[hXe.out]at hX16 hxX lX loX⊢;have xw:=x2 _ Q16;clear x5 b16 Q15 hX x2;go_wp2_with(go_at_call 92;(with_reducible refine xw.mono ?_));intro r w17;(first|(intro he9 Q17 b17;subst he9)|rintro ⟨rfl,Q17,b17⟩);have hX17:=Q16.at hX16 loX b17;have d3:w17.cell? ⟨X,3,none⟩=some (Z 0):=by rw[Lib.cell_of_heap hX17];rfl
       have d4:w17.cell? ⟨X,4,none⟩=some (Z 0):=by rw[Lib.cell_of_heap hX17];rfl
       have e3:=Lib.frozen_of_heap hX17 3;have e4:=Lib.frozen_of_heap hX17 4;have Q18:=Q17.put2 hX17 lX hxX 3 4 (Z f1) (Z f2);have hX18:((w17.setCell ⟨X,3,none⟩ (Z f1)).setCell ⟨X,4,none⟩ (Z f2)).heap[X]?=some (.cells #[Z v0,Z v1,Z ((i:Int)+1),Z f1,Z f2,Z 0,Z 0] 127 (0,0)):=Lib.heap_setCell_same (i:=4) (Lib.heap_setCell_same (i:=3) hX17 _) _;have xw3:=x3 _ Q18;clear xw b17 Q16 hX16 x3 Q17 hX17;go_wp2_with(go_at_call 92;(with_reducible refine xw3.mono ?_));intro r w19;(first|(intro he9 Q19 b19;subst he9)|rintro ⟨rfl,Q19,b19⟩);have hX19:=Q18.at hX18 loX b19;clear d3 d4 e3 e4 xw3 b19 Q18 hX18;have d3:w19.cell? ⟨X,5,none⟩=some (Z 0):=by rw[Lib.cell_of_heap hX19];rfl
       have d4:w19.cell? ⟨X,6,none⟩=some (Z 0):=by rw[Lib.cell_of_heap hX19];rfl
       have e3:=Lib.frozen_of_heap hX19 5;have e4:=Lib.frozen_of_heap hX19 6;have Q20:=Q19.put2 hX19 lX hxX 5 6 (Z t1) (Z t2);have hX20:((w19.setCell ⟨X,5,none⟩ (Z t1)).setCell ⟨X,6,none⟩ (Z t2)).heap[X]?=some (.cells #[Z v0,Z v1,Z ((i:Int)+1),Z f1,Z f2,Z t1,Z t2] 127 (0,0)):=Lib.heap_setCell_same (i:=6) (Lib.heap_setCell_same (i:=5) hX19 _) _;have x7:=Q20.expect ⟨#[41]⟩;clear Q19 hX19;go_wp2_with(go_at_call 54;(with_reducible refine x7.mono ?_));intro r w21;(first|(intro he9 Q21 b21;subst he9)|rintro ⟨rfl,Q21,b21⟩);have hX21:=Q20.at hX20 loX b21;clear d3 d4 e3 e4 x7 b21 Q20 hX20;have k4:=Q21.c4;have lE21:=aA Q21.hE;have sz21:=Q21.aw.size;have Q21a:=Q21.alloc (.cells #[Z v0,Z v1,Z ((i:Int)+1),Z f1,Z f2,Z t1,Z t2] 127);have ow:=Q21a.ox;go_wp2_with(first
        |(refine qqv rfl 127 _ rfl X rfl 127 #[Z v0,Z v1,Z ((i:Int)+1),Z f1,Z f2,Z t1,Z t2] (0,0) _ hX21 Tryz.underlying127 rfl Tryz.sizeSpan ?_)
        |(at_builtin;refine wpList_append_lies _ rfl _ _ 62 rfl w.heap.size 127 i1 _ 7 56 Tryz.underlying62 hi1 hz1 hs1 hy1 hc1 (by omega) (.slice ao l.length cp) l.length (bT ER l) rfl ow ⟨w21.heap.size,0,none⟩ 1 1 [Z v0,Z v1,Z ((i:Int)+1),Z f1,Z f2,Z t1,Z t2] rfl rfl (World.news_of_block (cs:=#[Z v0,Z v1,Z ((i:Int)+1),Z f1,Z f2,Z t1,Z t2]) (t:=127) (fr:=(0,0)) (qd _ _)) (by simp[Value.oneCell']) (by omega) (by unfold maxLen;omega) (by omega) (by simp;omega) (w21.heap.size+1) (by simp) ?_;intro gg cap w22 hown1 hgrow hat hgl;obtain⟨hE22,Q22⟩:=Q21a.pushX (x:=⟨v0,v1,(i:Int)+1,(f1,f2),(t1,t2)⟩) hgrow hown1;have k22:w22.cell? ⟨E,4,none⟩=some (.slice ao l.length cp):=(by rw[Lib.cell_of_heap hE22];rfl);have f22:=Lib.frozen_of_heap hE22 4))
       go_roundg g;case measure=>omega
       case rel =>
        obtain⟨h1,h2,h3,h4,h5,h6⟩:=HG.out;exact⟨l++[⟨v0,v1,(i:Int)+1,(f1,f2),(t1,t2)⟩],I4,_,_,by simp only[qf,qz];omega,h6,h5,by rw[qqk];exact h2,h3,h4,Q22⟩
    case rest =>
     clear P8;obtain⟨xv,P9⟩:=hcut;have xe:=P9.end_;go_upto_if 130 with(go_at_call 21;(with_reducible refine xe.mono ?_));intro r w10;(first|(intro he9 P10 b10;subst he9)|rintro ⟨rfl,P10,b10⟩);clear P9 xe b10;go_upto_if 130 with(fail)
     go_cut [10]from 131 to 156 (fun _ wc=>∃lv,bS w T Y M (gS I3) R E (Bm+1) ti wt pv mv xv lv pl ms xs ll (E4 T s7) wc)
     case first =>
      cases la with
      |true =>
       go_wp2
       go_meet
       case rel=>exact⟨_,by rw[<-HLL.yes];exact P10⟩
      |false =>
       obtain rfl:=HL.out rfl;obtain⟨-,-,-,-,-,-,io3,-,-⟩:=HM2.out;have hlo:=fun p hp=>(io3.2.2.2 p hp).1;obtain⟨i1,hi1,z1,hz1,hc1,hs1,hy1⟩:=oR Tryz.infoid;obtain⟨tv,pos,line,col,e,es,clk,hs,hmo,-⟩:=P10.ps.ids;have d8:=hs.c8;have hMw:=hs.map;have ky:=aAQ (some M) w10;have P11:=P10.alloc (.cells #[.map (some M)] 129);have hBx:=qd w10 (.cells #[.map (some M)] 129);have hM11:=aV (.cells #[.map (some M)] 129) hMw;have st:=SU hBx hM11 hmo hlo;have HMO:=aJ hmo;clear hs hmo io3 hlo HM2 HL;go_wp2_with(first
        |(go_at_call 97;refine ky.mono ?_;rintro r w' ⟨rfl,rfl⟩)
        |(go_at_call 96;(with_reducible refine st.mono ?_)))
       rintro r w14 ⟨v,rfl,hv,b14,h100⟩;have P14:=P11.step b14;have hM14:=(b14.block _ (xE hM11)).trans hM11;obtain⟨va,vc,rfl⟩:=aL hv;clear ky st hBx hM11 P11 b14 P10 d8 hMw;generalize (w10.alloc (.cells #[.map (some M)] 129)).heap.size=Bk at hv;obtain⟨n,hn⟩:∃n,Shut (I3.es.length=n):=⟨_,rfl⟩;rw[hn.out]at hv h100⊢;obtain⟨ks,hks⟩:∃ks,Shut (SS I3.es=ks):=⟨_,rfl⟩;rw[hks.out]at hv;have hkl:Shut (ks.length=n):=by rw[<-hks.out,<-hn.out];exact aAP _
       go_wp2_with(fail)
       go_loopg [10,138] n (fun gk _ v138 wr=>∃(k:Nat)(lv:Value),k<=n/\gk=n-k/\v138=Z (k:Nat)/\wr.ownsRow Bk 3 1 (.slice va n vc) n (ks.map (Value.int .i64))/\wr.heap[M]?=some (.map es clk)/\bS w T Y M (gS I3) R E (Bm+1) ti wt pv mv xv lv pl ms xs ((ks.take k).map fun k=>(k,rD k I3.es)) (E4 T s7) wr)
       case atStart=>exact⟨0,_,ql _,rfl,rfl,hv,hM14,P14⟩
       case round =>
        clear hv hM14 P14;obtain⟨k,lv,hk,hg,rfl,hv,hMl,Q⟩:=hrel;by_cases hlt:k<n
        ·have hlt':(k:Int)<(n:Int):=by omega
         have hk0:(0:Int)<=(k:Int):=by omega
         have m1:IntKind.i64.wrap ((k:Int)+1)=(k:Int)+1:=IntWalk.i64_in _ (by omega);obtain⟨G,rfl⟩:∃G,va=some ⟨G,0,none⟩:=by
          rcases hv.2 with⟨_,h0⟩ |⟨g,cap,cur,e1,_⟩
          ·omega
          ·injection e1 with e1 _ _;exact⟨g,e1⟩
         have hkk:k<ks.length:=by rw[hkl.out];exact hlt
         obtain⟨ky,hky⟩:∃ky,ks[k]?=some ky:=⟨_,qr hkk⟩;have x0:wr.cell? ⟨G,k,none⟩=some (Z ky):=(cE hv (i:=k) (by rw[List.getElem?_map,hky];rfl)).1;have htk:Shut (((ks.take (k+1)).map fun k=>(k,rD k I3.es))=((ks.take k).map fun k=>(k,rD k I3.es))++[(ky,rD ky I3.es)]):=by
          show _=_;rw[List.take_add_one,hky,Option.toList_some,List.map_append];rfl
         have hln:((ks.take k).map fun k=>(k,rD k I3.es)).length<=100:=by rw[qqc,List.length_take];omega
         obtain⟨l,hl⟩:∃l,Shut (((ks.take k).map fun k=>(k,rD k I3.es))=l):=⟨_,rfl⟩;rw[hl.out]at Q hln htk;clear hkk hky;obtain⟨ao,cp,rfl⟩:=aL Q.ol;have Qd:=Q.step (qb _ wr).drew;have hlk:=(aC7 ky clk HMO.out).1 M wr.drew hMl;obtain⟨gv,hgv⟩:∃gv,Shut (rD ky I3.es=gv):=⟨_,rfl⟩;rw[hgv.out]at hlk htk;have ol1:=Qd.ol;have sz1:=Qd.aw.size;have d5:wr.cell? ⟨E,5,none⟩=some (.slice ao l.length cp):=Q.c5;have d8:wr.cell? ⟨Y,8,none⟩=some (.map (some M)):=by
          obtain⟨_,_,_,_,_,_,_,hs,_,_⟩:=Q.ps.ids;exact hs.c8
         have lE:=aA Q.hE;have lY1:=Q.ps.lt;have nx:=qqd wr _ d5;have ny:=qqd wr _ d8;have Qa:=Qd.alloc (.cells #[Z ky,Z gv] 24);have lG:=(hv.lt G rfl).2;have lM1:=xE hMl;have neG:Value.ownBlock (.slice ao l.length cp)≠some G:=fun e=>by
          obtain⟨c',hc'⟩:=bA Q.ol e;obtain⟨c2,hc2⟩:=bA hv (k:=G) rfl;exact aS hc' hc2 (by decide)
         have neM:Value.ownBlock (.slice ao l.length cp)≠some M:=fun e=>by
          have:=(Q.ol.lt M e).1;omega
         have HVM:=aJ (And.intro hv hMl);clear Q hv hMl;go_upto_region 30 with(fail)
         go_region_law ((refine step_append_lies _ (by rfl) _ _ _ (by rfl) w.heap.size 24 i1 _ 2 16 Tryz.underlying40 hi1 hz1 hs1 hy1 hc1 (by omega) (.slice ao l.length cp) l.length (bT idC l) (by rfl) (World.ownsRow.alloc (w:=wr.drew) ol1 _) ⟨wr.heap.size,0,none⟩ 1 1 [Z ky,Z gv] (by rfl) (by rfl) (World.news_of_block (cs:=#[Z ky,Z gv]) (t:=24) (fr:=(0,0)) (qd _ _)) (by simp[Value.oneCell']) (by omega) (by simp only[maxLen];omega) (by omega) (by simp;omega) (wr.heap.size+1) (by simp) ?_;intro gg cap w15 hown1 hgrow hat hgl;obtain⟨hE15,Q15⟩:=Qa.pushL (x:=(ky,gv)) hgrow hown1;have k15:w15.cell? ⟨E,5,none⟩=some (.slice ao l.length cp):=(by rw[Lib.cell_of_heap hE15];rfl);have f15:=Lib.frozen_of_heap hE15 5;have hG15:=(hgrow.block G (by simp;omega) (fun e=>neG e.symm)).trans (Lib.alloc_old wr.drew (.cells #[Z ky,Z gv] 24) G lG);have hM15:=(hgrow.block M (by simp;omega) (fun e=>neM e.symm)).trans (Lib.alloc_old wr.drew (.cells #[Z ky,Z gv] 24) M lM1)))
         all_goals go_wp2
         all_goals go_roundg (n-(k+1))
         all_goals first
          |omega
          | (refine ⟨k + 1, _, by omega, rfl, by simp, aB HVM.out.1 fun j hj => ?_, (qh w15 ⟨E, 5, none⟩ _ M (by show M ≠ E; omega)).trans (hM15.trans HVM.out.2), by rw [htk.out]; exact Q15⟩
             obtain rfl:G=j:=qi hj;exact(qh w15 ⟨E,5,none⟩ _ G (by show G≠E;rintro rfl;obtain⟨c2,hc2⟩:=bA HVM.out.1 (k:=G) rfl;exact aS (hG15.trans hc2) hE15 (by decide))).trans hG15)
        ·have hkn:k=n:=by omega
         subst hkn;have htk:((ks.take k).map fun k=>(k,rD k I3.es))=CY I3.es:=by rw[<-hkl.out,List.take_length,<-hks.out];rfl
         rw[htk]at Q;clear htk hv hMl;go_wp2
         go_meet
         case rel=>exact⟨lv,by rw[<-HLL.no];exact Q⟩
     case rest =>
      clear P10 HM2 HL;obtain⟨lv,Q1⟩:=hcut;obtain rfl:w.heap.size=R:=hRe.out;obtain⟨_,p1,_⟩:=Q1.op;obtain⟨_,q1,_⟩:=Q1.om;obtain⟨a1,c1,e1⟩:=aL p1;obtain⟨a2,c2,e2⟩:=aL q1;obtain⟨a3,c3,e3⟩:=aL Q1.ox;obtain⟨a4,c4,e4⟩:=aL Q1.ol;have hone:(lU ti wt pv mv xv lv).all (·.oneCell')=true:=by rw[e1,e2,e3,e4];simp[lU,Value.oneCell']
      clear p1 q1 e1 e2 e3 e4;have hz:(Tryz.prog.info? 64).map (·.size)=some (lU ti wt pv mv xv lv).size:=Tryz.sizeSco;have hsz:fK.size=(lU ti wt pv mv xv lv).size:=rfl;have hE:=Q1.hE;have hR:=Q1.hR;obtain⟨hfm,hfs⟩:=Q1.done (w':=wc.setRow w.heap.size (lU ti wt pv mv xv lv)) (fun k hk=>setRow_other _ _ _ _ hk);have awf:=Q1.aw.setRow Q1.lR (lU ti wt pv mv xv lv);have HFF:=aJ (And.intro hfm (And.intro hfs awf));clear hfm hfs awf Q1;obtain⟨mm,hmm⟩:∃mm,lU ti wt pv mv xv lv=mm:=⟨_,rfl⟩;rw[hmm]at hone hz hsz hE HFF;have hRf:(wc.setRow w.heap.size mm).heap[w.heap.size]?=some (.cells mm 64 (0,0)):=setRow_heap _ _ _ _ _ hR;have HMM:=aJ hmm;clear hmm;go_wp2_with(first
       |(refine qqv rfl 64 _ rfl E rfl 64 mm (0,0) _ hE Tryz.underlying64 rfl hz ?_)
       |(refine wpList_store_row rfl 64 _ _ rfl w.heap.size mm rfl rfl 64 fK hR hz hsz hone ?_))
      refine qg (qp rfl _ _ w.heap.size 64 mm (0,0) _ rfl hRf Tryz.underlying64 rfl hz) rfl ?_;refine⟨pv,mv,xv,lv,?_,HFF.out.1,⟨I3,HFF.out.2.1⟩,HFF.out.2.2⟩;rw[<-HMM.out]
end
end Go.Proofs.YtgkhemnmcgicnaaGreatDoor
