/- Towards the law ParserBlanks, true for every text and all blanks (no condition): one part of the proof. -/
import Derived.Test.YtgkhemnmcgicnaaGreatDoorG01
import Derived.Test.YtgkhemnmcgicnaaGreatDoorG44
import Derived.Test.YtgkhemnmcgicnaaGreatDoorG37
namespace Go.Proofs.YtgkhemnmcgicnaaGreatDoor
set_option maxHeartbeats 16000000
set_option maxRecDepth 100000
open Go.RowKit
theorem VX{T:List aX}{Y M p:Nat}{free:Fr}{w:World}(h:PS T Y M free (.ok p) w)(ti:ByteArray)(wr:Bool)(a1 a2 a3 a4:Option Addr)(n1 n2 n3 n4 c1 c2 c3 c4:Nat) :
  Calls Tryz.prog 43 #[.pointer (some ⟨Y,0,none⟩),.agg (lU ti wr (.slice a1 n1 c1) (.slice a2 n2 c2) (.slice a3 n3 c3) (.slice a4 n4 c4))] w fun r w' =>
   r=.returned (.tuple #[.agg (lU ti wr (.slice a1 n1 c1) (.slice a2 n2 c2) (.slice a3 n3 c3) (.slice a4 n4 c4)),Z 0,Z 0,Z 0])/\Below w.heap.size w w':=by
 have d4:=h.okCell;have n4':=qqd w _ d4;have l4:=qo w _ d4;simp only at l4;clear h;unfold lU;go_enter Tryz.func43,Tryz.ntmps43;go_wp2;refine qg (oU rfl _ _ (w.heap.size+1) 64 _ (0,0) _ rfl (heap_alloc2_new w _ _) Tryz.underlying64 rfl Tryz.sizeSco) rfl ?_;exact⟨rfl,((qb _ w).alloc (qa _) _).alloc (by simp) _⟩
theorem SH{T:List aX}{Y M:Nat}{free:Fr}{e l c:Int}{w:World}(h:PS T Y M free (.bad e l c) w)(ti:ByteArray)(wr:Bool)(a1 a2 a3 a4:Option Addr)(n1 n2 n3 n4 c1 c2 c3 c4:Nat) :
  Calls Tryz.prog 43 #[.pointer (some ⟨Y,0,none⟩),.agg (lU ti wr (.slice a1 n1 c1) (.slice a2 n2 c2) (.slice a3 n3 c3) (.slice a4 n4 c4))] w fun r w' =>
   r=.returned (.tuple #[.agg fK,Z l,Z c,Z e])/\Below w.heap.size w w':=by
 obtain⟨d2,d3,d4,he⟩:=h.errCells;have n4':=qqd w _ d4;have l4:=qo w _ d4;simp only at l4;clear h;unfold lU;have m1:Y≠w.heap.size+1:=by omega
 have m2:Y≠w.heap.size+1+1:=by omega
 have m3:Y≠w.heap.size:=by omega
 go_enter Tryz.func43,Tryz.ntmps43;go_wp2;obtain⟨hc,hb,bel⟩:=PB w (.cells #[.string ti,.bool wr,.slice a1 n1 c1,.slice a2 n2 c2,.slice a3 n3 c3,.slice a4 n4 c4] 64) (.cells #[.string ⟨#[]⟩,.bool false,.slice none 0 0,.slice none 0 0,.slice none 0 0,.slice none 0 0] 64) (.cells #[.string ⟨#[]⟩,.bool false,.slice none 0 0,.slice none 0 0,.slice none 0 0,.slice none 0 0] 64);have d2':=(bel.cell l4).trans d2;have d3':=(bel.cell l4).trans d3;have d4':=(bel.cell l4).trans d4;generalize hW:(((w.alloc (.cells #[.string ti,.bool wr,.slice a1 n1 c1,.slice a2 n2 c2,.slice a3 n3 c3,.slice a4 n4 c4] 64)).alloc (.cells #[.string ⟨#[]⟩,.bool false,.slice none 0 0,.slice none 0 0,.slice none 0 0,.slice none 0 0] 64)).alloc (.cells #[.string ⟨#[]⟩,.bool false,.slice none 0 0,.slice none 0 0,.slice none 0 0,.slice none 0 0] 64))=W at hc hb bel d2' d3' d4'⊢;clear hW d2 d3 d4;have hGne:w.heap.size+1+1≠w.heap.size+1:=by omega
 generalize w.heap.size+1+1=G at hc m2 hGne⊢;refine qqo ?_;refine qqi (S:=fun w'=>w'.heap[G]?=some (.cells #[.string ⟨#[]⟩,.bool false,.slice none 0 0,.slice none 0 0,.slice none 0 0,.slice none 0 0] 64 (0,0))/\w'.cell? ⟨Y,2,none⟩=some (Z l)/\w'.cell? ⟨Y,3,none⟩=some (Z c)/\w'.cell? ⟨Y,4,none⟩=some (Z e)) (by kernel_rfl) ⟨hc,d2',d3',d4'⟩ (fun hHeld => ?_);refine wpAnyH_take (i:=0) rfl (by kernel_rfl) (by kernel_rfl) (by kernel_rfl) (fun _ _ _ h=>h) (nZ (by rfl) 64 _ rfl G rfl #[.string ⟨#[]⟩,.bool false,.slice none 0 0,.slice none 0 0,.slice none 0 0,.slice none 0 0] 64 _ (fun _ h=>h.1) Tryz.underlying64 rfl Tryz.sizeSco) (by assumption) ?_;try simp only[ap,nm]
 refine gQ 1 ?v1 rfl ?hy1 ?_;case hy1=>(intro wq hSw;go_simp;try(with_reducible rfl))
 try simp only[ap,nm]
 refine gQ 2 ?v2 rfl ?hy2 ?_;case hy2=>(intro wq hSw;go_simp;try(with_reducible rfl))
 try simp only[ap,nm]
 refine gQ 3 ?v3 rfl ?hy3 ?_;case hy3=>(intro wq hSw;go_simp;try(with_reducible rfl))
 try simp only[ap,nm]
 refine gQ 4 ?v4 rfl ?hy4 ?_;case hy4=>(intro wq hSw;go_simp;try(with_reducible rfl))
 try simp only[ap,nm]
 refine gQ 5 (Z l) rfl ?hy5 ?_;case hy5=>(intro wq hSw;obtain⟨hSz,hS2,hS3,hS4⟩:=hSw;go_simp;try rfl)
 try simp only[ap,nm]
 refine gQ 6 ?v6 rfl ?hy6 ?_;case hy6=>(intro wq hSw;go_simp;try(with_reducible rfl))
 try simp only[ap,nm]
 refine gQ 7 ?v7 rfl ?hy7 ?_;case hy7=>(intro wq hSw;go_simp;try(with_reducible rfl))
 try simp only[ap,nm]
 refine gQ 8 ?v8 rfl ?hy8 ?_;case hy8=>(intro wq hSw;go_simp;try(with_reducible rfl))
 try simp only[ap,nm]
 refine gQ 9 ?v9 rfl ?hy9 ?_;case hy9=>(intro wq hSw;go_simp;try(with_reducible rfl))
 try simp only[ap,nm]
 refine gQ 10 (Z c) rfl ?hy10 ?_;case hy10=>(intro wq hSw;obtain⟨hSz,hS2,hS3,hS4⟩:=hSw;go_simp;try rfl)
 try simp only[ap,nm]
 refine gQ 11 ?v11 rfl ?hy11 ?_;case hy11=>(intro wq hSw;go_simp;try(with_reducible rfl))
 try simp only[ap,nm]
 refine gQ 12 ?v12 rfl ?hy12 ?_;case hy12=>(intro wq hSw;go_simp;try(with_reducible rfl))
 try simp only[ap,nm]
 refine gQ 13 ?v13 rfl ?hy13 ?_;case hy13=>(intro wq hSw;go_simp;try(with_reducible rfl))
 try simp only[ap,nm]
 refine gQ 14 ?v14 rfl ?hy14 ?_;case hy14=>(intro wq hSw;go_simp;try(with_reducible rfl))
 try simp only[ap,nm]
 refine gQ 15 (Z e) rfl ?hy15 ?_;case hy15=>(intro wq hSw;obtain⟨hSz,hS2,hS3,hS4⟩:=hSw;go_simp;try rfl)
 try simp only[ap,nm]
 refine yE 16 rfl (fun K hK => ?_);refine AB rfl (wp_store_row 64 _ _ rfl (w.heap.size+1) #[.string ⟨#[]⟩,.bool false,.slice none 0 0,.slice none 0 0,.slice none 0 0,.slice none 0 0] rfl rfl 64 _ hb (by kernel_rfl) rfl (by simp[Value.oneCell']) ?_);have o9:∀j,j≠w.heap.size+1->(World.setRow W.drew (w.heap.size+1) #[.string ⟨#[]⟩,.bool false,.slice none 0 0,.slice none 0 0,.slice none 0 0,.slice none 0 0]).heap[j]?=W.heap[j]?:=fun j hj=>setRow_other W.drew (w.heap.size+1) j #[.string ⟨#[]⟩,.bool false,.slice none 0 0,.slice none 0 0,.slice none 0 0,.slice none 0 0] hj;have hrf:=setRow_heap W.drew (w.heap.size+1) #[.string ⟨#[]⟩,.bool false,.slice none 0 0,.slice none 0 0,.slice none 0 0,.slice none 0 0] _ _ hb;have hbel:=PA (X:=w.heap.size+1) bel.drew (by omega) #[.string ⟨#[]⟩,.bool false,.slice none 0 0,.slice none 0 0,.slice none 0 0,.slice none 0 0];have hcell:∀j i u,j≠w.heap.size+1->W.cell? ⟨j,i,none⟩=some u->(World.setRow W.drew (w.heap.size+1) #[.string ⟨#[]⟩,.bool false,.slice none 0 0,.slice none 0 0,.slice none 0 0,.slice none 0 0]).cell? ⟨j,i,none⟩=some u:=fun j i u hj hu=>by
  rw[<-hu];unfold World.cell?;rw[o9 j hj]
 refine hK.out _ _ ⟨(o9 G hGne).trans hc,hcell Y 2 _ m1 d2',hcell Y 3 _ m1 d3',hcell Y 4 _ m1 d4'⟩ (fun hHeld => ?_);clear hK K;try simp only[ap,nm]
 refine fB 17 (Z l) rfl ?_;try simp only[ap,nm]
 refine fB 18 (Z c) rfl ?_;try simp only[ap,nm]
 refine fB 19 (Z e) rfl ?_;try simp only[ap,nm]
 refine wpAnyH_done (by kernel_rfl) ?_ _;refine qqx ?_;go_wp2;refine qg (oU rfl _ _ (w.heap.size+1) 64 _ (0,0) _ rfl hrf Tryz.underlying64 rfl Tryz.sizeSco) rfl ?_;exact⟨rfl,hbel⟩
def VY(x:KR)(s:aD)(r:Ending)(w:World):Prop :=
 match s with
 | .ok _=>∃pv mv xv lv,r=.returned (.tuple #[.agg (lU x.title x.written pv mv xv lv),Z 0,Z 0,Z 0])/\∃B,B0 B pv mv xv lv x w
 | .bad e l c=>r=.returned (.tuple #[.agg fK,Z l,Z c,Z e])
theorem B0.slices{B:Nat}{pv mv xv lv:Value}{x:KR}{w:World}(h:B0 B pv mv xv lv x w):∃(a1 a2 a3 a4:Option Addr)(c1 c2 c3 c4:Nat),pv=.slice a1 x.parts.length c1/\mv=.slice a2 x.meas.length c2/\xv=.slice a3 x.spans.length c3/\lv=.slice a4 x.last.length c4:=by
 obtain⟨⟨_,p1,_⟩,⟨_,m1,_⟩,x1,l1⟩:=h;obtain⟨a1,c1,e1⟩:=aL p1;obtain⟨a2,c2,e2⟩:=aL m1;obtain⟨a3,c3,e3⟩:=aL x1;obtain⟨a4,c4,e4⟩:=aL l1;exact⟨a1,a2,a3,a4,c1,c2,c3,c4,e1,e2,e3,e4⟩
theorem B0.step{B:Nat}{pv mv xv lv:Value}{x:KR}{w w':World}(h:B0 B pv mv xv lv x w)(b:Below w.heap.size w w'):B0 B pv mv xv lv x w':=by
 obtain⟨⟨c1,p1,p2⟩,⟨c2,m1,m2⟩,h3,h4⟩:=h;have kT:∀(k:Nat)(o:Array Value)(T:TypeId),w.heap[k]?=some (.cells o T (0,0))->ST T->B<=k->w'.heap[k]?=w.heap[k]?:=fun k o T ho _ _=>b.block k (aA ho);exact⟨⟨c1,aB p1 fun k hk=>b.block k (p1.lt k hk).2,p2.keepT kT⟩,⟨c2,aB m1 fun k hk=>b.block k (m1.lt k hk).2,m2.keepT kT⟩,aB h3 fun k hk=>b.block k (h3.lt k hk).2,aB h4 fun k hk=>b.block k (h4.lt k hk).2⟩
theorem B0.put{B:Nat}{pv mv xv lv:Value}{x:KR}{w w':World}{X:Nat}{c:Array Value}(h:B0 B pv mv xv lv x w)(hX:w.heap[X]?=some (.cells c 64 (0,0)))(so:∀k,k≠X->w'.heap[k]?=w.heap[k]?):B0 B pv mv xv lv x w':=by
 obtain⟨⟨c1,p1,p2⟩,⟨c2,m1,m2⟩,h3,h4⟩:=h;have kT:∀(k:Nat)(o:Array Value)(T:TypeId),w.heap[k]?=some (.cells o T (0,0))->ST T->B<=k->w'.heap[k]?=w.heap[k]?:=fun k o T ho hT _=>so k (by
  rintro rfl;exact aS ho hX hT.not.2.1)
 have ne:∀{v:Value}{D sz n:Nat}{t:TypeId}{y:List Value},w.ownsRow D t sz v n y->t≠64->w'.ownsRow D t sz v n y:=fun r ht=>aB r fun k hk=>so k (by
  rintro rfl;obtain⟨c',hc'⟩:=bA r hk;exact aS hc' hX ht)
 exact⟨⟨c1,ne p1 (by decide),p2.keepT kT⟩,⟨c2,ne m1 (by decide),m2.keepT kT⟩,ne h3 (by decide),ne h4 (by decide)⟩
section
variable{T:List aX}{st:aD}{s:ByteArray}{w:World}{f:ByteArray->kM×Int}
theorem aD9(hf:jQ f)(hg:kU T)(hsc:U8 s T st)(gl:AE w):Calls Tryz.prog 17 #[.string s] w fun r w' =>
  VY (iU aK ⟨aP,bJ f⟩ T st).1 (iU aK ⟨aP,bJ f⟩ T st).2 r w'/\Below w.heap.size w w':=by
 have b0:=(qb w.heap.size w).alloc (qa _) (.cells fK 64);have hR0:(w.alloc (.cells fK 64)).heap[w.heap.size]?=some (.cells fK 64 (0,0)):=qd w _;have xo:=aF8 false (some ⟨0,0,[]⟩) (fun I h=>(qi h).symm) hg hsc (w.alloc (.cells fK 64));have szV:(w.alloc (.cells fK 64)).heap.size=w.heap.size+1:=by simp
 generalize hV:w.alloc (.cells fK 64)=V at hR0 b0 xo szV;have xs:=fun w' (h:PS T (V.heap.size+1) V.heap.size (gS ⟨0,0,[]⟩) st w') (B:mF w [V.heap.size+1,V.heap.size] w')=>aGU hf h B;generalize iU aK ⟨aP,bJ f⟩ T st=q at xs⊢;obtain⟨x,s2⟩:=q;simp only at xs⊢;have HV:=aJ hV;have HS:=aJ szV;clear szV;rw[<-hV]at xo;clear hV;unfold fK lU at xo;rw[show(ByteArray.empty:ByteArray)=⟨#[]⟩from rfl]at xo;go_enter Tryz.func17,Tryz.ntmps17;go_wp2_with(go_at_call 19;(with_reducible refine xo.mono ?_));intro r w1;(first|(intro he9 b1 hS1;subst he9)|rintro ⟨rfl,b1,hS1⟩);clear xo;rw[show w.alloc (.cells #[.string ⟨#[]⟩,.bool false,.slice none 0 0,.slice none 0 0,.slice none 0 0,.slice none 0 0] 64)=V from HV.out]at b1 hS1⊢;have hR1:=(b1.block _ (aA hR0)).trans hR0;have bb1:=b0.trans (b1.mono b0.size);have B1:mF w [V.heap.size+1,V.heap.size] w1:=⟨gl,bb1,fun k hk=>by have:=HS.out;simp at hk;omega⟩;have xs1:=xs _ hS1 B1;clear xs b0 hR0 b1;go_wp2_with(go_at_call 44;(with_reducible refine xs1.mono ?_));rintro r w2 ⟨pv,mv,xv,lv,I',rfl,hR,hP,a2⟩;obtain⟨a1,b1,c1,d1,n1,n2,n3,n4,rfl,rfl,rfl,rfl⟩:=hR.slices;have hR2:=a2.at hR1 (by have:=HS.out;simp;omega);have B2:=(B1.away a2).bel;have HR:=aJ hR;clear xs1 hR1 B1 a2 hR;cases s2 with
 |ok p =>
  have x3:=VX hP x.title x.written a1 b1 c1 d1 x.parts.length x.meas.length x.spans.length x.last.length n1 n2 n3 n4;unfold lU at x3⊢;go_wp2_with(go_at_call 43;(with_reducible refine x3.mono ?_));intro r w3;(first|(intro he9 b3;subst he9)|rintro ⟨rfl,b3⟩);have hR3:=(b3.block _ (aA hR2)).trans hR2;have B3:=B2.trans (b3.mono B2.size);have HR3:=aJ (HR.out.step b3);clear x3 hP HR hR2 B2 b3;unfold fK lU at hR3;obtain⟨c0,c1',c2,c3,c4,c5,f0,f1,f2,f3,f4,f5⟩:=oQ hR3;have hfr:=zZ (a:=.string x.title) (b:=.bool x.written) (c:=.slice a1 x.parts.length n1) (d:=.slice b1 x.meas.length n2) (e:=.slice c1 x.spans.length n3) (f:=.slice d1 x.last.length n4) hR3;have hfa:=AA (bs:=[]) (aC.of_below B3) (X:=w.heap.size) (qa _) (.string x.title) (.bool x.written) (.slice a1 x.parts.length n1) (.slice b1 x.meas.length n2) (.slice c1 x.spans.length n3) (.slice d1 x.last.length n4);have hfo:=HR3.out.put hR3 (EG w3 w.heap.size (.string x.title) (.bool x.written) (.slice a1 x.parts.length n1) (.slice b1 x.meas.length n2) (.slice c1 x.spans.length n3) (.slice d1 x.last.length n4));have HF:=aJ (And.intro hfr (And.intro hfa hfo));clear hfr hfa hfo HR3 B3;go_wp2;obtain⟨hfr,hfa,hfo⟩:=HF.out;refine qg (oU rfl _ _ w.heap.size 64 _ (0,0) _ rfl hfr Tryz.underlying64 rfl Tryz.sizeSco) rfl ?_;exact⟨⟨_,_,_,_,rfl,_,hfo⟩,hfa.below⟩
 |bad e l c =>
  have x3:=SH hP x.title x.written a1 b1 c1 d1 x.parts.length x.meas.length x.spans.length x.last.length n1 n2 n3 n4;unfold lU at x3⊢;unfold fK lU at x3;go_wp2_with(go_at_call 43;(with_reducible refine x3.mono ?_));intro r w3;(first|(intro he9 b3;subst he9)|rintro ⟨rfl,b3⟩);have hR3:=(b3.block _ (aA hR2)).trans hR2;have B3:=B2.trans (b3.mono B2.size);clear x3 hP HR hR2 B2 b3;unfold fK lU at hR3;obtain⟨c0,c1',c2,c3,c4,c5,f0,f1,f2,f3,f4,f5⟩:=oQ hR3;have hfr:=zZ (a:=.string ByteArray.empty) (b:=.bool false) (c:=.slice none 0 0) (d:=.slice none 0 0) (e:=.slice none 0 0) (f:=.slice none 0 0) hR3;have hfa:=AA (bs:=[]) (aC.of_below B3) (X:=w.heap.size) (qa _) (.string ByteArray.empty) (.bool false) (.slice none 0 0) (.slice none 0 0) (.slice none 0 0) (.slice none 0 0);have HF:=aJ (And.intro hfr hfa);clear hfr hfa B3;go_wp2;obtain⟨hfr,hfa⟩:=HF.out;refine qg (oU rfl _ _ w.heap.size 64 _ (0,0) _ rfl hfr Tryz.underlying64 rfl Tryz.sizeSco) rfl ?_;exact⟨rfl,hfa.below⟩
end
theorem aKN(v v':Value)(l:List jH)(w:World)(hbig:l.length<=9223372036854775807)(h:kY w 4 v (l.map jH.cells))(h':kY w 4 v' (l.map jH.cells)) :
  Calls Tryz.prog 80 #[v,v'] w fun e w'=>e=.returned (.bool true)/\Below w.heap.size w w':=by
 obtain⟨ao,c,rfl⟩:=h.isM;obtain⟨ao',c',rfl⟩:=h'.isM;go_enter Tryz.func80,Tryz.ntmps80;go_wp2
 go_loopg [13] l.length (fun g s13 wr=>∃k:Nat,k<=l.length/\g=l.length-k/\s13=Z (k:Nat)/\Below w.heap.size w wr)
 case atStart=>exact⟨0,ql _,rfl,rfl,qb _ _⟩
 case round =>
  obtain⟨k,hk,hg,rfl,hb⟩:=hrel;by_cases hlt:k<l.length
  ·have hlt':(k:Int)<(l.length:Int):=by omega
   have hk0:(0:Int)<=(k:Int):=by omega
   obtain⟨g,oo,rfl,hc⟩:=(h.step hb).atM hlt;obtain⟨g',oo',rfl,hc'⟩:=(h'.step hb).atM hlt;generalize l[k]=x at *;obtain⟨a0,a1,a2,a3⟩:=x;clear h h';have x0:wr.cell? ⟨g,oo+k*4,none⟩=some (Z a0):=hc 0 _ rfl;have y0:wr.cell? ⟨g',oo'+k*4,none⟩=some (Z a0):=hc' 0 _ rfl;have x1:wr.cell? ⟨g,oo+k*4+1,none⟩=some (Z a1):=hc 1 _ rfl;have y1:wr.cell? ⟨g',oo'+k*4+1,none⟩=some (Z a1):=hc' 1 _ rfl;have x2:wr.cell? ⟨g,oo+k*4+2,none⟩=some (Z a2):=hc 2 _ rfl;have y2:wr.cell? ⟨g',oo'+k*4+2,none⟩=some (Z a2):=hc' 2 _ rfl;have x3:wr.cell? ⟨g,oo+k*4+3,none⟩=some (Z a3):=hc 3 _ rfl;have y3:wr.cell? ⟨g',oo'+k*4+3,none⟩=some (Z a3):=hc' 3 _ rfl;have m1:IntKind.i64.wrap ((k:Int)+1)=(k:Int)+1:=IntWalk.i64_in _ (by omega);clear hc hc';go_wp2
   go_region
   all_goals go_wp2
   all_goals go_roundg (l.length-(k+1))
   all_goals first
    |omega
    |exact⟨k+1,by omega,rfl,by simp,hb.drew⟩
  ·have:k=l.length:=by omega
   subst this;go_wp2;go_ret;exact⟨rfl,hb⟩
theorem aKP(v v':Value)(l:List jH)(w:World)(hbig:l.length<=9223372036854775807)(h:kY w 4 v (l.map jH.cells))(h':kY w 4 v' (l.map jH.cells)) :
  Calls Tryz.prog 40 #[v,v'] w fun e w'=>e=.returned (.bool true)/\Below w.heap.size w w':=by
 have x:=aKN v v' l w hbig h h';clear h h';go_enter Tryz.func40,Tryz.ntmps40;go_wp2_with(go_at_call 80;(with_reducible refine x.mono ?_));rintro r w1 ⟨rfl,b1⟩;go_wp2;go_ret;exact⟨rfl,b1⟩
theorem yF.at{B:Nat}:∀{xs:List B7}{cs:List Value}{w:World},yF B xs cs w->∀(i:Nat)(x:B7),xs[i]?=some x ->
  ∃hv gv lv,kS B hv gv lv x.heads x.graces x.lyr w/\∀(j:Nat)(u:Value),(x.cells hv gv lv)[j]?=some u->cs[i*13+j]?=some u
 | [],_,_,_,i,x,h=>by simp at h
 |y::ys,_,_,⟨hv,gv,lv,cs',e,r,t⟩,0,x,h=>by
  simp only[List.getElem?_cons_zero,qv]at h;subst h e;refine⟨hv,gv,lv,r,fun j u hu => ?_⟩;have hj:j<(y.cells hv gv lv).toList.length:=by
   have:=(qe.1 hu).1;simpa using this
  rw[Nat.zero_mul,Nat.zero_add,List.getElem?_append_left hj];simpa using hu
 |y::ys,_,_,⟨hv,gv,lv,cs',e,r,t⟩,i+1,x,h=>by
  obtain⟨hv',gv',lv',r',hc⟩:=t.at i x (by simpa using h);refine⟨hv',gv',lv',r',fun j u hu => ?_⟩;subst e;have hl:(y.cells hv gv lv).toList.length=13:=rfl;rw[List.getElem?_append_right (by rw[hl];omega),hl,show(i+1)*13+j-13=i*13+j by omega];exact hc j u hu
theorem aKQ{B B':Nat}{ev tv ev' tv':Value}{cs cs':List Value}{v:fG}{w:World}(hbig:v.evs.length<=9223372036854775807)(hlen:∀x∈v.evs,x.heads.length<=9223372036854775807/\x.graces.length<=9223372036854775807/\x.lyr.length<=9223372036854775807)
  (h:J2 B ev tv cs v w) (h':J2 B' ev' tv' cs' v w):Calls Tryz.prog 39 #[ev,ev',.func (.func 12) #[] #[]] w fun e w'=>e=.returned (.bool true)/\Below w.heap.size w w':=by
 obtain⟨ao,c,rfl⟩:=aL h.oe;obtain⟨ao',c',rfl⟩:=aL h'.oe;go_enter Tryz.func39,Tryz.ntmps39;go_wp2
 go_loopg [17] v.evs.length (fun g s17 wr=>∃k:Nat,k<=v.evs.length/\g=v.evs.length-k/\s17=Z (k:Nat)/\Below w.heap.size w wr)
 case atStart=>exact⟨0,ql _,rfl,rfl,qb _ _⟩
 case round =>
  obtain⟨k,hk,hg,rfl,hb⟩:=hrel;by_cases hlt:k<v.evs.length
  ·have hlt':(k:Int)<(v.evs.length:Int):=by omega
   have hk0:(0:Int)<=(k:Int):=by omega
   have m1:IntKind.i64.wrap ((k:Int)+1)=(k:Int)+1:=IntWalk.i64_in _ (by omega);obtain⟨x,hx⟩:∃x,v.evs[k]?=some x:=⟨_,qr hlt⟩;obtain⟨l1,l2,l3⟩:=hlen x (List.mem_of_getElem? hx);have R:=h.step hb;have R':=h'.step hb;obtain⟨hv,gv,lv,rows,hcc⟩:=R.es.at k x hx;obtain⟨hv',gv',lv',rows',hcc'⟩:=R'.es.at k x hx;obtain⟨ha,hc,rfl⟩:=aL rows.oh;obtain⟨ga,gc,rfl⟩:=aL rows.og;obtain⟨la,lc,rfl⟩:=aL rows.ol;obtain⟨ha',hc',rfl⟩:=aL rows'.oh;obtain⟨ga',gc',rfl⟩:=aL rows'.og;obtain⟨la',lc',rfl⟩:=aL rows'.ol;obtain⟨g,rfl⟩:∃g,ao=some ⟨g,0,none⟩:=by
    rcases R.oe.2 with⟨_,h0⟩ |⟨g,cap,cur,e1,_⟩
    ·omega
    ·injection e1 with e1 _ _;exact⟨g,e1⟩
   obtain⟨g',rfl⟩:∃g,ao'=some ⟨g,0,none⟩:=by
    rcases R'.oe.2 with⟨_,h0⟩ |⟨g,cap,cur,e1,_⟩
    ·omega
    ·injection e1 with e1 _ _;exact⟨g,e1⟩
   obtain⟨i0,i1,kd,lg,dt,hs,gs,ar,orn,dy,ys,sm,be⟩:=x;simp only at l1 l2 l3 hcc hcc' rows rows';have x0:wr.cell? ⟨g,k*13,none⟩=some (Z i0):=(cE R.oe (i:=k*13) (hcc 0 _ rfl)).1;have x1:wr.cell? ⟨g,k*13+1,none⟩=some (Z i1):=(cE R.oe (i:=k*13+1) (hcc 1 _ rfl)).1;have x2:wr.cell? ⟨g,k*13+2,none⟩=some (Z kd):=(cE R.oe (i:=k*13+2) (hcc 2 _ rfl)).1;have x3:wr.cell? ⟨g,k*13+3,none⟩=some (Z lg):=(cE R.oe (i:=k*13+3) (hcc 3 _ rfl)).1;have x4:wr.cell? ⟨g,k*13+4,none⟩=some (Z dt):=(cE R.oe (i:=k*13+4) (hcc 4 _ rfl)).1;have x5:wr.cell? ⟨g,k*13+5,none⟩=some (.slice ha hs.length hc):=(cE R.oe (i:=k*13+5) (hcc 5 _ rfl)).1;have x6:wr.cell? ⟨g,k*13+6,none⟩=some (.slice ga gs.length gc):=(cE R.oe (i:=k*13+6) (hcc 6 _ rfl)).1;have x7:wr.cell? ⟨g,k*13+7,none⟩=some (Z ar):=(cE R.oe (i:=k*13+7) (hcc 7 _ rfl)).1;have x8:wr.cell? ⟨g,k*13+8,none⟩=some (Z orn):=(cE R.oe (i:=k*13+8) (hcc 8 _ rfl)).1;have x9:wr.cell? ⟨g,k*13+9,none⟩=some (Z dy):=(cE R.oe (i:=k*13+9) (hcc 9 _ rfl)).1;have x10:wr.cell? ⟨g,k*13+10,none⟩=some (.slice la ys.length lc):=(cE R.oe (i:=k*13+10) (hcc 10 _ rfl)).1;have x11:wr.cell? ⟨g,k*13+11,none⟩=some (Z sm):=(cE R.oe (i:=k*13+11) (hcc 11 _ rfl)).1;have x12:wr.cell? ⟨g,k*13+12,none⟩=some (Z be):=(cE R.oe (i:=k*13+12) (hcc 12 _ rfl)).1;have b1a:=(qb wr.heap.size wr).alloc (qa _) (.cells #[Z i0,Z i1,Z kd,Z lg,Z dt,.slice ha hs.length hc,.slice ga gs.length gc,Z ar,Z orn,Z dy,.slice la ys.length lc,Z sm,Z be] 31);have lg':g'<wr.heap.size:=(R'.oe.lt g' rfl).2;have y0:(wr.alloc (.cells #[Z i0,Z i1,Z kd,Z lg,Z dt,.slice ha hs.length hc,.slice ga gs.length gc,Z ar,Z orn,Z dy,.slice la ys.length lc,Z sm,Z be] 31)).cell? ⟨g',k*13,none⟩=some (Z i0):=(b1a.cell lg').trans ((cE R'.oe (i:=k*13) (hcc' 0 _ rfl)).1);have y1:(wr.alloc (.cells #[Z i0,Z i1,Z kd,Z lg,Z dt,.slice ha hs.length hc,.slice ga gs.length gc,Z ar,Z orn,Z dy,.slice la ys.length lc,Z sm,Z be] 31)).cell? ⟨g',k*13+1,none⟩=some (Z i1):=(b1a.cell lg').trans ((cE R'.oe (i:=k*13+1) (hcc' 1 _ rfl)).1);have y2:(wr.alloc (.cells #[Z i0,Z i1,Z kd,Z lg,Z dt,.slice ha hs.length hc,.slice ga gs.length gc,Z ar,Z orn,Z dy,.slice la ys.length lc,Z sm,Z be] 31)).cell? ⟨g',k*13+2,none⟩=some (Z kd):=(b1a.cell lg').trans ((cE R'.oe (i:=k*13+2) (hcc' 2 _ rfl)).1);have y3:(wr.alloc (.cells #[Z i0,Z i1,Z kd,Z lg,Z dt,.slice ha hs.length hc,.slice ga gs.length gc,Z ar,Z orn,Z dy,.slice la ys.length lc,Z sm,Z be] 31)).cell? ⟨g',k*13+3,none⟩=some (Z lg):=(b1a.cell lg').trans ((cE R'.oe (i:=k*13+3) (hcc' 3 _ rfl)).1);have y4:(wr.alloc (.cells #[Z i0,Z i1,Z kd,Z lg,Z dt,.slice ha hs.length hc,.slice ga gs.length gc,Z ar,Z orn,Z dy,.slice la ys.length lc,Z sm,Z be] 31)).cell? ⟨g',k*13+4,none⟩=some (Z dt):=(b1a.cell lg').trans ((cE R'.oe (i:=k*13+4) (hcc' 4 _ rfl)).1);have y5:(wr.alloc (.cells #[Z i0,Z i1,Z kd,Z lg,Z dt,.slice ha hs.length hc,.slice ga gs.length gc,Z ar,Z orn,Z dy,.slice la ys.length lc,Z sm,Z be] 31)).cell? ⟨g',k*13+5,none⟩=some (.slice ha' hs.length hc'):=(b1a.cell lg').trans ((cE R'.oe (i:=k*13+5) (hcc' 5 _ rfl)).1);have y6:(wr.alloc (.cells #[Z i0,Z i1,Z kd,Z lg,Z dt,.slice ha hs.length hc,.slice ga gs.length gc,Z ar,Z orn,Z dy,.slice la ys.length lc,Z sm,Z be] 31)).cell? ⟨g',k*13+6,none⟩=some (.slice ga' gs.length gc'):=(b1a.cell lg').trans ((cE R'.oe (i:=k*13+6) (hcc' 6 _ rfl)).1);have y7:(wr.alloc (.cells #[Z i0,Z i1,Z kd,Z lg,Z dt,.slice ha hs.length hc,.slice ga gs.length gc,Z ar,Z orn,Z dy,.slice la ys.length lc,Z sm,Z be] 31)).cell? ⟨g',k*13+7,none⟩=some (Z ar):=(b1a.cell lg').trans ((cE R'.oe (i:=k*13+7) (hcc' 7 _ rfl)).1);have y8:(wr.alloc (.cells #[Z i0,Z i1,Z kd,Z lg,Z dt,.slice ha hs.length hc,.slice ga gs.length gc,Z ar,Z orn,Z dy,.slice la ys.length lc,Z sm,Z be] 31)).cell? ⟨g',k*13+8,none⟩=some (Z orn):=(b1a.cell lg').trans ((cE R'.oe (i:=k*13+8) (hcc' 8 _ rfl)).1);have y9:(wr.alloc (.cells #[Z i0,Z i1,Z kd,Z lg,Z dt,.slice ha hs.length hc,.slice ga gs.length gc,Z ar,Z orn,Z dy,.slice la ys.length lc,Z sm,Z be] 31)).cell? ⟨g',k*13+9,none⟩=some (Z dy):=(b1a.cell lg').trans ((cE R'.oe (i:=k*13+9) (hcc' 9 _ rfl)).1);have y10:(wr.alloc (.cells #[Z i0,Z i1,Z kd,Z lg,Z dt,.slice ha hs.length hc,.slice ga gs.length gc,Z ar,Z orn,Z dy,.slice la ys.length lc,Z sm,Z be] 31)).cell? ⟨g',k*13+10,none⟩=some (.slice la' ys.length lc'):=(b1a.cell lg').trans ((cE R'.oe (i:=k*13+10) (hcc' 10 _ rfl)).1);have y11:(wr.alloc (.cells #[Z i0,Z i1,Z kd,Z lg,Z dt,.slice ha hs.length hc,.slice ga gs.length gc,Z ar,Z orn,Z dy,.slice la ys.length lc,Z sm,Z be] 31)).cell? ⟨g',k*13+11,none⟩=some (Z sm):=(b1a.cell lg').trans ((cE R'.oe (i:=k*13+11) (hcc' 11 _ rfl)).1);have y12:(wr.alloc (.cells #[Z i0,Z i1,Z kd,Z lg,Z dt,.slice ha hs.length hc,.slice ga gs.length gc,Z ar,Z orn,Z dy,.slice la ys.length lc,Z sm,Z be] 31)).cell? ⟨g',k*13+12,none⟩=some (Z be):=(b1a.cell lg').trans ((cE R'.oe (i:=k*13+12) (hcc' 12 _ rfl)).1);have EL:=kS.els (x:=⟨i0,i1,kd,lg,dt,hs,gs,ar,orn,dy,ys,sm,be⟩) rows;have EL':=kS.els (x:=⟨i0,i1,kd,lg,dt,hs,gs,ar,orn,dy,ys,sm,be⟩) rows';clear R R' rows rows' hcc hcc';have ba:=((qb wr.heap.size wr).alloc (qa _) (.cells #[Z i0,Z i1,Z kd,Z lg,Z dt,.slice ha hs.length hc,.slice ga gs.length gc,Z ar,Z orn,Z dy,.slice la ys.length lc,Z sm,Z be] 31)).alloc (by simp) (.cells #[Z i0,Z i1,Z kd,Z lg,Z dt,.slice ha' hs.length hc',.slice ga' gs.length gc',Z ar,Z orn,Z dy,.slice la' ys.length lc',Z sm,Z be] 31);have E1:=EL.step ba;have E2:=EL'.step ba;have xq:=T8 ⟨i0,i1,kd,lg,dt,hs,gs,ar,orn,dy,ys,sm,be⟩ ha ga la ha' ga' la' hc gc lc hc' gc' lc' _ l1 l2 l3 E1.h E1.g E1.l E2.h E2.g E2.l;simp only[B7.cells]at xq;clear EL EL' E1 E2;go_wp2_with(go_at_call 12;(with_reducible refine xq.mono ?_));rintro r w2 ⟨rfl,b2⟩;go_wp2;go_roundg (v.evs.length-(k+1));case measure=>omega
   case rel=>exact⟨k+1,by omega,rfl,by simp,hb.trans ((ba.trans (b2.mono ba.size)).mono hb.size)⟩
  ·have:k=v.evs.length:=by omega
   subst this;go_wp2;go_ret;exact⟨rfl,hb⟩
theorem J2.tups{B:Nat}{ev tv:Value}{cs:List Value}{v:fG}{w:World}(h:J2 B ev tv cs v w):kY w 4 tv (v.tups.map jH.cells) :=
 kY.of_own (T:=100) (by rw[qqc];exact h.ot) rfl fun r hr=>by
  obtain⟨y,_,rfl⟩:=List.mem_map.1 hr;exact⟨rfl,by simp[jH.cells,Value.oneCell']⟩
theorem T9{B B':Nat}{a1 a2 a1' a2':Option Addr}{c1 c2 c1' c2':Nat}{cs cs':List Value}{v:fG}{w:World}(hbig:v.evs.length<=9223372036854775807)(ht:v.tups.length<=9223372036854775807)
  (hlen:∀x∈v.evs,x.heads.length<=9223372036854775807/\x.graces.length<=9223372036854775807/\x.lyr.length<=9223372036854775807)
  (h:J2 B (.slice a1 v.evs.length c1) (.slice a2 v.tups.length c2) cs v w) (h':J2 B' (.slice a1' v.evs.length c1') (.slice a2' v.tups.length c2') cs' v w) :
  Calls Tryz.prog 15 #[.agg #[.slice a1 v.evs.length c1,.slice a2 v.tups.length c2],.agg #[.slice a1' v.evs.length c1',.slice a2' v.tups.length c2']] w fun e w'=>e=.returned (.bool true)/\Below w.heap.size w w':=by
 have ba:=((qb w.heap.size w).alloc (qa _) (.cells #[.slice a1 v.evs.length c1,.slice a2 v.tups.length c2] 48)).alloc (by simp) (.cells #[.slice a1' v.evs.length c1',.slice a2' v.tups.length c2'] 48);have x1:=aKQ hbig hlen (h.step ba) (h'.step ba);have x2:=fun w2 (b:Below w.heap.size w w2)=>aKP _ _ _ w2 ht (h.step b).tups (h'.step b).tups;have hA0:=qd w (.cells #[.slice a1 v.evs.length c1,.slice a2 v.tups.length c2] 48);have hA:=(((qb (w.alloc (.cells #[.slice a1 v.evs.length c1,.slice a2 v.tups.length c2] 48)).heap.size (w.alloc (.cells #[.slice a1 v.evs.length c1,.slice a2 v.tups.length c2] 48))).alloc (qa _) (.cells #[.slice a1' v.evs.length c1',.slice a2' v.tups.length c2'] 48)).block _ (aA hA0)).trans hA0;have hB:=qd (w.alloc (.cells #[.slice a1 v.evs.length c1,.slice a2 v.tups.length c2] 48)) (.cells #[.slice a1' v.evs.length c1',.slice a2' v.tups.length c2'] 48);rw[show(w.alloc (.cells #[.slice a1 v.evs.length c1,.slice a2 v.tups.length c2] 48)).heap.size=w.heap.size+1 by simp]at hB;clear h h' hA0;go_enter Tryz.func15,Tryz.ntmps15;go_wp2_with(go_at_call 39;(with_reducible refine x1.mono ?_));rintro r w1 ⟨rfl,b1⟩;have bb:=ba.trans (b1.mono ba.size);have x21:=x2 _ bb;have hA1:=(b1.block _ (aA hA)).trans hA;have hB1:=(b1.block _ (aA hB)).trans hB;have HB:=aJ bb;clear x1 x2 ba b1 bb hA hB;obtain⟨q0,q1,f0,f1⟩:=bL hA1;obtain⟨q2,q3,f2,f3⟩:=bL hB1;go_wp2_with(go_at_call 40;(with_reducible refine x21.mono ?_));rintro r w2 ⟨rfl,b2⟩;go_wp2;go_ret;exact⟨rfl,HB.out.trans (b2.mono HB.out.size)⟩
end Go.Proofs.YtgkhemnmcgicnaaGreatDoor
