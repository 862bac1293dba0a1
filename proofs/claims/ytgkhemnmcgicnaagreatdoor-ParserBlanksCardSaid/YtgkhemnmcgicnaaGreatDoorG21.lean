/- Towards the law ParserBlanks, true for every text and all blanks (no condition): one part of the proof. -/
import Derived.Test.YtgkhemnmcgicnaaGreatDoorG20
import Derived.Test.YtgkhemnmcgicnaaGreatDoorG01
import Derived.Deep.LoopGhost
import Derived.Deep.RegionHeld3
import Derived.Deep.RegionHeld
namespace Go.Proofs.YtgkhemnmcgicnaaGreatDoor
open Go.RowKit
section
variable{T:List aX}{X:Nat}{free:Bool}{lv iv:Value}{st:aD}{w:World}
end
section
variable{T:List aX}{X:Nat}{free:Bool}{lv iv:Value}{st:aD}{w:World}
end
section
variable(a0 a2 a4 a5:Int)(a1 a3:ByteArray)(a6:Bool)(w:World)
theorem BH:(Instr.field 59 (.agg #[Z a0,.string a1,Z a2,.string a3,Z a4,Z a5,.bool a6]) 0).run Tryz.prog w=.ok (Z a0) w:=by
 simp[Instr.field,qqg Tryz.underlying59,Result.andThen,asAgg,part,isAgg,qqg Tryz.underlying3]
theorem XG:(Instr.field 59 (.agg #[Z a0,.string a1,Z a2,.string a3,Z a4,Z a5,.bool a6]) 1).run Tryz.prog w=.ok (.string a1) w:=by
 simp[Instr.field,qqg Tryz.underlying59,Result.andThen,asAgg,part,isAgg,qqg Tryz.underlying9]
theorem aKR:(Instr.field 59 (.agg #[Z a0,.string a1,Z a2,.string a3,Z a4,Z a5,.bool a6]) 6).run Tryz.prog w=.ok (.bool a6) w:=by
 simp[Instr.field,qqg Tryz.underlying59,Result.andThen,asAgg,part,isAgg,qqg Tryz.underlying4]
end
section
variable{T:List aX}{X:Nat}{free:Bool}{lv iv:Value}{st:aD}{w:World}
end
section
variable{T:List aX}{free:Bool}{st st0:aD}{w w0 w':World}
theorem PS.else{free:Fr}{Y M R:Nat}(h:PS T Y M free st w)(h0:PS T Y M free st0 w0)(hR:w0.heap.size<=R){cs:Array Value}{t:TypeId}(hk:w.heap[R]?=some (.cells cs t (0,0)))(ht:t≠59)
  (ho:∀j,j≠R->w'.heap[j]?=w.heap[j]?):PS T Y M free st w':=by
 have l1:=h0.lt;have l2:=h0.ltM;obtain⟨g,tv,pos,line,col,e,ls,ln,es,clk,h1,h2,h3⟩:=h;refine⟨g,tv,pos,line,col,e,ls,ln,es,clk,⟨(ho Y (by omega)).trans h1.blk,(ho M (by omega)).trans h1.map,fun he=>aB (h1.row he) fun k hkk=>ho k ?_⟩,h2,h3⟩;rintro rfl;exact kE (h1.row he) hk (by intro cs' fr' hc;injection hc with _ h2 _;exact ht h2) hkk
end
theorem bL{w:World}{R:Nat}{a b:Value}{t:TypeId}(h:w.heap[R]?=some (.cells #[a,b] t (0,0))) :
  w.cell? ⟨R,0,none⟩=some a/\w.cell? ⟨R,1,none⟩=some b/\w.frozen? ⟨R,0,none⟩=false/\w.frozen? ⟨R,1,none⟩=false:=by
 refine⟨?_,?_,Lib.frozen_of_heap h 0,Lib.frozen_of_heap h 1⟩<;>(rw[Lib.cell_of_heap h];rfl)
theorem aC.at{bs:List Nat}{w w':World}(h:aC bs w w'){k:Nat}{o:Obj}(hk:w.heap[k]?=some o)(hb:k∉bs):w'.heap[k]?=some o:=(h.block k (qe.1 hk).1 hb).trans hk
theorem aA{w:World}{k:Nat}{o:Obj}(hk:w.heap[k]?=some o):k<w.heap.size:=(qe.1 hk).1
def g8(w:World)(R:Nat)(a b:Value):World:=(w.setCell ⟨R,0,none⟩ a).setCell ⟨R,1,none⟩ b
theorem fE(w:World)(R:Nat)(a b:Value)(k:Nat)(hk:k≠R):(g8 w R a b).heap[k]?=w.heap[k]?:=by
 unfold g8;rw[qh _ ⟨R,1,none⟩ _ k hk,qh _ ⟨R,0,none⟩ _ k hk]
theorem fN{w:World}{R:Nat}{a b c d:Value}{t:TypeId}(h:w.heap[R]?=some (.cells #[c,d] t (0,0))):(g8 w R a b).heap[R]?=some (.cells #[a,b] t (0,0)):=by
 unfold g8;rw[Lib.heap_setCell_same (Lib.heap_setCell_same h a) b];rfl
theorem iE{bs:List Nat}{a w:World}{R:Nat}(h:aC bs a w)(hR:a.heap.size<=R)(u v:Value):aC bs a (g8 w R u v) :=
 (h.setCell (p:=⟨R,0,none⟩) (.inr hR) u).setCell (p:=⟨R,1,none⟩) (.inr hR) v
set_option maxHeartbeats 8000000
set_option maxRecDepth 100000
theorem Tryz.sizeId:(Tryz.prog.info? 24).map (·.size)=some 2:=by kernel_rfl
section
variable{T:List aX}{Y M:Nat}{free:Fr}{st:aD}{w:World}
theorem MB(h:PS T Y M free st w):Calls Tryz.prog 92 #[.pointer (some ⟨Y,0,none⟩)] w fun r w'=>r=.returned (.agg #[Z (bG T st).1.1,Z (bG T st).1.2])/\PS T Y M free (bG T st).2 w'/\aC [Y,M] w w':=by
 have hR:=qd w (.cells #[Z 0,Z 0] 24);have b0:=(qb _ w).alloc (qa _) (.cells #[Z 0,Z 0] 24);have hw1:bG T st=(((bD T 0 99 (bY T ⟨#[64]⟩ st)).1,(bD T 1 1073741824 (bY T ⟨#[46]⟩ (bD T 0 99 (bY T ⟨#[64]⟩ st)).2)).1),(bD T 1 1073741824 (bY T ⟨#[46]⟩ (bD T 0 99 (bY T ⟨#[64]⟩ st)).2)).2):=rfl;rw[hw1];clear hw1;have c1:=fun w' (h:PS T Y M free st w')=>iX h ⟨#[64]⟩;generalize bY T ⟨#[64]⟩ st=s1 at c1⊢;have c2:=fun w' (h:PS T Y M free s1 w')=>jJ h 0 99;generalize bD T 0 99 s1=q2 at c2⊢;obtain⟨n2,s2⟩:=q2;simp only at c2⊢;have c3:=fun w' (h:PS T Y M free s2 w')=>iX h ⟨#[46]⟩;generalize bY T ⟨#[46]⟩ s2=s3 at c3⊢;have c4:=fun w' (h:PS T Y M free s3 w')=>jJ h 1 1073741824;generalize bD T 1 1073741824 s3=q4 at c4⊢;obtain⟨n4,s4⟩:=q4;simp only at c4⊢;have hx1:=c1 _ (h.step b0);go_enter Tryz.func92,Tryz.ntmps92;go_wp2_with(go_at_call 54;refine hx1.mono ?_);intro r w1;first |(intro he hS1 a1;subst he)|rintro⟨rfl,hS1,a1⟩
 have a01:=(aC.of_below b0).trans a1;have hRl:=aA hR;have hR1:=a1.at hR (by have:=h.lt;have:=h.ltM;simp;omega);clear hx1;have hx2:=c2 _ hS1;go_wp2_with(go_at_call 114;refine hx2.mono ?_);intro r w2;first |(intro he hS2 a2;subst he)|rintro⟨rfl,hS2,a2⟩
 have hR2:=a2.at hR1 (by have:=h.lt;have:=h.ltM;simp;omega);have b2:=(qb _ w2).alloc (qa _) (.cells #[Z n2,Z 0] 24);have hQ:=qd w2 (.cells #[Z n2,Z 0] 24);have hx3:=c3 _ (hS2.step b2);clear hx2;go_wp2_with(go_at_call 54;refine hx3.mono ?_);intro r w3;first |(intro he hS3 a3;subst he)|rintro⟨rfl,hS3,a3⟩
 have hsz1:=a01.size;have hsz2:=a2.size;have hR3:=a3.at ((b2.block _ (aA hR2)).trans hR2) (by have:=h.lt;have:=h.ltM;simp;omega);have hQ3:=a3.at hQ (by have:=h.lt;have:=h.ltM;simp;omega);have hx4:=c4 _ hS3;clear hx3;go_wp2_with(go_at_call 114;refine hx4.mono ?_);intro r w4;first |(intro he hS4 a4;subst he)|rintro⟨rfl,hS4,a4⟩
 have hR4:=a4.at hR3 (by have:=h.lt;have:=h.ltM;simp;omega);have hQ4:=a4.at hQ3 (by have:=h.lt;have:=h.ltM;simp;omega);have a04:=((((a01.trans a2).trans (aC.of_below b2)).trans a3).trans a4);generalize hQQ:w2.heap.size=Q at hQ hQ3 hQ4⊢;have hsz0:=a1.size;generalize hRR:w.heap.size=R at hR hR1 hR2 hR3 hR4 hRl⊢;have hQR:Q≠R:=by omega
 obtain⟨q0,q1,qf0,qf1⟩:=bL hQ4;obtain⟨r0,r1,rf0,rf1⟩:=bL hR4;have e5:∀j,j≠Q->(w4.setCell ⟨Q,1,none⟩ (Z n4)).heap[j]?=w4.heap[j]?:=fun j hj=>qh _ _ _ _ hj;have hR5:=(e5 R hQR.symm).trans hR4;have hQ5:(w4.setCell ⟨Q,1,none⟩ (Z n4)).heap[Q]?=_:=Lib.heap_setCell_same hQ4 _;have hS5:=hS4.else h (qx (by omega:w.heap.size<=Q) (qa _)) hQ4 (by decide) e5;have hS6:=hS5.else h (qj hRR) hR5 (by decide) (fun j hj=>fE _ R (Z n2) (Z n4) j hj);have hR6:=fN (a:=Z n2) (b:=Z n4) hR5;have a6:=iE (a04.setCell (p:=⟨Q,1,none⟩) (.inr (by show w.heap.size<=Q;omega)) (Z n4)) (qj hRR) (Z n2) (Z n4);clear c1 c2 c3 c4 hS1 hS2 hS3 hS4 hS5 hx4 h hR hR1 hR2 hR3 hR4 hQ hQ3 hQ4 e5;unfold g8 at hS6 hR6 a6;go_wp2;refine qg (qp rfl _ _ R 24 _ (0,0) _ rfl hR6 Tryz.underlying24 rfl Tryz.sizeId) rfl ?_;exact⟨rfl,hS6,a6⟩
end
section
variable{T:List aX}{X:Nat}{free:Bool}{lv iv:Value}{st:aD}{w:World}
end
def NR(t:aX):Bool:=decide (t.kind=1) && (decide (65<=CZ t.text) && decide (CZ t.text<=71))
theorem RJ(T:List aX)(st:aD):fV T st=NR (aZ T st):=rfl
theorem UE{x:ByteArray}(h:0<x.size):CZ x=x[0].toNat:=by
 unfold CZ;have e:=qC (s:=x) 0 h;have e2:x.data.toList.head?=some x[0]:=by rw[List.head?_eq_getElem?];exact e
 rw[List.headD_eq_head?_getD,e2];rfl
theorem kU.word{T:List aX}(h:kU T)(st:aD)(hk:(aZ T st).kind=1):0<(aZ T st).text.size:=by
 cases st with
 |ok p =>
  rcases Nat.lt_or_ge (p+1) T.length with h1|h1
  ·exact(h.ok p h1).word hk
  ·rcases Nat.lt_or_ge p T.length with h2|h2
   ·have e:p=T.length-1:=by omega
    have:=h.last.1;rw[<-e]at this;rw[show(T.getD p cH).kind=1 from hk]at this;cases this
   ·have e:T.getD p cH=cH:=by rw[qqf,List.getElem?_eq_none h2];rfl
    rw[show(aZ T (.ok p)).kind=(T.getD p cH).kind from rfl,e]at hk;cases hk
 |bad e l c=>cases hk
section
variable{w:World}
theorem UF {Y : Nat} (t : aX) (hp : Calls Tryz.prog 62 #[.pointer (some ⟨Y, 0, none⟩)] w fun r w' => r = .returned (uL t) /\ Below w.heap.size w w') (hw : t.kind = 1 -> 0 < t.text.size) {b : Bool} (hb : NR t = b) :
  Calls Tryz.prog 116 #[.pointer (some ⟨Y,0,none⟩)] w fun r w'=>r=.returned (.bool b)/\Below w.heap.size w w':=by
 obtain⟨kd,text,v,bt,lin,cl,j⟩:=t;simp only[NR,uL]at hb hp hw;by_cases h1:kd=1
 ·subst h1;have hsz:=hw rfl;rw[UE hsz]at hb;have hs0:(0:Int)<(text.size:Int):=by omega
  obtain⟨m,hm⟩:∃m:Int,m=((text[0].toNat:Nat):Int):=⟨_,rfl⟩;have hq:((text[0].toNat:Nat):Int)=m:=hm.symm;by_cases h5:65<=text[0].toNat
  ·have g5:(65:Int)<=m:=by omega
   by_cases h7:text[0].toNat<=71
   ·have g7:m<=71:=by omega
    have hbt:b=true:=by rw[<-hb];simp[h5,h7]
    clear hb hm hw h5 h7;subst hbt;go_enter Tryz.func116,Tryz.ntmps116;go_wp2_with(go_at_call 62;refine hp.mono ?_);intro r w1;first |(intro he b1;subst he)|rintro⟨rfl,b1⟩
    go_wp2;go_ret;exact⟨by first|rfl|simp,b1.alloc b1.size _⟩
   ·have g7:¬m<=71:=by omega
    have hbt:b=false:=by rw[<-hb];simp[h7]
    clear hb hm hw h5 h7;subst hbt;go_enter Tryz.func116,Tryz.ntmps116;go_wp2_with(go_at_call 62;refine hp.mono ?_);intro r w1;first |(intro he b1;subst he)|rintro⟨rfl,b1⟩
    go_wp2;go_ret;exact⟨by first|rfl|simp[g7],b1.alloc b1.size _⟩
  ·have g5:¬(65:Int)<=m:=by omega
   have hbt:b=false:=by rw[<-hb];simp[h5]
   clear hb hm hw h5;subst hbt;go_enter Tryz.func116,Tryz.ntmps116;go_wp2_with(go_at_call 62;refine hp.mono ?_);intro r w1;first |(intro he b1;subst he)|rintro⟨rfl,b1⟩
   go_wp2;go_ret;exact⟨by first|rfl|simp,b1.alloc b1.size _⟩
 ·have hbt:b=false:=by rw[<-hb];simp[h1]
  clear hb hw;subst hbt;go_enter Tryz.func116,Tryz.ntmps116;go_wp2_with(go_at_call 62;refine hp.mono ?_);intro r w1;first |(intro he b1;subst he)|rintro⟨rfl,b1⟩
  go_wp2;go_ret;exact⟨by first|rfl|simp,b1.alloc b1.size _⟩
theorem LP{T:List aX}{Y M:Nat}{free:Fr}{st:aD}(h:PS T Y M free st w):Calls Tryz.prog 116 #[.pointer (some ⟨Y,0,none⟩)] w fun r w'=>r=.returned (.bool (fV T st))/\Below w.heap.size w w' :=
 UF _ (nX h) (fun hk=>h.good.word st hk) rfl
section
variable{T:List aX}{X:Nat}{free:Bool}{lv iv:Value}{st:aD}
end
end
set_option maxHeartbeats 16000000
theorem aJ{p:Prop}(h:p):Shut p:=h
section
variable{Y M:Nat}{tv:Value}{toks:List aX}{pos:Nat}{line col e:Int}{free:Bool}{ls ln:Int}{es:Array MapEntry}{clk:Nat}{w:World}{t:aX}{K:Nat}
def gF(K:Nat)(sy:List ByteArray)(w:World):Prop:=w.heap[K]?=some (.cells (sy.map Value.string).toArray 9 (0,0))
theorem gF.cell{sy:List ByteArray}(h:gF K sy w){i:Nat}(hi:i<sy.length):w.cell? ⟨K,i,none⟩=some (.string sy[i]):=by
 rw[Lib.cell_of_heap h];simp[hi]
theorem gF.step{sy:List ByteArray}{w':World}(h:gF K sy w)(b:Below w.heap.size w w'):gF K sy w':=(b.block K (qe.1 h).1).trans h
theorem TA(sy:List ByteArray)(x:ByteArray)(hn:sy.length<=8)(h:gF K sy w) :
  Calls Tryz.prog 207 #[.slice (some ⟨K,0,none⟩) sy.length sy.length,.string x] w fun r w'=>(∃i:Int,r=.returned (Z i)/\((0<=i/\x∈sy)\/(i<0/\x∉sy)))/\w'=w:=by
 go_enter Tryz.func207,Tryz.ntmps207;go_wp2
 go_loopg [8] sy.length (fun g v wr=>∃k:Nat,k<=sy.length/\g=sy.length-k/\v=Z (k:Nat)/\wr=w/\x∉sy.take k)
 case atStart=>exact⟨0,ql _,rfl,rfl,rfl,by simp⟩
 case round =>
  obtain⟨k,hk,hg,rfl,rfl,hno⟩:=hrel;by_cases hlt:k<sy.length
  ·have hlt':(k:Int)<(sy.length:Int):=by omega
   have hk0:(0:Int)<=(k:Int):=by omega
   have c0:=h.cell hlt;have m1:IntKind.i64.wrap ((k:Int)+1)=(k:Int)+1:=IntWalk.i64_in _ (by omega);have hmem:sy[k]∈sy:=List.getElem_mem hlt;have htk:sy.take (k+1)=sy.take k++[sy[k]]:=List.take_succ_eq_append_getElem hlt;generalize sy[k]=y at *;by_cases hx:x=y
   ·subst hx;clear hno htk h;go_wp2;go_ret;exact⟨⟨k,rfl,.inl ⟨by omega,hmem⟩⟩,rfl⟩
   ·have hx':=qK hx;have hbe:(x.toList==y.toList)=false:=by simpa using hx'
    clear hmem h;go_wp2;go_roundg (sy.length-(k+1));case measure=>omega
    case rel=>exact⟨k+1,by omega,rfl,by simp,rfl,by rw[htk];simp[hno,hx]⟩
  ·have:k=sy.length:=by omega
   subst this;rw[List.take_length]at hno;clear h;go_wp2;go_ret;exact⟨⟨-1,rfl,.inr ⟨by omega,hno⟩⟩,rfl⟩
theorem aBC{x:ByteArray}{sy:List ByteArray}(h:x∈sy):UT x sy=true:=List.any_eq_true.2 ⟨x,h,by simp⟩
theorem aFA{x:ByteArray}{sy:List ByteArray}(h:x∉sy):UT x sy=false:=by
 cases hb:UT x sy with
 |false=>rfl
 |true =>
  obtain⟨y,hy,he⟩:=List.any_eq_true.1 hb;exact absurd (of_decide_eq_true he▸hy) h
theorem J6(sy:List ByteArray)(x:ByteArray)(hn:sy.length<=8)(h:gF K sy w) :
  Calls Tryz.prog 178 #[.slice (some ⟨K,0,none⟩) sy.length sy.length,.string x] w fun r w'=>r=.returned (.bool (UT x sy))/\w'=w:=by
 have hf:=TA sy x hn h;clear h;go_enter Tryz.func178,Tryz.ntmps178;go_wp2_with(go_at_call 207;refine hf.mono ?_);rintro r w1 ⟨⟨i,rfl,hi⟩,rfl⟩;rcases hi with⟨h0,hm⟩ |⟨h0,hm⟩
 ·go_wp2;go_ret;exact⟨by simp[aBC hm],rfl⟩
 ·have h0':¬(0:Int)<=i:=by omega
  clear h0;go_wp2;go_ret;exact⟨by simp[aFA hm];omega,rfl⟩
theorem FE(s t:ByteArray)(hs:s.size<=20000000)(ht:t.size<=20000000)(w:World):(Op.stringOp .add s t).run Tryz.prog w=.ok (.string (s++t)) w :=
 Go.run_string_add_sum (P:=Tryz.prog) (w:=w) s t (by omega)
theorem kZ.tokAt(h:kZ Y M tv toks pos line col 0 free ls ln es clk w)(i:Nat){t:aX}(ht:toks[i]?=some t) :
  ∃G cap,tv=.slice (some ⟨G,0,none⟩) toks.length cap/\∀j u,t.cells[j]?=some u->w.cell? ⟨G,i*7+j,none⟩=some u:=by
 have hr:=h.row rfl;have hp:i<toks.length:=(qy.1 ht).1;obtain⟨G,cap,rfl,_,_⟩:=hr.form (by omega);refine⟨G,cap,rfl,fun j u hj => ?_⟩;have:=hr.cells (g:=G) rfl (i*7+j) u (xD _ _ _ _ _ ht hj);have hadd:(⟨G,0,none⟩:Addr).add (i*7+j)=⟨G,i*7+j,none⟩:=by unfold Addr.add;split<;>simp_all
 rwa[hadd]at this
theorem YB(l:List aX)(s:ByteArray)(t:aX):wW (l++[t]) s=wW l s++t.text:=by
 induction l generalizing s with
 |nil=>rfl
 |cons a r ih=>simp only[List.cons_append,wW];exact ih _
theorem J7(h:kZ Y M tv toks pos line col 0 free ls ln es clk w){t tn:aX}(ht:toks[pos]?=some t)(hpos:pos<=1000000)(nu:Bool)(sy:List ByteArray)(hsy:sy.length<=8)(hK:gF K sy w)
  (l:List aX) (hl:∀(i:Nat)(x:aX),l[i]?=some x->toks[pos+1+i]?=some x/\Joins nu sy x=true) (hlen:l.length<=5000) (htn:toks[pos+1+l.length]?=some tn) (hno:Joins nu sy tn=false)
  (hsz:∀k,(wW (l.take k) t.text).size<=20000000) :
  Calls Tryz.prog 144 #[.pointer (some ⟨Y,0,none⟩),.bool nu,.slice (some ⟨K,0,none⟩) sy.length sy.length] w fun r w'=>r=.returned (.tuple #[.string (wW l t.text),Z ((l.length:Int)+1)])/\Below w.heap.size w w':=by
 have hp:=uK h ht;have hst:=fun w' (b:Below w.heap.size w w')=>h.step b;have hKs:=fun w' (b:Below w.heap.size w w')=>hK.step b;have hlenT:pos+1+l.length<toks.length:=(qy.1 htn).1;have hfd:=XG t.kind t.value t.line t.col t.text t.bytes t.joined;clear h ht hK;go_enter Tryz.func144,Tryz.ntmps144;go_wp2_with(go_at_call 62;refine hp.mono ?_);intro r w1;first |(intro he b1;subst he)|rintro⟨rfl,b1⟩
 go_wp2
 go_loopg [8,9] (l.length+1) (fun g v u wr=>∃k:Nat,k<=l.length/\g=l.length+1-k/\v=.string (wW (l.take k) t.text)/\u=Z ((k:Int)+1)/\Below w.heap.size w wr)
 case atStart=>exact⟨0,ql _,rfl,rfl,rfl,b1⟩
 case round =>
  obtain⟨k,hk,hg,rfl,rfl,hb⟩:=hrel;have hS:=hst _ hb;have hK1:=hKs _ hb;obtain⟨q,hq⟩:∃q,q=pos+1+k:=⟨_,rfl⟩;obtain⟨x,hx,hj⟩:∃x,toks[q]?=some x/\Joins nu sy x=decide (k<l.length):=by
   by_cases hlt:k<l.length
   ·have h1:=hl k _ (qr hlt);exact⟨l[k],by rw[hq];exact h1.1,by rw[h1.2];simp[hlt]⟩
   ·have:k=l.length:=by omega
    subst this;exact⟨tn,by rw[hq];exact htn,by rw[hno];simp⟩
  have hw:IntKind.i64.wrap ((pos:Int)+((k:Int)+1))=(q:Int):=by rw[hq,IntWalk.i64_in _ (by omega)];omega
  have hw2:IntKind.i64.wrap ((k:Int)+1+1)=(k:Int)+1+1:=IntWalk.i64_in _ (by omega);have hlt:(q:Int)<(toks.length:Int):=by omega
  have hp0:(0:Int)<=(q:Int):=by omega
  obtain⟨G,cap,rfl,hc⟩:=hS.tokAt q hx;have c0:=hS.c0;have c1:=hS.c1;have u0:wr.cell? ⟨G,q*7,none⟩=some (Z x.kind):=hc 0 _ rfl;have u1:=hc 1 _ rfl;have u2:=hc 2 _ rfl;have u3:=hc 3 _ rfl;have u4:=hc 4 _ rfl;have u5:=hc 5 _ rfl;have u6:=hc 6 _ rfl;have n0:=qqd wr _ c0;have n1:=qqd wr _ u0;have l0:=qo wr _ c0;have l1:=qo wr _ u0;simp only at l0 l1;obtain⟨tk,htk⟩:∃s,s=wW (l.take k) t.text:=⟨_,rfl⟩;have hsz0:=hsz k;have hsz1:=hsz (k+1);rw[<-htk]at hsz0⊢;have nxt:k<l.length->wW (l.take (k+1)) t.text=tk++x.text:=fun hlt=>by
   have h1:=(hl k _ (qr hlt)).1;rw[<-hq,hx]at h1;rw[List.take_succ_eq_append_getElem hlt,YB,<-htk,qi h1]
  have fin0:¬k<l.length->tk=wW l t.text:=fun hlt=>by
   have:k=l.length:=by omega
   rw[htk,this,List.take_length]
  have hct:=fun W (hW:gF K sy W)=>J6 sy x.text hsy hW;have NF:=aJ (And.intro nxt (And.intro fin0 (And.intro hsz0 hsz1)));have hb2:=hb.alloc hb.size (.cells #[Z x.kind,.string x.text,Z x.value,.string x.bytes,Z x.line,Z x.col,.bool x.joined] 59);have hK2:=hKs _ (hb2.drew.drew);clear hc hx hS htk nxt fin0 hsz0 hsz1 hst hKs hp b1;have HJ:=aJ hj;have HQ:=aJ hq;clear hj hq;go_wp2
  go_region_held3 (fun w'=>w'.cell? ⟨Y,0,none⟩=some (.slice (some ⟨G,0,none⟩) toks.length cap)/\w'.cell? ⟨Y,1,none⟩=some (Z pos) /\
   w'.cell? ⟨G,q*7,none⟩=some (Z x.kind)/\w'.cell? ⟨G,q*7+1,none⟩=some (.string x.text)/\w'.cell? ⟨G,q*7+2,none⟩=some (Z x.value) /\
   w'.cell? ⟨G,q*7+3,none⟩=some (.string x.bytes)/\w'.cell? ⟨G,q*7+4,none⟩=some (Z x.line)/\w'.cell? ⟨G,q*7+5,none⟩=some (Z x.col)/\w'.cell? ⟨G,q*7+6,none⟩=some (.bool x.joined)) (go_keep) (fail)
  go_wp2
  go_region_held3 (fun w'=>w'.cell? ⟨Y,0,none⟩=some (.slice (some ⟨G,0,none⟩) toks.length cap)/\w'.cell? ⟨Y,1,none⟩=some (Z pos) /\
   w'.cell? ⟨G,q*7,none⟩=some (Z x.kind)/\w'.cell? ⟨G,q*7+1,none⟩=some (.string x.text)/\w'.cell? ⟨G,q*7+2,none⟩=some (Z x.value) /\
   w'.cell? ⟨G,q*7+3,none⟩=some (.string x.bytes)/\w'.cell? ⟨G,q*7+4,none⟩=some (Z x.line)/\w'.cell? ⟨G,q*7+5,none⟩=some (Z x.col)/\w'.cell? ⟨G,q*7+6,none⟩=some (.bool x.joined)) (go_keep) (fail)
  have hjj:x.joined=false\/x.joined=true:=by cases x.joined<;>simp
  rcases hjj with hj0|hj0
  ·have hn:¬k<l.length:=fun hlt=>by
    have:=HJ.out;rw[Joins,hj0,qqr hlt]at this;cases this
   have hf:=NF.out.2.1 hn;have hkl:k=l.length:=by omega
   subst hf;subst hkl;rw[hj0]at hb2⊢;clear hct;go_wp2;refine qg (qqb rfl _ _ _) rfl ?_;exact⟨by simp,hb2.drew.drew⟩
  ·rw[hj0]at hb2 hK2⊢;cases nu with
   |false =>
    by_cases hk4:x.kind=4
    ·have hk4':decide (x.kind=4)=true:=qqr hk4;rw[hk4]at hb2 hK2⊢;cases hm:UT x.text sy with
     |true =>
      have hlt:k<l.length:=by
       have:=HJ.out;rw[Joins,hj0,hk4',hm]at this;simpa using this.symm
      have hnx:=NF.out.1 hlt;have had:=fun ww=>FE tk x.text NF.out.2.2.1 (by have h1:=NF.out.2.2.2;rw[hnx]at h1;rw[ByteArray.size_append]at h1;omega) ww;have hc1:=hct _ hK2;rw[hm]at hc1;go_wp2_with(go_at_call 178;(with_reducible refine hc1.mono ?_);rintro r w2 ⟨rfl,rfl⟩);clear hct;go_wp2;go_roundg (l.length+1-(k+1));case measure=>omega
      case rel=>exact⟨k+1,by omega,rfl,by rw[hnx],by simp,hb2.drew.drew⟩
     |false =>
      have hn:¬k<l.length:=fun hlt=>by
       have:=HJ.out;rw[Joins,hj0,hk4',hm,qqr hlt]at this;simp at this
      have hf:=NF.out.2.1 hn;have hkl:k=l.length:=by omega
      rw[hf];have hc1:=hct _ hK2;rw[hm]at hc1;go_wp2_with(go_at_call 178;(with_reducible refine hc1.mono ?_);rintro r w2 ⟨rfl,rfl⟩);clear hct;go_wp2;refine qg (qqb rfl _ _ _) rfl ?_;exact⟨by simp,hb2.drew.drew⟩
    ·have hk4':decide (x.kind=4)=false:=qqp hk4;have hk4b:(x.kind==4)=false:=by simp[hk4]
     have hn:¬k<l.length:=fun hlt=>by
      have:=HJ.out;rw[Joins,hj0,hk4',qqr hlt]at this;simp at this
     have hf:=NF.out.2.1 hn;have hkl:k=l.length:=by omega
     rw[hf];clear hct;go_wp2;refine qg (qqb rfl _ _ _) rfl ?_;exact⟨by simp[hkl],hb2.drew.drew⟩
   |true =>
    by_cases hk2:x.kind=2
    ·have hk2':decide (x.kind=2)=true:=qqr hk2;rw[hk2]at hb2 hK2⊢;have hlt:k<l.length:=by
      have:=HJ.out;rw[Joins,hj0,hk2']at this;simpa using this.symm
     have hnx:=NF.out.1 hlt;have had:=fun ww=>FE tk x.text NF.out.2.2.1 (by have h1:=NF.out.2.2.2;rw[hnx]at h1;rw[ByteArray.size_append]at h1;omega) ww;clear hct;go_wp2;go_roundg (l.length+1-(k+1));case measure=>omega
     case rel=>exact⟨k+1,by omega,rfl,by rw[hnx],by simp,hb2.drew.drew⟩
    ·have hk2':decide (x.kind=2)=false:=qqp hk2;have hk2b:(x.kind==2)=false:=by simp[hk2]
     by_cases hk4:x.kind=4
     ·have hk4':decide (x.kind=4)=true:=qqr hk4;rw[hk4]at hb2 hK2⊢;cases hm:UT x.text sy with
      |true =>
       have hlt:k<l.length:=by
        have:=HJ.out;rw[Joins,hj0,hk2',hk4',hm]at this;simpa using this.symm
       have hnx:=NF.out.1 hlt;have had:=fun ww=>FE tk x.text NF.out.2.2.1 (by have h1:=NF.out.2.2.2;rw[hnx]at h1;rw[ByteArray.size_append]at h1;omega) ww;have hc1:=hct _ hK2;rw[hm]at hc1;go_wp2_with(go_at_call 178;(with_reducible refine hc1.mono ?_);rintro r w2 ⟨rfl,rfl⟩);clear hct;go_wp2;go_roundg (l.length+1-(k+1));case measure=>omega
       case rel=>exact⟨k+1,by omega,rfl,by rw[hnx],by simp,hb2.drew.drew⟩
      |false =>
       have hn:¬k<l.length:=fun hlt=>by
        have:=HJ.out;rw[Joins,hj0,hk2',hk4',hm,qqr hlt]at this;simp at this
       have hf:=NF.out.2.1 hn;have hkl:k=l.length:=by omega
       rw[hf];have hc1:=hct _ hK2;rw[hm]at hc1;go_wp2_with(go_at_call 178;(with_reducible refine hc1.mono ?_);rintro r w2 ⟨rfl,rfl⟩);clear hct;go_wp2;refine qg (qqb rfl _ _ _) rfl ?_;exact⟨by simp,hb2.drew.drew⟩
     ·have hk4':decide (x.kind=4)=false:=qqp hk4;have hk4b:(x.kind==4)=false:=by simp[hk4]
      have hn:¬k<l.length:=fun hlt=>by
       have:=HJ.out;rw[Joins,hj0,hk2',hk4',qqr hlt]at this;simp at this
      have hf:=NF.out.2.1 hn;have hkl:k=l.length:=by omega
      rw[hf];clear hct;go_wp2;refine qg (qqb rfl _ _ _) rfl ?_;exact⟨by simp[hkl],hb2.drew.drew⟩
end
end Go.Proofs.YtgkhemnmcgicnaaGreatDoor
