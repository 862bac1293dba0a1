/- Towards the law ParserBlanks, true for every text and all blanks (no condition): one part of the proof. -/
import Derived.Test.YtgkhemnmcgicnaaGreatDoorG01
import Derived.Test.YtgkhemnmcgicnaaGreatDoorG37
import Derived.Test.YtgkhemnmcgicnaaGreatDoorG29
import Derived.Test.YtgkhemnmcgicnaaGreatDoorG31
namespace Go.Proofs.YtgkhemnmcgicnaaGreatDoor
set_option maxHeartbeats 8000000
set_option maxRecDepth 100000
open Go.RowKit
def tQ(T:List aX)(f:ByteArray->Option Int)(s:aD):Int×aD :=
 if(aZ T s).kind≠1 then(0,cC T 13 s)
 else match f (aZ T s).text with
  |none=>(0,cC T 32 s)
  |some n=>(n,s.next 1)
theorem WL(B:XP)(T:List aX)(s:aD):tN B T s=tQ T B.clef s:=rfl
section
variable{T:List aX}{Y M:Nat}{free:Fr}{st:aD}{w:World}
theorem X5(h:PS T Y M free st w){Q:Nat}{es:Array MapEntry}{clk:Nat}(hQ:w.heap[Q]?=some (.map es clk))(f:ByteArray->Option Int)(o:Option (Nat×Int))
  (hfx:Instr.findNow .string (.string (aZ T st).text) es.toList 0=some (o.map fun p=>(p.1,Z p.2))) (hfo:(aZ T st).kind=1->f (aZ T st).text=o.map (·.2)) :
  Calls Tryz.prog 109 #[.pointer (some ⟨Y,0,none⟩),.map (some Q)] w fun r w'=>r=.returned (Z (tQ T f st).1)/\PS T Y M free (tQ T f st).2 w'/\aC [Y,M] w w':=by
 have hp:=nX h;have hst:=fun w' (b:Below w.heap.size w w')=>h.step b;have lQ:=(qe.1 hQ).1;have hm:=h.good.max;have hf1:=fun w' (b:Below w.heap.size w w')=>jC (h.step b) 13 (by decide);have hf2:=fun w' (b:Below w.heap.size w w')=>jC (h.step b) 32 (by decide);have hat:=fun p (e:st=.ok p) (w':World) (b:Below w.heap.size w w')=>(e▸h.step b:PS T Y M free (.ok p) w').atCell;have hjp:=fun p (e:st=.ok p) (w':World) (b:Below w.heap.size w w') hq=>(e▸h.step b:PS T Y M free (.ok p) w').jump (q:=p+1) hq;unfold tQ;have hkind:(aZ T st).kind=1->∃p,st=.ok p/\p+1<T.length:=fun hk=>by
  obtain⟨p,rfl⟩:=vG hk;exact⟨p,rfl,h.good.more h.atCell.2.2 (by rw[show(T.getD p cH).kind=1 from hk];decide)⟩
 unfold uL at hp;generalize aZ T st=t at hp hkind hfx hfo⊢;obtain⟨kd,text,v,bt,lin,cl,j⟩:=t;simp only at hp hkind hfx hfo⊢;by_cases hk:kd=1
 ·subst hk;rw[if_neg (by decide)];obtain⟨p,rfl,hp1⟩:=hkind rfl;rw[hfo rfl];cases o with
  |none =>
   simp only[Option.map_none]at hfx⊢;clear hfo;have hlk:=fun w' (b:Below w.heap.size w w')=>mS ((b.block Q lQ).trans hQ) text hfx;clear h hQ hkind hat hjp hf1 hst hm;generalize cC T 32 (.ok p)=s2 at hf2⊢;go_enter Tryz.func109,Tryz.ntmps109;go_wp2_with(go_at_call 62;refine hp.mono ?_);intro r w1;first |(intro he b1;subst he)|rintro⟨rfl,b1⟩
   have b2:=b1.alloc b1.size (.cells #[Z 1,.string text,Z v,.string bt,Z lin,Z cl,.bool j] 59);have hlk2:=hlk _ b2;have hx:=hf2 _ b2;clear hlk hf2 hp;go_wp2_with(go_at_call 63;refine hx.mono ?_);intro r w3;first |(intro he hS b3;subst he)|rintro⟨rfl,hS,b3⟩
   go_wp2;go_ret;exact⟨rfl,hS,(aC.of_below b2).trans b3⟩
  |some i =>
   simp only[qqu]at hfx⊢;clear hfo;have hlk:=fun w' (b:Below w.heap.size w w')=>i8 ((b.block Q lQ).trans hQ) text hfx;simp only[aD.next];have hpw:IntKind.i64.wrap ((p:Int)+1)=((p+1:Nat):Int):=by rw[IntWalk.i64_in _ (by omega)];simp
   have e9:((p+1:Nat):Int)=(p:Int)+1:=by simp
   have hpw':IntKind.i64.wrap ((p:Int)+1)=(p:Int)+1:=hpw.trans e9;clear h hQ hkind hf1 hf2 hm;have hat':=hat p rfl;have hjp':=hjp p rfl;clear hat hjp;go_enter Tryz.func109,Tryz.ntmps109;go_wp2_with(go_at_call 62;refine hp.mono ?_);intro r w1;first |(intro he b1;subst he)|rintro⟨rfl,b1⟩
   have b2:=b1.alloc b1.size (.cells #[Z 1,.string text,Z v,.string bt,Z lin,Z cl,.bool j] 59);have hlk2:=hlk _ b2;obtain⟨x1,xf1,_⟩:=hat' w1 b1;have n1:=qqd w1 _ x1;have l1:Y<w1.heap.size:=(hst w1 b1).lt;have hS4:=(hjp' w1 b1 hp1).step ((qb _ _).alloc (qa _) (.cells #[Z 1,.string text,Z v,.string bt,Z lin,Z cl,.bool j] 59));have a4:=((aC.of_below (bs:=[Y,M]) b1).setCell (p:=⟨Y,1,none⟩) (.inl (by simp)) (Z ((p+1:Nat):Int))).alloc (.cells #[Z 1,.string text,Z v,.string bt,Z lin,Z cl,.bool j] 59);rw[e9]at hS4 a4;clear hlk hat' hjp' hp hst hpw e9;go_wp2;go_ret;exact⟨rfl,hS4,a4⟩
 ·rw[if_pos hk];obtain⟨b,hbv⟩:∃b:Bool×Value,True:=⟨⟨true,undef⟩,trivial⟩;obtain⟨v0,v1,hlk⟩:∃(v0:Int)(v1:Bool),∀w',Below w.heap.size w w'->(Instr.lookup 164 (.map (some Q)) (.string text) true).run Tryz.prog w'=.ok (.tuple #[Z v0,.bool v1]) w':=by
   cases o with
   |none=>exact⟨0,false,fun w' b=>mS ((b.block Q lQ).trans hQ) text hfx⟩
   |some i=>exact⟨_,true,fun w' b=>i8 ((b.block Q lQ).trans hQ) text hfx⟩
  clear h hQ hkind hat hjp hf2 hst hm hfx hfo;generalize cC T 13 st=s2 at hf1⊢;go_enter Tryz.func109,Tryz.ntmps109;go_wp2_with(go_at_call 62;refine hp.mono ?_);intro r w1;first |(intro he b1;subst he)|rintro⟨rfl,b1⟩
  have b2:=b1.alloc b1.size (.cells #[Z kd,.string text,Z v,.string bt,Z lin,Z cl,.bool j] 59);have hlk2:=hlk _ b2;have hx:=hf1 _ b2;clear hlk hf1 hp;go_wp2_with(go_at_call 63;refine hx.mono ?_);intro r w3;first |(intro he hS b3;subst he)|rintro⟨rfl,hS,b3⟩
  go_wp2;go_ret;exact⟨rfl,hS,(aC.of_below b2).trans b3⟩
end
section
variable{T:List aX}{Y M:Nat}{free:Fr}{st:aD}{w:World}
theorem aA1(h:PS T Y M free st w):Calls Tryz.prog 134 #[.pointer (some ⟨Y,0,none⟩)] w fun r w'=>r=.returned (Z (tQ T aP st).1)/\PS T Y M free (tQ T aP st).2 w'/\aC [Y,M] w w':=by
 have hmk:(Instr.makeMap 164 none).run Tryz.prog w=.ok (.map (some w.heap.size)) (w.alloc (.map #[] 0)):=by
  simp[Instr.makeMap,newObj,Sem.run]
 have b0:=(qb w.heap.size w).alloc (qa _) (.map #[] 0);have hQ0:=qd w (.map #[] 0);have lQ:=aA hQ0;have e0:(w.alloc (.map #[] 0)).heap.size=w.heap.size+1:=by simp
 have xp:=nX (h.step b0);have xw:=fun w' (b:Below w.heap.size w w') es clk (hQ:w'.heap[w.heap.size]?=some (.map es clk)) o hf hfo=>X5 (h.step b) hQ aP o hf hfo;unfold uL at xp;generalize aZ T st=t at xp xw;generalize tQ T aP st=q at xw⊢;obtain⟨n,s1⟩:=q;obtain⟨kd,text,v,bt,lin,cl,j⟩:=t;simp only at xp xw⊢;clear h;by_cases hk:kd=1
 ·subst hk;have xf:=aHE text;cases ho:aP text with
  |none =>
   rw[show pU text=(0,8)by unfold pU;rw[ho]]at xf;have xw1:=fun w' b (hQ:w'.heap[w.heap.size]?=some (.map #[] 0))=>xw w' b _ _ hQ none rfl (fun _=>ho);clear xw ho;go_enter Tryz.func134,Tryz.ntmps134;go_wp2_with(go_at_call 62;(with_reducible refine xp.mono ?_));intro r w1;(first|(intro he9 b1;subst he9)|rintro ⟨rfl,b1⟩);rw[<-e0]at b1;have c1:=(qb w1.heap.size w1).alloc (qa _) (.cells #[Z 1,.string text,Z v,.string bt,Z lin,Z cl,.bool j] 59);have b2:=b1.trans (c1.mono b1.size);have hA:=qd w1 (.cells #[Z 1,.string text,Z v,.string bt,Z lin,Z cl,.bool j] 59);have xf1:=xf (w1.alloc (.cells #[Z 1,.string text,Z v,.string bt,Z lin,Z cl,.bool j] 59));clear xf xp c1;go_wp2_with(go_at_call 159;(with_reducible refine xf1.mono ?_));intro r w3;(first|(intro he9 b3;subst he9)|rintro ⟨rfl,b3⟩);have b13:=b2.trans (b3.mono b2.size);have hQ3:=(b13.block _ lQ).trans hQ0;have bb:=b0.trans (b13.mono b0.size);have xw3:=xw1 _ bb hQ3;clear e0 xw1 xf1 b0 b1 b2 b3 b13 hQ0 hQ3 lQ hA;go_wp2_with(go_at_call 109;(with_reducible refine xw3.mono ?_));intro r w4;(first|(intro he9 hS a4;subst he9)|rintro ⟨rfl,hS,a4⟩);go_wp2;go_ret;exact⟨rfl,hS,(aC.of_below bb).trans a4⟩
  |some m =>
   rw[show pU text=(m,0)by unfold pU;rw[ho]]at xf;have xw1:=fun w' b (hQ:w'.heap[w.heap.size]?=some (.map (#[].push ⟨.string text,Z m,0⟩) 1))=>xw w' b _ _ hQ (some (0,m)) (by have hbb:(text==text)=true:=(Go.MapKept.bytes_beq text text).2 rfl;simp[Instr.findNow,Instr.sameNow,hbb]) (fun _=>ho);clear xw ho;go_enter Tryz.func134,Tryz.ntmps134;go_wp2_with(go_at_call 62;(with_reducible refine xp.mono ?_));intro r w1;(first|(intro he9 b1;subst he9)|rintro ⟨rfl,b1⟩);rw[<-e0]at b1;have c1:=(qb w1.heap.size w1).alloc (qa _) (.cells #[Z 1,.string text,Z v,.string bt,Z lin,Z cl,.bool j] 59);have b2:=b1.trans (c1.mono b1.size);have hA:=qd w1 (.cells #[Z 1,.string text,Z v,.string bt,Z lin,Z cl,.bool j] 59);have xf1:=xf (w1.alloc (.cells #[Z 1,.string text,Z v,.string bt,Z lin,Z cl,.bool j] 59));clear xf xp c1;go_wp2_with(go_at_call 159;(with_reducible refine xf1.mono ?_));intro r w3;(first|(intro he9 b3;subst he9)|rintro ⟨rfl,b3⟩);have b13:=b2.trans (b3.mono b2.size);have hQ3:=(b13.block _ lQ).trans hQ0;have hA3:=(b3.block _ (aA hA)).trans hA;have bb:=b0.trans (b13.mono b0.size);have hput:=yZ hQ3 text (Z m) rfl;have bb4:=DA bb (qa w.heap.size) (.map (#[].push ⟨.string text,Z m,0⟩) (0+1));have hQ4:=aAX (o':=.map (#[].push ⟨.string text,Z m,0⟩) (0+1)) hQ3;generalize hW4:({ w3 with heap:=w3.heap.setIfInBounds w.heap.size (.map (#[].push ⟨.string text,Z m,0⟩) (0+1)) }:World)=w4 at hput bb4 hQ4;have xw3:=xw1 _ bb4 hQ4;have k1:w3.cell? ⟨w1.heap.size,1,none⟩=some (.string text):=by rw[Lib.cell_of_heap hA3];rfl
   clear e0 xw1 xf1 b0 b1 b2 b3 b13 hQ0 hQ3 lQ hA hA3 bb hQ4 hW4;go_wp2_with(go_at_call 109;(with_reducible refine xw3.mono ?_));intro r w5;(first|(intro he9 hS a4;subst he9)|rintro ⟨rfl,hS,a4⟩);go_wp2;go_ret;exact⟨rfl,hS,(aC.of_below bb4).trans a4⟩
 ·have hkb:(kd==1)=false:=by simpa using hk
  have xw1:=fun w' b (hQ:w'.heap[w.heap.size]?=some (.map #[] 0))=>xw w' b _ _ hQ none rfl (fun h=>absurd h hk);clear xw;go_enter Tryz.func134,Tryz.ntmps134;go_wp2_with(go_at_call 62;(with_reducible refine xp.mono ?_));intro r w1;(first|(intro he9 b1;subst he9)|rintro ⟨rfl,b1⟩);have c1:=(qb w1.heap.size w1).alloc (qa _) (.cells #[Z kd,.string text,Z v,.string bt,Z lin,Z cl,.bool j] 59);have b2:=b1.trans (c1.mono b1.size);have hQ3:=(b2.block _ lQ).trans hQ0;have bb:=b0.trans (b2.mono b0.size);have xw3:=xw1 _ bb hQ3;clear e0 xw1 xp b0 b1 b2 c1 hQ0 hQ3 lQ;go_wp2_with(go_at_call 109;(with_reducible refine xw3.mono ?_));intro r w4;(first|(intro he9 hS a4;subst he9)|rintro ⟨rfl,hS,a4⟩);go_wp2;go_ret;exact⟨rfl,hS,(aC.of_below bb).trans a4⟩
end
end Go.Proofs.YtgkhemnmcgicnaaGreatDoor
