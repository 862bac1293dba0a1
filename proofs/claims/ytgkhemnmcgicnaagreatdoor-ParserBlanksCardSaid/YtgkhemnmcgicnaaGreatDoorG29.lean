/- Towards the law ParserBlanks, true for every text and all blanks (no condition): one part of the proof. -/
import Derived.Test.YtgkhemnmcgicnaaGreatDoorG01
import Derived.Test.YtgkhemnmcgicnaaGreatDoorG28
namespace Go.Proofs.YtgkhemnmcgicnaaGreatDoor
set_option maxHeartbeats 16000000
set_option maxRecDepth 100000
open Go.RowKit
theorem yY{M:Nat}{es:Array MapEntry}{clk:Nat}{w:World}(o:Obj)(h:w.heap[M]?=some (.map es clk)):(setObj M o).run Tryz.prog w=.ok () { w with heap:=w.heap.setIfInBounds M o }:=by
 simp[setObj,Sem.run,h]
theorem mG{M:Nat}{es:Array MapEntry}{clk:Nat}{w:World}(h:w.heap[M]?=some (.map es clk)):(getObj M).run Tryz.prog w=.ok (.map es clk) w:=by
 simp[getObj,Sem.run,h]
theorem S7(b:Bool)(k:ByteArray)(w:World):(Instr.checkKey b 10000 9 (.string k)).run Tryz.prog w=.ok () w:=by
 show(Instr.checkKey b (9999+1) 9 (.string k)).run Tryz.prog w=.ok () w;unfold Instr.checkKey;simp[qqg Tryz.underlying9,Result.andThen]
theorem FR(k:ByteArray){es:List MapEntry}{r:Option (Nat×Value)}(h:Instr.findNow .string (.string k) es 0=some r)(w:World):(Instr.findKey 9 (.string k) es).run Tryz.prog w=.ok r w:=by
 unfold Instr.findKey;simp[qqg Tryz.underlying9,Result.andThen,h]
theorem i8{M:Nat}{es:Array MapEntry}{clk:Nat}{w:World}(h:w.heap[M]?=some (.map es clk))(k:ByteArray){i:Nat}{v:Value}(hf:Instr.findNow .string (.string k) es.toList 0=some (some (i,v))) :
  (Instr.lookup 164 (.map (some M)) (.string k) true).run Tryz.prog w=.ok (.tuple #[v,.bool true]) w:=by
 unfold Instr.lookup;simp only[qqn,qqg Tryz.underlying164,Result.andThen_ok,mG h,Sem.run_pure,S7,FR k hf,if_true]
theorem yZ{M:Nat}{es:Array MapEntry}{clk:Nat}{w:World}(h:w.heap[M]?=some (.map es clk))(k:ByteArray)(v:Value)(hf:Instr.findNow .string (.string k) es.toList 0=some none) :
  (Instr.mapUpdate 164 (.map (some M)) (.string k) v).run Tryz.prog w=.ok () { w with heap:=w.heap.setIfInBounds M (.map (es.push ⟨.string k,v,clk⟩) (clk+1)) }:=by
 unfold Instr.mapUpdate;simp only[qqn,qqg Tryz.underlying164,Result.andThen_ok,mG h,S7,FR k hf];rw[yY _ h]
def evC(i0 i1 kd lg dt:Int)(hv gv:Value)(A:A5)(lv:Value):Array Value:=#[Z i0,Z i1,Z kd,Z lg,Z dt,hv,gv,Z A.ar,Z A.orn,Z A.dy,lv,Z A.st,Z A.be]
section
variable{w:World}
theorem aAV:((List.range 5).all fun i=>(S6 (2 ^ i)).all fun a=>decide (bits BinOp.or IntKind.i64 a (IntKind.i64.wrap (2 ^ i))=a+2 ^ i))=true:=by decide +kernel
theorem WP{i:Nat}{a:Int}(hi:i<5)(h0:0<=a)(h1:a<2 ^ i):bits BinOp.or IntKind.i64 a (IntKind.i64.wrap (2 ^ i))=a+2 ^ i :=
 of_decide_eq_true (qqm.1 (qqm.1 aAV i (List.mem_range.2 hi)) a (FP h0 (by
  have:((2 ^ i:Nat):Int)=(2:Int) ^ i:=by simp
  omega)))
def mH(i:Nat):Nat:=if 20<=i then 12 else if 18<=i then 11 else if 9<=i then 9 else if 5<=i then 8 else 7
def oE(A:A5)(i:Nat):Int:=if 20<=i then(i:Int)-19 else if 18<=i then(i:Int)-17 else if 9<=i then(i:Int)-8 else if 5<=i then(i:Int)-4 else A.ar+2 ^ i
theorem FS(i0 i1 kd lg dt:Int)(hv gv lv:Value)(A:A5)(i:Nat):(evC i0 i1 kd lg dt hv gv A lv).setIfInBounds (mH i) (Z (oE A i))=evC i0 i1 kd lg dt hv gv (KS A i) lv:=by
 unfold mH oE KS evC;repeat' split
 all_goals rfl
theorem PM{E:Nat}{i0 i1 kd lg dt:Int}{hv gv lv:Value}{A:A5}(hE:w.heap[E]?=some (.cells (evC i0 i1 kd lg dt hv gv A lv) 31 (0,0)))(i:Nat)(hi:i<22)(hA:i<5->0<=A.ar/\A.ar<2 ^ i) :
  Calls Tryz.prog 110 #[.pointer (some ⟨E,0,none⟩),Z (i:Nat)] w fun r w'=>r=.returned (.tuple #[])/\w'.heap=(w.setCell ⟨E,mH i,none⟩ (Z (oE A i))).heap/\aC [E] w w':=by
 have f5:=Lib.frozen_of_heap hE 7;have f6:=Lib.frozen_of_heap hE 8;have f7:=Lib.frozen_of_heap hE 9;have f11:=Lib.frozen_of_heap hE 11;have f12:=Lib.frozen_of_heap hE 12;have c7:w.cell? ⟨E,7,none⟩=some (Z A.ar):=by rw[Lib.cell_of_heap hE];rfl
 have c8:w.cell? ⟨E,8,none⟩=some (Z A.orn):=by rw[Lib.cell_of_heap hE];rfl
 have c9:w.cell? ⟨E,9,none⟩=some (Z A.dy):=by rw[Lib.cell_of_heap hE];rfl
 have c11:w.cell? ⟨E,11,none⟩=some (Z A.st):=by rw[Lib.cell_of_heap hE];rfl
 have c12:w.cell? ⟨E,12,none⟩=some (Z A.be):=by rw[Lib.cell_of_heap hE];rfl
 have aw:=fun o v=>(aC.refl [E] w).setCell (p:=⟨E,o,none⟩) (.inl (by simp)) v;have hi0:(0:Int)<=(i:Int):=by omega
 clear hE;by_cases h20:20<=i
 ·have e1:mH i=12:=by unfold mH;rw[if_pos h20]
  have e2:oE A i=(i:Int)-19:=by unfold oE;rw[if_pos h20]
  rw[e1,e2];have g1:(20:Int)<=(i:Int):=by omega
  have m1:IntKind.i64.wrap ((i:Int)-20)=(i:Int)-20:=IntWalk.i64_in _ (by omega);have m2:IntKind.i64.wrap ((i:Int)-20+1)=(i:Int)-19:=by rw[show(i:Int)-20+1=(i:Int)-19 by omega];exact IntWalk.i64_in _ (by omega)
  go_enter Tryz.func110,Tryz.ntmps110;go_wp2
  go_end0
  exact⟨rfl,rfl,aw _ _⟩
 by_cases h18:18<=i
 ·have e1:mH i=11:=by unfold mH;rw[if_neg h20,if_pos h18]
  have e2:oE A i=(i:Int)-17:=by unfold oE;rw[if_neg h20,if_pos h18]
  rw[e1,e2];have g0:¬(20:Int)<=(i:Int):=by omega
  have g1:(18:Int)<=(i:Int):=by omega
  have m1:IntKind.i64.wrap ((i:Int)-18)=(i:Int)-18:=IntWalk.i64_in _ (by omega);have m2:IntKind.i64.wrap ((i:Int)-18+1)=(i:Int)-17:=by rw[show(i:Int)-18+1=(i:Int)-17 by omega];exact IntWalk.i64_in _ (by omega)
  go_enter Tryz.func110,Tryz.ntmps110;go_wp2
  go_end0
  exact⟨rfl,rfl,aw _ _⟩
 by_cases h9:9<=i
 ·have e1:mH i=9:=by unfold mH;rw[if_neg h20,if_neg h18,if_pos h9]
  have e2:oE A i=(i:Int)-8:=by unfold oE;rw[if_neg h20,if_neg h18,if_pos h9]
  rw[e1,e2];have g0:¬(20:Int)<=(i:Int):=by omega
  have g1:¬(18:Int)<=(i:Int):=by omega
  have g2:(9:Int)<=(i:Int):=by omega
  have m1:IntKind.i64.wrap ((i:Int)-9)=(i:Int)-9:=IntWalk.i64_in _ (by omega);have m2:IntKind.i64.wrap ((i:Int)-9+1)=(i:Int)-8:=by rw[show(i:Int)-9+1=(i:Int)-8 by omega];exact IntWalk.i64_in _ (by omega)
  go_enter Tryz.func110,Tryz.ntmps110;go_wp2
  go_end0
  exact⟨rfl,rfl,aw _ _⟩
 by_cases h5:5<=i
 ·have e1:mH i=8:=by unfold mH;rw[if_neg h20,if_neg h18,if_neg h9,if_pos h5]
  have e2:oE A i=(i:Int)-4:=by unfold oE;rw[if_neg h20,if_neg h18,if_neg h9,if_pos h5]
  rw[e1,e2];have g0:¬(20:Int)<=(i:Int):=by omega
  have g1:¬(18:Int)<=(i:Int):=by omega
  have g2:¬(9:Int)<=(i:Int):=by omega
  have g3:(5:Int)<=(i:Int):=by omega
  have m1:IntKind.i64.wrap ((i:Int)-5)=(i:Int)-5:=IntWalk.i64_in _ (by omega);have m2:IntKind.i64.wrap ((i:Int)-5+1)=(i:Int)-4:=by rw[show(i:Int)-5+1=(i:Int)-4 by omega];exact IntWalk.i64_in _ (by omega)
  go_enter Tryz.func110,Tryz.ntmps110;go_wp2
  go_end0
  exact⟨rfl,rfl,aw _ _⟩
 ·have e1:mH i=7:=by unfold mH;rw[if_neg h20,if_neg h18,if_neg h9,if_neg h5]
  have e2:oE A i=A.ar+2 ^ i:=by unfold oE;rw[if_neg h20,if_neg h18,if_neg h9,if_neg h5]
  rw[e1,e2];obtain⟨a0,a1⟩:=hA (by omega);have ho:=WP (by omega:i<5) a0 a1;have hi5:i=0\/i=1\/i=2\/i=3\/i=4:=by omega
  clear e1 e2 h20 h18 h9 h5;have aw':=(aw 7 (Z (A.ar+2 ^ i))).drew;clear aw;rcases hi5 with rfl|rfl|rfl|rfl|rfl;all_goals simp only[Int.reducePow]at ho aw'⊢
  all_goals go_enter Tryz.func110,Tryz.ntmps110
  all_goals go_wp2
  all_goals go_region_with (fail)
  all_goals go_wp2
  all_goals go_end0
  all_goals exact⟨rfl,rfl,aw'⟩
end
theorem mS{M:Nat}{es:Array MapEntry}{clk:Nat}{w:World}(h:w.heap[M]?=some (.map es clk))(k:ByteArray)(hf:Instr.findNow .string (.string k) es.toList 0=some none) :
  (Instr.lookup 164 (.map (some M)) (.string k) true).run Tryz.prog w=.ok (.tuple #[Z 0,.bool false]) w:=by
 unfold Instr.lookup;simp only[qqn,qqg Tryz.underlying164,Result.andThen_ok,mG h,Sem.run_pure,S7,FR k hf,Tryz.zeroValue3,if_true]
theorem vG{T:List aX}{s:aD}(h:(aZ T s).kind=1):∃p,s=.ok p:=by
 cases s with
 |ok p=>exact⟨p,rfl⟩
 |bad e l c=>exact absurd h (by simp[aZ,cH])
section
variable{W0:World}{T:List aX}{Y M:Nat}{free:Fr}{st:aD}{w:World}
theorem aG6(h:PS T Y M free st w){Q:Nat}(hQ:w.heap[Q]?=some (.map (wEs 22) 22)) :
  Calls Tryz.prog 109 #[.pointer (some ⟨Y,0,none⟩),.map (some Q)] w fun r w'=>r=.returned (Z (((bV T bF st).1.getD 0:Nat):Int))/\PS T Y M free (bV T bF st).2 w'/\aC [Y,M] w w':=by
 have hp:=nX h;have hst:=fun w' (b:Below w.heap.size w w')=>h.step b;have lQ:=(qe.1 hQ).1;have hm:=h.good.max;have hf1:=fun w' (b:Below w.heap.size w w')=>jC (h.step b) 13 (by decide);have hf2:=fun w' (b:Below w.heap.size w w')=>jC (h.step b) 32 (by decide);have hat:=fun p (e:st=.ok p) (w':World) (b:Below w.heap.size w w')=>(e▸h.step b:PS T Y M free (.ok p) w').atCell;have hjp:=fun p (e:st=.ok p) (w':World) (b:Below w.heap.size w w') hq=>(e▸h.step b:PS T Y M free (.ok p) w').jump (q:=p+1) hq;unfold bV;have hfind:∀x:ByteArray,Instr.findNow .string (.string x) (wEs 22).toList 0=some ((cM x bF).map fun j=>(j,Z (j:Nat))):=fun x=>K0;have hkind:(aZ T st).kind=1->∃p,st=.ok p/\p+1<T.length:=fun hk=>by
  obtain⟨p,rfl⟩:=vG hk;exact⟨p,rfl,h.good.more h.atCell.2.2 (by rw[show(T.getD p cH).kind=1 from hk];decide)⟩
 unfold uL at hp;generalize aZ T st=t at hp hkind⊢;obtain⟨kd,text,v,bt,lin,cl,j⟩:=t;simp only at hp hkind⊢;have hfx:=hfind text;by_cases hk:kd=1
 ·subst hk;rw[if_neg (by decide)];obtain⟨p,rfl,hp1⟩:=hkind rfl;cases hw:cM text bF with
  |none =>
   rw[hw]at hfx;have hlk:=fun w' (b:Below w.heap.size w w')=>mS ((b.block Q lQ).trans hQ) text hfx;simp only[Option.getD_none];clear h hQ hfind hkind hat hjp hf1 hst hm;generalize cC T 32 (.ok p)=s2 at hf2⊢;go_enter Tryz.func109,Tryz.ntmps109;go_wp2_with(go_at_call 62;refine hp.mono ?_);intro r w1;first |(intro he b1;subst he)|rintro⟨rfl,b1⟩
   have b2:=b1.alloc b1.size (.cells #[Z 1,.string text,Z v,.string bt,Z lin,Z cl,.bool j] 59);have hlk2:=hlk _ b2;have hx:=hf2 _ b2;clear hlk hf2 hp;go_wp2_with(go_at_call 63;refine hx.mono ?_);intro r w3;first |(intro he hS b3;subst he)|rintro⟨rfl,hS,b3⟩
   go_wp2;go_ret;exact⟨rfl,hS,(aC.of_below b2).trans b3⟩
  |some i =>
   rw[hw]at hfx;have hlk:=fun w' (b:Below w.heap.size w w')=>i8 ((b.block Q lQ).trans hQ) text hfx;simp only[Option.getD_some,aD.next];have hpw:IntKind.i64.wrap ((p:Int)+1)=((p+1:Nat):Int):=by rw[IntWalk.i64_in _ (by omega)];simp
   have e9:((p+1:Nat):Int)=(p:Int)+1:=by simp
   have hpw':IntKind.i64.wrap ((p:Int)+1)=(p:Int)+1:=hpw.trans e9;clear h hQ hfind hkind hf1 hf2 hm;have hat':=hat p rfl;have hjp':=hjp p rfl;clear hat hjp;go_enter Tryz.func109,Tryz.ntmps109;go_wp2_with(go_at_call 62;refine hp.mono ?_);intro r w1;first |(intro he b1;subst he)|rintro⟨rfl,b1⟩
   have b2:=b1.alloc b1.size (.cells #[Z 1,.string text,Z v,.string bt,Z lin,Z cl,.bool j] 59);have hlk2:=hlk _ b2;obtain⟨x1,xf1,_⟩:=hat' w1 b1;have n1:=qqd w1 _ x1;have l1:Y<w1.heap.size:=(hst w1 b1).lt;have hS4:=(hjp' w1 b1 hp1).step ((qb _ _).alloc (qa _) (.cells #[Z 1,.string text,Z v,.string bt,Z lin,Z cl,.bool j] 59));have a4:=((aC.of_below (bs:=[Y,M]) b1).setCell (p:=⟨Y,1,none⟩) (.inl (by simp)) (Z ((p+1:Nat):Int))).alloc (.cells #[Z 1,.string text,Z v,.string bt,Z lin,Z cl,.bool j] 59);rw[e9]at hS4 a4;clear hlk hat' hjp' hp hst hpw e9;go_wp2;go_ret;exact⟨rfl,hS4,a4⟩
 ·rw[if_pos hk];obtain⟨b,hbv⟩:∃b:Bool×Value,True:=⟨⟨true,undef⟩,trivial⟩;obtain⟨v0,v1,hlk⟩:∃(v0:Int)(v1:Bool),∀w',Below w.heap.size w w'->(Instr.lookup 164 (.map (some Q)) (.string text) true).run Tryz.prog w'=.ok (.tuple #[Z v0,.bool v1]) w':=by
   cases hw:cM text bF with
   |none=>rw[hw]at hfx;exact⟨0,false,fun w' b=>mS ((b.block Q lQ).trans hQ) text hfx⟩
   |some i=>rw[hw]at hfx;exact⟨_,true,fun w' b=>i8 ((b.block Q lQ).trans hQ) text hfx⟩
  simp only[Option.getD_none];clear h hQ hfind hkind hat hjp hf2 hst hm hfx;generalize cC T 13 st=s2 at hf1⊢;go_enter Tryz.func109,Tryz.ntmps109;go_wp2_with(go_at_call 62;refine hp.mono ?_);intro r w1;first |(intro he b1;subst he)|rintro⟨rfl,b1⟩
  have b2:=b1.alloc b1.size (.cells #[Z kd,.string text,Z v,.string bt,Z lin,Z cl,.bool j] 59);have hlk2:=hlk _ b2;have hx:=hf1 _ b2;clear hlk hf1 hp;go_wp2_with(go_at_call 63;refine hx.mono ?_);intro r w3;first |(intro he hS b3;subst he)|rintro⟨rfl,hS,b3⟩
  go_wp2;go_ret;exact⟨rfl,hS,(aC.of_below b2).trans b3⟩
end
section
variable{W0:World}{T:List aX}{X:Nat}{free:Bool}{lv iv:Value}{st:aD}{w:World}
end
theorem S8(i:Int):0<=grp i:=by unfold grp;(repeat' split)<;>omega
theorem oV{w:World}{a b:Nat}{c1 c2:Array Value}{T1 T2:TypeId}{f1 f2:Nat×Nat}(h1:w.heap[a]?=some (.cells c1 T1 f1))(h2:w.heap[b]?=some (.cells c2 T2 f2))(hT:T1≠T2):a≠b:=by
 rintro rfl;rw[h1]at h2;injection h2 with h2;injection h2 with _ h _;exact hT h
theorem aAW{w:World}{a b:Nat}{es:Array MapEntry}{c:Nat}{c2:Array Value}{T2:TypeId}{f2:Nat×Nat}(h1:w.heap[a]?=some (.map es c))(h2:w.heap[b]?=some (.cells c2 T2 f2)):a≠b:=by
 rintro rfl;rw[h1]at h2;injection h2 with h2;cases h2
structure EF where
 i0:Int
 i1:Int
 kd:Int
 lg:Int
 dt:Int
 hv:Value
 gv:Value
 lv:Value
def EF.c(F:EF)(A:A5):Array Value:=evC F.i0 F.i1 F.kd F.lg F.dt F.hv F.gv A F.lv
def FT(last:Int):Option Nat->Bool
 |none=>false
 |some i=>oT last i
def aD.orFail(T:List aX)(b:Bool)(s:aD):aD:=if b=true then cC T 13 s else s
theorem rM(T:List aX)(s:aD):((bV T bF s).1=none/\(bV T bF s).2.good=false)\/(∃i,(bV T bF s).1=some i/\i<22/\(bV T bF s).2=s.next 1/\s.good=true):=by
 have hf:∀c,(cC T c s).good=false:=fun c=>by cases s<;>rfl
 unfold bV;by_cases hk:(aZ T s).kind≠1
 ·rw[if_pos hk];exact .inl ⟨rfl,hf _⟩
 ·rw[if_neg hk];cases hw:cM (aZ T s).text bF with
  |none=>exact .inl ⟨rfl,hf _⟩
  |some i =>
   refine .inr ⟨i,rfl,yX hw,rfl,?_⟩;obtain⟨p,rfl⟩:=vG (Decidable.byContradiction hk);rfl
theorem X7(T:List aX)(e l c:Int):bV T bF (.bad e l c)=(none,.bad e l c):=by
 unfold bV;rw[if_pos (by simp[aZ,cH])];rfl
theorem B5(T:List aX)(c:Int)(s:aD):∃e l k,cC T c s=.bad e l k:=by
 cases s<;>exact⟨_,_,_,rfl⟩
theorem vH(T:List aX)(last:Int)(A:A5)(s:aD):aT T last A s =
  ((((bV T bF (s.orFail T (FT last (bV T bF s).1))).1.getD 0:Nat):Int),
   (if(bV T bF (s.orFail T (FT last (bV T bF s).1))).2.good=true then KS A ((bV T bF (s.orFail T (FT last (bV T bF s).1))).1.getD 0)else A),
   (bV T bF (s.orFail T (FT last (bV T bF s).1))).2):=by
 generalize hs1:s.orFail T (FT last (bV T bF s).1)=s1;unfold aT;rcases rM T s with⟨h1,h2⟩ |⟨i,h1,h2,h3,h4⟩
 ·rw[h1]at hs1;obtain rfl:s=s1:=hs1;generalize hq:bV T bF s=q at h1 h2;obtain⟨o,s'⟩:=q;simp only at h1 h2;subst h1;simp only;rw[if_neg (by rw[h2];decide)];rfl
 ·rw[h1]at hs1;generalize hq:bV T bF s=q at h1 h3;obtain⟨o,s'⟩:=q;simp only at h1 h3;subst h1;simp only[FT]at hs1;by_cases hb:oT last i=true
  ·rw[hb]at hs1;obtain rfl:cC T 13 s=s1:=hs1;obtain⟨e,l,k,he⟩:=B5 T 13 s;simp only;rw[if_pos hb,he,X7];rfl
  ·rw[Bool.eq_false_iff.2 hb]at hs1;obtain rfl:s=s1:=hs1;simp only[hq];rw[if_neg hb];have hg:s'.good=true:=by
    subst h3;cases s with
    |ok p=>rfl
    |bad e l k=>cases h4
   rw[if_pos hg];rfl
def MD(last:Int)(A:A5)(s:aD):Prop:=s.good=true->-1<=last/\last<22/\∀i:Nat,i<5->last<(i:Int)->0<=A.ar/\A.ar<2 ^ i
theorem MD.start(s:aD):MD (-1) ⟨0,0,0,0,0⟩ s:=fun _=>⟨by decide,by decide,fun i _ _=>⟨Int.le_refl _,by
 show(0:Int)<2 ^ i;exact Int.pow_pos (by decide)⟩⟩
theorem FU{last i:Int}(h:oT last i=false)(h1:-1<=last)(h2:0<=i):last<i:=by
 unfold oT at h;by_cases h0:0<=last
 ·rw[qqr h0,Bool.true_and,Bool.or_eq_false_iff]at h;have:=of_decide_eq_false h.1;omega
 ·omega
theorem MD.step{T:List aX}{last:Int}{A:A5}{s:aD}(h:MD last A s):MD (aT T last A s).1 (aT T last A s).2.1 (aT T last A s).2.2:=by
 unfold aT;rcases rM T s with⟨h1,h2⟩ |⟨i,h1,h2,h3,h4⟩
 ·generalize hq:bV T bF s=q at h1 h2;obtain⟨o,s'⟩:=q;simp only at h1 h2;subst h1;intro hg;rw[show s'.good=true from hg]at h2;cases h2
 ·generalize hq:bV T bF s=q at h1 h3;obtain⟨o,s'⟩:=q;simp only at h1 h3;subst h1;simp only;by_cases hb:oT last i=true
  ·rw[if_pos hb];intro hg;obtain⟨e,l,k,he⟩:=B5 T 13 s;have hg':(cC T 13 s).good=true:=hg;rw[he]at hg';cases hg'
  ·rw[if_neg hb];intro _;obtain⟨g1,g2,g3⟩:=h h4;have hlt:=FU (Bool.eq_false_iff.2 hb) g1 (by omega);refine⟨by show(-1:Int)<=(i:Int);omega,by show(i:Int)<22;omega,fun j hj hij => ?_⟩;have hij':i<j:=by have:(i:Int)<(j:Int):=hij;omega
   obtain⟨a0,a1⟩:=g3 i (by omega) hlt;have e:(KS A i).ar=A.ar+2 ^ i:=by
    unfold KS;rw[if_neg (by omega),if_neg (by omega),if_neg (by omega),if_neg (by omega)]
   rw[e];have hp:(0:Int)<2 ^ i:=Int.pow_pos (by decide);have hle:(2:Int) ^ (i+1)<=2 ^ j:=by
    have:(2:Nat) ^ (i+1)<=2 ^ j:=Nat.pow_le_pow_right (by decide) hij'
    exact_mod_cast this
   have h2p:(2:Int) ^ (i+1)=2 ^ i+2 ^ i:=by rw[Int.pow_succ];omega
   exact⟨by omega,by omega⟩
structure Cl(T:List aX)(Bw Bp Bl Be Q E Y M:Nat)(free:Fr)(st:aD)(last:Int)(F:EF)(A:A5)(w0 w:World):Prop where
 prs:PS T Y M free st w
 hw:w.heap[Bw]?=some (.cells #[.map (some Q)] 164 (0,0))
 hp:w.heap[Bp]?=some (.cells #[.pointer (some ⟨Y,0,none⟩)] 69 (0,0))
 hl:w.heap[Bl]?=some (.cells #[Z last] 3 (0,0))
 he:w.heap[Be]?=some (.cells #[.pointer (some ⟨E,0,none⟩)] 84 (0,0))
 hq:w.heap[Q]?=some (.map (wEs 22) 22)
 hE:w.heap[E]?=some (.cells (F.c A) 31 (0,0))
 aw:aC [Y,M,E] w0 w
 bl:w0.heap.size<=Bl
 ne:∀k∈[Bw,Bp,Bl,Be,Q,E],k≠Y/\k≠M
section
variable{T:List aX}{Bw Bp Bl Be Q E Y M:Nat}{free:Fr}{st st':aD}{last:Int}{F:EF}{A:A5}{w0 w w':World}
theorem Cl.step(h:Cl T Bw Bp Bl Be Q E Y M free st last F A w0 w)(b:Below w.heap.size w w'):Cl T Bw Bp Bl Be Q E Y M free st last F A w0 w' :=
 ⟨h.prs.step b,(b.block _ (aA h.hw)).trans h.hw,(b.block _ (aA h.hp)).trans h.hp,(b.block _ (aA h.hl)).trans h.hl,(b.block _ (aA h.he)).trans h.he,(b.block _ (aA h.hq)).trans h.hq,(b.block _ (aA h.hE)).trans h.hE,h.aw.step b,h.bl,h.ne⟩
theorem Cl.away(h:Cl T Bw Bp Bl Be Q E Y M free st last F A w0 w)(a:aC [Y,M] w w')(hS:PS T Y M free st' w'):Cl T Bw Bp Bl Be Q E Y M free st' last F A w0 w':=by
 have n:∀k∈[Bw,Bp,Bl,Be,Q,E],k∉[Y,M]:=fun k hk hm=>by
  obtain⟨h1,h2⟩:=h.ne k hk;simp only[qqt,List.not_mem_nil,or_false]at hm;rcases hm with e|e
  ·exact h1 e
  ·exact h2 e
 exact⟨hS,a.at h.hw (n _ (by simp)),a.at h.hp (n _ (by simp)),a.at h.hl (n _ (by simp)),a.at h.he (n _ (by simp)),a.at h.hq (n _ (by simp)),a.at h.hE (n _ (by simp)),h.aw.trans ⟨a.os,a.tape,a.output,a.size,fun k hk hb=>a.block k hk (by simp only[qqt,List.not_mem_nil,or_false]at hb⊢;omega)⟩,h.bl,h.ne⟩
theorem PS.put(h:PS T Y M free st w){R:Nat}(hY:R≠Y)(hM:R≠M){cs:Array Value}{t:TypeId}(hk:w.heap[R]?=some (.cells cs t (0,0)))(ht:t≠59)
  (ho:∀j,j≠R->w'.heap[j]?=w.heap[j]?):PS T Y M free st w':=by
 obtain⟨g,tv,pos,line,col,e,ls,ln,es,clk,h1,h2,h3⟩:=h;refine⟨g,tv,pos,line,col,e,ls,ln,es,clk,⟨(ho Y (Ne.symm hY)).trans h1.blk,(ho M (Ne.symm hM)).trans h1.map,fun he=>aB (h1.row he) fun k hkk=>ho k ?_⟩,h2,h3⟩;rintro rfl;exact kE (h1.row he) hk (by intro cs' fr' hc;injection hc with _ h2 _;exact ht h2) hkk
theorem Cl.setLast(h:Cl T Bw Bp Bl Be Q E Y M free st last F A w0 w)(v:Int):Cl T Bw Bp Bl Be Q E Y M free st v F A w0 (w.setCell ⟨Bl,0,none⟩ (Z v)):=by
 have o:∀k,k≠Bl->(w.setCell ⟨Bl,0,none⟩ (Z v)).heap[k]?=w.heap[k]?:=fun k hk=>qh _ _ _ k hk;obtain⟨nY,nM⟩:=h.ne Bl (by simp);refine⟨h.prs.put nY nM h.hl (by decide) o,(o _ (oV h.hw h.hl (by decide))).trans h.hw,(o _ (oV h.hp h.hl (by decide))).trans h.hp,?_,(o _ (oV h.he h.hl (by decide))).trans h.he,(o _ (aAW h.hq h.hl)).trans h.hq,(o _ (oV h.hE h.hl (by decide))).trans h.hE,h.aw.setCell (p:=⟨Bl,0,none⟩) (.inr h.bl) _,h.bl,h.ne⟩;rw[Lib.heap_setCell_same (i:=0) h.hl];rfl
theorem Cl.setE(h:Cl T Bw Bp Bl Be Q E Y M free st last F A w0 w){A':A5}(hE:w'.heap[E]?=some (.cells (F.c A') 31 (0,0)))(a:aC [E] w w'):Cl T Bw Bp Bl Be Q E Y M free st last F A' w0 w':=by
 obtain⟨nY,nM⟩:=h.ne E (by simp);have n:∀k,k≠E->k∉[E]:=fun k hk=>by simpa using hk
 obtain⟨g,tv,pos,line,col,e,ls,ln,es,clk,h1,h2,h3⟩:=h.prs;have hS:PS T Y M free st w':=by
  refine⟨g,tv,pos,line,col,e,ls,ln,es,clk,⟨a.at h1.blk (n _ (Ne.symm nY)),a.at h1.map (n _ (Ne.symm nM)),fun he=>aB (h1.row he) fun k hkk=>a.block k ((h1.row he).lt k hkk).2 (n _ ?_)⟩,h2,h3⟩;rintro rfl;exact kE (h1.row he) h.hE (by intro cs' fr' hc;injection hc with _ h2 _;cases h2) hkk
 exact⟨hS,a.at h.hw (n _ (oV h.hw h.hE (by decide))),a.at h.hp (n _ (oV h.hp h.hE (by decide))),a.at h.hl (n _ (oV h.hl h.hE (by decide))),a.at h.he (n _ (oV h.he h.hE (by decide))),a.at h.hq (n _ (aAW h.hq h.hE)),hE,h.aw.trans ⟨a.os,a.tape,a.output,a.size,fun k hk hb=>a.block k hk (by simp only[qqt,List.not_mem_nil,or_false]at hb⊢;omega)⟩,h.bl,h.ne⟩
end
end Go.Proofs.YtgkhemnmcgicnaaGreatDoor
