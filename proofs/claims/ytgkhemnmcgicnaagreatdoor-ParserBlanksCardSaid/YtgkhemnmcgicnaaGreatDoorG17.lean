/- Towards the law ParserBlanks, true for every text and all blanks (no condition): one part of the proof. -/
import Derived.Test.YtgkhemnmcgicnaaGreatDoorG01
import Derived.Test.YtgkhemnmcgicnaaGreatDoorG16
import Derived.Lib.SmallJoins
import Derived.Lib.ConvBytes
import Derived.Lib.UnsafeStr
namespace Go.Proofs.YtgkhemnmcgicnaaGreatDoor
set_option maxHeartbeats 8000000
set_option maxRecDepth 100000
open Go.RowKit
section
variable{B X:Nat}{ks:List (Nat×Obj)}{s:ByteArray}{lines:Value}{lv:Value}{n:Nat}{xs:List Value}{e0 wr:Int}{w0 w:World}
theorem tL{LN:Value}{ls:List Int}{a:Nat}(h:iQ B X ks s LN a lv n xs e0 wr w0 w)(hL:jW LN ls ks)(gL:rY ls)(hsz:s.size<=1048576)(hn:n<=1048576)(b:Nat)(hab:a<=b)(hb:b<=s.size)(kd v:Int)(tx:ByteArray)(j:Bool) :
  Calls Tryz.prog 86 #[.pointer (some ⟨X,0,none⟩),.agg #[Z kd,.string ByteArray.empty,Z v,.string tx,Z 0,Z 0,.bool false],Z b,.bool j] w fun r w' =>
   r=.returned (.tuple #[])/\∃lv',iQ B X ks s LN b lv' (n+1) (xs++aX.cells ⟨kd,s.extract a b,v,tx,vE ls a,vF ls a,j && decide (0<n)⟩) e0 wr w0 w':=by
 obtain⟨i0,hi,hz0,hz1,hz2⟩:=info_parts Tryz.infoTok;obtain⟨ao,cp,rfl⟩:=h.lvIs;have c0:=h.c0;have c1:=h.c1;have c3:=h.c3;have hXlt:=h.lt;have ne0:=qqd w _ c0;have ne1:=qqd w _ c1;have ne3:=qqd w _ c3;have hXne:X≠w.heap.size:=by omega
 have ha0:(0:Int)<=(a:Int):=by omega
 have hb0:(0:Int)<=(b:Int):=by omega
 have hab':(a:Int)<=(b:Int):=by omega
 have hbs':(b:Int)<=(s.size:Int):=by omega
 cases j
 ·have hlow:Below w.heap.size w ((w.alloc (.cells #[Z kd,.string (s.extract a b),Z v,.string tx,Z 0,Z 0,.bool false] 59)).drew):=((qb _ w).alloc (qa _) _).drew;have hT:((w.alloc (.cells #[Z kd,.string (s.extract a b),Z v,.string tx,Z 0,Z 0,.bool false] 59)).drew).heap[w.heap.size]?=some (.cells #[Z kd,.string (s.extract a b),Z v,.string tx,Z 0,Z 0,.bool false] 59 (0,0)):=qd w _;go_enter Tryz.func86,Tryz.ntmps86;go_wp2
  go_region
  generalize hW:(w.alloc (.cells #[Z kd,.string (s.extract a b),Z v,.string tx,Z 0,Z 0,.bool false] 59)).drew=W at hlow hT⊢;have hm:=h.step hlow;have d1:=hm.c1;go_wp2_with(go_at_call 42;refine(zW hm hL gL a (by omega)).mono ?_);rintro e w2 ⟨rfl,b2⟩;have hTl:=(qe.1 hT).1;have hT2:=(b2.block _ hTl).trans hT;have k4:w2.cell? ⟨w.heap.size,4,none⟩=some (Z 0):=by rw[Lib.cell_of_heap hT2];rfl
  have k5:w2.cell? ⟨w.heap.size,5,none⟩=some (Z 0):=by rw[Lib.cell_of_heap hT2];rfl
  have f4:w2.frozen? ⟨w.heap.size,4,none⟩=false:=Lib.frozen_of_heap hT2 4;have f5:w2.frozen? ⟨w.heap.size,5,none⟩=false:=Lib.frozen_of_heap hT2 5;have hl3:Below w.heap.size w ((w2.setCell ⟨w.heap.size,4,none⟩ (Z (vE ls a))).setCell ⟨w.heap.size,5,none⟩ (Z (vF ls a))):=((hlow.trans (b2.mono (by omega))).setCell (p:=⟨w.heap.size,4,none⟩) (qa _) _).setCell (p:=⟨w.heap.size,5,none⟩) (qa _) _;have hT3:=Lib.heap_setCell_same (i:=5) (Lib.heap_setCell_same (i:=4) hT2 (Z (vE ls a))) (Z (vF ls a));clear d1 ne0 ne1 ne3 c0 c1 c3;go_wp2;generalize hW3:(w2.setCell ⟨w.heap.size,4,none⟩ (Z (vE ls a))).setCell ⟨w.heap.size,5,none⟩ (Z (vF ls a))=W3 at hl3 hT3⊢;clear k4 k5 f4 f5 hT2 hW3 hT hTl hm hW;simp only[List.setIfInBounds_toArray,List.set_cons_succ,List.set_cons_zero]at hT3;have hm3:=h.step hl3;have d3:=hm3.c3;have d1:=hm3.c1;have g1:=hm3.fz 1;have g3:=hm3.fz 3;have t0:W3.cell? ⟨w.heap.size,0,none⟩=some (Z kd):=by rw[Lib.cell_of_heap hT3];rfl
  have t1:W3.cell? ⟨w.heap.size,1,none⟩=some (.string (s.extract a b)):=by rw[Lib.cell_of_heap hT3];rfl
  have t2:W3.cell? ⟨w.heap.size,2,none⟩=some (Z v):=by rw[Lib.cell_of_heap hT3];rfl
  have t3:W3.cell? ⟨w.heap.size,3,none⟩=some (.string tx):=by rw[Lib.cell_of_heap hT3];rfl
  have t4:W3.cell? ⟨w.heap.size,4,none⟩=some (Z (vE ls a)):=by rw[Lib.cell_of_heap hT3];rfl
  have t5:W3.cell? ⟨w.heap.size,5,none⟩=some (Z (vF ls a)):=by rw[Lib.cell_of_heap hT3];rfl
  have t6:W3.cell? ⟨w.heap.size,6,none⟩=some (.bool false):=by rw[Lib.cell_of_heap hT3];rfl
  have hB3:=hm3.hB;have hpush:=fun(w5:World)(g cap:Nat)(hown1:w5.ownsRow B 59 7 (.slice (some ⟨g,0,none⟩) (n+1) cap) (n+1) (xs++aX.cells ⟨kd,s.extract a b,v,tx,vE ls a,vF ls a,false⟩))(hgr:((W3.drew).alloc (.cells #[Z kd,.string (s.extract a b),Z v,.string tx,Z (vE ls a),Z (vF ls a),.bool false] 59)).grownBy w5 (Value.slice ao n cp).ownBlock)=>((hm3.step (((qb _ _).drew).alloc (qa _) _)).push hgr hown1).at b;have ownX:(Value.slice ao n cp).ownBlock≠some X:=kE hm3.own hm3.blk (by intro cs fr hc;injection hc with _ h2 _;exact absurd h2 (by decide));have hm4:=hm3.step (((qb _ _).drew).alloc (qa _) (.cells #[Z kd,.string (s.extract a b),Z v,.string tx,Z (vE ls a),Z (vF ls a),.bool false] 59));have hX5:∀w5:World,((W3.drew).alloc (.cells #[Z kd,.string (s.extract a b),Z v,.string tx,Z (vE ls a),Z (vF ls a),.bool false] 59)).grownBy w5 (Value.slice ao n cp).ownBlock->w5.heap[X]?=some _:=fun w5 hgr=>(hgr.block X hm4.lt (fun e=>ownX e.symm)).trans hm4.blk;have hXl3:=hm3.lt;have neX:=qqd W3 _ d3;have neT:=qqd W3 _ t0;have own3:=hm3.own;clear hm3 hl3 hT3 h hm4
  go_region_law ((refine step_append_lies _ (by rfl) _ _ _ (by rfl) B 59 i0 _ 7 72 Tryz.underlying39 hi hz0 hz1 hz2 rfl (by omega) (.slice ao n cp) n xs (by rfl) (World.ownsRow.alloc (w:=W3.drew) own3 _) ⟨W3.heap.size,0,none⟩ 1 1 (aX.cells ⟨kd,s.extract a b,v,tx,vE ls a,vF ls a,false⟩) (by rfl) (by rfl) (World.news_of_block (cs:=(aX.cells ⟨kd,s.extract a b,v,tx,vE ls a,vF ls a,false⟩).toArray) (t:=59) (fr:=(0,0)) (qd _ _)) (by simp[Value.oneCell',aX.cells]) (by omega) (by simp only[maxLen];omega) (by omega) (by simp;omega) (W3.heap.size+1) (by simp) ?_;intro gg cap w5 hown1 hgrow hat hlt;have hx5:=hX5 _ hgrow;have q3:=Lib.cell_of_heap hx5 3;have q1:=Lib.cell_of_heap hx5 1;have r3:=Lib.frozen_of_heap hx5 3;have r1:=Lib.frozen_of_heap hx5 1;simp only[List.getElem?_toArray,List.getElem?_cons_succ,List.getElem?_cons_zero]at q3 q1;have hfin:=hpush w5 gg cap hown1 hgrow;clear hx5 hgrow hown1 hat hlt))
  all_goals go_end0
  all_goals exact⟨rfl,_,hfin⟩
 ·have hlow:Below w.heap.size w ((w.alloc (.cells #[Z kd,.string (s.extract a b),Z v,.string tx,Z 0,Z 0,.bool (decide (0<n))] 59)).drew):=((qb _ w).alloc (qa _) _).drew;have hT:((w.alloc (.cells #[Z kd,.string (s.extract a b),Z v,.string tx,Z 0,Z 0,.bool (decide (0<n))] 59)).drew).heap[w.heap.size]?=some (.cells #[Z kd,.string (s.extract a b),Z v,.string tx,Z 0,Z 0,.bool (decide (0<n))] 59 (0,0)):=qd w _;go_enter Tryz.func86,Tryz.ntmps86;go_wp2
  go_region_held3 (fun w'=>w'.cell? ⟨X,0,none⟩=some (.string s)/\w'.cell? ⟨X,1,none⟩=some (Z a)/\w'.cell? ⟨X,3,none⟩=some (.slice ao n cp)) (go_keep) (fail)
  generalize hW:(w.alloc (.cells #[Z kd,.string (s.extract a b),Z v,.string tx,Z 0,Z 0,.bool (decide (0<n))] 59)).drew=W at hlow hT⊢;have hm:=h.step hlow;have d1:=hm.c1;go_wp2_with(go_at_call 42;refine(zW hm hL gL a (by omega)).mono ?_);rintro e w2 ⟨rfl,b2⟩;have hTl:=(qe.1 hT).1;have hT2:=(b2.block _ hTl).trans hT;have k4:w2.cell? ⟨w.heap.size,4,none⟩=some (Z 0):=by rw[Lib.cell_of_heap hT2];rfl
  have k5:w2.cell? ⟨w.heap.size,5,none⟩=some (Z 0):=by rw[Lib.cell_of_heap hT2];rfl
  have f4:w2.frozen? ⟨w.heap.size,4,none⟩=false:=Lib.frozen_of_heap hT2 4;have f5:w2.frozen? ⟨w.heap.size,5,none⟩=false:=Lib.frozen_of_heap hT2 5;have hl3:Below w.heap.size w ((w2.setCell ⟨w.heap.size,4,none⟩ (Z (vE ls a))).setCell ⟨w.heap.size,5,none⟩ (Z (vF ls a))):=((hlow.trans (b2.mono (by omega))).setCell (p:=⟨w.heap.size,4,none⟩) (qa _) _).setCell (p:=⟨w.heap.size,5,none⟩) (qa _) _;have hT3:=Lib.heap_setCell_same (i:=5) (Lib.heap_setCell_same (i:=4) hT2 (Z (vE ls a))) (Z (vF ls a));clear d1 ne0 ne1 ne3 c0 c1 c3;go_wp2;generalize hW3:(w2.setCell ⟨w.heap.size,4,none⟩ (Z (vE ls a))).setCell ⟨w.heap.size,5,none⟩ (Z (vF ls a))=W3 at hl3 hT3⊢;clear k4 k5 f4 f5 hT2 hW3 hT hTl hm hW;simp only[List.setIfInBounds_toArray,List.set_cons_succ,List.set_cons_zero]at hT3;have hm3:=h.step hl3;have d3:=hm3.c3;have d1:=hm3.c1;have g1:=hm3.fz 1;have g3:=hm3.fz 3;have t0:W3.cell? ⟨w.heap.size,0,none⟩=some (Z kd):=by rw[Lib.cell_of_heap hT3];rfl
  have t1:W3.cell? ⟨w.heap.size,1,none⟩=some (.string (s.extract a b)):=by rw[Lib.cell_of_heap hT3];rfl
  have t2:W3.cell? ⟨w.heap.size,2,none⟩=some (Z v):=by rw[Lib.cell_of_heap hT3];rfl
  have t3:W3.cell? ⟨w.heap.size,3,none⟩=some (.string tx):=by rw[Lib.cell_of_heap hT3];rfl
  have t4:W3.cell? ⟨w.heap.size,4,none⟩=some (Z (vE ls a)):=by rw[Lib.cell_of_heap hT3];rfl
  have t5:W3.cell? ⟨w.heap.size,5,none⟩=some (Z (vF ls a)):=by rw[Lib.cell_of_heap hT3];rfl
  have t6:W3.cell? ⟨w.heap.size,6,none⟩=some (.bool (decide (0<n))):=by rw[Lib.cell_of_heap hT3];rfl
  have hB3:=hm3.hB;have hpush:=fun(w5:World)(g cap:Nat)(hown1:w5.ownsRow B 59 7 (.slice (some ⟨g,0,none⟩) (n+1) cap) (n+1) (xs++aX.cells ⟨kd,s.extract a b,v,tx,vE ls a,vF ls a,(decide (0<n))⟩))(hgr:((W3.drew).alloc (.cells #[Z kd,.string (s.extract a b),Z v,.string tx,Z (vE ls a),Z (vF ls a),.bool (decide (0<n))] 59)).grownBy w5 (Value.slice ao n cp).ownBlock)=>((hm3.step (((qb _ _).drew).alloc (qa _) _)).push hgr hown1).at b;have ownX:(Value.slice ao n cp).ownBlock≠some X:=kE hm3.own hm3.blk (by intro cs fr hc;injection hc with _ h2 _;exact absurd h2 (by decide));have hm4:=hm3.step (((qb _ _).drew).alloc (qa _) (.cells #[Z kd,.string (s.extract a b),Z v,.string tx,Z (vE ls a),Z (vF ls a),.bool (decide (0<n))] 59));have hX5:∀w5:World,((W3.drew).alloc (.cells #[Z kd,.string (s.extract a b),Z v,.string tx,Z (vE ls a),Z (vF ls a),.bool (decide (0<n))] 59)).grownBy w5 (Value.slice ao n cp).ownBlock->w5.heap[X]?=some _:=fun w5 hgr=>(hgr.block X hm4.lt (fun e=>ownX e.symm)).trans hm4.blk;have hXl3:=hm3.lt;have neX:=qqd W3 _ d3;have neT:=qqd W3 _ t0;have own3:=hm3.own;clear hm3 hl3 hT3 h hm4
  go_region_law ((refine step_append_lies _ (by rfl) _ _ _ (by rfl) B 59 i0 _ 7 72 Tryz.underlying39 hi hz0 hz1 hz2 rfl (by omega) (.slice ao n cp) n xs (by rfl) (World.ownsRow.alloc (w:=W3.drew) own3 _) ⟨W3.heap.size,0,none⟩ 1 1 (aX.cells ⟨kd,s.extract a b,v,tx,vE ls a,vF ls a,(decide (0<n))⟩) (by rfl) (by rfl) (World.news_of_block (cs:=(aX.cells ⟨kd,s.extract a b,v,tx,vE ls a,vF ls a,(decide (0<n))⟩).toArray) (t:=59) (fr:=(0,0)) (qd _ _)) (by simp[Value.oneCell',aX.cells]) (by omega) (by simp only[maxLen];omega) (by omega) (by simp;omega) (W3.heap.size+1) (by simp) ?_;intro gg cap w5 hown1 hgrow hat hlt;have hx5:=hX5 _ hgrow;have q3:=Lib.cell_of_heap hx5 3;have q1:=Lib.cell_of_heap hx5 1;have r3:=Lib.frozen_of_heap hx5 3;have r1:=Lib.frozen_of_heap hx5 1;simp only[List.getElem?_toArray,List.getElem?_cons_succ,List.getElem?_cons_zero]at q3 q1;have hfin:=hpush w5 gg cap hown1 hgrow;clear hx5 hgrow hown1 hat hlt))
  all_goals go_end0
  all_goals exact⟨rfl,_,hfin⟩
end
section
variable{B X:Nat}{ks:List (Nat×Obj)}{s:ByteArray}{lines:Value}{lv:Value}{n:Nat}{xs:List Value}{wr:Int}{w0 w:World}
theorem oN{a:Nat}(h:iQ B X ks s lines a lv n xs 0 wr w0 w)(ha:a<s.size)(hc:fF s[a].toNat=false)(j:Bool) :
  Calls Tryz.prog 81 #[.pointer (some ⟨X,0,none⟩),.bool j] w fun r w'=>r=.returned (.bool false)/\Below w.heap.size w w':=by
 have c0:=h.c0;have c1:=h.c1;clear h;have ha0:(0:Int)<=(a:Int):=by omega
 have ha':(a:Int)<s.size:=by omega
 go_enter Tryz.func81,Tryz.ntmps81;go_wp2
 go_quiet ((go_at_call 117;refine Calls.quiet_of_same (qH s[a].toNat _ hc)))
 go_wp2;go_ret;exact⟨rfl,cJ (qb _ _) _⟩
theorem pD{a:Nat}(h:iQ B X ks s lines a lv n xs 0 wr w0 w)(ha:a<s.size)(hc:dN s[a].toNat=false)(j:Bool) :
  Calls Tryz.prog 82 #[.pointer (some ⟨X,0,none⟩),.bool j] w fun r w'=>r=.returned (.bool false)/\Below w.heap.size w w':=by
 have c0:=h.c0;have c1:=h.c1;clear h;have ha0:(0:Int)<=(a:Int):=by omega
 have ha':(a:Int)<s.size:=by omega
 go_enter Tryz.func82,Tryz.ntmps82;go_wp2
 go_quiet ((go_at_call 120;refine Calls.quiet_of_same (rC s[a].toNat _ hc)))
 go_wp2;go_ret;exact⟨rfl,cJ (qb _ _) _⟩
theorem LV{a:Nat}(h:iQ B X ks s lines a lv n xs 0 wr w0 w)(ha:a<s.size)(hc:¬((s[a].toNat:Nat):Int)=34)(j:Bool) :
  Calls Tryz.prog 83 #[.pointer (some ⟨X,0,none⟩),.bool j] w fun r w'=>r=.returned (.bool false)/\Below w.heap.size w w':=by
 have c0:=h.c0;have c1:=h.c1;clear h;have ha0:(0:Int)<=(a:Int):=by omega
 have ha':(a:Int)<s.size:=by omega
 go_enter Tryz.func83,Tryz.ntmps83;go_wp2
 go_quiet (fail)
 go_wp2;go_ret;exact⟨rfl,cJ (qb _ _) _⟩
variable{LN:Value}{ls:List Int}
theorem aB6{a:Nat}(h:iQ B X ks s LN a lv n xs 0 wr w0 w)(hL:jW LN ls ks)(gL:rY ls)(hsz:s.size<=1048576)(hn:n<=1048576)(ha:a<s.size)(hc:fF s[a].toNat=true)(b:Nat)(hu:yD hG s a b)(hlen:b<=a+64)(j:Bool) :
  Calls Tryz.prog 81 #[.pointer (some ⟨X,0,none⟩),.bool j] w fun r w'=>r=.returned (.bool true) /\
   ∃lv',iQ B X ks s LN b lv' (n+1) (xs++aX.cells ⟨1,s.extract a b,0,ByteArray.empty,vE ls a,vF ls a,j && decide (0<n)⟩) 0 wr w0 w':=by
 have c0:=h.c0;have c1:=h.c1;have hab:=hu.ab;have hbs:=hu.bs;have ha0:(0:Int)<=(a:Int):=by omega
 have ha':(a:Int)<s.size:=by omega
 have h64:(b:Int)-a<=64:=by omega
 have hw1:IntKind.i64.wrap ((b:Int)-a)=(b:Int)-a:=IntWalk.i64_in _ (by omega);go_enter Tryz.func81,Tryz.ntmps81;go_wp2
 go_quiet ((go_at_call 117;refine Calls.quiet_of_same (qH s[a].toNat _ hc)))
 have hm:=h.step (cJ (qb _ _) nq);generalize w.drewN nq=W at hm⊢;have d0:=hm.c0;have d1:=hm.c1;clear c0 c1 h;go_wp2_with(first
  |(go_at_call 118;refine(G4 X s a b _ d0 hsz hu).mono ?_;rintro e w2 ⟨rfl,rfl⟩)
  |(go_at_call 86;refine(tL hm hL gL hsz hn b hab hbs 1 0 ByteArray.empty j).mono ?_))
 rintro e w3 ⟨rfl,lv',hS⟩;go_wp2;go_ret;exact⟨rfl,lv',hS⟩
theorem aB7(s:ByteArray)(n:Int)(hl:s.size<=18)(h:Lib.atoi s.data.toList=some n)(w:World) :
  Calls Tryz.prog 121 #[.string s] w fun e w'=>e=.returned (.tuple #[Z n,.nilIface])/\Below w.heap.size w w':=by
 refine(Tryz.strconv_Atoi s n hl h w).mono ?_;rintro e w' ⟨rfl,t,rfl⟩;exact⟨rfl,Go.Joins.below_bytesWorld _ _ _ _ (qa _)⟩
theorem UK{a:Nat}(h:iQ B X ks s LN a lv n xs 0 wr w0 w)(hL:jW LN ls ks)(gL:rY ls)(hsz:s.size<=1048576)(hn:n<=1048576)(ha:a<s.size)(hc:dN s[a].toNat=true)(b:Nat)(hu:yD dN s a b)(hlen:b<=a+15)(v:Int)(hv:Lib.atoi (s.extract a b).data.toList=some v)(j:Bool) :
  Calls Tryz.prog 82 #[.pointer (some ⟨X,0,none⟩),.bool j] w fun r w'=>r=.returned (.bool true) /\
   ∃lv',iQ B X ks s LN b lv' (n+1) (xs++aX.cells ⟨2,s.extract a b,v,ByteArray.empty,vE ls a,vF ls a,j && decide (0<n)⟩) 0 wr w0 w':=by
 have c0:=h.c0;have c1:=h.c1;have hab:=hu.ab;have hbs:=hu.bs;have ha0:(0:Int)<=(a:Int):=by omega
 have hb0:(0:Int)<=(b:Int):=by omega
 have hab':(a:Int)<=(b:Int):=by omega
 have hbs':(b:Int)<=(s.size:Int):=by omega
 have ha':(a:Int)<s.size:=by omega
 have h64:(b:Int)-a<=15:=by omega
 have hw1:IntKind.i64.wrap ((b:Int)-a)=(b:Int)-a:=IntWalk.i64_in _ (by omega);have hl:(s.extract a b).size<=18:=by rw[qqh];omega
 go_enter Tryz.func82,Tryz.ntmps82;go_wp2
 go_quiet ((go_at_call 120;refine Calls.quiet_of_same (rC s[a].toNat _ hc)))
 have hm:=h.step (cJ (qb _ _) nq);generalize w.drewN nq=W at hm⊢;have d0:=hm.c0;have d1:=hm.c1;have hst:∀w':World,Below W.drew.heap.size W.drew w'->iQ B X ks s LN a lv n xs 0 wr w0 w':=fun w' b1=>hm.step ((qb W.heap.size W).drew.trans b1);clear c0 c1 h;go_wp2_with(first
  |(go_at_call 118;refine(LU X s a b _ d0 hsz hu).mono ?_;rintro e w2 ⟨rfl,rfl⟩))
 go_region_held3 (fun w'=>w'.cell? ⟨X,0,none⟩=some (.string s)/\w'.cell? ⟨X,1,none⟩=some (Z a)) (go_keep) (first |(go_at_call 121;refine(aB7 (s.extract a b) v hl hv _).mono ?_;rintro e w' ⟨rfl,b1⟩;have hS1:=hst _ b1;have q0:=hS1.c0;have q1:=hS1.c1))
 clear d0 d1 hm;go_wp2_with(first
  |(go_at_call 86;refine(tL hS1 hL gL hsz hn b hab hbs 2 v ByteArray.empty j).mono ?_))
 rintro e w3 ⟨rfl,lv',hS⟩;go_wp2;go_ret;exact⟨rfl,lv',hS⟩
end
section
variable{B X:Nat}{ks:List (Nat×Obj)}{s:ByteArray}{lines:Value}{lv:Value}{n:Nat}{xs:List Value}{wr:Int}{w0 w:World}
theorem RQ{a:Nat}(h:iQ B X ks s lines a lv n xs 0 wr w0 w)(hsz:s.size<=1048576)(ha:a<s.size)(hc:dN s[a].toNat=true)(b:Nat)(hu:yD dN s a b)(hlen:a+15<b)(j:Bool) :
  Calls Tryz.prog 82 #[.pointer (some ⟨X,0,none⟩),.bool j] w fun r w'=>r=.returned (.bool true)/\iQ B X ks s lines a lv n xs 5 a w0 w':=by
 have c0:=h.c0;have c1:=h.c1;have hab:=hu.ab;have hbs:=hu.bs;have ha0:(0:Int)<=(a:Int):=by omega
 have ha':(a:Int)<s.size:=by omega
 have h64:(15:Int)<(b:Int)-a:=by omega
 have hw1:IntKind.i64.wrap ((b:Int)-a)=(b:Int)-a:=IntWalk.i64_in _ (by omega);go_enter Tryz.func82,Tryz.ntmps82;go_wp2
 go_quiet ((go_at_call 120;refine Calls.quiet_of_same (rC s[a].toNat _ hc)))
 have hm:=h.step (cJ (qb _ _) nq);generalize w.drewN nq=W at hm⊢;have d0:=hm.c0;have d1:=hm.c1;clear c0 c1 h;go_wp2_with(first
  |(go_at_call 118;refine(LU X s a b _ d0 hsz hu).mono ?_;rintro e w2 ⟨rfl,rfl⟩)
  |(go_at_call 87;refine(oM hm a 5).mono ?_))
 rintro e w3 ⟨rfl,hS⟩;go_wp2;go_ret;exact⟨rfl,hS⟩
def mD:List UInt8:=[33,35,36,38,39,40,41,42,43,44,45,46,47,58,59,60,61,62,63,64,91,92,93,94,95,123,124,125,126]
theorem D5(c:Nat)(_hc:c<256)(k:Int)(hk:Lib.indexByte mD c.toUInt8=k)(w:World) :
  Calls Tryz.prog 127 #[.string ⟨mD.toArray⟩,.int .u8 c] w fun e w'=>e=.returned (Z k)/\w'=w:=by
 have:=Tryz.strings_IndexByte ⟨mD.toArray⟩ (c:Int) w;rw[<-hk];simpa using this
variable{LN:Value}{ls:List Int}
theorem UL{a:Nat}(h:iQ B X ks s LN a lv n xs 0 wr w0 w)(hL:jW LN ls ks)(gL:rY ls)(hsz:s.size<=1048576)(hn:n<=1048576)(ha:a<s.size)(hc:0<=Lib.indexByte mD s[a].toNat.toUInt8)(j:Bool) :
  Calls Tryz.prog 84 #[.pointer (some ⟨X,0,none⟩),.bool j] w fun r w'=>r=.returned (.bool true) /\
   ∃lv',iQ B X ks s LN (a+1:Nat) lv' (n+1) (xs++aX.cells ⟨4,s.extract a (a+1),0,ByteArray.empty,vE ls a,vF ls a,j && decide (0<n)⟩) 0 wr w0 w':=by
 have c0:=h.c0;have c1:=h.c1;have ha0:(0:Int)<=(a:Int):=by omega
 have ha':(a:Int)<s.size:=by omega
 obtain⟨k,hk⟩:∃k,Lib.indexByte mD s[a].toNat.toUInt8=k:=⟨_,rfl⟩;rw[hk]at hc;have hcz:=D5 s[a].toNat s[a].toNat_lt k hk;have e1:((a+1:Nat):Int)=(a:Int)+1:=by omega
 go_enter Tryz.func84,Tryz.ntmps84;go_wp2
 go_quiet ((go_at_call 127;refine Calls.quiet_of_same (hcz _)))
 have hm:=h.step (cJ (qb _ _) nq);generalize w.drewN nq=W at hm⊢;have d0:=hm.c0;have d1:=hm.c1;have hadd:=tL hm hL gL hsz hn (a+1) (by omega) (by omega) 4 0 ByteArray.empty j;rw[e1]at hadd;clear c0 c1 h;go_wp2_with(first
  |(go_at_call 86;refine hadd.mono ?_))
 rintro e w3 ⟨rfl,lv',hS⟩;go_wp2;go_ret;refine⟨rfl,lv',?_⟩;rw[e1];exact hS
end
end Go.Proofs.YtgkhemnmcgicnaaGreatDoor
