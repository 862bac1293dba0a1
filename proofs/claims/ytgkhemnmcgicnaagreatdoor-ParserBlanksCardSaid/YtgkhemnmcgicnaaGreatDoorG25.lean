/- Towards the law ParserBlanks, true for every text and all blanks (no condition): one part of the proof. -/
import Derived.Test.YtgkhemnmcgicnaaGreatDoorG01
import Derived.Test.YtgkhemnmcgicnaaGreatDoorG24
import Derived.RangeFuncNested
import Derived.RangeFuncBound
import Derived.RangeFuncCalls
import Derived.RangeFuncLeaves
import Derived.Shelf.Abstract
import Derived.Shelf.RegionOpen
import Derived.WalkKit
import Derived.OwnWalkIn
import Derived.TacticsInMore
import Derived.LoopNIn
import Derived.LoopIn
namespace Go.Proofs.YtgkhemnmcgicnaaGreatDoor
set_option maxRecDepth 1000000
open Go.RowKit Go.Shelf Go.Dam
attribute [local go_sem] Oper.semAt_some
def qM(v:Int×Int):Value:=.agg #[Z v.1,Z v.2]
def PR(s:ByteArray)(r:(Int×Int)×Int):Prop:=∀w,AE w->Calls Tryz.prog 67 #[.string s] w fun e w'=>e=.returned (.tuple #[qM r.1,Z r.2])/\Below w.heap.size w w'
def xK(k:Nat):Int×Int:=(((k / 4:Nat):Int)-1,((k % 4:Nat):Int))
theorem aBG{a i:Nat}(hi:i<4):xK (4*a+i)=((a:Int)-1,(i:Int)):=by
 unfold xK;rw[show(4*a+i) / 4=a by omega,show(4*a+i) % 4=i by omega]
def TD(x:Int×Int)(t:ByteArray):Prop:=t.size<=100/\∀w,AE w->Calls Tryz.prog 113 #[qM x] w fun e w'=>e=.returned (.tuple #[.string t,Z 0])/\Below w.heap.size w w'
def yG(d:Nat):ByteArray:=⟨(List.replicate d 46).toArray⟩
def aHM(k:Nat):ByteArray :=
 ⟨(((if k / 4=0 then [98]else if k / 4=1 then [49]else if k / 4=2 then [50]else if k / 4=3 then [52]else if k / 4=4 then [56]else if k / 4=5 then [49,54]else if k / 4=6 then [51,50]else [54,52])++List.replicate (k % 4) 46:List UInt8)).toArray⟩
theorem YJ:(List.range 32).all (fun k=>BV 113 [qM (xK k)] (.tuple #[.string (aHM k),Z 0]))=true:=by kernel_rfl
theorem PT:(List.range 40).all (fun k=>BV 150 [qM (xK k)] (Z 0))=true:=by kernel_rfl
theorem aFF:(List.range 4).all (fun d=>BV 151 [.string ⟨#[46]⟩,Z (d:Nat)] (.string (yG d)))=true:=by kernel_rfl
set_option maxHeartbeats 4000000
attribute [local go_sem] Oper.semAt_some
theorem TB{k:Nat}(hk:k<40)(w:World):Calls Tryz.prog 150 #[qM (xK k)] w fun e w'=>e=.returned (Z 0)/\Below w.heap.size w w' :=
 mR (args:=[qM (xK k)]) rfl rfl (qqm.1 PT k (List.mem_range.2 hk)) w
theorem YD{d:Nat}(hd:d<4)(w:World):Calls Tryz.prog 151 #[.string ⟨#[46]⟩,Z (d:Nat)] w fun e w'=>e=.returned (.string (yG d))/\Below w.heap.size w w' :=
 mR (args:=[.string ⟨#[46]⟩,Z (d:Nat)]) rfl rfl (qqm.1 aFF d (List.mem_range.2 hd)) w
theorem YE(n:Int)(h0:0<=n)(h1:n<=256)(w:World)(g:AE w):Calls Tryz.prog 147 #[Z n] w fun e w'=>e=.returned (.string (gN n))/\Below w.heap.size w w':=by
 refine(Tryz.strconv_Itoa n (by omega) (by omega) w g.tab).mono ?_;rintro e w' ⟨rfl,k,os,rfl⟩;exact⟨rfl,Lib.below_grow _ _ (qa _) _ _⟩
theorem K3(lg:Int)(d:Nat)(pw:Int)(hd:d<4)(hl:(lg=7/\pw=128)\/(lg=8/\pw=256))(k:Nat)(hk:k<40)(hv:xK k=(lg,(d:Int)))(w:World)(g:AE w) :
  Calls Tryz.prog 113 #[qM (xK k)] w fun e w'=>e=.returned (.tuple #[.string (gN pw++yG d),Z 0])/\Below w.heap.size w w':=by
 have hsz:(gN pw).size<=20/\(yG d).size<=3:=by
  refine⟨?_,?_⟩
  ·rcases hl with⟨-,rfl⟩ |⟨-,rfl⟩<;>decide +kernel
  ·unfold yG;simp[ByteArray.size];omega
 have xc:=fun W=>TB hk W;rw[hv]at xc⊢;simp only[qM]at xc⊢;have hadd:=FE (gN pw) (yG d) (by omega) (by omega);have b0:=(qb w.heap.size w).alloc (qa _) (.cells #[Z lg,Z (d:Nat)] 26);have hB:=qd w (.cells #[Z lg,Z (d:Nat)] 26);obtain⟨k0,k1,-,-⟩:=bL hB;go_enter Tryz.func113,Tryz.ntmps113;go_wp2_with(go_at_call 150;(with_reducible refine(xc _).mono ?_));rintro r w1 ⟨rfl,b1⟩;have hB1:=(b1.block _ (aA hB)).trans hB;obtain⟨q0,q1,-,-⟩:=bL hB1;have b01:=b0.trans (b1.mono b0.size);have xi:=YE pw (by omega) (by omega) w1 (g.stay b01);clear xc k0 k1 hB b1;rcases hl with⟨rfl,rfl⟩ |⟨rfl,rfl⟩;all_goals
  go_wp2_with(go_at_call 147;(with_reducible refine xi.mono ?_));rintro r w2 ⟨rfl,b2⟩;have hB2:=(b2.block _ (aA hB1)).trans hB1;obtain⟨p0,p1,-,-⟩:=bL hB2;have b02:=b01.trans (b2.mono b01.size);have xr:=YD hd w2;clear xi q0 q1 hB1 b2;go_wp2_with(go_at_call 151;(with_reducible refine xr.mono ?_));rintro r w3 ⟨rfl,b3⟩;go_wp2;refine qg (qqb rfl _ _ _) rfl ?_;exact⟨rfl,b02.trans (b3.mono b02.size)⟩
theorem aFD(k:Nat)(hk:k<40):∃t,TD (xK k) t:=by
 by_cases h:k<32
 ·refine⟨aHM k,?_,fun w _=>mR (args:=[qM (xK k)]) rfl rfl (qqm.1 YJ k (List.mem_range.2 h)) w⟩;have:∀j<32,(aHM j).size<=100:=by decide +kernel
  exact this k h
 ·have h4:k % 4<4:=Nat.mod_lt _ (by decide);have hv:xK k=(((k / 4:Nat):Int)-1,((k % 4:Nat):Int)):=rfl;rcases(by omega:k / 4=8\/k / 4=9)with h8|h8
  ·refine⟨gN 128++yG (k % 4),?_,fun w g=>K3 7 (k % 4) 128 h4 (.inl ⟨rfl,rfl⟩) k hk (by rw[hv,h8];rfl) w g⟩;have:∀j<4,(gN 128++yG j).size<=100:=by decide +kernel
   exact this _ h4
  ·refine⟨gN 256++yG (k % 4),?_,fun w g=>K3 8 (k % 4) 256 h4 (.inr ⟨rfl,rfl⟩) k hk (by rw[hv,h8];rfl) w g⟩;have:∀j<4,(gN 256++yG j).size<=100:=by decide +kernel
   exact this _ h4
open Classical in
noncomputable def rP(x:Int×Int):ByteArray:=if h:∃t,TD x t then Classical.choose h else ByteArray.empty
theorem aBF(k:Nat)(hk:k<40):TD (xK k) (rP (xK k)):=by
 have h:=aFD k hk;unfold rP;rw[dif_pos h];exact Classical.choose_spec h
def rQ(k:Nat):List (Fin 40):=(List.finRange 40).take k
theorem TC(k:Nat)(h:k<40):rQ (k+1)=rQ k++[⟨k,h⟩]:=by
 unfold rQ;rw[List.take_add_one,qr (by simpa using h)];simp
theorem YF(k:Nat)(h:k<=40):(rQ k).length=k:=by unfold rQ;simp;omega
theorem K4{k:Nat}{x:Fin 40}(h:x.1<k):x∈rQ k:=by
 unfold rQ;refine List.mem_iff_getElem?.2 ⟨x.1,?_⟩;rw[List.getElem?_take_of_lt h,qr (by simp)];simp
def aFE(k:Fin 40):Array Value:=#[qM (xK k.1)]
theorem YG(F:Fence)(n:Nat)(h6:F.fn 149)(hro:F.round=none)(hn:1<=n)(l:Nat)(J Jx:List (Fin 40)->World->Prop)
  (hY:∀pre x W,J pre W->pre.length<40->YieldAt F (n-1) Tryz.prog l (aFE x) W fun e W' =>
   (e=.returned (.bool true)/\J (pre++[x]) W'/\KeepsWalks W W')\/(e=.returned (.bool false)/\Jx (pre++[x]) W'))
  (W:World) (h0:J [] W) :
  CallsIn F n Tryz.prog 149 #[.func (.yield l) #[] #[]] W fun e W'=>(∃v,e=.returned v)/\((∃ys,ys=rQ 40/\J ys W')\/(∃pre,(∃(k:Nat)(h:k<40),pre=rQ k++[⟨k,h⟩])/\Jx pre W')):=by
 refine callsIn_of_wp Tryz.func149 rfl h6 ?_ hro;simp only[Tryz.ntmps149,List.size_toArray,qk,qql,Nat.reduceAdd,Nat.reduceSub,Array.replicate_succ,Array.replicate_zero,List.push_toArray,List.append_toArray,List.nil_append,List.cons_append]
 gi_wp2
 gi_loopw [2] (fun p wr=>∃a:Nat,a<=10/\p=Z ((a:Int)-1)/\J (rQ (4*a)) wr) (fun p _=>(9-intOf p).toNat)
 case atStart=>exact⟨0,by omega,rfl,h0⟩
 case round =>
  obtain⟨a,ha,rfl,hJ⟩:=hrel;by_cases h9:a=10
  ·subst h9
   gi_wp2
   go_end0
   exact⟨⟨_,rfl⟩,.inl ⟨_,rfl,hJ⟩⟩
  ·have hle:((a:Int)-1<=8):=by omega
   gi_wp2
   gi_loopw [8] (fun p wr=>∃i:Nat,i<=4/\p=Z (i:Int)/\J (rQ (4*a+i)) wr) (fun p _=>(4-intOf p).toNat)
   case atStart=>exact⟨0,by omega,rfl,hJ⟩
   case round =>
    obtain⟨i,hi,rfl,hJi⟩:=hrel;by_cases h4:i=4
    ·subst h4
     gi_wp2
     go_roundw
     case rel=>exact⟨a+1,by omega,by congr 1;omega,by rw[show 4*(a+1)=4*a+4 by omega];exact hJi⟩
     case measure=>simp[intOf];omega
    ·have hlt:(i:Int)<4:=by omega
     have hx:=aBG (a:=a) (i:=i) (by omega);obtain⟨fn,tmps,assign,body,hy,hR⟩:=hY (rQ (4*a+i)) ⟨4*a+i,by omega⟩ _ hJi (by rw[YF _ (by omega)];omega);simp only[aFE]at hy;rw[hx]at hy;simp only[qM]at hy
     gi_wp2
     refine hR.mono ?_;rintro e W3 (⟨rfl,hJ3,hk3⟩ |⟨rfl,hJx3⟩)
     ·gi_wp2
      go_roundw
      case rel=>exact⟨i+1,by omega,by congr 1,by rw[<-Nat.add_assoc,TC _ (by omega)];exact hJ3⟩
      case measure=>simp[intOf];omega
     ·gi_wp2
      refine qg (results_none rfl _ _ _) rfl ?_;exact⟨⟨_,rfl⟩,.inr ⟨_,⟨4*a+i,by omega,rfl⟩,hJx3⟩⟩
theorem MH(F:Fence)(n:Nat)(h6:F.fn 149)(hro:F.round=none)(hn:1<=n)(w:World) :
  SeqStopsK F n Tryz.prog 149 #[] aFE KeepsWalks (fun ys=>ys=rQ 40) (fun pre=>∃(k:Nat)(h:k<40),pre=rQ k++[⟨k,h⟩]) 40 w:=fun l J Jx W _ _ _ hY h0 =>
 YG F n h6 hro hn l J Jx hY W h0
theorem YH(w:World):Calls Tryz.prog 112 #[] w fun e w'=>e=.returned (.func (.func 149) #[] #[])/\w'=w:=by
 go_enter Tryz.func112,Tryz.ntmps112;go_wp2;go_ret;exact⟨rfl,rfl⟩
set_option maxHeartbeats 8000000
attribute [local go_sem] Oper.semAt_some
theorem Tryz.sizeVal0:(Tryz.prog.info? 26).map (·.size)=some 2:=by kernel_rfl
theorem aHK{w:World}{k:Nat}{v:Value}(h:w.cell? ⟨k,0,none⟩=some v):(loadVar 32 ⟨k,0,none⟩).run Tryz.prog w=.ok v w:=by
 unfold loadVar;simp[Result.andThen,go_sem,h]
theorem xJ{w:World}{tmps:Array Value}{g k:Nat}{a b v:Value}(hp:tmps.getD 2 undef=.pointer (some ⟨g,0,none⟩))(hq:tmps.getD 3 undef=.pointer (some ⟨k,0,none⟩))(hg:w.heap[g]?=some (.cells #[a,b] 26 (0,0)))(hk:w.cell? ⟨k,0,none⟩=some v) :
  (results Tryz.f67 tmps).run Tryz.prog w=.ok (.tuple #[.agg #[a,b],v]) w:=by
 have hp':tmps[2]?.getD undef=.pointer (some ⟨g,0,none⟩):=by simpa using hp
 have hq':tmps[3]?.getD undef=.pointer (some ⟨k,0,none⟩):=by simpa using hq
 have h:Tryz.f67.results=#[.cell 2 26,.cell 3 32]:=rfl;simp[results,hp',hq',asAddr,run_loadVar_row w g 26 26 #[a,b] (0,0) _ hg Tryz.underlying26 rfl Tryz.sizeVal0,Result.andThen,aHK hk]
section
variable{w:World}{s:ByteArray}
structure D3(B:Nat)(s:ByteArray)(a b c:Int)(w:World):Prop where
 s:Boxed w B 9 (.string s)
 v:w.heap[B+1]?=some (.cells #[Z a,Z b] 26 (0,0))
 e:Boxed w (B+2) 32 (Z c)
theorem aBD(w:World)(s:ByteArray)(c:Int):D3 w.heap.size s 0 0 c (((w.alloc (.cells #[.string s] 9)).alloc (.cells #[Z 0,Z 0] 26)).alloc (.cells #[Z c] 32)):=by
 have e1:(w.alloc (.cells #[.string s] 9)).heap.size=w.heap.size+1:=by simp
 have e2:((w.alloc (.cells #[.string s] 9)).alloc (.cells #[Z 0,Z 0] 26)).heap.size=w.heap.size+2:=by simp
 refine⟨((Boxed.new w 9 (.string s)).alloc _).alloc _,?_,?_⟩
 ·have:=qd (w.alloc (.cells #[.string s] 9)) (.cells #[Z 0,Z 0] 26);rw[e1]at this;exact(Lib.alloc_old _ _ _ (by rw[e2];omega)).trans this
 ·have:=Boxed.new ((w.alloc (.cells #[.string s] 9)).alloc (.cells #[Z 0,Z 0] 26)) 32 (Z c);rw[e2]at this;exact this
theorem D3.facts{B:Nat}{a b c:Int}(h:D3 B s a b c w):w.cell? ⟨B,0,none⟩=some (.string s)/\w.cell? ⟨B+1,0,none⟩=some (Z a)/\w.cell? ⟨B+1,1,none⟩=some (Z b)/\w.cell? ⟨B+2,0,none⟩=some (Z c)/\w.frozen? ⟨B+1,0,none⟩=false/\w.frozen? ⟨B+1,1,none⟩=false/\w.frozen? ⟨B+2,0,none⟩=false:=by
 obtain⟨h1,h2,h3,h4⟩:=bL h.v;exact⟨h.s.cell,h1,h2,h.e.cell,h3,h4,h.e.frozen⟩
theorem D3.put{B:Nat}{a b c:Int}(h:D3 B s a b c w)(a' b' c':Int):D3 B s a' b' c' (((w.setCell ⟨B+1,0,none⟩ (Z a')).setCell ⟨B+1,1,none⟩ (Z b')).setCell ⟨B+2,0,none⟩ (Z c')):=by
 have o:∀(W:World)(p i:Nat)(v:Value)(k:Nat),k≠p->(W.setCell ⟨p,i,none⟩ v).heap[k]?=W.heap[k]?:=fun W p i v k hk=>qh W ⟨p,i,none⟩ v k hk;refine⟨?_,?_,?_⟩
 ·show _=_;rw[o _ _ _ _ _ (by omega),o _ _ _ _ _ (by omega),o _ _ _ _ _ (by omega)];exact h.s
 ·rw[o _ _ _ _ _ (by omega)];rw[Lib.heap_setCell_same (i:=1) (Lib.heap_setCell_same (i:=0) h.v (Z a')) (Z b')];rfl
 ·show _=_;rw[Lib.heap_setCell_same (i:=0) (((o _ _ _ _ _ (by omega)).trans (o _ _ _ _ _ (by omega))).trans (show _=_ from h.e)) (Z c')];rfl
theorem FG{β:Type}(B k:Nat)(cs:Array Value)(t:TypeId):OwnFrom B (fun(_:β)W=>W.heap[k]?=some (.cells cs t (0,0))):=fun _ X Y row hs hg hr =>
 (hg.block k (qe.1 hs).1 (fun e=>by
  obtain⟨_,o,ho,hc⟩:=hr k e.symm;rw[hs]at ho;cases ho;cases hc)).trans hs
theorem aBE{β:Type}(A B:Nat)(s:ByteArray)(a b c:Int):OwnFrom A (fun(_:β)W=>D3 B s a b c W):=fun x X Y row hs hg hr =>
 ⟨FG (β:=β) A B _ _ x X Y row hs.s hg hr,FG (β:=β) A (B+1) _ _ x X Y row hs.v hg hr,FG (β:=β) A (B+2) _ _ x X Y row hs.e hg hr⟩
theorem D3.step{B:Nat}{a b c:Int}(h:D3 B s a b c w){w':World}(bl:Below w.heap.size w w'):D3 B s a b c w' :=
 ⟨(bl.block _ (qe.1 h.s).1).trans h.s,(bl.block _ (qe.1 h.v).1).trans h.v,(bl.block _ (qe.1 h.e).1).trans h.e⟩
end
theorem K2(s:ByteArray)(c:Int)(hc:(s.size=0/\c=4)\/(6<s.size/\c=5)):PR s ((0,0),c):=fun w g=>by
 have D:=aBD w s c;have bb:=(((qb w.heap.size w).alloc (qa _) (.cells #[.string s] 9)).alloc (by simp) (.cells #[Z 0,Z 0] 26)).alloc (by simp;omega) (.cells #[Z c] 32);have hv:=D.v;have he:=D.e.cell;simp only[qM];rcases hc with⟨h,rfl⟩ |⟨h,rfl⟩
 ·have hemp:s.toList.isEmpty=true:=by
   rw[Go.ByteArray.toList_eq];have hl:=cG s;cases e:s.data.toList with
   |nil=>rfl
   |cons x r=>rw[e]at hl;simp at hl;omega
  clear g h;go_enter Tryz.func67,Tryz.ntmps67;go_wp2;refine qg (xJ (k:=w.heap.size+2) rfl rfl hv he) rfl ⟨rfl,bb⟩
 ·have hne:=eH (t:=s) (by omega);have hlen:(6:Int)<(s.size:Int):=by omega
  clear g;go_enter Tryz.func67,Tryz.ntmps67;go_wp2;refine qg (xJ (k:=w.heap.size+2) rfl rfl hv he) rfl ⟨rfl,bb⟩
theorem D3.turned{w:World}{s:ByteArray}{B:Nat}{a b c:Int}(h:D3 B s a b c w){D0:Nat}(hD:B+3<=D0)(o:Obj):D3 B s a b c (w.putObj D0 o) :=
 ⟨(World.putObj_heap_other (by omega)).trans h.s,(World.putObj_heap_other (by omega)).trans h.v,(World.putObj_heap_other (by omega)).trans h.e⟩
theorem uS{B:Nat}{W W':World}(b:Below W.heap.size W W'):KeepsFrom B W W':=⟨b.size,fun k _o _ h0 _=>(b.block k (aA h0)).trans h0⟩
theorem B8{W W':World}(b:Below W.heap.size W W'):KeepsWalks W W':=⟨b.size,fun k _o h0 _=>(b.block k (aA h0)).trans h0⟩
theorem PQ(s:ByteArray)(h0:s.size≠0)(h6:s.size<=6)(r:(Int×Int)×Int)(hr:(∃k,k<40/\rP (xK k)=s/\(∀j<k,rP (xK j)≠s)/\r=(xK k,0))\/((∀j<40,rP (xK j)≠s)/\r=((0,0),13))):PR s r:=fun w g=>by
 have hne:=eH (t:=s) (by omega);have hlen:¬(6:Int)<(s.size:Int):=by omega
 have hlen2:(s.size:Int)<=6:=by omega
 have D:=aBD w s 0;have bb:=(((qb w.heap.size w).alloc (qa _) (.cells #[.string s] 9)).alloc (by simp) (.cells #[Z 0,Z 0] 26)).alloc (by simp;omega) (.cells #[Z 0] 32);have hsz:(((w.alloc (.cells #[.string s] 9)).alloc (.cells #[Z 0,Z 0] 26)).alloc (.cells #[Z 0] 32)).heap.size=w.heap.size+3:=by simp
 obtain⟨v0,ev⟩:=r;simp only[qM];have HR:=aJ hr;clear hr;refine(callsIn_wide (n:=5)).1 ?_;refine callsIn_of_wp_marks Tryz.func67 rfl trivial ?_ rfl;simp only[Tryz.ntmps67,List.size_toArray,qk,qql,Nat.reduceAdd,Nat.reduceSub,Array.replicate_succ,Array.replicate_zero,List.push_toArray,List.append_toArray,List.nil_append,List.cons_append]
 gi_wp2_with (refine⟨trivial,?_⟩;gi_at_call 112;refine(callsIn_wide.2 (YH _)).mono ?_;rintro e w' ⟨rfl,rfl⟩)
 obtain⟨W0,hW0⟩:∃W0,((w.alloc (.cells #[.string s] 9)).alloc (.cells #[Z 0,Z 0] 26)).alloc (.cells #[Z 0] 32)=W0:=⟨_,rfl⟩;rw[hW0]at D bb hsz⊢;clear hW0;refine wpIn_rangeFunc_ownH rfl (by omega) (gf:=149) (lb:=#[]) rfl trivial (enters_of Tryz.func149 (by kernel_rfl) rfl)
  (MH Fence.wide _ trivial rfl (by omega) W0) walksK_t walksK_b (qb _ _) (fun _=>rfl)
  (fun pre W=>(D3 w.heap.size s 0 0 0 W/\Below w.heap.size w W)/\∀y∈pre,rP (xK y.1)≠s)
  (fun c pre W=>(∃p x,(c=.ret/\pre=p++[x]/\(∀y∈p,rP (xK y.1)≠s)/\rP (xK x.1)=s)/\D3 w.heap.size s (xK x.1).1 (xK x.1).2 0 W)/\Below w.heap.size w W)
  (OwnFrom.and (OwnFrom.and (aBE _ _ _ _ _ _) (ownFrom_below (qa _) (by omega))) (ownFrom_pure _ (fun pre:List (Fin 40)=>∀y∈pre,rP (xK y.1)≠s)))
  (fun c=>OwnFrom.and (fun pre X Y row hs hg hr=>by obtain⟨p,x,h1,h2⟩:=hs;exact⟨p,x,h1,aBE (β:=Unit) _ _ _ _ _ _ () X Y row h2 hg hr⟩) (ownFrom_below (qa _) (by omega)))
  ⟨⟨D,bb⟩,by simp⟩
  (fun x a' W=>∃Bx,w.heap.size+2<Bx/\W.heap[Bx]?=some (.cells #[Z (xK x.1).1,Z (xK x.1).2] 26 (0,0))/\a'={ tmps:=#[.string s,.pointer (some ⟨w.heap.size,0,none⟩),.pointer (some ⟨w.heap.size+1,0,none⟩),.pointer (some ⟨w.heap.size+1+1,0,none⟩),.pointer (some ⟨Bx,0,none⟩),undef,undef,.bool false,.string s,.bool false,undef,.bool false,.string s,Z s.size,.bool false,undef,.func (.func 149) #[] #[],.agg #[Z (xK x.1).1,Z (xK x.1).2],undef,undef,undef,undef,undef,undef,undef,undef,undef,undef],defers:=[] })
  (fun x a' _ X Y row hs hg hr=>by obtain⟨Bx,h1,h2,h3⟩:=hs;exact⟨Bx,h1,FG (β:=Unit) _ Bx _ _ () X Y row h2 hg hr,h3⟩)
  ?assign ?body ?done ?stop
 case assign =>
  rintro l pre x W K ⟨⟨hD,hB⟩,hp⟩ hK;simp only[aFE,qM]
  gi_wp2
  exact hK _ _ ((KeepsOthers.alloc _ _).from _) (KeepsOthers.alloc _ _).walks ⟨⟨hD.step ((qb _ W).alloc (qa _) _),hB.alloc hB.size _⟩,hp⟩ ⟨W.heap.size,Boxed.lt hD.e,qd W _,rfl⟩
 case body =>
  rintro l pre x a' W hl ⟨r,hr⟩ ⟨⟨hD,hB⟩,hp⟩ ⟨Bx,hBx,hX,rfl⟩ hlt;obtain⟨x0,x1,-,-⟩:=bL hX;have xt:=(aBF x.1 x.2).2 W (g.stay hB);simp only[qM]at xt;have h1':1<=5-1-1:=by omega
  gi_wp2_with (refine⟨trivial,?_⟩;gi_at_call 113;refine(CallsIn.inRound l (callsIn_wide.2 xt)).mono ?_;rintro e w1 ⟨rfl,b1⟩;have hD1:=hD.step b1;obtain⟨q1,q2,q3,q4,q5,q6,q7⟩:=hD1.facts;have hX1:=(b1.block _ (aA hX)).trans hX;obtain⟨y0,y1,-,-⟩:=bL hX1)
  ·rename_i he;have he2:rP (xK x.1)=s:=by
    have:=eq_of_beq he;rw[Go.ByteArray.toList_eq,Go.ByteArray.toList_eq]at this;exact ByteArray.ext (Array.ext' this)
   have hk:KeepsFrom W0.heap.size W w1:=uS b1;refine⟨(hk.trans (((KeepsOthers.setCell _ _ _).trans (KeepsOthers.setCell _ _ _)).from _)).trans ((KeepsOthers.setCell _ _ _).from _),⟨pre,x,⟨rfl,rfl,hp,he2⟩,hD1.put _ _ _⟩,(((hB.trans (b1.mono hB.size)).setCell (p:=⟨w.heap.size+1,0,none⟩) (by show w.heap.size<=w.heap.size+1;omega) _).setCell (p:=⟨w.heap.size+1,1,none⟩) (by show w.heap.size<=w.heap.size+1;omega) _).setCell (p:=⟨w.heap.size+2,0,none⟩) (by show w.heap.size<=w.heap.size+2;omega) _⟩
  ·rename_i he;refine⟨uS b1,B8 b1,⟨hD1,hB.trans (b1.mono hB.size)⟩,fun y hy => ?_⟩;rcases List.mem_append.1 hy with h|h
   ·exact hp y h
   ·obtain rfl:=qqq.1 h;intro e;rw[e]at he;simp at he
 case done =>
  rintro D0 xs W hD0 rfl ⟨⟨hD,hB⟩,hp⟩ hK;obtain⟨q1,q2,q3,q4,q5,q6,q7⟩:=hD.facts;have hv:(v0,ev)=((0,0),13):=by
   rcases HR.out with⟨k',hk',ht',hn',hr'⟩ |⟨hn',hr'⟩
   ·exact absurd ht' (hp ⟨k',hk'⟩ (K4 (by exact hk')))
   ·exact hr'
  simp only[qu]at hv;obtain⟨rfl,rfl⟩:=hv;have hD2:=hD.put 0 0 13;have hB2:=((hB.setCell (p:=⟨w.heap.size+1,0,none⟩) (by show w.heap.size<=w.heap.size+1;omega) (Z 0)).setCell (p:=⟨w.heap.size+1,1,none⟩) (by show w.heap.size<=w.heap.size+1;omega) (Z 0)).setCell (p:=⟨w.heap.size+2,0,none⟩) (by show w.heap.size<=w.heap.size+2;omega) (Z 13);have hK2:=((((KeepsOthers.setCell W ⟨w.heap.size+1,0,none⟩ (Z 0)).trans (KeepsOthers.setCell _ ⟨w.heap.size+1,1,none⟩ (Z 0))).trans (KeepsOthers.setCell _ ⟨w.heap.size+2,0,none⟩ (Z 13)))).same D0 _ hK rfl
  gi_wp2
  refine⟨by simp,.inl ⟨_,_,rfl,run_takeDeferred hK2,?_⟩⟩;have hD3:=hD2.turned (D0:=D0) (by omega) (.deferred none);exact⟨_,xJ (k:=w.heap.size+2) rfl rfl hD3.v hD3.e.cell,rfl,hB2.trans (belowK_b (w:=w) (qa _) _ D0 _ _ (by omega) hK2 rfl rfl)⟩
 case stop =>
  rintro D0 c pre W hD0 ⟨k,hk,rfl⟩ ⟨⟨p,x,⟨rfl,hpx,hp,ht⟩,hD⟩,hB⟩ hK;obtain⟨rfl,h2⟩:=List.append_inj' hpx rfl;obtain rfl:=(List.cons.inj h2).1;have hv:(v0,ev)=(xK k,0):=by
   rcases HR.out with⟨k',hk',ht',hn',hr'⟩ |⟨hn',hr'⟩
   ·rw[hr'];rcases Nat.lt_trichotomy k k' with h|h|h
    ·exact absurd ht (hn' k h)
    ·rw[h]
    ·exact absurd ht' (hp ⟨k',hk'⟩ (K4 h))
   ·exact absurd ht (hn' k hk)
  simp only[qu]at hv;obtain⟨rfl,rfl⟩:=hv
  gi_wp2
  refine⟨by simp,.inl ⟨_,_,rfl,run_takeDeferred hK,?_⟩⟩;have hD3:=hD.turned (D0:=D0) (by omega) (.deferred none);exact⟨_,xJ (k:=w.heap.size+2) rfl rfl hD3.v hD3.e.cell,rfl,hB.trans (belowK_b (w:=w) (qa _) _ D0 _ _ (by omega) hK rfl rfl)⟩
theorem aHL(s:ByteArray)(_hs:s.size<=281474976710656):∃r,PR s r:=by
 by_cases h0:s.size=0
 ·exact⟨_,K2 s 4 (.inl ⟨h0,rfl⟩)⟩
 by_cases h6:6<s.size
 ·exact⟨_,K2 s 5 (.inr ⟨h6,rfl⟩)⟩
 have key:∀n,n<=40->(∃k,k<n/\rP (xK k)=s/\∀j<k,rP (xK j)≠s)\/∀j<n,rP (xK j)≠s:=by
  intro n
  induction n with
  |zero=>exact fun _=>.inr fun j hj=>by omega
  |succ n ih =>
   intro hn;rcases ih (by omega)with⟨k,hk,h1,h2⟩|h
   ·exact .inl ⟨k,by omega,h1,h2⟩
   ·by_cases hs:rP (xK n)=s
    ·exact .inl ⟨n,by omega,hs,h⟩
    ·refine .inr fun j hj => ?_;rcases Nat.lt_or_ge j n with h'|h'
     ·exact h j h'
     ·obtain rfl:j=n:=by omega
      exact hs
 rcases key 40 (qa _)with⟨k,hk,h1,h2⟩|h
 ·exact⟨_,PQ s h0 (by omega) _ (.inl ⟨k,hk,h1,h2,rfl⟩)⟩
 ·exact⟨_,PQ s h0 (by omega) _ (.inr ⟨h,rfl⟩)⟩
end Go.Proofs.YtgkhemnmcgicnaaGreatDoor

namespace Go.Proofs.YtgkhemnmcgicnaaGreatDoor
set_option maxHeartbeats 4000000
set_option maxRecDepth 100000
open Go.RowKit
def LZ(s:ByteArray)(r:m9×Int×Int):Prop:=∀w,AE w->Calls Tryz.prog 111 #[.string s] w fun e w'=>e=.returned (.tuple #[JQ r.1,Z r.2.1,Z r.2.2])/\Below w.heap.size w w'
theorem ZX(s:ByteArray)(h:¬0<s.size):LZ s (zP,0,4):=fun w g=>by
 have hemp:s.toList.isEmpty=true:=by
  rw[Go.ByteArray.toList_eq];have hl:=cG s;cases e:s.data.toList with
  |nil=>rfl
  |cons x r=>rw[e]at hl;simp at hl;omega
 have hR:=qd w (.cells #[Z 0,Z 0,Z 0] 75);have b0:=(qb w.heap.size w).alloc (qa _) (.cells #[Z 0,Z 0,Z 0] 75);clear g h;go_enter Tryz.func111,Tryz.ntmps111;go_wp2;exact qg (lN rfl _ _ w.heap.size 75 _ (0,0) _ rfl hR Tryz.underlying75 rfl Tryz.sizePitch3) rfl ⟨rfl,b0⟩
theorem aDL(s:ByteArray)(h:0<s.size)(hc:Lib.indexByte pL.data.toList s[0]<0):LZ s (zP,0,6):=fun w g=>by
 have hne:=eH h;have hlen:(0:Int)<(s.size:Int):=by omega
 have hi:=fun w=>Tryz.strings_IndexByte pL ((s[0].toNat:Nat):Int) w;have e:((s[0].toNat:Nat):Int).toNat.toUInt8=s[0]:=by simp
 rw[e]at hi;generalize Lib.indexByte pL.data.toList s[0]=st at hi hc;simp only[pL]at hi;have hR:=qd w (.cells #[Z 0,Z 0,Z 0] 75);have b0:=(qb w.heap.size w).alloc (qa _) (.cells #[Z 0,Z 0,Z 0] 75);clear g e;go_enter Tryz.func111,Tryz.ntmps111;go_wp2_with(go_at_call 127;refine(hi _).mono ?_;rintro e w' ⟨rfl,rfl⟩);exact qg (lN rfl _ _ w.heap.size 75 _ (0,0) _ rfl hR Tryz.underlying75 rfl Tryz.sizePitch3) rfl ⟨rfl,b0⟩
open Classical in
theorem aJK(s:ByteArray)(hs:s.size<=281474976710656):∃r,LZ s r:=by
 by_cases h:0<s.size
 ·by_cases hc:Lib.indexByte pL.data.toList s[0]<0
  ·exact⟨_,aDL s h hc⟩
  ·have hi:=fun w=>Tryz.strings_IndexByte pL ((s[0].toNat:Nat):Int) w;have e:((s[0].toNat:Nat):Int).toNat.toUInt8=s[0]:=by simp
   rw[e]at hi;have key:∃r,r<=5/\(∀k,k<r->¬KX (s.extract 1 s.size) k)/\(r<5->KX (s.extract 1 s.size) r):=by
    by_cases h0:KX (s.extract 1 s.size) 0
    ·exact⟨0,by omega,fun k hk=>by omega,fun _=>h0⟩
    by_cases h1:KX (s.extract 1 s.size) 1
    ·exact ⟨1, by omega, fun k hk => by obtain rfl : k = 0 := by omega
                                        exact h0,fun _=>h1⟩
    by_cases h2:KX (s.extract 1 s.size) 2
    ·exact⟨2,by omega,fun k hk=>by rcases(by omega:k=0\/k=1)with rfl|rfl<;>assumption,fun _=>h2⟩
    by_cases h3:KX (s.extract 1 s.size) 3
    ·exact⟨3,by omega,fun k hk=>by rcases(by omega:k=0\/k=1\/k=2)with rfl|rfl|rfl<;>assumption,fun _=>h3⟩
    by_cases h4:KX (s.extract 1 s.size) 4
    ·exact⟨4,by omega,fun k hk=>by rcases(by omega:k=0\/k=1\/k=2\/k=3)with rfl|rfl|rfl|rfl<;>assumption,fun _=>h4⟩
    exact⟨5,by omega,fun k hk=>by rcases(by omega:k=0\/k=1\/k=2\/k=3\/k=4)with rfl|rfl|rfl|rfl|rfl<;>assumption,fun h=>by omega⟩
   obtain⟨r,hr5,hno,hit⟩:=key;have hst:0<=Lib.indexByte pL.data.toList s[0]:=by omega
   generalize Lib.indexByte pL.data.toList s[0]=st at hi hst;have go:∀(p:m9)(a e:Int),(if r<5 then(if sK ⟨st,(r:Int)-2,nK (s.extract 1 s.size) r⟩=0 then p=⟨st,(r:Int)-2,nK (s.extract 1 s.size) r⟩/\a=0/\e=0 else p=zP/\a=0/\e=sK ⟨st,(r:Int)-2,nK (s.extract 1 s.size) r⟩)else p=zP/\a=1/\e=3)->LZ s (p,a,e) :=
    fun p a e hout w g=>VM s (s.extract 1 s.size) st r hr5 h hs rfl hst hi hno hit p a e hout w g
   by_cases hr:r<5
   ·by_cases hp:sK ⟨st,(r:Int)-2,nK (s.extract 1 s.size) r⟩=0
    ·exact⟨(_,_,_),go _ _ _ (by rw[if_pos hr,if_pos hp];exact⟨rfl,rfl,rfl⟩)⟩
    ·exact⟨(_,_,_),go _ _ _ (by rw[if_pos hr,if_neg hp];exact⟨rfl,rfl,rfl⟩)⟩
   ·exact⟨(_,_,_),go _ _ _ (by rw[if_neg hr];exact⟨rfl,rfl,rfl⟩)⟩
 ·exact⟨_,ZX s h⟩
open Classical in
noncomputable def E6(s:ByteArray):m9×Int×Int:=if h:∃r,LZ s r then Classical.choose h else(zP,0,0)
theorem aGA(s:ByteArray)(hs:s.size<=281474976710656):LZ s (E6 s):=by
 have h:=aJK s hs;unfold E6;rw[dif_pos h];exact Classical.choose_spec h
open Classical in
noncomputable def E7(s:ByteArray):(Int×Int)×Int:=if h:∃r,PR s r then Classical.choose h else((0,0),0)
theorem aGB(s:ByteArray)(hs:s.size<=281474976710656):PR s (E7 s):=by
 have h:=aHL s hs;unfold E7;rw[dif_pos h];exact Classical.choose_spec h
open Classical in
noncomputable def aK:yB:=⟨fun s=>if(E6 s).2.2=0 then some (E6 s).1 else none,fun s=>if(E7 s).2=0 then some (E7 s).1 else none⟩
theorem aDM(s:ByteArray):(aK.pit s=none/\(E6 s).2.2≠0)\/(∃p,aK.pit s=some p/\(E6 s).1=p/\(E6 s).2.2=0):=by
 unfold aK;by_cases h:(E6 s).2.2=0
 ·exact .inr ⟨_,if_pos h,rfl,h⟩
 ·exact .inl ⟨if_neg h,h⟩
theorem aDN(s:ByteArray):(aK.val s=none/\(E7 s).2≠0)\/(∃p,aK.val s=some p/\(E7 s).1=p/\(E7 s).2=0):=by
 unfold aK;by_cases h:(E7 s).2=0
 ·exact .inr ⟨_,if_pos h,rfl,h⟩
 ·exact .inl ⟨if_neg h,h⟩
structure mF(W0:World)(bs:List Nat)(w:World):Prop where
 gl:AE W0
 bel:Below W0.heap.size W0 w
 hs:∀k∈bs,W0.heap.size<=k
theorem mF.glo{W0 w:World}{bs:List Nat}(h:mF W0 bs w):AE w:=h.gl.stay h.bel
theorem mF.away{W0 w w':World}{bs:List Nat}(h:mF W0 bs w)(a:aC bs w w'):mF W0 bs w' :=
 ⟨h.gl,⟨a.os.trans h.bel.os,a.tape.trans h.bel.tape,a.output.trans h.bel.output,qx h.bel.size a.size,fun k hk=>(a.block k (qqa hk h.bel.size) (fun hm=>by have:=h.hs k hm;omega)).trans (h.bel.block k hk)⟩,h.hs⟩
theorem mF.step{W0 w w':World}{bs:List Nat}(h:mF W0 bs w)(b:Below w.heap.size w w'):mF W0 bs w':=h.away (aC.of_below b)
end Go.Proofs.YtgkhemnmcgicnaaGreatDoor
