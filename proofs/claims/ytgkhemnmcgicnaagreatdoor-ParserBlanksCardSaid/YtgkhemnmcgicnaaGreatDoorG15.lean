/- Towards the law ParserBlanks, true for every text and all blanks (no condition): one part of the proof. -/
import Derived.Test.YtgkhemnmcgicnaaGreatDoorG01
import Derived.Test.YtgkhemnmcgicnaaGreatDoorG14
import Derived.Test.YtgkhemnmcgicnaaGreatDoorG10
namespace Go.Proofs.YtgkhemnmcgicnaaGreatDoor
set_option maxHeartbeats 1000000
set_option maxRecDepth 1000000
open Go.RowKit Go.Dam
noncomputable def aEP:List Value:=match Go.Dam.evC CF Tryz.prog 400 PC aEL m0.st with
 |some (_,tm,_)=>tm
 |none=>[]
noncomputable def aEQ:Go.Dam.Lit:=⟨aEP,rB.heap,rB.next⟩
noncomputable def aAC:List Value:=match aB2 with
 | .tuple vs=>vs.toList
 | _=>[]
theorem aLB:GS CF Tryz.prog 400 PC aEL m0.st aEQ=true:=by kernel_rfl
theorem aLC:j3 Tryz.prog rB.heap aEP Tryz.f16.results.toList=some aAC:=by kernel_rfl
theorem SN:aB2=jV aAC:=by kernel_rfl
theorem EJ{n:Nat}{o:Obj}:∀{h:List (Nat×Obj)},aQ h n=some o->∃x∈h,x.1=n
 | [],h=>by cases h
 |(m,y)::r,h=>by
  simp only[aQ]at h;split at h
  ·rename_i he;exact⟨(m,y),by simp,qqs he⟩
  ·obtain⟨x,hx,e⟩:=EJ h;exact⟨x,by simp[hx],e⟩
theorem aGS:(rB.heap.all fun x=>Nat.ble 106 x.1 && Nat.blt x.1 rB.next)=true:=by kernel_rfl
theorem aAD:Nat.ble (2*Tryz.prog.globals.size) 106=true:=by kernel_rfl
theorem aGT:Nat.ble 106 gK.next=true:=by kernel_rfl
theorem aER:gK.st.next=gK.next:=rfl
theorem aJ3(E:cA)(A:Nat->Prop)(w:World)(hg:vD Tryz.prog E A)(hA:∀n,A n->n<106) :
  Calls Tryz.prog 16 ([Value.string dC].map (aN E)).toArray w fun e w'=>∃(_:Unit)(E':cA),e=.returned (aN E' (jV aAC))/\bB Tryz.prog E A [] 106 w E' rB.heap rB.next w'/\Sc (fun n=>A n\/(106<=n/\n<rB.next)) (jV aAC):=by
 obtain⟨ev0,e0,_,_,_,_,_,_,hle,evE,hle0,hleF⟩:=V0;have hst:=qqj aGT;have hH:aW Tryz.prog E A [] w:=⟨fun n o hn=>(by cases hn),fun n m o o' hn=>(by cases hn)⟩;refine QS (C:=Unit) (E:=E) (w:=w) (S:=⟨[],106⟩) (tmR:=fun _=>aEP) (SR:=fun _=>⟨rB.heap,rB.next⟩) (vs:=fun _=>aAC) Tryz.func16 aJZ (by intro x hx;obtain rfl:=qqq.1 hx;exact oH _ _) (fun _=>aLC) ?_;intro a ht _ Q hQ;rw[ntmps62]at ht;refine DW nW SM (iD lJ) aK3 aL3 ht hg rfl hH hA ?_;intro E1 a1 w1 p1 ht1 hd1;rw[aGN];have b1:∀n,A n->¬(106<=n/\n<gK.st.next):=fun n hn hx=>by have:=hA n hn;omega
 have hg1:=hg.next (p1.agreeA b1) (B:=fun n=>A n\/(106<=n/\n<gK.st.next)) fun n hn=>.inl hn;have hA1:∀n,(A n\/(106<=n/\n<gK.st.next))->n<gK.st.next:=by
  rintro n (hn|hn)
  ·have h1:=hA n hn;rw[aER];omega
  ·exact hn.2
 have h1:∀o∈EH.toList,∀x∈o.op.operands,tC Tryz.prog x=true:=by
  intro o ho x hx;obtain⟨i,hi⟩:=List.mem_iff_getElem?.1 ho;exact zR aK8 i o x hi hx
 refine wpIn_seq (YV SM (iD lJ) (C:=Unit) (v:=fun _=>jV []) (SR:=fun _=>m0.st) (tmR:=fun _=>aEL) (SE:=fun _=>m0.st) aGP h1 aJ0 aAB VZ aEM aGR (fun _ => ?_) ?_ ht1 hg1 ev0 p1.holds hA1 ?_)
 ·rw[aGQ];rfl
 ·rw[aJ1];intro E2 A2 w2 hg2 hev2 hsc2 H2 hA2;exact aJ2 E2 A2 w2 hg2 hev2 hsc2 H2 hA2
 ·intro _ E2 a2 w2 p2 ht2 hd2;have hE:gK.st.next<=m0.st.next:=p2.le;have b2:∀n,(A n\/(106<=n/\n<gK.st.next))->¬(gK.st.next<=n/\n<m0.st.next):=fun n hn hx=>by have:=hA1 n hn;omega
  refine QV nW SM (iD lJ) aLB aK7 ht2 (hg1.next (p2.agreeA b2) fun n hn=>.inl hn) evE p2.holds ?_ ?_
  ·rintro n (hn|hn)
   ·have:=hA1 n hn;omega
   ·exact hn.2
  ·intro E3 a3 w3 p3 ht3 hd3;have hF:m0.st.next<=(aEQ.st).next:=hleF;exact(((hQ ()).trans p1 hd1 (qx hE hF)).trans p2 hd2 hF E3 a3 w3 p3 ht3 hd3).2
theorem aES:QT Tryz.prog XH:=by
 refine⟨?_,?_,?_⟩
 ·intro x hx;obtain rfl:=qqq.1 hx;rfl
 ·intro n o hn;obtain⟨x,hx,rfl⟩:=EJ hn;have:=qqm.1 aGS x hx;simp only[Bool.and_eq_true]at this;exact⟨qqj this.1,qqj this.2⟩
 ·intro E A w hg hev hA0;have hgl:=qqj aAD;have hg':vD Tryz.prog E (fun n=>A n/\n<106):=by
   intro g hgs;obtain⟨h1,h2,h3⟩:=hg g hgs;exact⟨h1,h2,h3,by omega⟩
  have:=aJ3 E (fun n=>A n/\n<106) w hg' (fun n hn=>hn.2);have he:([Value.string dC].map (aN E)).toArray=XH.args.toArray:=by
   simp only[List.map_cons,List.map_nil,eJ];rfl
  rw[he]at this;refine Calls.mono this ?_;rintro e w' ⟨_,E',rfl,p,hs⟩;refine⟨E',by rw[<-SN];rfl,⟨p.le,p.even,p.agree,p.holds.mono ?_,p.os,p.tape,p.output,p.size,p.same,p.img⟩,?_⟩
  ·rintro n (hn|hn)
   ·exact .inl hn.1
   ·exact .inr hn
  ·have hs':Sc (fun n=>A n\/(106<=n/\n<rB.next)) (jV aAC):=iH (by
    rintro n (hn|hn)
    ·exact Or.inl hn.1
    ·exact Or.inr hn) _ hs
   rw[<-SN]at hs';exact hs'
theorem AD(w:World):Calls Tryz.prog 11 #[] w fun e w'=>e=.returned (.bool true)/\Below w.heap.size w w':=aBZ aES w
end Go.Proofs.YtgkhemnmcgicnaaGreatDoor
