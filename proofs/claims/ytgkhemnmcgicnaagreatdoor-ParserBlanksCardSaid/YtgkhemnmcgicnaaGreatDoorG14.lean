/- Towards the law ParserBlanks, true for every text and all blanks (no condition): one part of the proof. -/
import Derived.Test.YtgkhemnmcgicnaaGreatDoorG06
import Derived.Test.YtgkhemnmcgicnaaGreatDoorG01
import Derived.Test.YtgkhemnmcgicnaaGreatDoorG05
import Derived.Test.YtgkhemnmcgicnaaGreatDoorG11
import Derived.Test.YtgkhemnmcgicnaaGreatDoorG12
import Derived.Test.YtgkhemnmcgicnaaGreatDoorG13
namespace Go.Proofs.YtgkhemnmcgicnaaGreatDoor
set_option maxRecDepth 1000000
open Go.RowKit Go.Dam
theorem aHD:wG CF Tryz.prog 400 (sY (uJ 41)) 1 NW zV=true:=by kernel_rfl
noncomputable def c62:Code:=uJ 16
noncomputable def c84:Code:=uJ 41
noncomputable def b84:Code:=sY (uJ 41)
noncomputable def EH:Array Oper:=aLH (aKA (GR 4 c62))
noncomputable def PC:Code:=GR 5 c62
noncomputable def SL:Oper:=EH.getD 1 default
noncomputable def aEJ:Call:=match SL.op with
 | .call c=>c
 | _=>default
noncomputable def x62:Value:=xM gK.tm 6
noncomputable def aEK:List Value:=rJ gK.tm (some 36) x62
noncomputable def aEL:List Value:=rJ aEK (some 37) (.tuple #[])
noncomputable def aJW:List Value:=[.string dC]++List.replicate (62-1) undef
noncomputable def aJX:List Value:=[x62]++List.replicate (53-1) undef
theorem aK3:XC CF Tryz.prog 400 4 c62 aJW ⟨[],106⟩ gK=true:=by kernel_rfl
theorem aK4:XC CF Tryz.prog 400 2 c84 aJX gK.st wQ=true:=by kernel_rfl
theorem aK5:GS CF Tryz.prog 400 (.loop b84) zV.tm zV.st m0=true:=by kernel_rfl
theorem aGM:GR 2 c84=.block 0 (.loop b84):=by kernel_rfl
theorem aGN:GR 4 c62=.seq (.region 10 EH false) PC:=by kernel_rfl
theorem aL2:dV Tryz.prog c84=true:=by kernel_rfl
theorem aK6:dV Tryz.prog b84=true:=by kernel_rfl
theorem aL3:dV Tryz.prog c62=true:=by kernel_rfl
theorem aK7:dV Tryz.prog PC=true:=by kernel_rfl
theorem aK8:WX Tryz.prog EH.toList=true:=by kernel_rfl
theorem aJY:Tryz.f41.body=some c84:=by kernel_rfl
theorem aJZ:Tryz.f16.body=some c62:=by kernel_rfl
theorem ntmps84:Tryz.f41.ntmps=53:=by kernel_rfl
theorem ntmps62:Tryz.f16.ntmps=62:=by kernel_rfl
theorem aGP:EH.toList=EH.toList.take 1++SL::[]:=by kernel_rfl
theorem aJ0:SL.op=.call aEJ:=by kernel_rfl
theorem aAB:SL.guard=none:=by kernel_rfl
theorem aGQ:SL.dst=some 37:=by kernel_rfl
theorem VZ:aEJ.callee=.value (.func 41):=by kernel_rfl
theorem aEM:xQ Tryz.prog 41=true:=by kernel_rfl
theorem aK9:Tryz.f41.results.toList=[]:=by kernel_rfl
theorem aGR:qQ CF Tryz.prog EH.toList (EH.toList.take 1) gK.tm gK.st=some (aEK,gK.st):=by kernel_rfl
theorem aJ1:aEJ.args.toList.map (aE aEK)=[x62]:=by kernel_rfl
theorem aLA:(Nat.beq (gK.next % 2) 0 && Nat.beq (wQ.next % 2) 0 && Nat.beq (NS.next % 2) 0 && Nat.beq (NT.next % 2) 0 && Nat.beq (NU.next % 2) 0 && Nat.beq (NV.next % 2) 0 && Nat.beq (NW.next % 2) 0 && Nat.beq (zV.next % 2) 0 && Nat.ble zV.next m0.next && Nat.beq (m0.next % 2) 0 && Nat.ble gK.next wQ.next && Nat.ble m0.next rB.next)=true:=by kernel_rfl
theorem SM:iN Tryz.prog CF:=p8 nW (iD lJ) G1 (N6 SC) 400 12
theorem V0:gK.next % 2=0/\wQ.next % 2=0/\NS.next % 2=0/\NT.next % 2=0/\NU.next % 2=0/\NV.next % 2=0/\NW.next % 2=0/\zV.next % 2=0/\zV.next<=m0.next/\m0.next % 2=0/\gK.next<=wQ.next/\m0.next<=rB.next:=by
 have h:=aLA;simp only[Bool.and_eq_true]at h;obtain⟨⟨⟨⟨⟨⟨⟨⟨⟨⟨⟨h1,h2⟩,h3⟩,h4⟩,h5⟩,h6⟩,h7⟩,h8⟩,h9⟩,h10⟩,h11⟩,h12⟩:=h;exact⟨qqs h1,qqs h2,qqs h3,qqs h4,qqs h5,qqs h6,qqs h7,qqs h8,qqj h9,qqs h10,qqj h11,qqj h12⟩
theorem aEN:∃n,wH CF Tryz.prog 400 b84 n wQ m0:=by
 obtain⟨_,e0,e1,e2,e3,e4,e5,e6,hle,_,_,_⟩:=V0;exact⟨_,.more 10 aG8 e1 (.more 10 aG9 e2 (.more 10 aHA e3 (.more 10 aHB e4 (.more 10 aHC e5 (.more 1 aHD e6 (.last aK5 hle))))))⟩
theorem aJ2(E:cA)(A:Nat->Prop)(w:World)(hg:vD Tryz.prog E A)(hev:gK.st.next % 2=0)(hargs:∀x∈[x62],Sc A x)(H:aW Tryz.prog E A gK.st.heap w)(hA:∀n,A n->n<gK.st.next) :
  Calls Tryz.prog 41 ([x62].map (aN E)).toArray w fun e w'=>∃(_:Unit)(E':cA),e=.returned (aN E' (jV []))/\bB Tryz.prog E A gK.st.heap gK.st.next w E' m0.st.heap m0.st.next w'/\Sc (fun n=>A n\/(gK.st.next<=n/\n<m0.st.next)) (jV []):=by
 refine QS (C:=Unit) (E:=E) (w:=w) (S:=gK.st) (tmR:=fun _=>m0.tm) (SR:=fun _=>m0.st) (vs:=fun _=>[]) Tryz.func41 aJY hargs (fun _=>by rw[aK9];rfl) ?_;intro a ht _ Q hQ;obtain⟨_,e0,_,_,_,_,_,_,hle,_,hle0,_⟩:=V0;rw[ntmps84]at ht;refine DW nW SM (iD lJ) aK4 aL2 ht hg hev H hA ?_;intro E1 a1 w1 p1 ht1 hd1;rw[aGM];obtain⟨n,pc⟩:=aEN;have b1:∀n,A n->¬(gK.st.next<=n/\n<wQ.st.next):=fun n hn hx=>by have:=hA n hn;omega
 refine wpIn_block (wpIn_loop_rounds n (pc.sound nW SM (iD lJ) aK6 ht1 (hg.next (p1.agreeA b1) fun n hn=>.inl hn) e0 p1.holds ?_ ?_))
 ·rintro n (hn|hn)
  ·have h1:=hA n hn;have h2:gK.st.next=gK.next:=rfl;omega
  ·exact hn.2
 ·intro E2 a2 w2 p2 ht2 hd2;exact((hQ ()).trans p1 hd1 pc.le E2 a2 w2 p2 ht2 hd2).2
end Go.Proofs.YtgkhemnmcgicnaaGreatDoor
