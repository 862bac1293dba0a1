/- Towards the law ParserBlanks, true for every text and all blanks (no condition): one part of the proof. -/
import Derived.Test.YtgkhemnmcgicnaaGreatDoorG01
import Derived.Test.YtgkhemnmcgicnaaGreatDoorG18
import Derived.Deep.RegionHeld
import Derived.Test.YtgkhemnmcgicnaaGreatDoorG16
namespace Go.Proofs.YtgkhemnmcgicnaaGreatDoor
set_option maxHeartbeats 16000000
set_option maxRecDepth 100000
open Go.RowKit
def sV(c:UInt8):Int:=Lib.indexByte aFN.data.toList c
theorem aBW:(List.range 256).all (fun n=>decide (-1<=sV n.toUInt8) && decide (sV n.toUInt8<16))=true:=by decide +kernel
theorem aFK(c:UInt8):-1<=sV c/\sV c<16:=by
 have h:=qqm.1 aBW c.toNat (List.mem_range.2 c.toNat_lt);simp only[Bool.and_eq_true,qqy]at h;have e:c.toNat.toUInt8=c:=by simp
 rw[e]at h;exact h
theorem xZ(c:UInt8)(m:Int)(hm:m=(c.toNat:Int))(v:Int)(hv:sV c=v)(w:World):Calls Tryz.prog 156 #[.int .u8 m] w fun e w'=>e=.returned (Z v)/\w'=w:=by
 have hi:=Tryz.strings_IndexByte aFN m w;have e:m.toNat.toUInt8=c:=by rw[hm];simp
 rw[e,show Lib.indexByte aFN.data.toList c=v from hv]at hi;simp only[aFN]at hi;clear hm hv e;go_enter Tryz.func156,Tryz.ntmps156;go_wp2_with(go_at_call 127;refine hi.mono ?_;rintro r w1 ⟨rfl,rfl⟩);go_wp2;go_ret;exact⟨rfl,rfl⟩
def aFL:List UInt8:=[110,116,92,34]
inductive wP(t:ByteArray):Nat->Bool->List UInt8->Prop
 |empty (h:t.size=0):wP t 0 true []
 |two (h:0<t.size) (v:UInt8) (hc:(t[0].toNat=110/\v=10)\/(t[0].toNat=116/\v=9)\/(t[0].toNat=92/\v=92)\/(t[0].toNat=34/\v=34)):wP t 1 false [v]
 |other (h:0<t.size) (hc:Lib.indexByte aFL t[0]=-1) (hx:t[0].toNat≠120):wP t 0 true []
 |xa (h:t.size=1) (h0:t[0].toNat=120):wP t 1 true []
 |xb (h:1<t.size) (h0:t[0].toNat=120) (h1:sV t[1]=-1):wP t 1 true []
 |xc (h:t.size=2) (h0:t[0].toNat=120) (x:Nat) (hx:x<16) (h1:sV t[1]=(x:Int)):wP t 2 true []
 |xd (h:2<t.size) (h0:t[0].toNat=120) (x:Nat) (hx:x<16) (h1:sV t[1]=(x:Int)) (h2:sV t[2]=-1):wP t 2 true []
 |hex (h:2<t.size) (h0:t[0].toNat=120) (x y:Nat) (hx:x<16) (hy:y<16) (h1:sV t[1]=(x:Int)) (h2:sV t[2]=(y:Int)):wP t 3 false [(16*x+y).toUInt8]
theorem aFM:(List.range 256).all (fun n=>decide (Lib.indexByte aFL n.toUInt8=-1) ||(decide (n=110) || decide (n=116) || decide (n=92) || decide (n=34)))=true:=by decide +kernel
theorem YY(c:UInt8):Lib.indexByte aFL c=-1\/c.toNat=110\/c.toNat=116\/c.toNat=92\/c.toNat=34:=by
 have h:=qqm.1 aFM c.toNat (List.mem_range.2 c.toNat_lt);simp only[Bool.or_eq_true,qqy]at h;have e:c.toNat.toUInt8=c:=by simp
 rw[e]at h;omega
theorem G3(c:UInt8):sV c=-1\/∃x:Nat,x<16/\sV c=(x:Int):=by
 have h:=aFK c;by_cases h0:sV c=-1
 ·exact .inl h0
 ·exact .inr ⟨(sV c).toNat,by omega,by omega⟩
theorem aHY(t:ByteArray):∃n b l,wP t n b l:=by
 by_cases h:t.size=0
 ·exact⟨_,_,_,.empty h⟩
 have h0:0<t.size:=by omega
 rcases YY t[0]with hc|hc|hc|hc|hc
 ·by_cases hx:t[0].toNat=120
  ·by_cases h1:t.size=1
   ·exact⟨_,_,_,.xa h1 hx⟩
   ·have hl1:1<t.size:=by omega
    rcases G3 t[1]with e1 |⟨x,hx16,e1⟩
    ·exact⟨_,_,_,.xb hl1 hx e1⟩
    ·by_cases h2:t.size=2
     ·exact⟨_,_,_,.xc h2 hx x hx16 e1⟩
     ·have hl2:2<t.size:=by omega
      rcases G3 t[2]with e2 |⟨y,hy16,e2⟩
      ·exact⟨_,_,_,.xd hl2 hx x hx16 e1 e2⟩
      ·exact⟨_,_,_,.hex hl2 hx x y hx16 hy16 e1 e2⟩
  ·exact⟨_,_,_,.other h0 hc hx⟩
 ·exact⟨_,_,_,.two h0 10 (.inl ⟨hc,rfl⟩)⟩
 ·exact⟨_,_,_,.two h0 9 (.inr (.inl ⟨hc,rfl⟩))⟩
 ·exact⟨_,_,_,.two h0 92 (.inr (.inr (.inl ⟨hc,rfl⟩)))⟩
 ·exact⟨_,_,_,.two h0 34 (.inr (.inr (.inr ⟨hc,rfl⟩)))⟩
theorem wP.n_le{t:ByteArray}{n:Nat}{b:Bool}{l:List UInt8}(h:wP t n b l):n<=3/\n<=t.size/\l.length<=n/\(b=false->1<=n/\l.length=1):=by
 cases h<;>simp<;>omega
theorem eH{t:ByteArray}(h:0<t.size):t.toList.isEmpty=false:=by
 rw[Go.ByteArray.toList_eq];have hl:t.data.toList.length=t.size:=by simp
 cases e:t.data.toList with
 |nil=>rw[e]at hl;simp at hl;omega
 |cons x r=>rfl
section
variable(B b:Nat)(bs:List Value)(t:ByteArray)(w:World)
def q9(n:Nat)(wr:Bool)(l:List UInt8)(w:World)(e:Ending)(w':World):Prop :=
 e=.returned (.tuple #[Z n,.bool wr])/\(Lib.IsBuilder 200 5 B b (bs++Lib.byteCells l) w'/\Below B w w')
theorem YZ(h:Lib.IsBuilder 200 5 B b bs w)(ht:t.size=0):Calls Tryz.prog 126 #[.string t,.pointer (some ⟨b,0,none⟩)] w (q9 B b bs 0 true [] w):=by
 have hemp:t.toList.isEmpty=true:=by
  rw[Go.ByteArray.toList_eq];have hl:t.data.toList.length=t.size:=by simp
  cases e:t.data.toList with
  |nil=>rfl
  |cons x r=>rw[e]at hl;simp at hl;omega
 have hfin:Lib.IsBuilder 200 5 B b (bs++Lib.byteCells []) w:=by simpa [Lib.byteCells]using h
 clear h;go_enter Tryz.func126,Tryz.ntmps126;go_wp2;refine qg (qqb rfl _ _ _) rfl ?_;exact⟨rfl,hfin,qb _ _⟩
theorem Y0(h:Lib.IsBuilder 200 5 B b bs w)(ht:0<t.size)(hc:Lib.indexByte aFL t[0]=-1)(hx:t[0].toNat≠120):Calls Tryz.prog 126 #[.string t,.pointer (some ⟨b,0,none⟩)] w (q9 B b bs 0 true [] w):=by
 have hemp:=eH ht;have ht':(0:Int)<(t.size:Int):=by omega
 have hi:=Tryz.strings_IndexByte ⟨#[110,116,92,34]⟩ ((t[0].toNat:Nat):Int) w;have e:((t[0].toNat:Nat):Int).toNat.toUInt8=t[0]:=by simp
 rw[e,show Lib.indexByte (⟨#[110,116,92,34]⟩:ByteArray).data.toList t[0]=-1 from hc]at hi;have hne:¬((t[0].toNat:Nat):Int)=120:=by omega
 have hfin:Lib.IsBuilder 200 5 B b (bs++Lib.byteCells []) w:=by simpa [Lib.byteCells]using h
 clear h e hc hx;go_enter Tryz.func126,Tryz.ntmps126;go_wp2_with(go_at_call 127;refine hi.mono ?_;rintro r w1 ⟨rfl,rfl⟩);refine qg (qqb rfl _ _ _) rfl ?_;exact⟨rfl,hfin,qb _ _⟩
theorem aHZ(h:Lib.IsBuilder 200 5 B b bs w)(ht:0<t.size)(h0:t[0].toNat=120)(hs:t.size=1):Calls Tryz.prog 126 #[.string t,.pointer (some ⟨b,0,none⟩)] w (q9 B b bs 1 true [] w):=by
 have hemp:=eH ht;have ht':(0:Int)<(t.size:Int):=by omega
 have hi:=Tryz.strings_IndexByte ⟨#[110,116,92,34]⟩ ((t[0].toNat:Nat):Int) w;have h0':((t[0].toNat:Nat):Int)=120:=by omega
 rw[h0',show Lib.indexByte (⟨#[110,116,92,34]⟩:ByteArray).data.toList ((120:Int).toNat.toUInt8)=-1 by decide]at hi;have hn1:(t.size:Int)=1:=by omega
 have hfin:Lib.IsBuilder 200 5 B b (bs++Lib.byteCells []) w:=by simpa [Lib.byteCells]using h
 clear hs h h0;go_enter Tryz.func126,Tryz.ntmps126;go_wp2_with(go_at_call 127;refine hi.mono ?_;rintro r w1 ⟨rfl,rfl⟩)
 go_loopg [7,8] 3 (fun g v u wr=>wr=w1/\(g=3/\v=Z 0/\u=Z 1))
 case atStart=>exact⟨rfl,rfl,rfl,rfl⟩
 case round =>
  obtain⟨hw1,rfl,rfl,rfl⟩:=hrel;subst hw1;go_wp2;refine qg (qqb rfl _ _ _) rfl ?_;exact⟨rfl,hfin,qb _ _⟩
theorem aH0(h:Lib.IsBuilder 200 5 B b bs w)(ht:1<t.size)(h0:t[0].toNat=120)(h1:sV t[1]=-1):Calls Tryz.prog 126 #[.string t,.pointer (some ⟨b,0,none⟩)] w (q9 B b bs 1 true [] w):=by
 have hemp:=eH (t:=t) (by omega);have ht':(0:Int)<(t.size:Int):=by omega
 have ht1:(1:Int)<(t.size:Int):=by omega
 have hi:=Tryz.strings_IndexByte ⟨#[110,116,92,34]⟩ ((t[0].toNat:Nat):Int) w;have h0':((t[0].toNat:Nat):Int)=120:=by omega
 rw[h0',show Lib.indexByte (⟨#[110,116,92,34]⟩:ByteArray).data.toList ((120:Int).toNat.toUInt8)=-1 by decide]at hi;have hz1:((1:Int)==(t.size:Int))=false:=by simp;omega
 have hn1:¬(1:Int)=(t.size:Int):=by omega
 have x1:=fun w=>xZ t[1] _ rfl _ h1 w;have hfin:Lib.IsBuilder 200 5 B b (bs++Lib.byteCells []) w:=by simpa [Lib.byteCells]using h
 clear h h0 h1;go_enter Tryz.func126,Tryz.ntmps126;go_wp2_with(go_at_call 127;refine hi.mono ?_;rintro r w1 ⟨rfl,rfl⟩)
 go_loopg [7,8] 3 (fun g v u wr=>wr=w1/\(g=3/\v=Z 0/\u=Z 1))
 case atStart=>exact⟨rfl,rfl,rfl,rfl⟩
 case round =>
  obtain⟨hw1,rfl,rfl,rfl⟩:=hrel;subst hw1;go_wp2_with(go_at_call 156;refine(x1 _).mono ?_;rintro r w2 ⟨rfl,rfl⟩);refine qg (qqb rfl _ _ _) rfl ?_;exact⟨rfl,hfin,qb _ _⟩
theorem aH1(h:Lib.IsBuilder 200 5 B b bs w)(ht:1<t.size)(h0:t[0].toNat=120)(x:Nat)(hx:x<16)(h1:sV t[1]=(x:Int))(hs:t.size=2):Calls Tryz.prog 126 #[.string t,.pointer (some ⟨b,0,none⟩)] w (q9 B b bs 2 true [] w):=by
 have hT0:0<t.size:=Nat.lt_trans Nat.zero_lt_one ht;have hemp:=eH hT0;have ht':(0:Int)<(t.size:Int):=by omega
 have ht1:(1:Int)<(t.size:Int):=by omega
 have hi:=Tryz.strings_IndexByte ⟨#[110,116,92,34]⟩ (((t[0]'hT0).toNat:Nat):Int) w;have h0':(((t[0]'hT0).toNat:Nat):Int)=120:=by omega
 rw[h0',show Lib.indexByte (⟨#[110,116,92,34]⟩:ByteArray).data.toList ((120:Int).toNat.toUInt8)=-1 by decide]at hi;have hn2:(t.size:Int)=2:=by omega
 have m4:IntKind.i64.wrap (0+(x:Int))=(x:Int):=by rw[Int.zero_add];exact IntWalk.i64_in _ (by omega)
 have hx0:decide ((x:Int)<0)=false:=by simp
 have x1:=fun w=>xZ (t[1]'ht) _ rfl _ h1 w;have hfin:Lib.IsBuilder 200 5 B b (bs++Lib.byteCells []) w:=by simpa [Lib.byteCells]using h
 clear hs h h0 h1;go_enter Tryz.func126,Tryz.ntmps126;go_wp2_with(go_at_call 127;refine hi.mono ?_;rintro r w1 ⟨rfl,rfl⟩)
 go_loopg [7,8] 3 (fun g v u wr=>wr=w1/\((g=3/\v=Z 0/\u=Z 1)\/(g=2/\v=Z x/\u=Z 2)))
 case atStart=>exact⟨rfl,.inl ⟨rfl,rfl,rfl⟩⟩
 case round =>
  obtain⟨hw1,⟨rfl,rfl,rfl⟩ |⟨rfl,rfl,rfl⟩⟩:=hrel
  ·go_wp2_with(go_at_call 156;refine(x1 _).mono ?_;rintro r w2 ⟨rfl,rfl⟩);go_roundg 2;case measure=>omega
   case rel=>exact⟨by first|rfl|exact hw1|simp,.inr ⟨rfl,rfl,rfl⟩⟩
  ·subst hw1;go_wp2;refine qg (qqb rfl _ _ _) rfl ?_;exact⟨rfl,hfin,qb _ _⟩
theorem aH2(h:Lib.IsBuilder 200 5 B b bs w)(ht:2<t.size)(h0:t[0].toNat=120)(x:Nat)(hx:x<16)(h1:sV t[1]=(x:Int))(h2:sV t[2]=-1):Calls Tryz.prog 126 #[.string t,.pointer (some ⟨b,0,none⟩)] w (q9 B b bs 2 true [] w):=by
 have hemp:=eH (t:=t) (by omega);have ht':(0:Int)<(t.size:Int):=by omega
 have ht1:(1:Int)<(t.size:Int):=by omega
 have ht2:(2:Int)<(t.size:Int):=by omega
 have hi:=Tryz.strings_IndexByte ⟨#[110,116,92,34]⟩ ((t[0].toNat:Nat):Int) w;have h0':((t[0].toNat:Nat):Int)=120:=by omega
 rw[h0',show Lib.indexByte (⟨#[110,116,92,34]⟩:ByteArray).data.toList ((120:Int).toNat.toUInt8)=-1 by decide]at hi;have hz1:((1:Int)==(t.size:Int))=false:=by simp;omega
 have hn1:¬(1:Int)=(t.size:Int):=by omega
 have hz2:((2:Int)==(t.size:Int))=false:=by simp;omega
 have hn2:¬(2:Int)=(t.size:Int):=by omega
 have m4:IntKind.i64.wrap (0+(x:Int))=(x:Int):=by rw[Int.zero_add];exact IntWalk.i64_in _ (by omega)
 have hx0:decide ((x:Int)<0)=false:=by simp
 have x1:=fun w=>xZ t[1] _ rfl _ h1 w;have x2:=fun w=>xZ t[2] _ rfl _ h2 w;have hfin:Lib.IsBuilder 200 5 B b (bs++Lib.byteCells []) w:=by simpa [Lib.byteCells]using h
 clear h h0 h1 h2;go_enter Tryz.func126,Tryz.ntmps126;go_wp2_with(go_at_call 127;refine hi.mono ?_;rintro r w1 ⟨rfl,rfl⟩)
 go_loopg [7,8] 3 (fun g v u wr=>wr=w1/\((g=3/\v=Z 0/\u=Z 1)\/(g=2/\v=Z x/\u=Z 2)))
 case atStart=>exact⟨rfl,.inl ⟨rfl,rfl,rfl⟩⟩
 case round =>
  obtain⟨hw1,⟨rfl,rfl,rfl⟩ |⟨rfl,rfl,rfl⟩⟩:=hrel
  ·go_wp2_with(go_at_call 156;refine(x1 _).mono ?_;rintro r w2 ⟨rfl,rfl⟩);go_roundg 2;case measure=>omega
   case rel=>exact⟨by first|rfl|exact hw1|simp,.inr ⟨rfl,rfl,rfl⟩⟩
  ·subst hw1;go_wp2_with(go_at_call 156;refine(x2 _).mono ?_;rintro r w2 ⟨rfl,rfl⟩);refine qg (qqb rfl _ _ _) rfl ?_;exact⟨rfl,hfin,qb _ _⟩
theorem aBX(h:Lib.IsBuilder 200 5 B b bs w)(hlen:bs.length+1<=140737488355328)(hBw:B<=w.heap.size)(ht:2<t.size)(h0:t[0].toNat=120)(x y:Nat)(hx:x<16)(hy:y<16)(h1:sV t[1]=(x:Int))(h2:sV t[2]=(y:Int)) :
  Calls Tryz.prog 126 #[.string t,.pointer (some ⟨b,0,none⟩)] w (q9 B b bs 3 false [(16*x+y).toUInt8] w):=by
 have hemp:=eH (t:=t) (by omega);have ht':(0:Int)<(t.size:Int):=by omega
 have ht1:(1:Int)<(t.size:Int):=by omega
 have ht2:(2:Int)<(t.size:Int):=by omega
 have hi:=Tryz.strings_IndexByte ⟨#[110,116,92,34]⟩ ((t[0].toNat:Nat):Int) w;have h0':((t[0].toNat:Nat):Int)=120:=by omega
 rw[h0',show Lib.indexByte (⟨#[110,116,92,34]⟩:ByteArray).data.toList ((120:Int).toNat.toUInt8)=-1 by decide]at hi;have hz1:((1:Int)==(t.size:Int))=false:=by simp;omega
 have hn1:¬(1:Int)=(t.size:Int):=by omega
 have hz2:((2:Int)==(t.size:Int))=false:=by simp;omega
 have hn2:¬(2:Int)=(t.size:Int):=by omega
 obtain⟨m1,m2,m3⟩:=aFP x y hx hy;have m4:IntKind.i64.wrap (0+(x:Int))=(x:Int):=by rw[Int.zero_add];exact IntWalk.i64_in _ (by omega)
 have hx0:decide ((x:Int)<0)=false:=by simp
 have hy0:decide ((y:Int)<0)=false:=by simp
 have x1:=fun w=>xZ t[1] _ rfl _ h1 w;have x2:=fun w=>xZ t[2] _ rfl _ h2 w;have hw:=B6 B b bs (16*(x:Int)+y) w h hlen hBw;have e:[Value.int .u8 (16*(x:Int)+y)]=Lib.byteCells [(16*x+y).toUInt8]:=by
  have e1:(16*x+y).toUInt8.toNat=16*x+y:=by
   rw[Nat.toUInt8_eq,UInt8.toNat_ofNat'];omega
  unfold Lib.byteCells;simp only[List.map_cons,List.map_nil,e1];simp
 have es:Shut _:=e;clear h h0 h1 h2 e;go_enter Tryz.func126,Tryz.ntmps126;go_wp2_with(go_at_call 127;refine hi.mono ?_;rintro r w1 ⟨rfl,rfl⟩)
 go_loopg [7,8] 3 (fun g v u wr=>wr=w1/\((g=3/\v=Z 0/\u=Z 1)\/(g=2/\v=Z x/\u=Z 2)\/(g=1/\v=Z (16*(x:Int)+y)/\u=Z 3)))
 case atStart=>exact⟨rfl,.inl ⟨rfl,rfl,rfl⟩⟩
 case round =>
  obtain⟨hw1,⟨rfl,rfl,rfl⟩ |⟨rfl,rfl,rfl⟩ |⟨rfl,rfl,rfl⟩⟩:=hrel
  ·go_wp2_with(go_at_call 156;refine(x1 _).mono ?_;rintro r w2 ⟨rfl,rfl⟩);go_roundg 2;case measure=>omega
   case rel=>exact⟨by first|rfl|exact hw1|simp,.inr (.inl ⟨rfl,rfl,rfl⟩)⟩
  ·go_wp2_with(go_at_call 156;refine(x2 _).mono ?_;rintro r w2 ⟨rfl,rfl⟩);go_roundg 1;case measure=>omega
   case rel=>exact⟨by first|rfl|exact hw1|simp,.inr (.inr ⟨rfl,rfl,rfl⟩)⟩
  ·subst hw1;go_wp2_with(go_at_call 125;refine hw.mono ?_);rintro e w2 ⟨rfl,h2,b2⟩;go_wp2;refine qg (qqb rfl _ _ _) rfl ?_;rw[es.out]at h2;exact⟨rfl,.inr h2,b2⟩
theorem NM(h:Lib.IsBuilder 200 5 B b bs w)(hlen:bs.length+1<=140737488355328)(hBw:B<=w.heap.size){n:Nat}{wr:Bool}{l:List UInt8}(hE:wP t n wr l) :
  Calls Tryz.prog 126 #[.string t,.pointer (some ⟨b,0,none⟩)] w (q9 B b bs n wr l w):=by
 cases hE with
 |empty ht=>exact YZ B b bs t w h ht
 |other ht hc hx=>exact Y0 B b bs t w h ht hc hx
 |xa ht h0=>exact aHZ B b bs t w h (by omega) h0 ht
 |xb ht h0 h1=>exact aH0 B b bs t w h ht h0 h1
 |xc ht h0 x hx h1=>exact aH1 B b bs t w h (by omega) h0 x hx h1 ht
 |xd ht h0 x hx h1 h2=>exact aH2 B b bs t w h ht h0 x hx h1 h2
 |hex ht h0 x y hx hy h1 h2=>exact aBX B b bs t w h hlen hBw ht h0 x y hx hy h1 h2
 |two ht v hc =>
  refine(UA B b bs t w h hlen hBw ht (v.toNat:Int) ?_).mono ?_
  ·rcases hc with⟨h1,rfl⟩ |⟨h1,rfl⟩ |⟨h1,rfl⟩ |⟨h1,rfl⟩
   ·exact .inl ⟨by omega,rfl⟩
   ·exact .inr (.inl ⟨by omega,rfl⟩)
   ·exact .inr (.inr (.inl ⟨by omega,rfl⟩))
   ·exact .inr (.inr (.inr ⟨by omega,rfl⟩))
  ·rintro e w' ⟨rfl,h2,b2⟩;refine⟨rfl,.inr ?_,b2⟩;simpa [Lib.byteCells]using h2
end
set_option maxHeartbeats 32000000
inductive PF
 |hit (e:Nat) (bytes:List UInt8)
 |short
 |wrong (p:Nat)
inductive rL(s:ByteArray):Nat->List UInt8->PF->Prop
 |eof {i:Nat} {acc:List UInt8} (h:¬i<s.size):rL s i acc .short
 |close {i:Nat} {acc:List UInt8} (h:i<s.size) (hc:s[i].toNat=34):rL s i acc (.hit (i+1) acc)
 |char {i:Nat} {acc:List UInt8} {o:PF} (h:i<s.size) (hc:qB (s[i].toNat:Nat)=true) (r:rL s (i+1) (acc++[s[i]]) o):rL s i acc o
 |esc {i n:Nat} {acc l:List UInt8} {o:PF} (h:i<s.size) (hc:s[i].toNat=92) (hE:wP (s.extract (i+1) s.size) n false l) (r:rL s (i+1+n) (acc++l) o):rL s i acc o
 |escShort {i n:Nat} {acc l:List UInt8} (h:i<s.size) (hc:s[i].toNat=92) (hE:wP (s.extract (i+1) s.size) n true l) (he:i+1+n=s.size):rL s i acc .short
 |escWrong {i n:Nat} {acc l:List UInt8} (h:i<s.size) (hc:s[i].toNat=92) (hE:wP (s.extract (i+1) s.size) n true l) (he:i+1+n≠s.size):rL s i acc (.wrong (i+1+n))
 |bad {i:Nat} {acc:List UInt8} (h:i<s.size) (h1:s[i].toNat≠34) (h2:s[i].toNat≠92) (h3:qB (s[i].toNat:Nat)=false):rL s i acc (.wrong i)
theorem WD(s:ByteArray):∀(n i:Nat)(acc:List UInt8),s.size-i<=n->∃o,rL s i acc o
 |0,i,acc,hn=>⟨_,.eof (by omega)⟩
 |n+1,i,acc,hn=>by
  by_cases hlt:i<s.size
  ·by_cases h34:s[i].toNat=34
   ·exact⟨_,.close hlt h34⟩
   ·by_cases h92:s[i].toNat=92
    ·obtain⟨k,b,l,hE⟩:=aHY (s.extract (i+1) s.size);cases b with
     |false =>
      obtain⟨o,hr⟩:=WD s n (i+1+k) (acc++l) (by omega);exact⟨o,.esc hlt h92 hE hr⟩
     |true =>
      by_cases he:i+1+k=s.size
      ·exact⟨_,.escShort hlt h92 hE he⟩
      ·exact⟨_,.escWrong hlt h92 hE he⟩
    ·cases h3:qB (s[i].toNat:Nat)with
     |true =>
      obtain⟨o,hr⟩:=WD s n (i+1) (acc++[s[i]]) (by omega);exact⟨o,.char hlt h3 hr⟩
     |false=>exact⟨_,.bad hlt h34 h92 h3⟩
  ·exact⟨_,.eof hlt⟩
theorem rL.le{s:ByteArray}{i:Nat}{acc:List UInt8}{o:PF}(h:rL s i acc o):∀e bytes,o=.hit e bytes->i<e/\e<=s.size:=by
 induction h with
 |eof _=>intro e b h;cases h
 |close h _=>intro e b h2;injection h2 with h3 _;omega
 |char h _ _ ih=>intro e b h2;have:=ih e b h2;omega
 |esc h _ _ _ ih=>intro e b h2;have:=ih e b h2;omega
 |escShort=>intro e b h;cases h
 |escWrong=>intro e b h;cases h
 |bad=>intro e b h;cases h
theorem rL.len{s:ByteArray}{i:Nat}{acc:List UInt8}{o:PF}(h:rL s i acc o):∀e bytes,o=.hit e bytes->bytes.length+i<=acc.length+e:=by
 induction h with
 |eof _=>intro e b h;cases h
 |close h _=>intro e b h2;injection h2 with h3 h4;subst h4;omega
 |char h _ _ ih=>intro e b h2;have:=ih e b h2;simp only[qf,qz]at this;omega
 |esc h _ hE _ ih=>intro e b h2;have:=ih e b h2;have:=hE.n_le;simp only[qf]at *;omega
 |escShort=>intro e b h;cases h
 |escWrong=>intro e b h;cases h
 |bad=>intro e b h;cases h
def aGY(B X:Nat)(ks:List (Nat×Obj))(s:ByteArray)(LN:Value)(ls:List Int)(a:Nat)(lv:Value)(n:Nat)(xs:List Value)(j:Bool)(wz:Int)(w0:World)(o:PF)(w:World):Prop :=
 match o with
 | .hit e bytes=>∃lv',iQ B X ks s LN (e:Nat) lv' (n+1) (xs++aX.cells ⟨3,s.extract a e,0,mk bytes,vE ls a,vF ls a,j && decide (0<n)⟩) 0 wz w0 w
 | .short=>iQ B X ks s LN a lv n xs 4 a w0 w
 | .wrong p=>iQ B X ks s LN a lv n xs 6 (p:Nat) w0 w
section
variable{B X:Nat}{ks:List (Nat×Obj)}{s:ByteArray}{lv:Value}{n:Nat}{xs:List Value}{wz:Int}{w0 w:World}{LN:Value}{ls:List Int}
theorem JZ{a:Nat}(h:iQ B X ks s LN a lv n xs 0 wz w0 w)(hL:jW LN ls ks)(gL:rY ls)(hsz:s.size<=100000)(hn:n<=1048576)(ha:a<s.size)(hc:s[a].toNat=34){o:PF}(hR:rL s (a+1) [] o)(hbl:∀e bytes,o=.hit e bytes->bytes.length<=4096)(j:Bool) :
  Calls Tryz.prog 83 #[.pointer (some ⟨X,0,none⟩),.bool j] w fun r w'=>r=.returned (.bool true)/\aGY B X ks s LN ls a lv n xs j wz w0 o w':=by
 have hc':((s[a].toNat:Nat):Int)=34:=by omega
 have c0:=h.c0;have c1:=h.c1;have ha0:(0:Int)<=(a:Int):=by omega
 have ha':(a:Int)<s.size:=by omega
 have hw1:IntKind.i64.wrap ((a:Int)+1)=((a+1:Nat):Int):=by rw[show((a+1:Nat):Int)=(a:Int)+1 by omega];exact IntWalk.i64_in _ (by omega)
 obtain⟨q0,hq0⟩:∃q0,nP q0 (a+1):=⟨_,rfl⟩;rw[show(a+1:Nat)=q0 from hq0.symm]at hw1 hR;go_enter Tryz.func83,Tryz.ntmps83;go_wp2
 go_quiet (fail)
 have hm:=h.step (cJ (qb _ _) nq);generalize w.drewN nq=W at hm⊢;have d0:=hm.c0;have d1:=hm.c1;have hXl:=hm.lt;have neX:=qqd W _ d0;clear c0 c1 h hc hc';go_wp2;have hb0:Lib.IsBuilder 200 5 W.heap.size W.heap.size (Lib.byteCells []) (W.alloc (.cells #[.pointer none,.slice none 0 0] 200)):=Lib.fresh_isBuilder 200 5 W;have bel0:=(qb W.heap.size W).alloc (qa _) (.cells #[.pointer none,.slice none 0 0] 200);generalize hbb:W.heap.size=bb at hb0 bel0⊢;generalize (W.alloc (.cells #[.pointer none,.slice none 0 0] 200))=V at hb0 bel0⊢;clear d0 d1 neX;have hqa:a+1<=q0/\q0<=s.size:=by unfold nP at hq0;omega
 clear hq0
 go_loopg [6] (s.size+1-q0) (fun g v wr'=>∃(p:Nat)(acc:List UInt8),g=s.size+1-p/\rL s p acc o/\acc.length+(a+1)<=p/\p<=s.size/\v=Z p/\Lib.IsBuilder 200 5 bb bb (Lib.byteCells acc) wr'/\Below bb W wr')
 case atStart=>exact⟨q0,[],rfl,hR,by simpa using hqa.1,hqa.2,rfl,hb0,bel0⟩
 case round =>
  clear hb0 bel0 hw1 hR hqa;obtain⟨p,acc,hg,hR,hp1,hp2,rfl,hI,hb⟩:=hrel;have hsb:bb<=wr.heap.size:=by rw[<-hbb];exact hbb▸hb.size
  have hS:=hm.step (hbb.symm▸hb);have hlk:(Lib.byteCells acc).length=acc.length:=Lib.byteCells_length _;have hstep:=fun w' (b:Below bb wr w')=>hm.step (hbb.symm▸hb.trans b);have d0:=hS.c0;have d1:=hS.c1;have hp0:(0:Int)<=(p:Int):=by omega
  cases hR with
  |eof hlt =>
   have hps':¬(p:Int)<(s.size:Int):=by omega
   have hf:=oM hS a 4;clear hS hI hstep hm;go_wp2_with(go_at_call 87;refine hf.mono ?_);intro e w2;first |(intro he hS2;subst he)|rintro⟨rfl,hS2⟩
   go_wp2;go_ret;exact⟨rfl,hS2⟩
  |close hlt hcl =>
   have hq:((s[p].toNat:Nat):Int)=34:=by omega
   have hps':(p:Int)<(s.size:Int):=by omega
   have xl:=aFV bb bb _ wr hI;rw[hlk]at xl;have hlen4:¬(4096:Int)<(acc.length:Int):=by have:=hbl _ _ rfl;omega
   have xst:=Tryz.Builder_String_any bb bb acc wr hI hsb;have hw2:IntKind.i64.wrap ((p:Int)+1)=((p+1:Nat):Int):=by rw[show((p+1:Nat):Int)=(p:Int)+1 by omega];exact IntWalk.i64_in _ (by omega)
   have hadd:=fun w' (hS':iQ B X ks s LN a lv n xs 0 wz w0 w')=>tL hS' hL gL (by omega) hn (p+1) (by omega) (by omega) 3 0 (mk acc) j;obtain⟨q1,hq1⟩:∃q1,nP q1 (p+1):=⟨_,rfl⟩;rw[show p+1=q1 from hq1.symm]at hadd hw2;clear hI hcl;go_wp2_with(first
    |(go_at_call 122;refine xl.mono ?_;rintro e w2 ⟨rfl,rfl⟩)
    |(go_at_call 123;refine xst.mono ?_))
   rintro e w3 ⟨rfl,b3⟩;have hS3:=hstep _ b3;have hadd3:=hadd _ hS3;clear hstep hadd xst xl hS hS3;go_wp2_with(first
    |(go_at_call 86;refine hadd3.mono ?_))
   rintro e w4 ⟨rfl,lv',hS4⟩;go_wp2;go_ret;refine⟨rfl,lv',?_⟩;rw[show p+1=q1 from hq1.symm];exact hS4
  |char hlt hst hr =>
   have hle:(acc++[s[p]]).length=acc.length+1:=by simp
   obtain⟨c,hcE⟩:∃c,s[p]=c:=⟨_,rfl⟩;obtain⟨m,hm0⟩:∃m:Int,m=(c.toNat:Int):=⟨_,rfl⟩;have hq:((s[p].toNat:Nat):Int)=m:=by rw[hcE,hm0]
   have hst':qB m=true:=by rw[<-hq];exact hst
   have hps':(p:Int)<(s.size:Int):=by omega
   have hn34:¬m=34:=by rintro rfl;revert hst';decide
   have xs1:=fun w=>tM m w true hst';have xw:=B6 bb bb _ m wr hI (by rw[hlk];omega) hsb;have hw2:IntKind.i64.wrap ((p:Int)+1)=((p+1:Nat):Int):=by rw[show((p+1:Nat):Int)=(p:Int)+1 by omega];exact IntWalk.i64_in _ (by omega)
   obtain⟨q1,hq1⟩:∃q1,nP q1 (p+1):=⟨_,rfl⟩;have hcells:Lib.byteCells acc++[.int .u8 m]=Lib.byteCells (acc++[s[p]]):=by rw[G6,<-hq]
   rw[hcells]at xw;generalize hacc:acc++[s[p]]=acc2 at xw hr hle;rw[show p+1=q1 from hq1.symm]at hw2 hr;clear hm0 hcE hI hcells hacc hst hst' hstep;go_wp2_with(first
    |(go_at_call 124;refine(xs1 _).mono ?_;rintro e w2 ⟨rfl,rfl⟩)
    |(go_at_call 125;refine xw.mono ?_))
   rintro e w3 ⟨rfl,hI3,b3⟩;go_wp2;go_roundg (s.size+1-q1);case measure=>unfold nP at hq1;omega
   case rel=>exact⟨q1,acc2,rfl,hr,by unfold nP at hq1;omega,by unfold nP at hq1;omega,rfl,.inr hI3,hb.trans b3⟩
  |bad hlt h1 h2 h3 =>
   obtain⟨m,hm0⟩:∃m:Int,m=((s[p].toNat:Nat):Int):=⟨_,rfl⟩;have hq:((s[p].toNat:Nat):Int)=m:=hm0.symm;have hst':qB m=false:=by rw[<-hq];exact h3
   have hps':(p:Int)<(s.size:Int):=by omega
   have hn34:¬m=34:=by omega
   have hn92:¬m=92:=by omega
   have xs1:=fun w=>tM m w false hst';have hf:=oM hS p 6;clear hm0 hI h1 h2 h3 hst' hS hstep;go_wp2_with(first
    |(go_at_call 124;refine(xs1 _).mono ?_;rintro e w2 ⟨rfl,rfl⟩)
    |(go_at_call 87;refine hf.mono ?_))
   intro e w3;first |(intro he hS3;subst he)|rintro⟨rfl,hS3⟩
   go_wp2;go_ret;exact⟨rfl,hS3⟩
  | @esc _ k _ l _ hlt h92 hE hr =>
   have hq:((s[p].toNat:Nat):Int)=92:=by omega
   have hnle:=hE.n_le;have hex:(s.extract (p+1) s.size).size=s.size-(p+1):=by rw[qqh];omega
   have hps':(p:Int)<(s.size:Int):=by omega
   have hst:qB 92=false:=by decide
   have xs1:=fun w=>tM 92 w false hst;have hw2:IntKind.i64.wrap ((p:Int)+1)=((p+1:Nat):Int):=by rw[show((p+1:Nat):Int)=(p:Int)+1 by omega];exact IntWalk.i64_in _ (by omega)
   obtain⟨q1,hq1⟩:∃q1,nP q1 (p+1):=⟨_,rfl⟩;have xe:=NM bb bb _ _ wr hI (by rw[hlk];omega) hsb hE;have hk3:p+1+k<=s.size:=by omega
   have hw4:IntKind.i64.wrap (1+(k:Int))=((1+k:Nat):Int):=by rw[show((1+k:Nat):Int)=1+(k:Int)by omega];exact IntWalk.i64_in _ (by omega)
   have hw5:IntKind.i64.wrap ((p:Int)+((1+k:Nat):Int))=((p+1+k:Nat):Int):=by rw[show((p+1+k:Nat):Int)=(p:Int)+((1+k:Nat):Int)by omega];exact IntWalk.i64_in _ (by omega)
   generalize ((1+k:Nat):Int)=z at hw4 hw5;have hq1s:(q1:Int)<=(s.size:Int):=by unfold nP at hq1;omega
   have hq10:(0:Int)<=(q1:Int):=by omega
   have hll:l.length=1:=(hnle.2.2.2 rfl).2;have hle:(acc++l).length=acc.length+1:=by rw[qf,hll]
   have hcells:Lib.byteCells acc++Lib.byteCells l=Lib.byteCells (acc++l):=by simp[Lib.byteCells]
   obtain⟨q2,hq2⟩:∃q2,nP q2 (p+1+k):=⟨p+1+k,show p+1+k=p+1+k from rfl⟩;have hp2':acc.length+1+(a+1)<=q2/\q2<=s.size/\p<q2:=by have:=(hnle.2.2.2 rfl).1;unfold nP at hq2;omega
   unfold q9 at xe;rw[hcells]at xe;generalize acc++l=acc2 at xe hr hle;rw[show p+1+k=q2 from hq2.symm]at hw5 hr;rw[show p+1=q1 from hq1.symm]at hw2 xe;clear hI hcells hE hnle hex hll hstep hq2 h92;go_wp2_with(first
    |(go_at_call 124;refine(xs1 _).mono ?_;rintro e w2 ⟨rfl,rfl⟩)
    |(go_at_call 126;refine xe.mono ?_))
   rintro e w3 ⟨rfl,hI3,b3⟩;go_wp2;go_roundg (s.size+1-q2);case measure=>omega
   case rel=>exact⟨q2,acc2,rfl,hr,by omega,hp2'.2.1,rfl,hI3,hb.trans b3⟩
  | @escShort _ k _ l hlt h92 hE he =>
   have hq:((s[p].toNat:Nat):Int)=92:=by omega
   have hps':(p:Int)<(s.size:Int):=by omega
   have hst:qB 92=false:=by decide
   have xs1:=fun w=>tM 92 w false hst;have hw2:IntKind.i64.wrap ((p:Int)+1)=((p+1:Nat):Int):=by rw[show((p+1:Nat):Int)=(p:Int)+1 by omega];exact IntWalk.i64_in _ (by omega)
   obtain⟨q1,hq1⟩:∃q1,nP q1 (p+1):=⟨_,rfl⟩;have xe:=NM bb bb _ _ wr hI (by rw[hlk];omega) hsb hE;have hq1s:(q1:Int)<=(s.size:Int):=by unfold nP at hq1;omega
   have hq10:(0:Int)<=(q1:Int):=by omega
   have hw3:IntKind.i64.wrap ((q1:Int)+(k:Int))=(s.size:Int):=by
    unfold nP at hq1;rw[show(q1:Int)+(k:Int)=(s.size:Int)by omega];exact IntWalk.i64_in _ (by omega)
   rw[show p+1=q1 from hq1.symm]at hw2 xe;unfold q9 at xe;clear hI hE hS he hq1;go_wp2_with(first
    |(go_at_call 124;refine(xs1 _).mono ?_;rintro e w2 ⟨rfl,rfl⟩)
    |(go_at_call 126;refine xe.mono ?_))
   rintro e w3 ⟨rfl,hI3,b3⟩;have hS3:=hstep _ b3;have g0:=hS3.c0;have g1:=hS3.c1;have hf:=oM hS3 a 4;clear hstep hS3 hI3;go_wp2_with(first
    |(go_at_call 87;refine hf.mono ?_))
   intro e w4;first |(intro he hS4;subst he)|rintro⟨rfl,hS4⟩
   go_wp2;go_ret;exact⟨rfl,hS4⟩
  | @escWrong _ k _ l hlt h92 hE he =>
   have hq:((s[p].toNat:Nat):Int)=92:=by omega
   have hps':(p:Int)<(s.size:Int):=by omega
   have hst:qB 92=false:=by decide
   have xs1:=fun w=>tM 92 w false hst;have hw2:IntKind.i64.wrap ((p:Int)+1)=((p+1:Nat):Int):=by rw[show((p+1:Nat):Int)=(p:Int)+1 by omega];exact IntWalk.i64_in _ (by omega)
   obtain⟨q1,hq1⟩:∃q1,nP q1 (p+1):=⟨_,rfl⟩;have xe:=NM bb bb _ _ wr hI (by rw[hlk];omega) hsb hE;have hnle:=hE.n_le;have hq1s:(q1:Int)<=(s.size:Int):=by unfold nP at hq1;omega
   have hq10:(0:Int)<=(q1:Int):=by omega
   obtain⟨q2,hq2⟩:∃q2,nP q2 (p+1+k):=⟨p+1+k,show p+1+k=p+1+k from rfl⟩;have hw3:IntKind.i64.wrap ((q1:Int)+(k:Int))=(q2:Int):=by
    unfold nP at hq1 hq2;rw[show(q1:Int)+(k:Int)=(q2:Int)by omega];exact IntWalk.i64_in _ (by omega)
   have hne:¬(q2:Int)=(s.size:Int):=by unfold nP at hq2;omega
   rw[show p+1=q1 from hq1.symm]at hw2 xe;unfold q9 at xe;clear hI hE hS he hq1 hnle;go_wp2_with(first
    |(go_at_call 124;refine(xs1 _).mono ?_;rintro e w2 ⟨rfl,rfl⟩)
    |(go_at_call 126;refine xe.mono ?_))
   rintro e w3 ⟨rfl,hI3,b3⟩;have hS3:=hstep _ b3;have g0:=hS3.c0;have g1:=hS3.c1;have hf:=oM hS3 q2 6;clear hstep hS3 hI3;go_wp2_with(first
    |(go_at_call 87;refine hf.mono ?_))
   intro e w4;first |(intro he hS4;subst he)|rintro⟨rfl,hS4⟩
   go_wp2;go_ret;refine⟨rfl,?_⟩;rw[show p+1+k=q2 from hq2.symm];exact hS4
end
def SP(c:Nat):Bool:=decide (c≠10)
theorem WB(c:Int)(w:World):Calls Tryz.prog 128 #[.int .u8 c] w fun e w'=>e=.returned (.bool (decide (c≠10)))/\w'=w:=by
 go_enter Tryz.func128,Tryz.ntmps128;by_cases h1:c=10;all_goals(try subst h1)
 all_goals go_wp2
 all_goals go_ret
 all_goals simp_all
theorem SQ(c:Nat)(w:World){b:Bool}(h:SP c=b):Calls Tryz.prog 128 #[.int .u8 c] w fun e w'=>e=.returned (.bool b)/\w'=w:=by
 refine(WB c w).mono ?_;rintro e w' ⟨rfl,rfl⟩;refine⟨?_,rfl⟩;rw[<-h];unfold SP
 congr 2
 exact decide_eq_decide.2 (by omega)
theorem aAL(X:Nat)(s:ByteArray)(a b:Nat)(w:World)(c0:w.cell? ⟨X,0,none⟩=some (.string s))(hsz:s.size<=1048576)(hu:yD SP s a b) :
  Calls Tryz.prog 118 #[.pointer (some ⟨X,0,none⟩),Z a,.func (.func 128) #[] #[]] w fun e w'=>e=.returned (Z b)/\w'=w:=by
 obtain⟨hab,hbs,hin,hout⟩:=hu;go_enter Tryz.func118,Tryz.ntmps118;go_wp2
 go_loop [1] (fun v=>∃k:Nat,a<=k/\k<=b/\v=Z k) (fun v=>b-(intOf v).toNat)
 case atStart=>exact⟨a,qa _,hab,rfl⟩
 case round =>
  obtain⟨k,hk1,hk2,rfl⟩:=hrel;by_cases hlt:k<s.size
  ·by_cases hkb:k<b
   ·have hd:=hin k hlt hk1 hkb;go_wp2_with(go_at_call 128;refine(SQ _ _ hd).mono ?_;rintro e w2 ⟨rfl,rfl⟩)
    go_round
    case rel=>exact⟨k+1,by omega,hkb,by go_num⟩
    case measure=>simp[intOf];omega
   ·obtain rfl:k=b:=by omega
    have hd:=hout hlt;go_wp2_with(go_at_call 128;refine(SQ _ _ hd).mono ?_;rintro e w2 ⟨rfl,rfl⟩);go_ret;exact⟨rfl,rfl⟩
  ·obtain rfl:k=b:=by omega
   go_wp2;go_ret;exact⟨rfl,rfl⟩
inductive lZ(s:ByteArray):Nat->Nat->Prop
 |stop {a:Nat} (ha:a<=s.size) (h:∀h:a<s.size,jX s[a].toNat=false/\s[a].toNat≠37):lZ s a a
 |blank {a b:Nat} (ha:a<s.size) (h:jX s[a].toNat=true) (r:lZ s (a+1) b):lZ s a b
 |comment {a c b:Nat} (ha:a<s.size) (h:s[a].toNat=37) (hc:a<c) (u:yD SP s a c) (r:lZ s c b):lZ s a b
theorem lZ.le{s:ByteArray}{a b:Nat}(h:lZ s a b):a<=b/\b<=s.size:=by
 induction h with
 |stop ha _=>exact⟨qa _,ha⟩
 |blank _ _ _ ih=>omega
 |comment _ _ hc _ _ ih=>omega
theorem lZ.out{s:ByteArray}{a b:Nat}(h:lZ s a b):∀h:b<s.size,jX s[b].toNat=false/\s[b].toNat≠37:=by
 induction h with
 |stop _ h=>exact h
 |blank _ _ _ ih=>exact ih
 |comment _ _ _ _ _ ih=>exact ih
theorem FM(p:Nat->Bool)(s:ByteArray):∀(n a:Nat),s.size-a=n->a<=s.size->∃b,yD p s a b
 |0,a,hn,ha=>⟨a,qa _,ha,fun k h h1 h2=>by omega,fun h=>by omega⟩
 |n+1,a,hn,ha=>by
  have hlt:a<s.size:=by omega
  cases hp:p s[a].toNat with
  |false=>exact⟨a,qa _,ha,fun k h h1 h2=>by omega,fun _=>hp⟩
  |true =>
   obtain⟨b,h1,h2,h3,h4⟩:=FM p s n (a+1) (by omega) (by omega);refine⟨b,by omega,h2,fun k h hk1 hk2 => ?_,h4⟩;by_cases he:k=a
   ·subst he;exact hp
   ·exact h3 k h (by omega) hk2
theorem n8{p:Nat->Bool}{s:ByteArray}{a b:Nat}(u:yD p s a b)(ha:a<s.size)(h:p s[a].toNat=true):a<b:=by
 have h1:=u.ab;rcases Nat.lt_or_ge a b with h2|h2
 ·exact h2
 ·obtain rfl:a=b:=by omega
  rw[u.out ha]at h;cases h
theorem PE(s:ByteArray):∀(n a:Nat),s.size-a<=n->a<=s.size->∃b,lZ s a b
 |0,a,hn,ha=>⟨a,.stop ha fun h=>by omega⟩
 |n+1,a,hn,ha=>by
  by_cases hlt:a<s.size
  ·cases hb:jX s[a].toNat with
   |true =>
    obtain⟨b,hr⟩:=PE s n (a+1) (by omega) (by omega);exact⟨b,.blank hlt hb hr⟩
   |false =>
    by_cases h37:s[a].toNat=37
    ·obtain⟨c,hu⟩:=FM SP s _ a rfl ha;have hac:=n8 hu hlt (by rw[h37];decide);obtain⟨b,hr⟩:=PE s n c (by omega) hu.bs;exact⟨b,.comment hlt h37 hac hu hr⟩
    ·exact⟨a,.stop ha fun _=>⟨hb,h37⟩⟩
  ·exact⟨a,.stop ha fun h=>absurd h hlt⟩
section
variable{B X:Nat}{ks:List (Nat×Obj)}{s:ByteArray}{lines:Value}{lv:Value}{n:Nat}{xs:List Value}{wr:Int}{w0 w:World}
theorem JW{a:Nat}(h:iQ B X ks s lines a lv n xs 0 wr w0 w)(hsz:s.size<=1048576)(b:Nat)(hu:lZ s a b) :
  Calls Tryz.prog 85 #[.pointer (some ⟨X,0,none⟩)] w fun e w'=>e=.returned (.bool (decide (a<b)))/\iQ B X ks s lines b lv n xs 0 wr w0 w':=by
 have c1:=h.c1;have hab:=hu.le.1;go_enter Tryz.func85,Tryz.ntmps85;go_wp2
 go_step3
 go_wp2
 go_step3
 go_wp2
 go_loopg [4] (b-a) (fun g v wr'=>∃k:Nat,lZ s k b/\b-k<=g/\iQ B X ks s lines k lv n xs 0 wr w0 wr')
 case atStart=>exact⟨a,hu,qa _,h⟩
 case round =>
  clear h c1 hu;obtain⟨k,hu,hg,hS⟩:=hrel;have d0:=hS.c0;have d1:=hS.c1;have f1:=hS.fz 1;have e1:((k+1:Nat):Int)=(k:Int)+1:=by omega
  have hle:=hu.le;cases hu with
  |blank hlt hd hr =>
   have hne:=RP hd;have hlt':(k:Int)<s.size:=by omega
   have hle2:=hr.le;go_wp2
   go_quiet (fail)
   go_wp2
   go_quiet (fail)
   go_wp2_with(go_at_call 129;refine(RN _ _ hd).mono ?_;rintro e w2 ⟨rfl,rfl⟩);go_roundg (b-(k+1));case measure=>omega
   case rel =>
    refine⟨k+1,hr,qa _,?_⟩;rw[e1];exact(hS.step (cJ (qb _ _) _)).at _
  | @comment _ c _ hlt h37 hkc hun hr =>
   have h37':((s[k].toNat:Nat):Int)=37:=by omega
   have hlt':(k:Int)<s.size:=by omega
   have hle2:=hr.le;clear e1;go_wp2
   go_quiet (fail)
   go_wp2
   go_quiet (fail)
   have hrn:=fun w' (q0:w'.cell? ⟨X,0,none⟩=some (.string s))=>aAL X s k c w' q0 hsz hun;go_wp2_with(go_at_call 118;refine(hrn _ (by assumption)).mono ?_;rintro e w2 ⟨rfl,rfl⟩);go_roundg (b-c);case measure=>omega
   case rel=>exact⟨c,hr,qa _,(hS.step (cJ (qb _ _) _)).at _⟩
  |stop hle' hst =>
   clear e1;by_cases hlt:b<s.size
   ·obtain⟨hd,hne0⟩:=hst hlt;have hne:¬((s[b].toNat:Nat):Int)=37:=by omega
    have hlt':(b:Int)<s.size:=by omega
    go_wp2
    go_quiet (fail)
    go_wp2
    go_quiet (fail)
    go_wp2_with(go_at_call 129;refine(RN _ _ hd).mono ?_;rintro e w2 ⟨rfl,rfl⟩);rw[Exit.noGoto_ret];go_ret;refine⟨?_,hS.step (cJ (qb _ _) _)⟩;first|rfl|simp
   ·have hlt':¬(b:Int)<s.size:=by omega
    go_wp2
    go_quiet (fail)
    go_wp2;rw[Exit.noGoto_ret];go_ret;refine⟨?_,hS.step (cJ (qb _ _) _)⟩;first|rfl|simp
end
inductive Lx(ls:List Int)(s:ByteArray):Nat->Nat->List aX->Option (Nat×Int)->Prop
 |fin {a b n:Nat} (hu:lZ s a b) (hb:b=s.size):Lx ls s a n [⟨0,s.extract b b,0,ByteArray.empty,vE ls b,vF ls b,!decide (a<b) && decide (0<n)⟩] none
 | word {a b c n : Nat} {toks : List aX} {out : Option (Nat × Int)} (hu : lZ s a b) (hb : b < s.size) (hc : fF s[b].toNat = true) (hw : yD hG s b c) (hl : c <= b + 64) (h : Lx ls s c (n + 1) toks out) :
   Lx ls s a n (⟨1,s.extract b c,0,ByteArray.empty,vE ls b,vF ls b,!decide (a<b) && decide (0<n)⟩::toks) out
 |wordLong {a b c n:Nat} (hu:lZ s a b) (hb:b<s.size) (hc:fF s[b].toNat=true) (hw:yD hG s b c) (hl:b+64<c):Lx ls s a n [] (some (b,5))
 | number {a b c n : Nat} {toks : List aX} {out : Option (Nat × Int)} (v : Int) (hu : lZ s a b) (hb : b < s.size) (hc : dN s[b].toNat = true) (hw : yD dN s b c) (hl : c <= b + 15) (hv : Lib.atoi (s.extract b c).data.toList = some v) (h : Lx ls s c (n + 1) toks out) :
   Lx ls s a n (⟨2,s.extract b c,v,ByteArray.empty,vE ls b,vF ls b,!decide (a<b) && decide (0<n)⟩::toks) out
 |long {a b c n:Nat} (hu:lZ s a b) (hb:b<s.size) (hc:dN s[b].toNat=true) (hw:yD dN s b c) (hl:b+15<c):Lx ls s a n [] (some (b,5))
 | str {a b c n : Nat} {toks : List aX} {out : Option (Nat × Int)} {bytes : List UInt8} (hu : lZ s a b) (hb : b < s.size) (hc : s[b].toNat = 34) (hR : rL s (b + 1) [] (.hit c bytes)) (hbl : bytes.length <= 4096) (h : Lx ls s c (n + 1) toks out) :
   Lx ls s a n (⟨3,s.extract b c,0,mk bytes,vE ls b,vF ls b,!decide (a<b) && decide (0<n)⟩::toks) out
 |strShort {a b n:Nat} (hu:lZ s a b) (hb:b<s.size) (hc:s[b].toNat=34) (hR:rL s (b+1) [] .short):Lx ls s a n [] (some (b,4))
 |strWrong {a b n p:Nat} (hu:lZ s a b) (hb:b<s.size) (hc:s[b].toNat=34) (hR:rL s (b+1) [] (.wrong p)):Lx ls s a n [] (some (p,6))
 | sym {a b n : Nat} {toks : List aX} {out : Option (Nat × Int)} (hu : lZ s a b) (hb : b < s.size) (h1 : fF s[b].toNat = false) (h2 : dN s[b].toNat = false) (h3 : s[b].toNat ≠ 34) (hc : 0 <= Lib.indexByte mD s[b].toNat.toUInt8) (h : Lx ls s (b + 1) (n + 1) toks out) :
   Lx ls s a n (⟨4,s.extract b (b+1),0,ByteArray.empty,vE ls b,vF ls b,!decide (a<b) && decide (0<n)⟩::toks) out
 |none {a b n:Nat} (hu:lZ s a b) (hb:b<s.size) (h1:fF s[b].toNat=false) (h2:dN s[b].toNat=false) (h3:s[b].toNat≠34) (hc:Lib.indexByte mD s[b].toNat.toUInt8=-1):Lx ls s a n [] (some (b,6))
def cellsOf(l:List aX):List Value:=l.flatMap aX.cells
def iP(ls:List Int)(B X:Nat)(ks:List (Nat×Obj))(s:ByteArray)(lines:Value)(_b n:Nat)(_lv:Value)(xs:List Value)(wr:Int)(w0:World)(toks:List aX)(out:Option (Nat×Int))(w:World):Prop :=
 (∃t toks' lv' c,toks=t::toks'/\Lx ls s c (n+1) toks' out/\iQ B X ks s lines (c:Nat) lv' (n+1) (xs++t.cells) 0 wr w0 w) \/
 (∃(b' pos' n':Nat)(e':Int)(lv':Value)(xs':List Value),toks=[]/\out=some (b',e')/\e'≠0/\iQ B X ks s lines (pos':Nat) lv' n' xs' e' (b':Nat) w0 w)
theorem RR{c:Nat}(h:dN c=true):((c:Nat):Int)≠37/\fF c=false:=by
 simp only[dN,Bool.and_eq_true,qqy]at h;refine⟨by omega,?_⟩;have h1:¬97<=c:=by omega
 have h2:¬65<=c:=by omega
 simp[fF,h1,h2]
def aLP(ls:List Int)(s:ByteArray)(a n:Nat)(toks:List aX)(out:Option (Nat×Int)):Prop :=
 (∃b,lZ s a b/\b=s.size/\toks=[⟨0,s.extract b b,0,ByteArray.empty,vE ls b,vF ls b,!decide (a<b) && decide (0<n)⟩]/\out=none) \/
  (∃b p,lZ s a b/\b<s.size/\p<4 /\
   ∀(B X:Nat)(ks:List (Nat×Obj))(LN lv:Value)(xs:List Value)(wr:Int)(w0 w:World),jW LN ls ks->iQ B X ks s LN b lv n xs 0 wr w0 w ->
    (∀i,i<p->CV (81+i) X (!decide (a<b)) w)/\aH6 (81+p) X (!decide (a<b)) w (iP ls B X ks s LN b n lv xs wr w0 toks out)) \/
  (∃b,lZ s a b/\b<s.size/\toks=[]/\out=some (b,6) /\
   ∀(B X:Nat)(ks:List (Nat×Obj))(LN lv:Value)(xs:List Value)(wr:Int)(w0 w:World),jW LN ls ks->iQ B X ks s LN b lv n xs 0 wr w0 w ->
    (∀i,i<4->CV (81+i) X (!decide (a<b)) w))
theorem aFS{ls:List Int}(gL:rY ls){s:ByteArray}{a n:Nat}{toks:List aX}{out:Option (Nat×Int)}(h:Lx ls s a n toks out)(hsz:s.size<=100000)(hn:n<=1048576):aLP ls s a n toks out:=by
 cases h with
 |fin hu hb=>exact .inl ⟨_,hu,hb,rfl,rfl⟩
 | @word _ b c _ toks' _ hu hb hc hw hl h =>
  refine .inr (.inl ⟨b,0,hu,hb,by omega,fun B X ks LN lv xs wr w0 w hL hS=>⟨fun i hi=>absurd hi (by omega),fun w' b' => ?_⟩⟩);refine(aB6 (hS.step b') hL gL (by omega) hn hb hc c hw hl _).mono ?_;rintro e w'' ⟨rfl,lv',hS'⟩;exact⟨rfl,.inl ⟨_,_,lv',c,rfl,h,hS'⟩⟩
 | @wordLong _ b c _ hu hb hc hw hl =>
  refine .inr (.inl ⟨b,0,hu,hb,by omega,fun B X ks LN lv xs wr w0 w hL hS=>⟨fun i hi=>absurd hi (by omega),fun w' b' => ?_⟩⟩);refine(ZD (hS.step b') hL gL (by omega) hn hb hc c hw hl _).mono ?_;rintro e w'' ⟨rfl,lv',xs',hS'⟩;exact⟨rfl,.inr ⟨b,c,_,5,lv',xs',rfl,rfl,by decide,hS'⟩⟩
 | @number _ b c _ toks' _ v hu hb hc hw hl hv h =>
  refine .inr (.inl ⟨b,1,hu,hb,by omega,fun B X ks LN lv xs wr w0 w hL hS=>⟨fun i hi => ?_,fun w' b' => ?_⟩⟩)
  ·obtain rfl:i=0:=by omega
   exact fun w' b'=>oN (hS.step b') hb (RR hc).2 _
  ·refine(UK (hS.step b') hL gL (by omega) hn hb hc c hw hl v hv _).mono ?_;rintro e w'' ⟨rfl,lv',hS'⟩;exact⟨rfl,.inl ⟨_,_,lv',c,rfl,h,hS'⟩⟩
 | @long _ b c _ hu hb hc hw hl =>
  refine .inr (.inl ⟨b,1,hu,hb,by omega,fun B X ks LN lv xs wr w0 w hL hS=>⟨fun i hi => ?_,fun w' b' => ?_⟩⟩)
  ·obtain rfl:i=0:=by omega
   exact fun w' b'=>oN (hS.step b') hb (RR hc).2 _
  ·refine(RQ (hS.step b') (by omega) hb hc c hw hl _).mono ?_;rintro e w'' ⟨rfl,hS'⟩;exact⟨rfl,.inr ⟨b,b,_,5,lv,xs,rfl,rfl,by decide,hS'⟩⟩
 | @str _ b c _ toks' _ bytes hu hb hc hR hbl h =>
  refine .inr (.inl ⟨b,2,hu,hb,by omega,fun B X ks LN lv xs wr w0 w hL hS=>⟨fun i hi => ?_,fun w' b' => ?_⟩⟩)
  ·rcases(by omega:i=0\/i=1)with rfl|rfl
   ·exact fun w' b'=>oN (hS.step b') hb (by rw[hc];decide) _
   ·exact fun w' b'=>pD (hS.step b') hb (by rw[hc];decide) _
  ·refine(JZ (hS.step b') hL gL hsz hn hb hc hR (fun e b h=>by injection h with _ h;subst h;exact hbl) _).mono ?_;rintro e w'' ⟨rfl,lv',hS'⟩;exact⟨rfl,.inl ⟨_,_,lv',c,rfl,h,hS'⟩⟩
 | @strShort _ b _ hu hb hc hR =>
  refine .inr (.inl ⟨b,2,hu,hb,by omega,fun B X ks LN lv xs wr w0 w hL hS=>⟨fun i hi => ?_,fun w' b' => ?_⟩⟩)
  ·rcases(by omega:i=0\/i=1)with rfl|rfl
   ·exact fun w' b'=>oN (hS.step b') hb (by rw[hc];decide) _
   ·exact fun w' b'=>pD (hS.step b') hb (by rw[hc];decide) _
  ·refine(JZ (hS.step b') hL gL hsz hn hb hc hR (fun e b h=>by cases h) _).mono ?_;rintro e w'' ⟨rfl,hS'⟩;exact⟨rfl,.inr ⟨b,b,_,4,lv,xs,rfl,rfl,by decide,hS'⟩⟩
 | @strWrong _ b _ p hu hb hc hR =>
  refine .inr (.inl ⟨b,2,hu,hb,by omega,fun B X ks LN lv xs wr w0 w hL hS=>⟨fun i hi => ?_,fun w' b' => ?_⟩⟩)
  ·rcases(by omega:i=0\/i=1)with rfl|rfl
   ·exact fun w' b'=>oN (hS.step b') hb (by rw[hc];decide) _
   ·exact fun w' b'=>pD (hS.step b') hb (by rw[hc];decide) _
  ·refine(JZ (hS.step b') hL gL hsz hn hb hc hR (fun e b h=>by cases h) _).mono ?_;rintro e w'' ⟨rfl,hS'⟩;exact⟨rfl,.inr ⟨p,b,_,6,lv,xs,rfl,rfl,by decide,hS'⟩⟩
 | @sym _ b _ toks' _ hu hb h1 h2 h3 hc h =>
  refine .inr (.inl ⟨b,3,hu,hb,by omega,fun B X ks LN lv xs wr w0 w hL hS=>⟨fun i hi => ?_,fun w' b' => ?_⟩⟩)
  ·rcases(by omega:i=0\/i=1\/i=2)with rfl|rfl|rfl
   ·exact fun w' b'=>oN (hS.step b') hb h1 _
   ·exact fun w' b'=>pD (hS.step b') hb h2 _
   ·exact fun w' b'=>LV (hS.step b') hb (by omega) _
  ·refine(UL (hS.step b') hL gL (by omega) hn hb hc _).mono ?_;rintro e w'' ⟨rfl,lv',hS'⟩;exact⟨rfl,.inl ⟨_,_,lv',b+1,rfl,h,hS'⟩⟩
 | @none _ b _ hu hb h1 h2 h3 hc =>
  refine .inr (.inr ⟨b,hu,hb,rfl,rfl,fun B X ks LN lv xs wr w0 w hL hS i hi => ?_⟩);rcases(by omega:i=0\/i=1\/i=2\/i=3)with rfl|rfl|rfl|rfl
  ·exact fun w' b'=>oN (hS.step b') hb h1 _
  ·exact fun w' b'=>pD (hS.step b') hb h2 _
  ·exact fun w' b'=>LV (hS.step b') hb (by omega) _
  ·exact fun w' b'=>RV (hS.step b') hb hc _
theorem aFT:(List.range 256).all (fun n=>decide (Lib.indexByte mD n.toUInt8=-1) || decide (0<=Lib.indexByte mD n.toUInt8))=true:=by decide +kernel
theorem Y5(c:Nat)(hc:c<256):Lib.indexByte mD c.toUInt8=-1\/0<=Lib.indexByte mD c.toUInt8:=by
 have h:=qqm.1 aFT c (List.mem_range.2 hc);simpa only[Bool.or_eq_true,qqy]using h
theorem RS(ls:List Int)(s:ByteArray)(hs:s.size<=4000)(hat:∀b c,b<c->c<=b+15->c<=s.size->(∀k (h:k<s.size),b<=k->k<c->dN s[k].toNat=true)->∃v,Lib.atoi (s.extract b c).data.toList=some v) :
  ∀(m a n:Nat),s.size-a<=m->a<=s.size->∃toks out,Lx ls s a n toks out
 |0,a,n,hm,ha=>⟨_,_,.fin (.stop ha fun h=>by omega) (by omega)⟩
 |m+1,a,n,hm,ha=>by
  obtain⟨b,hu⟩:=PE s _ a (qa _) ha;have hle:=hu.le;by_cases hb:b<s.size
  ·cases h1:fF s[b].toNat with
   |true =>
    obtain⟨c,hw⟩:=FM hG s _ b rfl hle.2;have hlt:=n8 hw hb (by unfold hG;rw[h1];rfl);by_cases hl:c<=b+64
    ·obtain⟨toks,out,h⟩:=RS ls s hs hat m c (n+1) (by omega) hw.bs;exact⟨_,_,.word hu hb h1 hw hl h⟩
    ·exact⟨_,_,.wordLong hu hb h1 hw (by omega)⟩
   |false =>
    cases h2:dN s[b].toNat with
    |true =>
     obtain⟨c,hw⟩:=FM dN s _ b rfl hle.2;have hlt:=n8 hw hb h2;by_cases hl:c<=b+15
     ·obtain⟨toks,out,h⟩:=RS ls s hs hat m c (n+1) (by omega) hw.bs;obtain⟨v,hv⟩:=hat b c hlt hl hw.bs (fun k h h3 h4=>hw.ins k h h3 h4);exact⟨_,_,.number v hu hb h2 hw hl hv h⟩
     ·exact⟨_,_,.long hu hb h2 hw (by omega)⟩
    |false =>
     by_cases h3:s[b].toNat=34
     ·obtain⟨o,hR⟩:=WD s _ (b+1) [] (qa _);cases o with
      |hit c bytes =>
       have hc:=hR.le c bytes rfl;obtain⟨toks,out,h⟩:=RS ls s hs hat m c (n+1) (by omega) hc.2;exact⟨_,_,.str hu hb h3 hR (by have:=hR.len c bytes rfl;simp only[qql]at this;omega) h⟩
      |short=>exact⟨_,_,.strShort hu hb h3 hR⟩
      |wrong p=>exact⟨_,_,.strWrong hu hb h3 hR⟩
     ·rcases Y5 s[b].toNat s[b].toNat_lt with hc|hc
      ·exact⟨_,_,.none hu hb h1 h2 h3 hc⟩
      ·obtain⟨toks,out,h⟩:=RS ls s hs hat m (b+1) (n+1) (by omega) (by omega);exact⟨_,_,.sym hu hb h1 h2 h3 hc h⟩
  ·exact⟨_,_,.fin hu (by omega)⟩
end Go.Proofs.YtgkhemnmcgicnaaGreatDoor
