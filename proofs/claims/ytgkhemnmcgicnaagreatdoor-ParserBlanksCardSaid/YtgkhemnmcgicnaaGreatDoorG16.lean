/- Towards the law ParserBlanks, true for every text and all blanks (no condition): one part of the proof. -/
import Derived.Test.YtgkhemnmcgicnaaGreatDoorG01
import Derived.Test.YtgkhemnmcgicnaaGreatDoorProg
import Derived.Lib.Builder
import Derived.Lib.BufferMore
import Derived.WalkKit
import Derived.WalkSmall
import Derived.Below
import Derived.Deep.LoopGhost
import Derived.Lib.Walk
import Derived.Shelf.Strings.Builder1
import Derived.Shelf.Strings.Builder2
import Derived.Shelf.Strings.OnBuilder
import Derived.Shelf.Small.Strs
import Derived.Shelf.Strings.BuilderF
import Derived.Shelf.Strings.Builder2Cap
import Derived.Shelf.Strconv.Atoi
import Derived.Shelf.Strconv.Itoa0
import Derived.Shelf.Strconv.Itoa1
import Derived.Shelf.LaysM
import Derived.Shelf.Strconv.Itoa2
import Derived.Shelf.Strconv.Itoa3
import Derived.Shelf.Strconv.AtoiErrFast
import Derived.Shelf.Strconv.ParseIntEmpty
import Derived.Shelf.Strconv.AtoiFail
import Derived.Shelf.Strconv.Clone
import Derived.Shelf.Strconv.SyntaxError
import Derived.Shelf.LaysC
import Derived.Shelf.Strconv.ToError
import Derived.Shelf.Strconv.Lower
import Derived.Shelf.Strconv.ParseUint10
import Derived.Shelf.Strconv.ParseUint10Empty
import Derived.Shelf.Strconv.ParseUint10Any
import Derived.Shelf.Strconv.ParseInt10
import Derived.Shelf.Strconv.AtoiLong
import Derived.Shelf.Strconv.AtoiInnerAll
import Derived.Shelf.Strconv.RangeError
import Derived.Shelf.Strconv.ToErrorRange
import Derived.Shelf.Strconv.AtoiAll
import Derived.Shelf.Strings.Search1
import Derived.Shelf.Strings.Search2
import Derived.Shelf.Strings.Search3
import Derived.Shelf.Strings.Cut
import Derived.Shelf.Strings.Count
import Derived.Shelf.Strings.Shaped
import Derived.Shelf.Strings.Prefix
import Derived.Shelf.Strings.Split
import Derived.Shelf.Strings.SplitShaped
import Derived.Shelf.Bits.Mul64
import Derived.Shelf.Unicode.DecodeSlow
import Derived.Ground.Names2Prog
import Derived.Shelf.Slices.SearchI
import Derived.Shelf.Slices.Empties
import Derived.Deep.RegionWith
import Derived.Deep.RegionHeld3
import Derived.Deep.AppendLies
import Derived.StillTail
import Derived.WalkMore
import Derived.Deep.QuietTactic
import Derived.BigQuiet
import Derived.StillTailTactics
import Derived.Lib.Slices
import Derived.Lib.Strings
namespace Go.Proofs.YtgkhemnmcgicnaaGreatDoor
open Go.RowKit
theorem cJ{B:Nat}{a w:World}(h:Below B a w)(n:Nat):Below B a (w.drewN n):=h.trans ⟨rfl,rfl,rfl,qa _,fun _ _=>rfl⟩
structure iQ(B X:Nat)(ks:List (Nat×Obj))(s:ByteArray)(lines:Value)(pos:Int)(lv:Value)(n:Nat)(xs:List Value)(e wr:Int)(w0 w:World):Prop where
 hX:B<=X
 hB:B<=w.heap.size
 blk:w.heap[X]?=some (.cells #[.string s,Z pos,lines,lv,Z e,Z wr] 108 (0,0))
 own:w.ownsRow B 59 7 lv n xs
 keep:∀p∈ks,w.heap[p.1]?=some p.2/\p.1≠X/\B<=p.1/\∀cs fr,p.2≠.cells cs 59 fr
 below:Below B w0 w
theorem kE{w:World}{B:Nat}{e:TypeId}{size:Nat}{v:Value}{n:Nat}{xs:List Value}{b:Nat}{o:Obj}(hown:w.ownsRow B e size v n xs)(hb:w.heap[b]?=some o)(hTe:∀cs fr,o≠.cells cs e fr):v.ownBlock≠some b:=by
 rcases hown.2 with⟨rfl,_⟩ |⟨g,cap,cur,rfl,_,hg,_⟩
 ·simp[Value.ownBlock]
 ·intro h;simp only[Value.ownBlock,qv]at h;subst h;rw[hg]at hb;exact hTe _ _ (qi hb).symm
theorem aB{w w':World}{B:Nat}{e:TypeId}{size:Nat}{v:Value}{n:Nat}{xs:List Value}(h:w.ownsRow B e size v n xs)(hb:∀k,v.ownBlock=some k->w'.heap[k]?=w.heap[k]?):w'.ownsRow B e size v n xs:=by
 refine⟨h.1,?_⟩;rcases h.2 with hn |⟨g,cap,cur,rfl,hg,hgg,rest⟩
 ·exact .inl hn
 ·exact .inr ⟨g,cap,cur,rfl,hg,(hb g rfl).trans hgg,rest⟩
section
variable{B X:Nat}{ks:List (Nat×Obj)}{s:ByteArray}{lines:Value}{pos:Int}{lv:Value}{n:Nat}{xs:List Value}{e wr:Int}{w0 w:World}
theorem iQ.lt(h:iQ B X ks s lines pos lv n xs e wr w0 w):X<w.heap.size:=(qe.1 h.blk).1
theorem iQ.step(h:iQ B X ks s lines pos lv n xs e wr w0 w){w':World}(hb:Below w.heap.size w w'):iQ B X ks s lines pos lv n xs e wr w0 w':=by
 have hB:=h.hB;refine⟨h.hX,qx h.hB hb.size,(hb.block X h.lt).trans h.blk,aB h.own fun k hk=>hb.block k (h.own.lt k hk).2,fun p hp => ?_,h.below.trans (hb.mono h.hB)⟩;obtain⟨h1,h2,h3,h4⟩:=h.keep p hp;exact⟨(hb.block _ (qe.1 h1).1).trans h1,h2,h3,h4⟩
theorem iQ.put(h:iQ B X ks s lines pos lv n xs e wr w0 w)(i:Nat)(u:Value){pos' e' wr':Int}(hu:(#[.string s,Z pos,lines,lv,Z e,Z wr]:Array Value).setIfInBounds i u=#[.string s,Z pos',lines,lv,Z e',Z wr']) :
  iQ B X ks s lines pos' lv n xs e' wr' w0 (w.setCell ⟨X,i,none⟩ u):=by
 have hne:lv.ownBlock≠some X:=kE h.own h.blk (by intro cs fr hc;injection hc with _ h2 _;exact absurd h2 (by decide));refine⟨h.hX,by simpa [World.setCell]using h.hB,?_,aB h.own fun k hk=>qh _ _ _ _ (fun e=>hne (by rw[hk,e])),fun p hp => ?_,h.below.setCell (p:=⟨X,i,none⟩) h.hX _⟩
 ·rw[Lib.heap_setCell_same h.blk,hu]
 ·obtain⟨h1,h2,h3,h4⟩:=h.keep p hp;exact⟨(qh _ _ _ _ h2).trans h1,h2,h3,h4⟩
theorem iQ.at(h:iQ B X ks s lines pos lv n xs e wr w0 w)(q:Int):iQ B X ks s lines q lv n xs e wr w0 (w.setCell ⟨X,1,none⟩ (Z q)):=h.put 1 _ rfl
theorem iQ.fail(h:iQ B X ks s lines pos lv n xs e wr w0 w)(a b:Int):iQ B X ks s lines pos lv n xs a b w0 ((w.setCell ⟨X,5,none⟩ (Z b)).setCell ⟨X,4,none⟩ (Z a)):=(h.put (e':=e) (wr':=b) (pos':=pos) 5 _ rfl).put 4 _ rfl
theorem iQ.push(h:iQ B X ks s lines pos lv n xs e wr w0 w){w':World}{v':Value}{n':Nat}{xs':List Value}(hg:w.grownBy w' lv.ownBlock)(hown:w'.ownsRow B 59 7 v' n' xs') :
  iQ B X ks s lines pos v' n' xs' e wr w0 (w'.setCell ⟨X,3,none⟩ v'):=by
 have hne:lv.ownBlock≠some X:=kE h.own h.blk (by intro cs fr hc;injection hc with _ h2 _;exact absurd h2 (by decide));have hblk:w'.heap[X]?=some (.cells #[.string s,Z pos,lines,lv,Z e,Z wr] 108 (0,0)):=(hg.block X h.lt (fun e=>hne e.symm)).trans h.blk;have hne':v'.ownBlock≠some X:=kE hown hblk (by intro cs fr hc;injection hc with _ h2 _;exact absurd h2 (by decide));refine⟨h.hX,by simpa [World.setCell]using qx h.hB hg.size,?_,aB hown fun k hk=>qh _ _ _ _ (fun e=>hne' (by rw[hk,e])),fun p hp => ?_,?_⟩
 ·rw[Lib.heap_setCell_same hblk];rfl
 ·obtain⟨h1,h2,h3,h4⟩:=h.keep p hp;have hnp:lv.ownBlock≠some p.1:=kE h.own h1 h4;exact⟨(qh _ _ _ _ h2).trans ((hg.block _ (qe.1 h1).1 (fun e=>hnp e.symm)).trans h1),h2,h3,h4⟩
 ·exact(h.below.grown hg h.hB (fun k hk=>(h.own.lt k hk).1)).setCell (p:=⟨X,3,none⟩) h.hX _
theorem iQ.c0(h:iQ B X ks s lines pos lv n xs e wr w0 w):w.cell? ⟨X,0,none⟩=some (.string s):=by rw[Lib.cell_of_heap h.blk];rfl
theorem iQ.c1(h:iQ B X ks s lines pos lv n xs e wr w0 w):w.cell? ⟨X,1,none⟩=some (Z pos):=by rw[Lib.cell_of_heap h.blk];rfl
theorem iQ.c2(h:iQ B X ks s lines pos lv n xs e wr w0 w):w.cell? ⟨X,2,none⟩=some lines:=by rw[Lib.cell_of_heap h.blk];rfl
theorem iQ.c3(h:iQ B X ks s lines pos lv n xs e wr w0 w):w.cell? ⟨X,3,none⟩=some lv:=by rw[Lib.cell_of_heap h.blk];rfl
theorem iQ.c4(h:iQ B X ks s lines pos lv n xs e wr w0 w):w.cell? ⟨X,4,none⟩=some (Z e):=by rw[Lib.cell_of_heap h.blk];rfl
theorem iQ.c5(h:iQ B X ks s lines pos lv n xs e wr w0 w):w.cell? ⟨X,5,none⟩=some (Z wr):=by rw[Lib.cell_of_heap h.blk];rfl
theorem iQ.fz(h:iQ B X ks s lines pos lv n xs e wr w0 w)(i:Nat):w.frozen? ⟨X,i,none⟩=false:=Lib.frozen_of_heap h.blk i
theorem iQ.lvIs(h:iQ B X ks s lines pos lv n xs e wr w0 w):∃ao c,lv=.slice ao n c:=by
 rcases h.own.2 with⟨hv,h0⟩ |⟨g,cap,cur,hv,_⟩
 ·exact⟨none,0,by rw[hv,h0]⟩
 ·exact⟨_,_,hv⟩
end
structure aX where
 kind:Int
 text:ByteArray
 value:Int
 bytes:ByteArray
 line:Int
 col:Int
 joined:Bool
def aX.cells(t:aX):List Value:=[Z t.kind,.string t.text,Z t.value,.string t.bytes,Z t.line,Z t.col,.bool t.joined]
def fF(c:Nat):Bool:=(decide (97<=c) && decide (c<=122)) ||(decide (65<=c) && decide (c<=90))
def dN(c:Nat):Bool:=decide (48<=c) && decide (c<=57)
def jX(c:Nat):Bool:=decide (c=32) || decide (c=9) || decide (c=10) || decide (c=13)
def hG(c:Nat):Bool:=fF c || dN c || decide (c=95)
set_option maxHeartbeats 2000000
set_option maxRecDepth 100000
theorem RM(c:Int)(w:World):Calls Tryz.prog 117 #[.int .u8 c] w fun e w'=>e=.returned (.bool ((decide (97<=c) && decide (c<=122)) ||(decide (65<=c) && decide (c<=90))))/\w'=w:=by
 go_enter Tryz.func117,Tryz.ntmps117;by_cases h1:97<=c<;>by_cases h2:c<=122<;>by_cases h3:65<=c<;>by_cases h4:c<=90;all_goals first|omega|skip
 all_goals go_wp2
 all_goals go_ret
 all_goals simp_all
theorem UG(c:Int)(w:World):Calls Tryz.prog 120 #[.int .u8 c] w fun e w'=>e=.returned (.bool (decide (48<=c) && decide (c<=57)))/\w'=w:=by
 go_enter Tryz.func120,Tryz.ntmps120;by_cases h1:48<=c<;>by_cases h2:c<=57;all_goals first|omega|skip
 all_goals go_wp2
 all_goals go_ret
 all_goals simp_all
theorem UH(c:Int)(w:World):Calls Tryz.prog 129 #[.int .u8 c] w fun e w'=>e=.returned (.bool (decide (c=32) || decide (c=9) || decide (c=10) || decide (c=13)))/\w'=w:=by
 go_enter Tryz.func129,Tryz.ntmps129;by_cases h1:c=32<;>by_cases h2:c=9<;>by_cases h3:c=10<;>by_cases h4:c=13;all_goals first|omega|skip
 all_goals(try subst h1);(try subst h2);(try subst h3);(try subst h4)
 all_goals go_wp2
 all_goals go_ret
 all_goals simp_all
theorem qH(c:Nat)(w:World){b:Bool}(h:fF c=b):Calls Tryz.prog 117 #[.int .u8 c] w fun e w'=>e=.returned (.bool b)/\w'=w:=by
 refine(RM c w).mono ?_;rintro e w' ⟨rfl,rfl⟩;refine⟨?_,rfl⟩;rw[<-h];unfold fF
 congr 2
 congr 1<;>congr 1<;>exact decide_eq_decide.2 (by omega)
theorem rC(c:Nat)(w:World){b:Bool}(h:dN c=b):Calls Tryz.prog 120 #[.int .u8 c] w fun e w'=>e=.returned (.bool b)/\w'=w:=by
 refine(UG c w).mono ?_;rintro e w' ⟨rfl,rfl⟩;refine⟨?_,rfl⟩;rw[<-h];unfold dN
 congr 2
 congr 1<;>exact decide_eq_decide.2 (by omega)
theorem RN(c:Nat)(w:World){b:Bool}(h:jX c=b):Calls Tryz.prog 129 #[.int .u8 c] w fun e w'=>e=.returned (.bool b)/\w'=w:=by
 refine(UH c w).mono ?_;rintro e w' ⟨rfl,rfl⟩;refine⟨?_,rfl⟩;rw[<-h];unfold jX
 congr 2
 congr 1
 ·congr 1
  ·congr 1<;>exact decide_eq_decide.2 (by omega)
  ·exact decide_eq_decide.2 (by omega)
 ·exact decide_eq_decide.2 (by omega)
theorem aB3(c:Nat)(w:World)(hl:fF c=true):Calls Tryz.prog 119 #[.int .u8 c] w fun e w'=>e=.returned (.bool true)/\w'=w:=by
 go_enter Tryz.func119,Tryz.ntmps119;go_wp2_with(go_at_call 117;refine(qH _ _ hl).mono ?_;rintro e w2 ⟨rfl,rfl⟩);go_ret;exact⟨rfl,rfl⟩
theorem aB4(c:Nat)(w:World)(hl:fF c=false)(hd:dN c=true):Calls Tryz.prog 119 #[.int .u8 c] w fun e w'=>e=.returned (.bool true)/\w'=w:=by
 go_enter Tryz.func119,Tryz.ntmps119;go_wp2_with(first
  |(go_at_call 117;refine(qH _ _ hl).mono ?_;rintro e w2 ⟨rfl,rfl⟩)
  |(go_at_call 120;refine(rC _ _ hd).mono ?_;rintro e w2 ⟨rfl,rfl⟩))
 go_ret;exact⟨rfl,rfl⟩
theorem aB5(c:Nat)(w:World)(hl:fF c=false)(hd:dN c=false):Calls Tryz.prog 119 #[.int .u8 c] w fun e w'=>e=.returned (.bool (decide ((c:Int)=95)))/\w'=w:=by
 go_enter Tryz.func119,Tryz.ntmps119;go_wp2_with(first
  |(go_at_call 117;refine(qH _ _ hl).mono ?_;rintro e w2 ⟨rfl,rfl⟩)
  |(go_at_call 120;refine(rC _ _ hd).mono ?_;rintro e w2 ⟨rfl,rfl⟩))
 all_goals go_ret
 all_goals first|exact⟨rfl,rfl⟩|simp_all
theorem LT(c:Nat)(w:World){b:Bool}(h:hG c=b):Calls Tryz.prog 119 #[.int .u8 c] w fun e w'=>e=.returned (.bool b)/\w'=w:=by
 unfold hG at h;cases hl:fF c
 ·cases hd:dN c
  ·have:=aB5 c w hl hd;rw[hl,hd]at h;have hc4:decide (c=95)=decide ((c:Int)=95):=decide_eq_decide.2 (by omega);rw[<-hc4]at this;rw[<-h];simpa using this
  ·rw[hl,hd]at h;have:=aB4 c w hl hd;rw[<-h];simpa using this
 ·rw[hl]at h;have:=aB3 c w hl;rw[<-h];simpa using this
structure yD(p:Nat->Bool)(s:ByteArray)(a b:Nat):Prop where
 ab:a<=b
 bs:b<=s.size
 ins:∀k (h:k<s.size),a<=k->k<b->p s[k].toNat=true
 out:∀h:b<s.size,p s[b].toNat=false
theorem LU(X:Nat)(s:ByteArray)(a b:Nat)(w:World)(c0:w.cell? ⟨X,0,none⟩=some (.string s))(hsz:s.size<=1048576)(hu:yD dN s a b) :
  Calls Tryz.prog 118 #[.pointer (some ⟨X,0,none⟩),Z a,.func (.func 120) #[] #[]] w fun e w'=>e=.returned (Z b)/\w'=w:=by
 obtain⟨hab,hbs,hin,hout⟩:=hu;go_enter Tryz.func118,Tryz.ntmps118;go_wp2
 go_loop [1] (fun v=>∃k:Nat,a<=k/\k<=b/\v=Z k) (fun v=>b-(intOf v).toNat)
 case atStart=>exact⟨a,qa _,hab,rfl⟩
 case round =>
  obtain⟨k,hk1,hk2,rfl⟩:=hrel;by_cases hlt:k<s.size
  ·by_cases hkb:k<b
   ·have hd:=hin k hlt hk1 hkb;go_wp2_with(go_at_call 120;refine(rC _ _ hd).mono ?_;rintro e w2 ⟨rfl,rfl⟩)
    go_round
    case rel=>exact⟨k+1,by omega,hkb,by go_num⟩
    case measure=>simp[intOf];omega
   ·obtain rfl:k=b:=by omega
    have hd:=hout hlt;go_wp2_with(go_at_call 120;refine(rC _ _ hd).mono ?_;rintro e w2 ⟨rfl,rfl⟩);go_ret;exact⟨rfl,rfl⟩
  ·obtain rfl:k=b:=by omega
   go_wp2;go_ret;exact⟨rfl,rfl⟩
theorem G4(X:Nat)(s:ByteArray)(a b:Nat)(w:World)(c0:w.cell? ⟨X,0,none⟩=some (.string s))(hsz:s.size<=1048576)(hu:yD hG s a b) :
  Calls Tryz.prog 118 #[.pointer (some ⟨X,0,none⟩),Z a,.func (.func 119) #[] #[]] w fun e w'=>e=.returned (Z b)/\w'=w:=by
 obtain⟨hab,hbs,hin,hout⟩:=hu;go_enter Tryz.func118,Tryz.ntmps118;go_wp2
 go_loop [1] (fun v=>∃k:Nat,a<=k/\k<=b/\v=Z k) (fun v=>b-(intOf v).toNat)
 case atStart=>exact⟨a,qa _,hab,rfl⟩
 case round =>
  obtain⟨k,hk1,hk2,rfl⟩:=hrel;by_cases hlt:k<s.size
  ·by_cases hkb:k<b
   ·have hd:=hin k hlt hk1 hkb;go_wp2_with(go_at_call 119;refine(LT _ _ hd).mono ?_;rintro e w2 ⟨rfl,rfl⟩)
    go_round
    case rel=>exact⟨k+1,by omega,hkb,by go_num⟩
    case measure=>simp[intOf];omega
   ·obtain rfl:k=b:=by omega
    have hd:=hout hlt;go_wp2_with(go_at_call 119;refine(LT _ _ hd).mono ?_;rintro e w2 ⟨rfl,rfl⟩);go_ret;exact⟨rfl,rfl⟩
  ·obtain rfl:k=b:=by omega
   go_wp2;go_ret;exact⟨rfl,rfl⟩
section
variable{B X:Nat}{ks:List (Nat×Obj)}{s:ByteArray}{lines:Value}{pos:Int}{lv:Value}{n:Nat}{xs:List Value}{wr:Int}{w0 w:World}
theorem oM(h:iQ B X ks s lines pos lv n xs 0 wr w0 w)(a e:Int) :
  Calls Tryz.prog 87 #[.pointer (some ⟨X,0,none⟩),Z a,Z e] w fun r w'=>r=.returned (.tuple #[])/\iQ B X ks s lines pos lv n xs e a w0 w':=by
 have c4:=h.c4;have f4:=h.fz 4;have f5:=h.fz 5;have c5:=h.c5;have hfin:=h.fail e a;clear h;go_enter Tryz.func87,Tryz.ntmps87;go_wp2
 go_end0
 exact⟨rfl,hfin⟩
end
end Go.Proofs.YtgkhemnmcgicnaaGreatDoor
namespace Go.Proofs
open Go.Shelf
def Tryz.lays169_ren:Go.Shelf.Ren:=⟨fun|169=>123|n=>n,fun|70=>198|9=>9|0=>0|72=>200|37=>54|127=>234|3=>3|5=>5|n=>n,fun|n=>n⟩
theorem Tryz.lays169:Go.Proofs.Lays.n169 Tryz.prog Tryz.lays169_ren:={
 mixed:=by kernel_rfl
 f169:=Tryz.func123.trans (congrArg some (by kernel_rfl))
 t0:=Tryz.underlying0
 a0:=Tryz.isAgg0
 z0:=Tryz.sizeOf0
 v0:=Tryz.zeroValue0
 t3:=Tryz.underlying3
 a3:=Tryz.isAgg3
 z3:=Tryz.sizeOf3
 v3:=Tryz.zeroValue3
 t9:=Tryz.underlying9
 a9:=Tryz.isAgg9
 z9:=Tryz.sizeOf9
 v9:=Tryz.zeroValue9
 t37:=Tryz.underlying54
 a37:=Tryz.isAgg54
 z37:=Tryz.sizeOf54
 v37:=Tryz.zeroValue54
 t70:=Tryz.underlying198
 a70:=Tryz.isAgg198
 z70:=Tryz.sizeOf198
 v70:=Tryz.zeroValue198
 t72:=Tryz.underlying200
 a72:=Tryz.isAgg200
 z72:=Tryz.sizeOf200
 v72:=Tryz.zeroValue200
 t127:=Tryz.underlying234
 a127:=Tryz.isAgg234
 z127:=Tryz.sizeOf234
 v127:=Tryz.zeroValue234 }
theorem Tryz.Builder_Extra_169:Builder.Extra Tryz.prog Tryz.lays169_ren:={
 sizeBuilder:=by kernel_rfl
 liesBuilder:=by kernel_rfl
 t5:=Tryz.underlying5
 a5:=Tryz.isAgg5
 z5:=Tryz.sizeOf5
 v5:=Tryz.zeroValue5
 infoByte:=by kernel_rfl
 cellsByte:=by kernel_rfl
 sizeByte:=by kernel_rfl
 neB5:=by decide }
open Go.RowKit in
theorem Tryz.Builder_String_any(B b:Nat)(l:List UInt8)(w:World)(h:Lib.IsBuilder 200 5 B b (Lib.byteCells l) w)(hBw:B<=w.heap.size) :
  Calls Tryz.prog 123 #[.pointer (some ⟨b,0,none⟩)] w fun e w'=>e=.returned (.string ⟨l.toArray⟩)/\Below B w w':=Any.Builder_String_any Tryz.lays169 Tryz.Builder_Extra_169 B b l w h hBw
def Tryz.lays137_ren:Go.Shelf.Ren:=⟨fun|137=>127|217=>157|266=>192|n=>n,fun|9=>9|5=>5|3=>3|n=>n,fun|n=>n⟩
theorem Tryz.lays137:Go.Proofs.Lays.n137 Tryz.prog Tryz.lays137_ren:={
 mixed:=by kernel_rfl
 f137:=Tryz.func127.trans (congrArg some (by kernel_rfl))
 f217:=Tryz.func157.trans (congrArg some (by kernel_rfl))
 f266:=Tryz.func192.trans (congrArg some (by kernel_rfl))
 t3:=Tryz.underlying3
 a3:=Tryz.isAgg3
 z3:=Tryz.sizeOf3
 v3:=Tryz.zeroValue3
 t5:=Tryz.underlying5
 a5:=Tryz.isAgg5
 z5:=Tryz.sizeOf5
 v5:=Tryz.zeroValue5
 t9:=Tryz.underlying9
 a9:=Tryz.isAgg9
 z9:=Tryz.sizeOf9
 v9:=Tryz.zeroValue9 }
open Go.RowKit in
theorem Tryz.strings_IndexByte(s:ByteArray)(c:Int)(w:World) :
  Calls Tryz.prog 127 #[.string s,.int .u8 c] w fun e w'=>e=.returned (Z (Lib.indexByte s.data.toList c.toNat.toUInt8))/\w'=w:=Any.strings_IndexByte Tryz.lays137 s c w
def Tryz.lays172_ren:Go.Shelf.Ren:=⟨fun|172=>121|244=>153|245=>154|247=>186|279=>187|280=>188|281=>189|282=>190|287=>214|316=>215|171=>147|205=>216|321=>231|322=>232|243=>180|246=>209|283=>226|284=>227|285=>228|286=>229|129=>206|317=>238|318=>239|319=>240|320=>241|337=>246|338=>247|n=>n,fun|9=>9|3=>3|75=>195|76=>196|4=>4|5=>5|167=>250|37=>54|0=>0|85=>251|2=>2|168=>253|53=>276|175=>285|46=>205|210=>288|127=>234|145=>310|143=>308|21=>21|171=>302|173=>304|212=>317|51=>274|20=>20|213=>318|232=>324|233=>325|80=>87|n=>n,fun|15=>0|16=>1|17=>3|18=>4|19=>5|n=>n⟩
theorem Tryz.lays172:Go.Proofs.Lays.n172 Tryz.prog Tryz.lays172_ren:={
 mixed:=by kernel_rfl
 f129:=Tryz.func206.trans (congrArg some (by kernel_rfl))
 f171:=Tryz.func147.trans (congrArg some (by kernel_rfl))
 f172:=Tryz.func121.trans (congrArg some (by kernel_rfl))
 f205:=Tryz.func216.trans (congrArg some (by kernel_rfl))
 f243:=Tryz.func180.trans (congrArg some (by kernel_rfl))
 f244:=Tryz.func153.trans (congrArg some (by kernel_rfl))
 f245:=Tryz.func154.trans (congrArg some (by kernel_rfl))
 f246:=Tryz.func209.trans (congrArg some (by kernel_rfl))
 f247:=Tryz.func186.trans (congrArg some (by kernel_rfl))
 f279:=Tryz.func187.trans (congrArg some (by kernel_rfl))
 f280:=Tryz.func188.trans (congrArg some (by kernel_rfl))
 f281:=Tryz.func189.trans (congrArg some (by kernel_rfl))
 f282:=Tryz.func190.trans (congrArg some (by kernel_rfl))
 f283:=Tryz.func226.trans (congrArg some (by kernel_rfl))
 f284:=Tryz.func227.trans (congrArg some (by kernel_rfl))
 f285:=Tryz.func228.trans (congrArg some (by kernel_rfl))
 f286:=Tryz.func229.trans (congrArg some (by kernel_rfl))
 f287:=Tryz.func214.trans (congrArg some (by kernel_rfl))
 f316:=Tryz.func215.trans (congrArg some (by kernel_rfl))
 f317:=Tryz.func238.trans (congrArg some (by kernel_rfl))
 f318:=Tryz.func239.trans (congrArg some (by kernel_rfl))
 f319:=Tryz.func240.trans (congrArg some (by kernel_rfl))
 f320:=Tryz.func241.trans (congrArg some (by kernel_rfl))
 f321:=Tryz.func231.trans (congrArg some (by kernel_rfl))
 f322:=Tryz.func232.trans (congrArg some (by kernel_rfl))
 f337:=Tryz.func246.trans (congrArg some (by kernel_rfl))
 f338:=Tryz.func247.trans (congrArg some (by kernel_rfl))
 t0:=Tryz.underlying0
 a0:=Tryz.isAgg0
 z0:=Tryz.sizeOf0
 v0:=Tryz.zeroValue0
 t2:=Tryz.underlying2
 a2:=Tryz.isAgg2
 z2:=Tryz.sizeOf2
 v2:=Tryz.zeroValue2
 t3:=Tryz.underlying3
 a3:=Tryz.isAgg3
 z3:=Tryz.sizeOf3
 v3:=Tryz.zeroValue3
 t4:=Tryz.underlying4
 a4:=Tryz.isAgg4
 z4:=Tryz.sizeOf4
 v4:=Tryz.zeroValue4
 t5:=Tryz.underlying5
 a5:=Tryz.isAgg5
 z5:=Tryz.sizeOf5
 v5:=Tryz.zeroValue5
 t9:=Tryz.underlying9
 a9:=Tryz.isAgg9
 z9:=Tryz.sizeOf9
 v9:=Tryz.zeroValue9
 t20:=Tryz.underlying20
 a20:=Tryz.isAgg20
 z20:=Tryz.sizeOf20
 v20:=Tryz.zeroValue20
 t21:=Tryz.underlying21
 a21:=Tryz.isAgg21
 z21:=Tryz.sizeOf21
 v21:=Tryz.zeroValue21
 t37:=Tryz.underlying54
 a37:=Tryz.isAgg54
 z37:=Tryz.sizeOf54
 v37:=Tryz.zeroValue54
 t46:=Tryz.underlying205
 a46:=Tryz.isAgg205
 z46:=Tryz.sizeOf205
 v46:=Tryz.zeroValue205
 t51:=Tryz.underlying274
 a51:=Tryz.isAgg274
 z51:=Tryz.sizeOf274
 v51:=Tryz.zeroValue274
 t53:=Tryz.underlying276
 a53:=Tryz.isAgg276
 z53:=Tryz.sizeOf276
 v53:=Tryz.zeroValue276
 t75:=Tryz.underlying195
 a75:=Tryz.isAgg195
 z75:=Tryz.sizeOf195
 v75:=Tryz.zeroValue195
 t76:=Tryz.underlying196
 a76:=Tryz.isAgg196
 z76:=Tryz.sizeOf196
 v76:=Tryz.zeroValue196
 t85:=Tryz.underlying251
 a85:=Tryz.isAgg251
 z85:=Tryz.sizeOf251
 v85:=Tryz.zeroValue251
 t127:=Tryz.underlying234
 a127:=Tryz.isAgg234
 z127:=Tryz.sizeOf234
 v127:=Tryz.zeroValue234
 t143:=Tryz.underlying308
 a143:=Tryz.isAgg308
 z143:=Tryz.sizeOf308
 v143:=Tryz.zeroValue308
 t145:=Tryz.underlying310
 a145:=Tryz.isAgg310
 z145:=Tryz.sizeOf310
 v145:=Tryz.zeroValue310
 t167:=Tryz.underlying250
 a167:=Tryz.isAgg250
 z167:=Tryz.sizeOf250
 v167:=Tryz.zeroValue250
 t168:=Tryz.underlying253
 a168:=Tryz.isAgg253
 z168:=Tryz.sizeOf253
 v168:=Tryz.zeroValue253
 t171:=Tryz.underlying302
 a171:=Tryz.isAgg302
 z171:=Tryz.sizeOf302
 v171:=Tryz.zeroValue302
 t173:=Tryz.underlying304
 a173:=Tryz.isAgg304
 z173:=Tryz.sizeOf304
 v173:=Tryz.zeroValue304
 t175:=Tryz.underlying285
 a175:=Tryz.isAgg285
 z175:=Tryz.sizeOf285
 v175:=Tryz.zeroValue285
 t210:=Tryz.underlying288
 a210:=Tryz.isAgg288
 z210:=Tryz.sizeOf288
 v210:=Tryz.zeroValue288
 t212:=Tryz.underlying317
 a212:=Tryz.isAgg317
 z212:=Tryz.sizeOf317
 v212:=Tryz.zeroValue317
 t213:=Tryz.underlying318
 a213:=Tryz.isAgg318
 z213:=Tryz.sizeOf318
 t232:=Tryz.underlying324
 a232:=Tryz.isAgg324
 z232:=Tryz.sizeOf324
 v232:=Tryz.zeroValue324
 t233:=Tryz.underlying325
 a233:=Tryz.isAgg325
 z233:=Tryz.sizeOf325
 v233:=Tryz.zeroValue325
 g15:=by kernel_rfl
 g16:=by kernel_rfl
 g17:=by kernel_rfl
 g18:=by kernel_rfl
 g19:=by kernel_rfl }
open Go.RowKit in
theorem Tryz.strconv_Atoi(s:ByteArray)(n:Int)(hl:s.size<=18)(h:Lib.atoi s.data.toList=some n)(w:World) :
  Calls Tryz.prog 121 #[.string s] w fun e w'=>e=.returned (.tuple #[Z n,.nilIface])/\∃t,w'=Lib.bytesWorld w 5 t:=Any.strconv_Atoi Tryz.lays172 s n hl h w
def Tryz.laysM171_ren:Go.Shelf.Ren:=⟨fun|171=>147|243=>180|246=>209|283=>226|284=>227|285=>228|286=>229|129=>206|317=>238|318=>239|319=>240|320=>241|337=>246|338=>247|n=>n,fun|3=>3|9=>9|2=>2|4=>4|171=>302|0=>0|53=>276|37=>54|5=>5|173=>304|212=>317|51=>274|20=>20|213=>318|46=>205|232=>324|233=>325|n=>n,fun|17=>3|18=>4|19=>5|n=>n⟩
theorem Tryz.laysM171:Go.Proofs.LaysM.n171 Tryz.prog Tryz.laysM171_ren:={
 mixed:=by kernel_rfl
 f129:=Tryz.func206.trans (congrArg some (by kernel_rfl))
 f171:=Tryz.func147.trans (congrArg some (by kernel_rfl))
 f243:=Tryz.func180.trans (congrArg some (by kernel_rfl))
 f246:=Tryz.func209.trans (congrArg some (by kernel_rfl))
 f283:=Tryz.func226.trans (congrArg some (by kernel_rfl))
 f284:=Tryz.func227.trans (congrArg some (by kernel_rfl))
 f285:=Tryz.func228.trans (congrArg some (by kernel_rfl))
 f286:=Tryz.func229.trans (congrArg some (by kernel_rfl))
 f317:=Tryz.func238.trans (congrArg some (by kernel_rfl))
 f318:=Tryz.func239.trans (congrArg some (by kernel_rfl))
 f319:=Tryz.func240.trans (congrArg some (by kernel_rfl))
 f320:=Tryz.func241.trans (congrArg some (by kernel_rfl))
 f337:=Tryz.func246.trans (congrArg some (by kernel_rfl))
 f338:=Tryz.func247.trans (congrArg some (by kernel_rfl))
 t0:=Tryz.underlying0
 a0:=Tryz.isAgg0
 z0:=Tryz.sizeOf0
 v0:=Tryz.zeroValue0
 t2:=Tryz.underlying2
 a2:=Tryz.isAgg2
 z2:=Tryz.sizeOf2
 v2:=Tryz.zeroValue2
 t3:=Tryz.underlying3
 a3:=Tryz.isAgg3
 z3:=Tryz.sizeOf3
 v3:=Tryz.zeroValue3
 t4:=Tryz.underlying4
 a4:=Tryz.isAgg4
 z4:=Tryz.sizeOf4
 v4:=Tryz.zeroValue4
 t5:=Tryz.underlying5
 a5:=Tryz.isAgg5
 z5:=Tryz.sizeOf5
 v5:=Tryz.zeroValue5
 t9:=Tryz.underlying9
 a9:=Tryz.isAgg9
 z9:=Tryz.sizeOf9
 v9:=Tryz.zeroValue9
 t20:=Tryz.underlying20
 a20:=Tryz.isAgg20
 z20:=Tryz.sizeOf20
 v20:=Tryz.zeroValue20
 t37:=Tryz.underlying54
 a37:=Tryz.isAgg54
 z37:=Tryz.sizeOf54
 v37:=Tryz.zeroValue54
 t46:=Tryz.underlying205
 a46:=Tryz.isAgg205
 z46:=Tryz.sizeOf205
 v46:=Tryz.zeroValue205
 t51:=Tryz.underlying274
 a51:=Tryz.isAgg274
 z51:=Tryz.sizeOf274
 v51:=Tryz.zeroValue274
 t53:=Tryz.underlying276
 a53:=Tryz.isAgg276
 z53:=Tryz.sizeOf276
 v53:=Tryz.zeroValue276
 t171:=Tryz.underlying302
 a171:=Tryz.isAgg302
 z171:=Tryz.sizeOf302
 v171:=Tryz.zeroValue302
 t173:=Tryz.underlying304
 a173:=Tryz.isAgg304
 z173:=Tryz.sizeOf304
 v173:=Tryz.zeroValue304
 t212:=Tryz.underlying317
 a212:=Tryz.isAgg317
 z212:=Tryz.sizeOf317
 v212:=Tryz.zeroValue317
 t213:=Tryz.underlying318
 a213:=Tryz.isAgg318
 z213:=Tryz.sizeOf318
 t232:=Tryz.underlying324
 a232:=Tryz.isAgg324
 z232:=Tryz.sizeOf324
 v232:=Tryz.zeroValue324
 t233:=Tryz.underlying325
 a233:=Tryz.isAgg325
 z233:=Tryz.sizeOf325
 v233:=Tryz.zeroValue325
 g17:=by kernel_rfl
 g18:=by kernel_rfl
 g19:=by kernel_rfl
 i0:=by kernel_rfl
 i2:=by kernel_rfl
 i3:=by kernel_rfl
 i4:=by kernel_rfl
 i5:=by kernel_rfl
 i9:=by kernel_rfl
 i20:=by kernel_rfl
 i37:=by kernel_rfl
 i46:=by kernel_rfl
 i51:=by kernel_rfl
 i53:=by kernel_rfl
 i171:=by kernel_rfl
 i173:=by kernel_rfl
 i212:=by kernel_rfl
 i232:=by kernel_rfl
 i233:=by kernel_rfl
 m17:=by kernel_rfl
 m18:=by kernel_rfl
 m19:=by kernel_rfl }
open Go.RowKit Go.Sort Go.Lib in
theorem Tryz.strconv_Itoa(n:Int)(h0:-9223372036854775808<=n)(h1:n<=9223372036854775807)(w:World)(htab:Lib.TabIs Tryz.prog w "internal/strconv.uint64pow10" .u64 Lib.pow10Tab) :
  Calls Tryz.prog 147 #[Z n] w fun e w'=>e=.returned (.string ⟨(Lib.itoa n).toArray⟩)/\∃k os,w'=grow (w.drewN k) os:=Any.strconv_Itoa Tryz.laysM171 n h0 h1 w htab
def Tryz.laysC172_ren:Go.Shelf.Ren:=⟨fun|172=>121|244=>153|245=>154|247=>186|279=>187|280=>188|281=>189|282=>190|287=>214|316=>215|171=>147|205=>216|321=>231|322=>232|243=>180|246=>209|283=>226|284=>227|285=>228|286=>229|129=>206|317=>238|318=>239|319=>240|320=>241|337=>246|338=>247|n=>n,fun|9=>9|3=>3|75=>195|76=>196|4=>4|5=>5|167=>250|37=>54|0=>0|85=>251|2=>2|168=>253|53=>276|175=>285|46=>205|210=>288|127=>234|145=>310|143=>308|21=>21|171=>302|173=>304|212=>317|51=>274|20=>20|213=>318|232=>324|233=>325|80=>87|n=>n,fun|15=>0|16=>1|17=>3|18=>4|19=>5|n=>n⟩
theorem Tryz.laysC172:Go.Proofs.LaysC.n172 Tryz.prog Tryz.laysC172_ren:={
 mixed:=by kernel_rfl
 f129:=Tryz.func206.trans (congrArg some (by kernel_rfl))
 f171:=Tryz.func147.trans (congrArg some (by kernel_rfl))
 f172:=Tryz.func121.trans (congrArg some (by kernel_rfl))
 f205:=Tryz.func216.trans (congrArg some (by kernel_rfl))
 f243:=Tryz.func180.trans (congrArg some (by kernel_rfl))
 f244:=Tryz.func153.trans (congrArg some (by kernel_rfl))
 f245:=Tryz.func154.trans (congrArg some (by kernel_rfl))
 f246:=Tryz.func209.trans (congrArg some (by kernel_rfl))
 f247:=Tryz.func186.trans (congrArg some (by kernel_rfl))
 f279:=Tryz.func187.trans (congrArg some (by kernel_rfl))
 f280:=Tryz.func188.trans (congrArg some (by kernel_rfl))
 f281:=Tryz.func189.trans (congrArg some (by kernel_rfl))
 f282:=Tryz.func190.trans (congrArg some (by kernel_rfl))
 f283:=Tryz.func226.trans (congrArg some (by kernel_rfl))
 f284:=Tryz.func227.trans (congrArg some (by kernel_rfl))
 f285:=Tryz.func228.trans (congrArg some (by kernel_rfl))
 f286:=Tryz.func229.trans (congrArg some (by kernel_rfl))
 f287:=Tryz.func214.trans (congrArg some (by kernel_rfl))
 f316:=Tryz.func215.trans (congrArg some (by kernel_rfl))
 f317:=Tryz.func238.trans (congrArg some (by kernel_rfl))
 f318:=Tryz.func239.trans (congrArg some (by kernel_rfl))
 f319:=Tryz.func240.trans (congrArg some (by kernel_rfl))
 f320:=Tryz.func241.trans (congrArg some (by kernel_rfl))
 f321:=Tryz.func231.trans (congrArg some (by kernel_rfl))
 f322:=Tryz.func232.trans (congrArg some (by kernel_rfl))
 f337:=Tryz.func246.trans (congrArg some (by kernel_rfl))
 f338:=Tryz.func247.trans (congrArg some (by kernel_rfl))
 t0:=Tryz.underlying0
 a0:=Tryz.isAgg0
 z0:=Tryz.sizeOf0
 v0:=Tryz.zeroValue0
 t2:=Tryz.underlying2
 a2:=Tryz.isAgg2
 z2:=Tryz.sizeOf2
 v2:=Tryz.zeroValue2
 t3:=Tryz.underlying3
 a3:=Tryz.isAgg3
 z3:=Tryz.sizeOf3
 v3:=Tryz.zeroValue3
 t4:=Tryz.underlying4
 a4:=Tryz.isAgg4
 z4:=Tryz.sizeOf4
 v4:=Tryz.zeroValue4
 t5:=Tryz.underlying5
 a5:=Tryz.isAgg5
 z5:=Tryz.sizeOf5
 v5:=Tryz.zeroValue5
 t9:=Tryz.underlying9
 a9:=Tryz.isAgg9
 z9:=Tryz.sizeOf9
 v9:=Tryz.zeroValue9
 t20:=Tryz.underlying20
 a20:=Tryz.isAgg20
 z20:=Tryz.sizeOf20
 v20:=Tryz.zeroValue20
 t21:=Tryz.underlying21
 a21:=Tryz.isAgg21
 z21:=Tryz.sizeOf21
 v21:=Tryz.zeroValue21
 t37:=Tryz.underlying54
 a37:=Tryz.isAgg54
 z37:=Tryz.sizeOf54
 v37:=Tryz.zeroValue54
 t46:=Tryz.underlying205
 a46:=Tryz.isAgg205
 z46:=Tryz.sizeOf205
 v46:=Tryz.zeroValue205
 t51:=Tryz.underlying274
 a51:=Tryz.isAgg274
 z51:=Tryz.sizeOf274
 v51:=Tryz.zeroValue274
 t53:=Tryz.underlying276
 a53:=Tryz.isAgg276
 z53:=Tryz.sizeOf276
 v53:=Tryz.zeroValue276
 t75:=Tryz.underlying195
 a75:=Tryz.isAgg195
 z75:=Tryz.sizeOf195
 v75:=Tryz.zeroValue195
 t76:=Tryz.underlying196
 a76:=Tryz.isAgg196
 z76:=Tryz.sizeOf196
 v76:=Tryz.zeroValue196
 t85:=Tryz.underlying251
 a85:=Tryz.isAgg251
 z85:=Tryz.sizeOf251
 v85:=Tryz.zeroValue251
 t127:=Tryz.underlying234
 a127:=Tryz.isAgg234
 z127:=Tryz.sizeOf234
 v127:=Tryz.zeroValue234
 t143:=Tryz.underlying308
 a143:=Tryz.isAgg308
 z143:=Tryz.sizeOf308
 v143:=Tryz.zeroValue308
 t145:=Tryz.underlying310
 a145:=Tryz.isAgg310
 z145:=Tryz.sizeOf310
 v145:=Tryz.zeroValue310
 t167:=Tryz.underlying250
 a167:=Tryz.isAgg250
 z167:=Tryz.sizeOf250
 v167:=Tryz.zeroValue250
 t168:=Tryz.underlying253
 a168:=Tryz.isAgg253
 z168:=Tryz.sizeOf253
 v168:=Tryz.zeroValue253
 t171:=Tryz.underlying302
 a171:=Tryz.isAgg302
 z171:=Tryz.sizeOf302
 v171:=Tryz.zeroValue302
 t173:=Tryz.underlying304
 a173:=Tryz.isAgg304
 z173:=Tryz.sizeOf304
 v173:=Tryz.zeroValue304
 t175:=Tryz.underlying285
 a175:=Tryz.isAgg285
 z175:=Tryz.sizeOf285
 v175:=Tryz.zeroValue285
 t210:=Tryz.underlying288
 a210:=Tryz.isAgg288
 z210:=Tryz.sizeOf288
 v210:=Tryz.zeroValue288
 t212:=Tryz.underlying317
 a212:=Tryz.isAgg317
 z212:=Tryz.sizeOf317
 v212:=Tryz.zeroValue317
 t213:=Tryz.underlying318
 a213:=Tryz.isAgg318
 z213:=Tryz.sizeOf318
 t232:=Tryz.underlying324
 a232:=Tryz.isAgg324
 z232:=Tryz.sizeOf324
 v232:=Tryz.zeroValue324
 t233:=Tryz.underlying325
 a233:=Tryz.isAgg325
 z233:=Tryz.sizeOf325
 v233:=Tryz.zeroValue325
 g15:=by kernel_rfl
 g16:=by kernel_rfl
 g17:=by kernel_rfl
 g18:=by kernel_rfl
 g19:=by kernel_rfl
 t80:=Tryz.underlying87
 a80:=Tryz.isAgg87
 z80:=Tryz.sizeOf87
 v80:=Tryz.zeroValue87
 i0:=by kernel_rfl
 i2:=by kernel_rfl
 i3:=by kernel_rfl
 i4:=by kernel_rfl
 i5:=by kernel_rfl
 i9:=by kernel_rfl
 i20:=by kernel_rfl
 i21:=by kernel_rfl
 i37:=by kernel_rfl
 i46:=by kernel_rfl
 i51:=by kernel_rfl
 i53:=by kernel_rfl
 i75:=by kernel_rfl
 i76:=by kernel_rfl
 i80:=by kernel_rfl
 i85:=by kernel_rfl
 i127:=by kernel_rfl
 i143:=by kernel_rfl
 i145:=by kernel_rfl
 i167:=by kernel_rfl
 i168:=by kernel_rfl
 i171:=by kernel_rfl
 i173:=by kernel_rfl
 i175:=by kernel_rfl
 i210:=by kernel_rfl
 i212:=by kernel_rfl
 i232:=by kernel_rfl
 i233:=by kernel_rfl
 m15:=by kernel_rfl
 m16:=by kernel_rfl
 m17:=by kernel_rfl
 m18:=by kernel_rfl
 m19:=by kernel_rfl
 c0:=by kernel_rfl
 c2:=by kernel_rfl
 c3:=by kernel_rfl
 c4:=by kernel_rfl
 c5:=by kernel_rfl
 c9:=by kernel_rfl
 c20:=by kernel_rfl
 c21:=by kernel_rfl
 c37:=by kernel_rfl
 c46:=by kernel_rfl
 c51:=by kernel_rfl
 c53:=by kernel_rfl
 c75:=by kernel_rfl
 c76:=by kernel_rfl
 c80:=by kernel_rfl
 c85:=by kernel_rfl
 c127:=by kernel_rfl
 c143:=by kernel_rfl
 c145:=by kernel_rfl
 c167:=by kernel_rfl
 c168:=by kernel_rfl
 c171:=by kernel_rfl
 c173:=by kernel_rfl
 c175:=by kernel_rfl
 c210:=by kernel_rfl
 c212:=by kernel_rfl
 c213:=by kernel_rfl
 c232:=by kernel_rfl
 c233:=by kernel_rfl }
open Go.RowKit in
theorem Tryz.strconv_Atoi_ok(s:ByteArray)(hmax:s.size<=9223372036854775806)(v:Int)(h:Lib.atoiAll s.data.toList=.ok v)(w:World) :
  Calls Tryz.prog 121 #[.string s] w fun e w'=>e=.returned (.tuple #[Z v,.nilIface])/\(w'=w\/∃t,w'=Lib.bytesWorld w 5 t):=Any.strconv_Atoi_ok Tryz.laysC172 s hmax v h w
open Go.RowKit in
theorem Tryz.strconv_Atoi_syntax(s:ByteArray)(hlim:s.size<=281474976710656)(h:Lib.atoiAll s.data.toList=Lib.atoiAll [])(ev:Value)(w:World)(hv:w.cell? ⟨0,0,none⟩=some ev)(hev:ev=.nilIface\/∃te pe,ev=.iface te pe) :
  Calls Tryz.prog 121 #[.string s] w fun e w'=>∃N,e=.returned (.tuple #[Z (0),.iface 253 (.pointer (some ⟨N,0,none⟩))])/\w.heap.size<=N/\w'.heap[N]?=some (.cells #[.string ⟨#[65,116,111,105]⟩,.string s,ev] 288 (0,0))/\Below w.heap.size w w':=Any.strconv_Atoi_syntax Tryz.laysC172 s hlim (h.trans rfl) ev w hv hev
open Go.RowKit in
theorem Tryz.strconv_Atoi_range(s:ByteArray)(hlim:s.size<=281474976710656)(h:Lib.atoiAll s.data.toList=.range)(ev:Value)(w:World)(hv:w.cell? ⟨1,0,none⟩=some ev)(hev:ev=.nilIface\/∃te pe,ev=.iface te pe) :
  Calls Tryz.prog 121 #[.string s] w fun e w'=>∃N,e=.returned (.tuple #[Z (Lib.atoiSat s.data.toList),.iface 253 (.pointer (some ⟨N,0,none⟩))])/\w.heap.size<=N/\w'.heap[N]?=some (.cells #[.string ⟨#[65,116,111,105]⟩,.string s,ev] 288 (0,0))/\Below w.heap.size w w':=Any.strconv_Atoi_range Tryz.laysC172 s hlim h ev w hv hev
def Tryz.laysNm225_ren:Go.Shelf.Ren:=⟨fun|25=>90|31=>131|32=>132|37=>158|n=>n,fun|22=>106|3=>3|4=>4|40=>205|0=>0|n=>n,fun|n=>n⟩
theorem Tryz.laysNm225:Go.Proofs.Lays2.n25 Tryz.prog Tryz.laysNm225_ren:={
 mixed:=by kernel_rfl
 f25:=Tryz.func90.trans (congrArg some (by kernel_rfl))
 f31:=Tryz.func131.trans (congrArg some (by kernel_rfl))
 f32:=Tryz.func132.trans (congrArg some (by kernel_rfl))
 f37:=Tryz.func158.trans (congrArg some (by kernel_rfl))
 t0:=Tryz.underlying0
 a0:=Tryz.isAgg0
 z0:=Tryz.sizeOf0
 v0:=Tryz.zeroValue0
 t3:=Tryz.underlying3
 a3:=Tryz.isAgg3
 z3:=Tryz.sizeOf3
 v3:=Tryz.zeroValue3
 t4:=Tryz.underlying4
 a4:=Tryz.isAgg4
 z4:=Tryz.sizeOf4
 v4:=Tryz.zeroValue4
 t22:=Tryz.underlying106
 a22:=Tryz.isAgg106
 z22:=Tryz.sizeOf106
 v22:=Tryz.zeroValue106
 t40:=Tryz.underlying205
 a40:=Tryz.isAgg205
 z40:=Tryz.sizeOf205
 v40:=Tryz.zeroValue205 }
open Go.RowKit Go.Lib in
theorem Tryz.slices_BinarySearch_int(b off n c:Nat)(zs:List Int)(x:Int)(w:World)(hz:n<=zs.length)(hbig:n<4611686018427387904)(hc:∀j,j<zs.length->w.cell? ⟨b,off+j,none⟩=some (Z (zs.getD j 0)))(hs:(zs.take n).Pairwise (·<=·)) :
  Calls Tryz.prog 90 #[.slice (some ⟨b,off,none⟩) n c,Z x] w fun e w'=>e=.returned (.tuple #[Z ((zs.take n).countP (·<x):Nat),.bool ((zs.take n).contains x)])/\∃q,w'=w.drewN q:=Any.slices_BinarySearch_int Tryz.laysNm225 b off n c zs x w hz hbig hc hs
end Go.Proofs
namespace Go.Proofs.YtgkhemnmcgicnaaGreatDoor
set_option maxHeartbeats 4000000
set_option maxRecDepth 100000
open Go.RowKit
section
variable{B X:Nat}{ks:List (Nat×Obj)}{s:ByteArray}{lines:Value}{lv:Value}{n:Nat}{xs:List Value}{wr:Int}{w0 w:World}
theorem RP{c:Nat}(h:jX c=true):((c:Nat):Int)≠37:=by
 intro e;have:c=37:=by omega
 subst this;simp[jX]at h
structure rY(ls:List Int):Prop where
 head:0<ls.length/\ls.getD 0 0=0
 sorted:ls.Pairwise (·<=·)
 lo:∀x∈ls,0<=x
 hi:∀x∈ls,x<=1048576
 len:ls.length<=2000000
def uC(ls:List Int)(a:Nat):Nat:=if ls.contains (a:Int)then ls.countP (·<(a:Int))else ls.countP (·<(a:Int))-1
def vE(ls:List Int)(a:Nat):Int:=(uC ls a:Int)+1
def vF(ls:List Int)(a:Nat):Int:=(a:Int)-ls.getD (uC ls a) 0+1
def jW(LN:Value)(ls:List Int)(ks:List (Nat×Obj)):Prop :=
 ∃L cap cs,LN=.slice (some ⟨L,0,none⟩) ls.length cap/\(L,Obj.cells cs 3 (0,0))∈ks/\∀j,j<ls.length->cs[j]?=some (Z (ls.getD j 0))
theorem rY.mem0{ls:List Int}(g:rY ls):(0:Int)∈ls:=by
 obtain⟨h,e⟩:=g.head;cases ls with
 |nil=>simp at h
 |cons x r=>simp at e;subst e;simp
theorem Y3{ls:List Int}(g:rY ls)(a:Nat):uC ls a<ls.length:=by
 unfold uC;have hle:=List.countP_le_length (p:=fun x:Int=>decide (x<(a:Int))) (l:=ls);split
 ·rename_i h;have hm:(a:Int)∈ls:=by simpa using h
  rcases Nat.lt_or_ge (ls.countP fun x=>decide (x<(a:Int))) ls.length with h1|h1
  ·exact h1
  ·have h2:=List.countP_eq_length.1 (Nat.le_antisymm hle h1) _ hm;simp at h2
 ·have:=g.head.1;omega
theorem UJ{ls:List Int}(g:rY ls)(a:Nat)(h:ls.contains (a:Int)=false):0<ls.countP (·<(a:Int)):=by
 rw[List.countP_pos_iff];refine⟨0,g.mem0,?_⟩;have hm:=g.mem0;have hn:¬(a:Int)∈ls:=by simpa using h
 have:a≠0:=by rintro rfl;exact hn hm
 simp;omega
theorem zW{LN:Value}{ls:List Int}{pos e:Int}(h:iQ B X ks s LN pos lv n xs e wr w0 w)(hL:jW LN ls ks)(gL:rY ls)(a:Nat)(ha:a<=1048576) :
  Calls Tryz.prog 42 #[.pointer (some ⟨X,0,none⟩),Z a] w fun r w'=>r=.returned (.tuple #[Z (vE ls a),Z (vF ls a)])/\Below w.heap.size w w':=by
 obtain⟨L,cap,cs,rfl,hk,hcs⟩:=hL;have c2:=h.c2;have hrow:=(h.keep _ hk).1;have l0:∀j,j<ls.length->w.cell? ⟨L,j,none⟩=some (Z (ls.getD j 0)):=fun j hj=>by rw[Lib.cell_of_heap hrow];exact hcs j hj
 clear h;have hlen:=gL.len;have hb:=Tryz.slices_BinarySearch_int L 0 ls.length cap ls (a:Int) w (qa _) (by omega) (fun j hj=>by rw[Nat.zero_add];exact l0 j hj) (by rw[List.take_length];exact gL.sorted);rw[List.take_length]at hb;have hlt:=Y3 gL a;have hv:=l0 _ hlt;have hmem:ls.getD (uC ls a) 0∈ls:=by simp[List.getD,hlt]
 have v0:=gL.lo _ hmem;have v1:=gL.hi _ hmem;obtain⟨i,hi⟩:∃i,uC ls a=i:=⟨_,rfl⟩;have hpl:vE ls a=(i:Int)+1:=by rw[vE,hi]
 have hpc:vF ls a=(a:Int)-ls.getD i 0+1:=by rw[vF,hi]
 rw[hpl,hpc];rw[hi]at hv v0 v1 hlt hmem;generalize ls.getD i 0=v at hv v0 v1;have hi0:(0:Int)<=(i:Int):=by omega
 have hi1:(i:Int)<(ls.length:Int):=by omega
 have m1:IntKind.i64.wrap ((i:Int)+1)=(i:Int)+1:=IntWalk.i64_in _ (by omega);have m2:IntKind.i64.wrap ((a:Int)-v)=(a:Int)-v:=IntWalk.i64_in _ (by omega);have m3:IntKind.i64.wrap ((a:Int)-v+1)=(a:Int)-v+1:=IntWalk.i64_in _ (by omega);have e3:ls.contains (a:Int)=true\/ls.contains (a:Int)=false:=by cases ls.contains (a:Int)<;>simp
 rcases e3 with e3|e3
 ·have e4:ls.countP (·<(a:Int))=i:=by rw[<-hi,uC,if_pos e3]
  rw[e3,e4]at hb;clear l0 hpl hpc hi e3 e4 hmem hrow hcs hk;go_enter Tryz.func42,Tryz.ntmps42;go_wp2_with(go_at_call 90;refine hb.mono ?_;rintro e w' ⟨rfl,q,rfl⟩)
  go_quiet (fail)
  go_wp2
  go_ret2
  exact⟨by simp,cJ (cJ (qb _ _) _) _⟩
 ·have hp:=UJ gL a e3;have e4:ls.countP (·<(a:Int))=i+1:=by
   have:uC ls a=ls.countP (·<(a:Int))-1:=by rw[uC,if_neg (by rw[e3];decide)]
   omega
  rw[e3,e4]at hb;have m4:IntKind.i64.wrap (((i+1:Nat):Int)-1)=(i:Int):=by rw[show((i+1:Nat):Int)-1=(i:Int)by omega];exact IntWalk.i64_in _ (by omega)
  generalize ((i+1:Nat):Int)=y at hb m4;clear l0 hpl hpc hi e3 e4 hmem hrow hcs hk hp;go_enter Tryz.func42,Tryz.ntmps42;go_wp2_with(go_at_call 90;refine hb.mono ?_;rintro e w' ⟨rfl,q,rfl⟩)
  go_quiet (fail)
  go_wp2
  go_ret2
  exact⟨by simp,cJ (cJ (qb _ _) _) _⟩
theorem Tryz.infoTok:(Tryz.prog.info? 59).map (fun i=>(i.zero,i.size,i.bytes))=some (some (.agg #[Z 0,.string ByteArray.empty,Z 0,.string ByteArray.empty,Z 0,Z 0,.bool false]),7,72):=by kernel_rfl
end
end Go.Proofs.YtgkhemnmcgicnaaGreatDoor
