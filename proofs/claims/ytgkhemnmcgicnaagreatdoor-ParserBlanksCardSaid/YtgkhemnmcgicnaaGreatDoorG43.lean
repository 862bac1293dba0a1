/- Towards the law ParserBlanks, true for every text and all blanks (no condition): one part of the proof. -/
import Derived.Test.YtgkhemnmcgicnaaGreatDoorG01
import Derived.Test.YtgkhemnmcgicnaaGreatDoorG42
import Derived.Laws.Tables
import Derived.Shelf.SlIterI.Sorted
import Derived.Shelf.SortM.Plain
import Derived.Shelf.SortM.SortNone
import Derived.Ground.GgzProg
import Derived.Ground.SlgmProg
import Derived.Shelf.Strings.Builder1
import Derived.Shelf.Strings.Builder2
import Derived.Shelf.Strings.OnBuilder
import Derived.Shelf.Small.Strs
import Derived.Shelf.LaysM
import Derived.Shelf.LaysC
import Derived.Shelf.Strings.Search1
import Derived.Shelf.Strings.Search2
import Derived.Shelf.Strings.Search3
import Derived.Shelf.Strings.Cut
import Derived.Shelf.Strings.Count
import Derived.Shelf.Strings.Prefix
import Derived.Shelf.Strings.Split
import Derived.Ground.Names2Prog
import Derived.Test.YtgkhemnmcgicnaaGreatDoorProg
import Derived.Test.YtgkhemnmcgicnaaGreatDoorG36
import Derived.Shelf.AbstractIn
import Derived.Maps.OwnSet
namespace Go.Proofs.YtgkhemnmcgicnaaGreatDoor
open Go.RowKit
def sC(x:wU):Array Value:=#[Z x.i0,Z x.i1,Z x.clef]
def kG(p:iZ)(sv:Value):Array Value:=#[Z p.i0,Z p.i1,.string p.name,Z p.steps,Z p.semis,sv]
def fW:Array Value:=#[Z 0,Z 0,.string ByteArray.empty,Z 0,Z 0,.slice none 0 0]
structure hU(w0:World)(T:List aX)(Y M:Nat)(fr:Fr)(R E:Nat)(p:iZ)(sv:Value)(ts:List wU)(s:aD)(w:World):Prop where
 ps:PS T Y M fr s w
 hE:w.heap[E]?=some (.cells (kG p sv) 117 (0,0))
 hR:w.heap[R]?=some (.cells fW 117 (0,0))
 os:w.ownsRow w0.heap.size 120 3 sv ts.length (bT sC ts)
 aw:aC [Y,M] w0 w
 lY:Y<w0.heap.size
 lM:M<w0.heap.size
 lR:w0.heap.size<=R
 lE:R<E
section
variable{w0:World}{T:List aX}{Y M:Nat}{fr fr':Fr}{R E:Nat}{p:iZ}{sv:Value}{ts:List wU}{s s':aD}{w w':World}
theorem hU.call(h:hU w0 T Y M fr R E p sv ts s w)(hS:PS T Y M fr' s' w')(a:aC [Y,M] w w'):hU w0 T Y M fr' R E p sv ts s' w':=by
 have n:∀k,w0.heap.size<=k->k∉[Y,M]:=fun k hk=>by have:=h.lY;have:=h.lM;simp;omega
 have:=h.lR;have:=h.lE;exact⟨hS,a.at h.hE (n _ (by omega)),a.at h.hR (n _ (by omega)),aB h.os fun k hk=>a.block k (h.os.lt k hk).2 (n k (h.os.lt k hk).1),h.aw.trans a,h.lY,h.lM,h.lR,h.lE⟩
theorem hU.step(h:hU w0 T Y M fr R E p sv ts s w)(b:Below w.heap.size w w'):hU w0 T Y M fr R E p sv ts s w':=h.call (h.ps.step b) (aC.of_below b)
theorem hU.alloc(h:hU w0 T Y M fr R E p sv ts s w)(o:Obj):hU w0 T Y M fr R E p sv ts s (w.alloc o):=h.step ((qb _ w).alloc (qa _) o)
theorem hU.facts(h:hU w0 T Y M fr R E p sv ts s w):w.cell? ⟨E,3,none⟩=some (Z p.steps)/\w.cell? ⟨E,4,none⟩=some (Z p.semis)/\w.cell? ⟨E,5,none⟩=some sv/\∀i,w.frozen? ⟨E,i,none⟩=false :=
 ⟨by rw[Lib.cell_of_heap h.hE];rfl,by rw[Lib.cell_of_heap h.hE];rfl,by rw[Lib.cell_of_heap h.hE];rfl,Lib.frozen_of_heap h.hE⟩
theorem hU.put(h:hU w0 T Y M fr R E p sv ts s w){p':iZ}(hE:w'.heap[E]?=some (.cells (kG p' sv) 117 (0,0)))(so:∀k,k≠E->w'.heap[k]?=w.heap[k]?)(a:aC [Y,M] w0 w'):hU w0 T Y M fr R E p' sv ts s w':=by
 have:=h.lY;have:=h.lM;have:=h.lR;have:=h.lE;refine⟨h.ps.put (R:=E) (by omega) (by omega) h.hE (by decide) so,hE,(so _ (by omega)).trans h.hR,aB h.os fun k hk=>so k ?_,a,h.lY,h.lM,h.lR,h.lE⟩;rintro rfl;obtain⟨c',hc'⟩:=bA h.os hk;exact aS h.hE hc' (by decide)
theorem hU.interval(h:hU w0 T Y M fr R E p sv ts s w)(a b:Int):hU w0 T Y M fr R E { p with steps:=a,semis:=b } sv ts s ((w.setCell ⟨E,3,none⟩ (Z a)).setCell ⟨E,4,none⟩ (Z b)):=by
 refine h.put ?_ (fun k hk=>(aH _ E 4 _ k hk).trans (aH _ E 3 _ k hk)) ?_
 ·rw[Lib.heap_setCell_same (i:=4) (Lib.heap_setCell_same (i:=3) h.hE _) _];rfl
 ·have:=h.lR;have:=h.lE;exact(h.aw.setCell (p:=⟨E,3,none⟩) (.inr (by show w0.heap.size<=E;omega)) _).setCell (p:=⟨E,4,none⟩) (.inr (by show w0.heap.size<=E;omega)) _
theorem hU.done(h:hU w0 T Y M fr R E p sv ts s w)(so:∀k,k≠R->w'.heap[k]?=w.heap[k]?):w'.ownsRow w0.heap.size 120 3 sv ts.length (bT sC ts)/\PS T Y M fr s w':=by
 have:=h.lY;have:=h.lM;have:=h.lR;refine⟨aB h.os fun k hk=>so k ?_,h.ps.put (R:=R) (by omega) (by omega) h.hR (by decide) so⟩;rintro rfl;obtain⟨c',hc'⟩:=bA h.os hk;exact aS h.hR hc' (by decide)
theorem hU.push(h:hU w0 T Y M fr R E p sv ts s w)(hg:w.grownBy w' sv.ownBlock){sv':Value}{t:wU}(ho:w'.ownsRow w0.heap.size 120 3 sv' (ts.length+1) (bT sC ts++(sC t).toList)) :
  w'.heap[E]?=some (.cells (kG p sv) 117 (0,0))/\hU w0 T Y M fr R E p sv' (ts++[t]) s (w'.setCell ⟨E,5,none⟩ sv'):=by
 have lY:=h.lY;have lM:=h.lM;have lR:=h.lR;have lE:=h.lE;have tB:∀k,sv.ownBlock=some k->∃c',w.heap[k]?=some (.cells c' 120 (0,0)):=fun k hk=>bA h.os hk;have kp:∀(k:Nat)(x:Array Value)(t:TypeId),w.heap[k]?=some (.cells x t (0,0))->t≠120->w'.heap[k]?=w.heap[k]?:=fun k x t hk ht=>hg.block k (aA hk) (fun e=>by
  obtain⟨c',hc'⟩:=tB k e.symm;exact aS hk hc' ht)
 have so:=aH w' E 5 sv';have hE':=(kp _ _ _ h.hE (by decide)).trans h.hE;have nE:∀k,sv'.ownBlock=some k->k≠E:=fun k hk e=>by
  obtain⟨c',hc'⟩:=bA ho hk;subst e;exact aS hE' hc' (by decide)
 refine⟨hE',⟨?_,?_,(so _ (by omega)).trans ((kp _ _ _ h.hR (by decide)).trans h.hR),?_,?_,lY,lM,lR,lE⟩⟩
 ·refine(h.ps.grown hg fun k hk => ?_).put (R:=E) (by omega) (by omega) hE' (by decide) so;obtain⟨c',hc'⟩:=tB k hk;exact⟨by have:=(h.os.lt k hk).1;omega,by have:=(h.os.lt k hk).1;omega,c',_,hc',by decide⟩
 ·rw[Lib.heap_setCell_same (i:=5) hE' sv'];rfl
 ·have:=aB ho fun k hk=>so k (nE k hk);rw[eV,qf];exact this
 ·exact(h.aw.grown hg fun k hk=>(h.os.lt k hk).1).setCell (p:=⟨E,5,none⟩) (.inr (by show w0.heap.size<=E;omega)) sv'
theorem hU.accept(h:hU w0 T Y M fr R E p sv ts s w)(u:ByteArray):Calls Tryz.prog 53 #[.pointer (some ⟨Y,0,none⟩),.string u] w fun r w'=>r=.returned (.bool (isS T u s))/\hU w0 T Y M fr R E p sv ts (aY T u s) w'/\aC [Y,M] w w' :=
 (d9 h.ps u).mono (by rintro r w' ⟨hr,hS,a⟩;exact⟨hr,h.call hS a,a⟩)
theorem hU.integer(h:hU w0 T Y M fr R E p sv ts s w):Calls Tryz.prog 133 #[.pointer (some ⟨Y,0,none⟩),Z 140] w fun r w'=>r=.returned (Z (sZ T 140 s).1)/\hU w0 T Y M fr R E p sv ts (sZ T 140 s).2 w'/\aC [Y,M] w w' :=
 (LQ h.ps 140 (by decide) (by decide)).mono (by rintro r w' ⟨hr,hS,a⟩;exact⟨hr,h.call hS a,a⟩)
theorem hU.object{I:eQ}(hI:dH I)(h:hU w0 T Y M (gS I) R E p sv ts s w):Calls Tryz.prog 52 #[.pointer (some ⟨Y,0,none⟩)] w fun r w'=>r=.returned (.agg #[Z (gR T I s).1.1.1,Z (gR T I s).1.1.2])/\hU w0 T Y M (gS (gR T I s).1.2) R E p sv ts (gR T I s).2 w'/\aC [Y,M] w w' :=
 (JM hI h.ps).mono (by rintro r w' ⟨hr,hS,a⟩;exact⟨hr,h.call hS a,a⟩)
theorem hU.clef(h:hU w0 T Y M fr R E p sv ts s w):Calls Tryz.prog 134 #[.pointer (some ⟨Y,0,none⟩)] w fun r w'=>r=.returned (Z (tQ T aP s).1)/\hU w0 T Y M fr R E p sv ts (tQ T aP s).2 w'/\aC [Y,M] w w' :=
 (aA1 h.ps).mono (by rintro r w' ⟨hr,hS,a⟩;exact⟨hr,h.call hS a,a⟩)
end
theorem Tryz.sizePart:(Tryz.prog.info? 117).map (·.size)=some 6:=by kernel_rfl
theorem Tryz.infostaf:(Tryz.prog.info? 120).map (fun i=>(i.zero.map fun z=>z.cells.size,i.size,i.bytes))=some (some 3,3,24):=by kernel_rfl
def SG(w:World)(X:Nat)(a b c d e f:Value):World:=(((((w.setCell ⟨X,0,none⟩ a).setCell ⟨X,1,none⟩ b).setCell ⟨X,2,none⟩ c).setCell ⟨X,3,none⟩ d).setCell ⟨X,4,none⟩ e).setCell ⟨X,5,none⟩ f
theorem zZ{w:World}{X:Nat}{a b c d e f x0 x1 x2 x3 x4 x5:Value}{t:TypeId}(h:w.heap[X]?=some (.cells #[x0,x1,x2,x3,x4,x5] t (0,0))):(SG w X a b c d e f).heap[X]?=some (.cells #[a,b,c,d,e,f] t (0,0)):=by
 unfold SG;rw[Lib.heap_setCell_same (i:=5) (Lib.heap_setCell_same (i:=4) (Lib.heap_setCell_same (i:=3) (Lib.heap_setCell_same (i:=2) (Lib.heap_setCell_same (i:=1) (Lib.heap_setCell_same (i:=0) h a) b) c) d) e) f];rfl
theorem EG(w:World)(X:Nat)(a b c d e f:Value):∀k,k≠X->(SG w X a b c d e f).heap[k]?=w.heap[k]?:=fun k hk=>by
 unfold SG;rw[aH _ _ _ _ k hk,aH _ _ _ _ k hk,aH _ _ _ _ k hk,aH _ _ _ _ k hk,aH _ _ _ _ k hk,aH _ _ _ _ k hk]
theorem AA{bs:List Nat}{u w:World}{X:Nat}(h:aC bs u w)(hX:u.heap.size<=X)(a b c d e f:Value):aC bs u (SG w X a b c d e f) :=
 (((((h.setCell (p:=⟨X,0,none⟩) (.inr hX) a).setCell (p:=⟨X,1,none⟩) (.inr hX) b).setCell (p:=⟨X,2,none⟩) (.inr hX) c).setCell (p:=⟨X,3,none⟩) (.inr hX) d).setCell (p:=⟨X,4,none⟩) (.inr hX) e).setCell (p:=⟨X,5,none⟩) (.inr hX) f
theorem oQ{w:World}{X:Nat}{a b c d e f:Value}{t:TypeId}(h:w.heap[X]?=some (.cells #[a,b,c,d,e,f] t (0,0))) :
  w.cell? ⟨X,0,none⟩=some a/\w.cell? ⟨X,1,none⟩=some b/\w.cell? ⟨X,2,none⟩=some c/\w.cell? ⟨X,3,none⟩=some d/\w.cell? ⟨X,4,none⟩=some e/\w.cell? ⟨X,5,none⟩=some f /\
   w.frozen? ⟨X,0,none⟩=false/\w.frozen? ⟨X,1,none⟩=false/\w.frozen? ⟨X,2,none⟩=false/\w.frozen? ⟨X,3,none⟩=false/\w.frozen? ⟨X,4,none⟩=false/\w.frozen? ⟨X,5,none⟩=false :=
 ⟨by rw[Lib.cell_of_heap h];rfl,by rw[Lib.cell_of_heap h];rfl,by rw[Lib.cell_of_heap h];rfl,by rw[Lib.cell_of_heap h];rfl,by rw[Lib.cell_of_heap h];rfl,by rw[Lib.cell_of_heap h];rfl,
  Lib.frozen_of_heap h 0,Lib.frozen_of_heap h 1,Lib.frozen_of_heap h 2,Lib.frozen_of_heap h 3,Lib.frozen_of_heap h 4,Lib.frozen_of_heap h 5⟩
structure pM(w0:World)(T:List aX)(Y M:Nat)(fr:Fr)(R:Nat)(o:Obj)(s:aD)(w:World):Prop where
 ps:PS T Y M fr s w
 hR:w.heap[R]?=some o
 aw:aC [Y,M] w0 w
 lY:Y<w0.heap.size
 lM:M<w0.heap.size
 lR:w0.heap.size<=R
section
variable{w0:World}{T:List aX}{Y M:Nat}{fr fr':Fr}{R:Nat}{o:Obj}{s s':aD}{w w':World}
theorem pM.call(h:pM w0 T Y M fr R o s w)(hS:PS T Y M fr' s' w')(a:aC [Y,M] w w'):pM w0 T Y M fr' R o s' w':=by
 have:=h.lY;have:=h.lM;have:=h.lR;exact⟨hS,a.at h.hR (by simp;omega),h.aw.trans a,h.lY,h.lM,h.lR⟩
theorem pM.step(h:pM w0 T Y M fr R o s w)(b:Below w.heap.size w w'):pM w0 T Y M fr R o s w':=h.call (h.ps.step b) (aC.of_below b)
theorem pM.alloc(h:pM w0 T Y M fr R o s w)(x:Obj):pM w0 T Y M fr R o s (w.alloc x):=h.step ((qb _ w).alloc (qa _) x)
theorem pM.at'(h:pM w0 T Y M fr R o s w){u:World}{k:Nat}{x:Obj}(hk:u.heap[k]?=some x)(lk:R<k)(a:aC [Y,M] u w'):w'.heap[k]?=some x :=
 a.at hk (by have:=h.lY;have:=h.lM;have:=h.lR;simp;omega)
theorem pM.lt(h:pM w0 T Y M fr R o s w):R<w.heap.size:=aA h.hR
theorem pM.object{I:eQ}(hI:dH I)(h:pM w0 T Y M (gS I) R o s w):Calls Tryz.prog 52 #[.pointer (some ⟨Y,0,none⟩)] w fun r w'=>r=.returned (.agg #[Z (gR T I s).1.1.1,Z (gR T I s).1.1.2])/\pM w0 T Y M (gS (gR T I s).1.2) R o (gR T I s).2 w'/\aC [Y,M] w w' :=
 (JM hI h.ps).mono (by rintro r w' ⟨hr,hS,a⟩;exact⟨hr,h.call hS a,a⟩)
theorem pM.str(h:pM w0 T Y M fr R o s w):Calls Tryz.prog 91 #[.pointer (some ⟨Y,0,none⟩)] w fun r w'=>r=.returned (.string (fU T s).1)/\pM w0 T Y M fr R o (fU T s).2 w'/\aC [Y,M] w w' :=
 (X2 h.ps).mono (by rintro r w' ⟨hr,hS,a⟩;exact⟨hr,h.call hS a,a⟩)
theorem pM.part(h:pM w0 T Y M fr R (.cells fW 117 (0,0)) s w){E:Nat}{x:Array Value}{p:iZ}(lE:R<E)(hE:w.heap[E]?=some (.cells x 117 (0,0)))(hE':w'.heap[E]?=some (.cells (kG p (.slice none 0 0)) 117 (0,0)))(so:∀k,k≠E->w'.heap[k]?=w.heap[k]?)(a:aC [Y,M] w0 w'):hU w0 T Y M fr R E p (.slice none 0 0) [] s w':=by
 have:=h.lY;have:=h.lM;have:=h.lR;exact⟨h.ps.put (R:=E) (by omega) (by omega) hE (by decide) so,hE',(so _ (by omega)).trans h.hR,qw _ _ _ _,a,h.lY,h.lM,h.lR,lE⟩
theorem pM.part0(h:pM w0 T Y M fr R (.cells fW 117 (0,0)) s w)(p:iZ):hU w0 T Y M fr R w.heap.size p (.slice none 0 0) [] s (w.alloc (.cells (kG p (.slice none 0 0)) 117)) :=
 have ha:=h.alloc (.cells (kG p (.slice none 0 0)) 117)
 ⟨ha.ps,qd w _,ha.hR,qw _ _ _ _,ha.aw,h.lY,h.lM,h.lR,h.lt⟩
end
section
variable{B:XP}{T:List aX}
theorem Z9{k:Nat}{I:eQ}{s:aD}(h:isS T ⟨#[115,116,97,102,102]⟩ s=false):eA B T k I s=(([],I),s):=by
 cases k with
 |zero=>rfl
 |succ k=>rw[eA,if_neg (by rw[h];decide)]
theorem VV{k:Nat}{I I2:eQ}{s s2 s3:aD}{a b c:Int}(h:isS T ⟨#[115,116,97,102,102]⟩ s=true)(h2:gR T I (s.next 1)=(((a,b),I2),s2))(h3:tN B T s2=(c,s3)):eA B T (k+1) I s=((⟨a,b,c⟩::(eA B T k I2 s3).1.1,(eA B T k I2 s3).1.2),(eA B T k I2 s3).2):=by
 rw[eA,if_pos h];simp only;rw[h2];simp only;rw[h3]
theorem aD8{I I1 I2:eQ}{st s1 s2 s3:aD}{a b:Int}{n:ByteArray}{ts:List wU}(h1:gR T I st=(((a,b),I1),s1))(h2:fU T s1=(n,s2))(h3:isS T ⟨#[116,114,97,110,115,112,111,115,101]⟩ s2=false)(h4:eA B T T.length I1 s2=((ts,I2),s3)) :
  jG B T I st=((⟨a,b,n,0,0,ts⟩,I2),s3):=by
 unfold jG;rw[h1];simp only;rw[h2];simp only;rw[h3];simp only[Bool.false_eq_true,if_false];rw[h4]
theorem aAA{I I1 I2:eQ}{st s1 s2 s3 s4 s5:aD}{a b x y:Int}{n:ByteArray}{ts:List wU}(h1:gR T I st=(((a,b),I1),s1))(h2:fU T s1=(n,s2))(h3:isS T ⟨#[116,114,97,110,115,112,111,115,101]⟩ s2=true)(hx:sZ T 140 (s2.next 1)=(x,s3))(hy:sZ T 140 s3=(y,s4))(h4:eA B T T.length I1 s4=((ts,I2),s5)) :
  jG B T I st=((⟨a,b,n,x,y,ts⟩,I2),s5):=by
 unfold jG;rw[h1];simp only;rw[h2];simp only;rw[h3];simp only[if_true];rw[hx];simp only;rw[hy];simp only;rw[h4]
end
set_option maxHeartbeats 32000000
set_option maxRecDepth 100000
section
variable{T:List aX}{Y M:Nat}{I:eQ}{st:aD}{w:World}{mo:ByteArray->Option kM}
theorem aJT (hI : dH I) (h : PS T Y M (gS I) st w) : Calls Tryz.prog 93 #[.pointer (some ⟨Y, 0, none⟩)] w fun r w' => ∃ sv, r = .returned (.agg (kG (jG ⟨aP, mo⟩ T I st).1.1 sv)) /\
  w'.ownsRow w.heap.size 120 3 sv (jG ⟨aP,mo⟩ T I st).1.1.staves.length (bT sC (jG ⟨aP,mo⟩ T I st).1.1.staves)/\PS T Y M (gS (jG ⟨aP,mo⟩ T I st).1.2) (jG ⟨aP,mo⟩ T I st).2 w'/\aC [Y,M] w w':=by
 have lY:=h.lt;have lM:=h.ltM;have hmax:=h.good.max;have b0:=(qb w.heap.size w).alloc (qa _) (.cells fW 117);have P0:pM w T Y M (gS I) w.heap.size (.cells fW 117 (0,0)) st (w.alloc (.cells fW 117)):=⟨h.step b0,qd w _,aC.of_below b0,lY,lM,qa _⟩;have P0d:=P0.step (qb _ (w.alloc (.cells fW 117))).drew;have hio:=kP (T:=T) (s:=st) hI;generalize hpf:jG ⟨aP,mo⟩ T I st=tot;obtain⟨⟨pt,It⟩,sT⟩:=tot;simp only;obtain⟨q,hq⟩:∃q,gR T I st=q:=⟨_,rfl⟩;have x1:=fun w' (h:pM w T Y M (gS I) w.heap.size (.cells fW 117 (0,0)) st w')=>h.object hI;rw[hq]at hio x1;obtain⟨⟨⟨v0,v1⟩,I1⟩,s1⟩:=q;simp only at hio x1;obtain⟨q,hq2⟩:∃q,fU T s1=q:=⟨_,rfl⟩;have x2:=fun w' (h:pM w T Y M (gS I1) w.heap.size (.cells fW 117 (0,0)) s1 w')=>h.str;rw[hq2]at x2;obtain⟨nm,s2⟩:=q;simp only at x2;have HM:=aJ (And.intro hpf (And.intro hq hq2));clear hpf hq hq2 h b0;go_enter Tryz.func93,Tryz.ntmps93;go_wp2
 go_cut [3]from 4 to 39 (fun s3 wc=>∃E,s3=.pointer (some ⟨E,0,none⟩)/\hU w T Y M (gS I1) w.heap.size E ⟨v0,v1,nm,0,0,[]⟩ (.slice none 0 0) [] s2 wc)
 case first =>
  have P0a:=P0d.alloc (.cells fW 117);have hX0:((w.alloc (.cells fW 117)).drew.alloc (.cells fW 117)).heap[w.heap.size+1]?=some (.cells fW 117 (0,0)):=iW _ _ (by simp);have s0:w.heap.size<w.heap.size+1:=Nat.lt_succ_self _;unfold fW at P0a P0d P0 hX0 x1 x2
  go_region_law ((first
   |(go_simp;go_at_call 52;first
    |(refine(x1 _ P0a).mono ?_;intro r w2;(first|(intro he9 Q2 a2;subst he9)|rintro ⟨rfl,Q2,a2⟩);have hX:=Q2.at' hX0 s0 a2;have lX:=s0;have s2:=Q2.lt;obtain⟨c0,c1,c2,c3,c4,c5,f0,f1,f2,f3,f4,f5⟩:=oQ hX)
    |(refine(x1 _ P0d).mono ?_;intro r w2;(first|(intro he9 Q2 a2;subst he9)|rintro ⟨rfl,Q2,a2⟩);have s2:=Q2.lt))
   |(go_simp;go_at_call 91;first
    |(refine(x2 _ (Q2.alloc (.cells #[Z 0,Z 0,.string ByteArray.empty,Z 0,Z 0,.slice none 0 0] 117))).mono ?_;intro r w3;(first|(intro he9 Q3 a3;subst he9)|rintro ⟨rfl,Q3,a3⟩);have hX:=Q3.at' (qd w2 _) s2 a3;have lX:=s2;obtain⟨c0,c1,c2,c3,c4,c5,f0,f1,f2,f3,f4,f5⟩:=oQ hX)
    |(refine(x2 _ Q2).mono ?_;intro r w3;(first|(intro he9 Q3 a3;subst he9)|rintro ⟨rfl,Q3,a3⟩);have hX:=Q3.at' hX lX a3;obtain⟨c0,c1,c2,c3,c4,c5,f0,f1,f2,f3,f4,f5⟩:=oQ hX)
    |(refine(x2 _ Q2).mono ?_;intro r w3;(first|(intro he9 Q3 a3;subst he9)|rintro ⟨rfl,Q3,a3⟩)))))
  all_goals go_wp2
  all_goals go_meet
  all_goals first
   |exact⟨_,rfl,Q3.part0 ⟨v0,v1,nm,0,0,[]⟩⟩
   |exact⟨_,rfl,Q3.part (p:=⟨v0,v1,nm,0,0,[]⟩) lX hX (zZ hX) (EG w3 _ _ _ _ _ _ _) (AA Q3.aw (by have:=Q3.lR;omega) _ _ _ _ _ _)⟩
 case rest =>
  clear P0 P0d x1 x2;obtain⟨E,rfl,Q⟩:=hcut;obtain⟨i1,hi1,z1,hz1,hc1,hs1,hy1⟩:=oR Tryz.infostaf;have xa:=Q.accept ⟨#[116,114,97,110,115,112,111,115,101]⟩;obtain⟨bb,hb⟩:∃bb,isS T ⟨#[116,114,97,110,115,112,111,115,101]⟩ s2=bb:=⟨_,rfl⟩;rw[hb]at xa;go_upto_if 14 with(go_at_call 53;(with_reducible refine xa.mono ?_));intro r w1;(first|(intro he9 Q1 b1;subst he9)|rintro ⟨rfl,Q1,b1⟩);clear xa Q b1;go_upto_if 14 with(fail)
  go_cut []from 4 to 39 (fun wc=>∃(a b:Int)(s3:aD)(ts:List wU),eA ⟨aP,mo⟩ T T.length I1 s3=((ts,It),sT)/\pt=⟨v0,v1,nm,a,b,ts⟩/\hU w T Y M (gS I1) w.heap.size E ⟨v0,v1,nm,a,b,[]⟩ (.slice none 0 0) [] s3 wc)
  case first =>
   cases bb with
   |false =>
    rw[show aY T ⟨#[116,114,97,110,115,112,111,115,101]⟩ s2=s2 by unfold aY;rw[if_neg (by rw[hb];decide)]]at Q1;obtain⟨h1,h2,h3⟩:=HM.out;have hst:∃q,eA ⟨aP,mo⟩ T T.length I1 s2=q:=⟨_,rfl⟩;obtain⟨⟨⟨ts,I9⟩,s9⟩,hst⟩:=hst;have hp:=aD8 h2 h3 hb hst;rw[h1,qu,qu]at hp;obtain⟨⟨rfl,rfl⟩,rfl⟩:=hp;have HP:=aJ hst;clear h1 h2 h3 hst hb HM;go_wp2
    go_meet
    case rel=>exact⟨0,0,s2,ts,HP.out,rfl,Q1⟩
   |true =>
    rw[show aY T ⟨#[116,114,97,110,115,112,111,115,101]⟩ s2=s2.next 1 by unfold aY;rw[if_pos hb]]at Q1;obtain⟨h1,h2,h3⟩:=HM.out;have x1:=fun w' (h:hU w T Y M (gS I1) w.heap.size E ⟨v0,v1,nm,0,0,[]⟩ (.slice none 0 0) [] (s2.next 1) w')=>h.integer;obtain⟨q,hx⟩:∃q,sZ T 140 (s2.next 1)=q:=⟨_,rfl⟩;rw[hx]at x1;obtain⟨x,s3⟩:=q;simp only at x1;have x2:=fun w' (h:hU w T Y M (gS I1) w.heap.size E ⟨v0,v1,nm,0,0,[]⟩ (.slice none 0 0) [] s3 w')=>h.integer;obtain⟨q,hy⟩:∃q,sZ T 140 s3=q:=⟨_,rfl⟩;rw[hy]at x2;obtain⟨y,s4⟩:=q;simp only at x2;have hst:∃q,eA ⟨aP,mo⟩ T T.length I1 s4=q:=⟨_,rfl⟩;obtain⟨⟨⟨ts,I9⟩,s9⟩,hst⟩:=hst;have hp:=aAA h2 h3 hb hx hy hst;rw[h1,qu,qu]at hp;obtain⟨⟨rfl,rfl⟩,rfl⟩:=hp;have HP:=aJ hst;clear h1 h2 h3 hst hb HM hx hy;have Q1d:=Q1.step (qb _ w1).drew;go_upto_region 3 with(fail)
    go_region_law ((first
     |(go_simp;go_at_call 133;first
      |(refine(x1 _ Q1d).mono ?_;intro r w2;(first|(intro he9 Q2 a2;subst he9)|rintro ⟨rfl,Q2,a2⟩))
      |(refine(x2 _ Q2).mono ?_;intro r w3;(first|(intro he9 Q3 a3;subst he9)|rintro ⟨rfl,Q3,a3⟩);have k3:=Q3.facts.1;have k4:=Q3.facts.2.1;have kf:=Q3.facts.2.2.2 3;have kf4:=Q3.facts.2.2.2 4))))
    all_goals go_wp2
    all_goals go_meet
    all_goals exact⟨x,y,s4,ts,HP.out,rfl,Q3.interval x y⟩
  case rest =>
   clear Q1 HM hb bb;obtain⟨ia,ib,s3,ts,hst,rfl,Q⟩:=hcut;have hnd:=uF T s3
   go_upto_block 0 with(fail)
   go_cut []from 4 to 39 (fun wc=>∃sv,hU w T Y M (gS It) w.heap.size E ⟨v0,v1,nm,ia,ib,[]⟩ sv ts sT wc)
   case first =>
    obtain⟨N,hN⟩:∃N,Shut (T.length=N):=⟨_,rfl⟩;have hN4:N<=4001:=by rw[<-hN.out];exact hmax
    rw[hN.out]at hst hnd;have HT:=aJ (And.intro hst (And.intro hnd hio));clear hst hnd hmax hio;go_wp2_with(fail)
    go_loopg [] N (fun gk wr=>∃(l:List wU)(I':eQ)(s:aD)(sv:Value),l.length+gk=N/\need T s<=gk/\dH I'/\l++(eA ⟨aP,mo⟩ T gk I' s).1.1=ts/\(eA ⟨aP,mo⟩ T gk I' s).1.2=It/\(eA ⟨aP,mo⟩ T gk I' s).2=sT/\hU w T Y M (gS I') w.heap.size E ⟨v0,v1,nm,ia,ib,[]⟩ sv l s wr)
    case atStart =>
     obtain⟨h1,h2,h3⟩:=HT.out;exact⟨[],I1,s3,_,by simp,h2,h3,by rw[h1];rfl,by rw[h1],by rw[h1],Q⟩
    case round =>
     clear Q HT;obtain⟨l,I',s,sv,hlen,hneed,hio',hct,hIt,hsT,Q⟩:=hrel;have xa:=Q.accept ⟨#[115,116,97,102,102]⟩;cases hb:isS T ⟨#[115,116,97,102,102]⟩ s with
     |false =>
      rw[hb,show aY T ⟨#[115,116,97,102,102]⟩ s=s by unfold aY;rw[if_neg (by rw[hb];decide)]]at xa;rw[Z9 hb]at hct hIt hsT;simp only[qqe]at hct hIt hsT;subst hct hIt hsT;clear hb Q;go_wp2_with(go_at_call 53;(with_reducible refine xa.mono ?_));intro r w1;(first|(intro he9 Q1 b1;subst he9)|rintro ⟨rfl,Q1,b1⟩);clear xa;go_wp2
      go_meet
      case rel=>exact⟨sv,Q1⟩
     |true =>
      obtain⟨g,rfl⟩:∃g,gk=g+1:=⟨gk-1,by have:=eF hb;omega⟩;have n0:=eF hb;have n1:=eX (T:=T) (eP s) n0;have n2:=bU (T:=T) (oP T I' (s.next 1));have hio3:=kP (T:=T) (s:=s.next 1) hio';have x1:=fun w' (h:hU w T Y M (gS I') w.heap.size E ⟨v0,v1,nm,ia,ib,[]⟩ sv l (s.next 1) w')=>h.object hio';obtain⟨q,hq⟩:∃q,gR T I' (s.next 1)=q:=⟨_,rfl⟩;rw[hq]at n2 hio3 x1;obtain⟨⟨⟨a1,a2⟩,I4⟩,s4⟩:=q;simp only at n2 hio3 x1;have n3:=bU (T:=T) (xH (B:=⟨aP,mo⟩) (T:=T) s4);obtain⟨q,hq2⟩:∃q,tN ⟨aP,mo⟩ T s4=q:=⟨_,rfl⟩;have x2:=fun w' (h:hU w T Y M (gS I4) w.heap.size E ⟨v0,v1,nm,ia,ib,[]⟩ sv l s4 w')=>h.clef;have hqw:tQ T aP s4=q:=hq2;rw[hqw]at x2;rw[hq2]at n3;obtain⟨c,s6⟩:=q;simp only at n3 x2;rw[VV hb hq hq2]at hct hIt hsT;simp only at hct hIt hsT;rw[hb,show aY T ⟨#[115,116,97,102,102]⟩ s=s.next 1 by unfold aY;rw[if_pos hb]]at xa;have HG:=aJ (And.intro hlen (And.intro hct (And.intro hIt (And.intro hsT (And.intro hio3 (show need T s6<=g by omega))))));have hl4:l.length<=4002:=by omega
      clear hct hIt hsT n0 n1 n2 n3 hneed hb hlen hio3 hq hq2 hqw Q;go_wp2_with(go_at_call 53;(with_reducible refine xa.mono ?_));intro r w1;(first|(intro he9 Q1 b1;subst he9)|rintro ⟨rfl,Q1,b1⟩);clear xa b1;obtain⟨ao,cp,rfl⟩:=aL Q1.os;have Q1d:=Q1.step (qb _ w1).drew;have k1:=Q1d.facts.2.2.1;go_upto_region 5 with(fail)
      go_region_law ((first
       |(go_simp;go_at_call 52;refine(x1 _ Q1d).mono ?_;intro r w2;(first|(intro he9 Q2 b2;subst he9)|rintro ⟨rfl,Q2,b2⟩);have k2:=Q2.facts.2.2.1)
       |(go_simp;go_at_call 134;refine(x2 _ Q2).mono ?_;intro r w3;(first|(intro he9 Q3 b3;subst he9)|rintro ⟨rfl,Q3,b3⟩);have k3:=Q3.facts.2.2.1;have lE3:=aA Q3.hE;have sz3:=Q3.aw.size;have Q3a:=Q3.alloc (.cells #[Z a1,Z a2,Z c] 120);have ow3:=Q3a.os)
       |(refine step_append_lies _ (by rfl) _ _ _ (by rfl) w.heap.size 120 i1 _ 3 24 Tryz.underlying115 hi1 hz1 hs1 hy1 hc1 (by omega) (.slice ao l.length cp) l.length (bT sC l) (by rfl) ow3 ⟨w3.heap.size,0,none⟩ 1 1 [Z a1,Z a2,Z c] (by rfl) (by rfl) (World.news_of_block (cs:=#[Z a1,Z a2,Z c]) (t:=120) (fr:=(0,0)) (qd _ _)) (by simp[Value.oneCell']) (by omega) (by simp only[maxLen];omega) (by omega) (by simp;omega) (w3.heap.size+1) (by simp) ?_;intro gg cap w9 hown9 hgrow hat hgl;obtain⟨hE9,Q9⟩:=Q3a.push (t:=⟨a1,a2,c⟩) hgrow hown9;have k9:w9.cell? ⟨E,5,none⟩=some (.slice ao l.length cp):=(by rw[Lib.cell_of_heap hE9];rfl);have f9:=Lib.frozen_of_heap hE9 5)))
      all_goals go_wp2
      all_goals go_roundg g
      all_goals first
       |omega
       |(obtain⟨h1,h2,h3,h4,h5,h6⟩:=HG.out;exact⟨l++[⟨a1,a2,c⟩],I4,s6,_,by simp only[qf,qz];omega,h6,h5,by rw[qqk];exact h2,h3,h4,Q9⟩)
   case rest =>
    clear Q hst hnd;obtain⟨sv,Q1⟩:=hcut;obtain⟨ao,ap,rfl⟩:=aL Q1.os;have hone:(kG ⟨v0,v1,nm,ia,ib,[]⟩ (.slice ao ts.length ap)).all (·.oneCell')=true:=by simp[kG,Value.oneCell']
    have hz:(Tryz.prog.info? 117).map (·.size)=some (kG ⟨v0,v1,nm,ia,ib,[]⟩ (.slice ao ts.length ap)).size:=Tryz.sizePart;have hsz:fW.size=(kG ⟨v0,v1,nm,ia,ib,[]⟩ (.slice ao ts.length ap)).size:=rfl;have hE:=Q1.hE;have hR:=Q1.hR;obtain⟨hfm,hfs⟩:=Q1.done (w':=wc.setRow w.heap.size (kG ⟨v0,v1,nm,ia,ib,[]⟩ (.slice ao ts.length ap))) (fun k hk=>setRow_other _ _ _ _ hk);have awf:=Q1.aw.setRow Q1.lR (kG ⟨v0,v1,nm,ia,ib,[]⟩ (.slice ao ts.length ap));have HFF:=aJ (And.intro hfm (And.intro hfs awf));clear hfm hfs awf Q1;obtain⟨mm,hmm⟩:∃mm,kG ⟨v0,v1,nm,ia,ib,[]⟩ (.slice ao ts.length ap)=mm:=⟨_,rfl⟩;rw[hmm]at hone hz hsz hE HFF;have hRf:(wc.setRow w.heap.size mm).heap[w.heap.size]?=some (.cells mm 117 (0,0)):=setRow_heap _ _ _ _ _ hR;have HMM:=aJ hmm;clear hmm;go_wp2_with(first
     |(refine qqv rfl 117 _ rfl E rfl 117 mm (0,0) _ hE Tryz.underlying117 rfl hz ?_)
     |(refine wpList_store_row rfl 117 _ _ rfl w.heap.size mm rfl rfl 117 fW hR hz hsz hone ?_))
    refine qg (qp rfl _ _ w.heap.size 117 mm (0,0) _ rfl hRf Tryz.underlying117 rfl hz) rfl ?_;refine⟨_,?_,HFF.out⟩;rw[<-HMM.out];rfl
end
def ER(x:wV):Array Value:=#[Z x.i0,Z x.i1,Z x.kind,Z x.f.1,Z x.f.2,Z x.t.1,Z x.t.2]
def idC(x:Int×Int):Array Value:=#[Z x.1,Z x.2]
def lU(ti:ByteArray)(wr:Bool)(pv mv xv lv:Value):Array Value:=#[.string ti,.bool wr,pv,mv,xv,lv]
def fK:Array Value:=lU ByteArray.empty false (.slice none 0 0) (.slice none 0 0) (.slice none 0 0) (.slice none 0 0)
def PsR(B:Nat):List iZ->List Value->World->Prop
 | [],cs,_=>cs=[]
 |p::l,cs,w=>∃sv cs',cs=(kG p sv).toList++cs'/\w.ownsRow B 120 3 sv p.staves.length (bT sC p.staves)/\PsR B l cs' w
def MsR(B:Nat):List bC->List Value->World->Prop
 | [],cs,_=>cs=[]
 |m::l,cs,w=>∃tv cv cs',cs=(aU m tv cv).toList++cs'/\sA B tv cv m w/\MsR B l cs' w
def ST(t:TypeId):Prop:=CT t\/t=120\/t=175\/t=98
theorem ST.not{t:TypeId}(h:ST t):t≠59/\t≠64/\t≠94/\t≠117/\t≠127/\t≠24/\t≠69:=by
 rcases h with((e|e|e|e|e)|e|e)|e|e|e<;>subst e<;>decide
theorem sA.keepT{B:Nat}{tv cv:Value}{m:bC}{w w':World}(h:sA B tv cv m w)(hb:∀k (o:Array Value) (T:TypeId),w.heap[k]?=some (.cells o T (0,0))->ST T->B<=k->w'.heap[k]?=w.heap[k]?):sA B tv cv m w':=by
 obtain⟨h1,cs,h2,h3⟩:=h;refine⟨aB h1 fun k hk => ?_,cs,aB h2 fun k hk => ?_,h3.keepT fun k o T ho hT=>hb k o T ho (.inl hT)⟩
 ·obtain⟨c,hc⟩:=bA h1 hk;exact hb k c _ hc (.inr (.inr (.inl rfl))) (h1.lt k hk).1
 ·obtain⟨c,hc⟩:=bA h2 hk;exact hb k c _ hc (.inr (.inr (.inr rfl))) (h2.lt k hk).1
theorem sA.lo{B B':Nat}{tv cv:Value}{m:bC}{w:World}(h:sA B' tv cv m w)(hB:B<=B'):sA B tv cv m w:=by
 obtain⟨h1,cs,h2,h3⟩:=h;exact⟨oD h1 hB,cs,oD h2 hB,h3.lo hB⟩
theorem PsR.keepT{B:Nat}:∀{l:List iZ}{cs:List Value}{w w':World},PsR B l cs w->(∀k (o:Array Value) (T:TypeId),w.heap[k]?=some (.cells o T (0,0))->ST T->B<=k->w'.heap[k]?=w.heap[k]?)->PsR B l cs w'
 | [],_,_,_,h,_=>h
 | _ :: _, _, _, _, ⟨sv, cs', e, r, t⟩, hb => ⟨sv, cs', e, aB r fun k hk => by
   obtain⟨c,hc⟩:=bA r hk;exact hb k c _ hc (.inr (.inl rfl)) (r.lt k hk).1,t.keepT hb⟩
theorem MsR.keepT{B:Nat}:∀{l:List bC}{cs:List Value}{w w':World},MsR B l cs w->(∀k (o:Array Value) (T:TypeId),w.heap[k]?=some (.cells o T (0,0))->ST T->B<=k->w'.heap[k]?=w.heap[k]?)->MsR B l cs w'
 | [],_,_,_,h,_=>h
 | _::_,_,_,_,⟨tv,cv,cs',e,r,t⟩,hb=>⟨tv,cv,cs',e,r.keepT hb,t.keepT hb⟩
theorem PsR.snoc{B:Nat}{p:iZ}{sv:Value}:∀{l:List iZ}{cs:List Value}{w:World},PsR B l cs w->w.ownsRow B 120 3 sv p.staves.length (bT sC p.staves)->PsR B (l++[p]) (cs++(kG p sv).toList) w
 | [],cs,w,h,r=>by
  have h:cs=[]:=h;subst h;exact⟨sv,[],by simp,r,rfl⟩
 |y::ys,cs,w,⟨sv',cs',e,r',t⟩,r=>⟨sv',_,by rw[e,qqk],r',t.snoc r⟩
theorem MsR.snoc{B:Nat}{m:bC}{tv cv:Value}:∀{l:List bC}{cs:List Value}{w:World},MsR B l cs w->sA B tv cv m w->MsR B (l++[m]) (cs++(aU m tv cv).toList) w
 | [],cs,w,h,r=>by
  have h:cs=[]:=h;subst h;exact⟨tv,cv,[],by simp,r,rfl⟩
 |y::ys,cs,w,⟨tv',cv',cs',e,r',t⟩,r=>⟨tv',cv',_,by rw[e,qqk],r',t.snoc r⟩
def B0(B:Nat)(pv mv xv lv:Value)(x:KR)(w:World):Prop :=
 (∃cs,w.ownsRow B 117 6 pv x.parts.length cs/\PsR B x.parts cs w)/\(∃cs,w.ownsRow B 94 22 mv x.meas.length cs/\MsR B x.meas cs w)/\w.ownsRow B 127 7 xv x.spans.length (bT ER x.spans)/\w.ownsRow B 24 2 lv x.last.length (bT idC x.last)
structure bS(w0:World)(T:List aX)(Y M:Nat)(fr:Fr)(R E Bm:Nat)(ti:ByteArray)(wr:Bool)(pv mv xv lv:Value)(pl:List iZ)(ms:List bC)(xs:List wV)(ls:List (Int×Int))(s:aD)(w:World):Prop where
 ps:PS T Y M fr s w
 hE:w.heap[E]?=some (.cells (lU ti wr pv mv xv lv) 64 (0,0))
 hR:w.heap[R]?=some (.cells fK 64 (0,0))
 op:∃cs,w.ownsRow w0.heap.size 117 6 pv pl.length cs/\PsR w0.heap.size pl cs w
 om:∃cs,w.ownsRow Bm 94 22 mv ms.length cs/\MsR w0.heap.size ms cs w
 ox:w.ownsRow w0.heap.size 127 7 xv xs.length (bT ER xs)
 ol:w.ownsRow w0.heap.size 24 2 lv ls.length (bT idC ls)
 aw:aC [Y,M] w0 w
 lY:Y<w0.heap.size
 lM:M<w0.heap.size
 lR:w0.heap.size<=R
 lE:R<E
 lB:w0.heap.size<=Bm
section
variable{w0:World}{T:List aX}{Y M:Nat}{fr fr':Fr}{R E Bm:Nat}{ti:ByteArray}{wr:Bool}{pv mv xv lv:Value}{pl:List iZ}{ms:List bC}{xs:List wV}{ls:List (Int×Int)}{s s':aD}{w w':World}
theorem bS.call(h:bS w0 T Y M fr R E Bm ti wr pv mv xv lv pl ms xs ls s w)(hS:PS T Y M fr' s' w')(a:aC [Y,M] w w'):bS w0 T Y M fr' R E Bm ti wr pv mv xv lv pl ms xs ls s' w':=by
 have n:∀k,w0.heap.size<=k->k∉[Y,M]:=fun k hk=>by have:=h.lY;have:=h.lM;simp;omega
 have:=h.lR;have:=h.lE;have:=h.lB;obtain⟨c1,p1,p2⟩:=h.op;obtain⟨c2,m1,m2⟩:=h.om;exact⟨hS,a.at h.hE (n _ (by omega)),a.at h.hR (n _ (by omega)),⟨c1,aB p1 fun k hk=>a.block k (p1.lt k hk).2 (n k (p1.lt k hk).1),p2.keepT fun k o T ho _ hk=>a.block k (aA ho) (n k hk)⟩,
  ⟨c2,aB m1 fun k hk=>a.block k (m1.lt k hk).2 (n k (by have:=(m1.lt k hk).1;omega)),m2.keepT fun k o T ho _ hk=>a.block k (aA ho) (n k hk)⟩,
  aB h.ox fun k hk=>a.block k (h.ox.lt k hk).2 (n k (h.ox.lt k hk).1),aB h.ol fun k hk=>a.block k (h.ol.lt k hk).2 (n k (h.ol.lt k hk).1),h.aw.trans a,h.lY,h.lM,h.lR,h.lE,h.lB⟩
theorem bS.step(h:bS w0 T Y M fr R E Bm ti wr pv mv xv lv pl ms xs ls s w)(b:Below w.heap.size w w'):bS w0 T Y M fr R E Bm ti wr pv mv xv lv pl ms xs ls s w':=h.call (h.ps.step b) (aC.of_below b)
theorem bS.alloc(h:bS w0 T Y M fr R E Bm ti wr pv mv xv lv pl ms xs ls s w)(o:Obj):bS w0 T Y M fr R E Bm ti wr pv mv xv lv pl ms xs ls s (w.alloc o):=h.step ((qb _ w).alloc (qa _) o)
theorem bS.at(h:bS w0 T Y M fr R E Bm ti wr pv mv xv lv pl ms xs ls s w){u u':World}{k:Nat}{o:Obj}(hk:u.heap[k]?=some o)(lk:w0.heap.size<=k)(a:aC [Y,M] u u'):u'.heap[k]?=some o :=
 a.at hk (by have:=h.lY;have:=h.lM;simp;omega)
theorem bS.up(h:bS w0 T Y M fr R E Bm ti wr pv (.slice none 0 0) xv lv pl [] xs ls s w){B':Nat}(hB:Bm<=B'):bS w0 T Y M fr R E B' ti wr pv (.slice none 0 0) xv lv pl [] xs ls s w :=
 ⟨h.ps,h.hE,h.hR,h.op,⟨[],qw _ _ _ _,rfl⟩,h.ox,h.ol,h.aw,h.lY,h.lM,h.lR,h.lE,qx h.lB hB⟩
theorem bS.facts(h:bS w0 T Y M fr R E Bm ti wr pv mv xv lv pl ms xs ls s w):w.cell? ⟨E,0,none⟩=some (.string ti)/\w.cell? ⟨E,1,none⟩=some (.bool wr)/\w.cell? ⟨E,2,none⟩=some pv/\w.cell? ⟨E,3,none⟩=some mv/\w.cell? ⟨E,4,none⟩=some xv/\w.cell? ⟨E,5,none⟩=some lv/\∀i,w.frozen? ⟨E,i,none⟩=false :=
 ⟨by rw[Lib.cell_of_heap h.hE];rfl,by rw[Lib.cell_of_heap h.hE];rfl,by rw[Lib.cell_of_heap h.hE];rfl,by rw[Lib.cell_of_heap h.hE];rfl,by rw[Lib.cell_of_heap h.hE];rfl,by rw[Lib.cell_of_heap h.hE];rfl,Lib.frozen_of_heap h.hE⟩
theorem bS.else(h:bS w0 T Y M fr R E Bm ti wr pv mv xv lv pl ms xs ls s w){X:Nat}{x:Array Value}{t:TypeId}(hX:w.heap[X]?=some (.cells x t (0,0)))(lX:E<X)(ht:t≠59/\¬ST t)(hn:pv.ownBlock≠some X/\mv.ownBlock≠some X/\xv.ownBlock≠some X/\lv.ownBlock≠some X)(so:∀k,k≠X->w'.heap[k]?=w.heap[k]?)(a:aC [Y,M] w0 w'):bS w0 T Y M fr R E Bm ti wr pv mv xv lv pl ms xs ls s w':=by
 have:=h.lY;have:=h.lM;have:=h.lR;have:=h.lE;obtain⟨c1,p1,p2⟩:=h.op;obtain⟨c2,m1,m2⟩:=h.om;have kT:∀(k:Nat)(o:Array Value)(T:TypeId),w.heap[k]?=some (.cells o T (0,0))->ST T->w0.heap.size<=k->w'.heap[k]?=w.heap[k]?:=fun k o T ho hT _=>so k (by
  rintro rfl;exact aS ho hX (by rintro rfl;exact ht.2 hT))
 exact⟨h.ps.put (R:=X) (by omega) (by omega) hX ht.1 so,(so _ (by omega)).trans h.hE,(so _ (by omega)).trans h.hR,⟨c1,aB p1 fun k hk=>so k (by rintro rfl;exact hn.1 hk),p2.keepT kT⟩,⟨c2,aB m1 fun k hk=>so k (by rintro rfl;exact hn.2.1 hk),m2.keepT kT⟩,
  aB h.ox fun k hk=>so k (by rintro rfl;exact hn.2.2.1 hk),aB h.ol fun k hk=>so k (by rintro rfl;exact hn.2.2.2 hk),a,h.lY,h.lM,h.lR,h.lE,h.lB⟩
theorem bS.fresh(h:bS w0 T Y M fr R E Bm ti wr pv mv xv lv pl ms xs ls s w){X:Nat}(hX:w.heap.size<=X):pv.ownBlock≠some X/\mv.ownBlock≠some X/\xv.ownBlock≠some X/\lv.ownBlock≠some X:=by
 obtain⟨c1,p1,p2⟩:=h.op;obtain⟨c2,m1,m2⟩:=h.om;exact⟨fun e=>by have:=(p1.lt _ e).2;omega,fun e=>by have:=(m1.lt _ e).2;omega,fun e=>by have:=(h.ox.lt _ e).2;omega,fun e=>by have:=(h.ol.lt _ e).2;omega⟩
theorem bS.set(h:bS w0 T Y M fr R E Bm ti wr pv mv xv lv pl ms xs ls s w){ti':ByteArray}{wr':Bool}(hE:w'.heap[E]?=some (.cells (lU ti' wr' pv mv xv lv) 64 (0,0)))(so:∀k,k≠E->w'.heap[k]?=w.heap[k]?)(a:aC [Y,M] w0 w'):bS w0 T Y M fr R E Bm ti' wr' pv mv xv lv pl ms xs ls s w':=by
 have:=h.lY;have:=h.lM;have:=h.lR;have:=h.lE;obtain⟨c1,p1,p2⟩:=h.op;obtain⟨c2,m1,m2⟩:=h.om;have kT:∀(k:Nat)(o:Array Value)(T:TypeId),w.heap[k]?=some (.cells o T (0,0))->ST T->w0.heap.size<=k->w'.heap[k]?=w.heap[k]?:=fun k o T ho hT _=>so k (by
  rintro rfl;exact aS ho h.hE hT.not.2.1)
 have nE:∀{v:Value}{B sz n:Nat}{t:TypeId}{x:List Value},w.ownsRow B t sz v n x->t≠64->∀k,v.ownBlock=some k->k≠E:=fun r ht k hk e=>by
  obtain⟨c',hc'⟩:=bA r hk;subst e;exact aS hc' h.hE ht
 exact⟨h.ps.put (R:=E) (by omega) (by omega) h.hE (by decide) so,hE,(so _ (by omega)).trans h.hR,⟨c1,aB p1 fun k hk=>so k (nE p1 (by decide) k hk),p2.keepT kT⟩,⟨c2,aB m1 fun k hk=>so k (nE m1 (by decide) k hk),m2.keepT kT⟩,
  aB h.ox fun k hk=>so k (nE h.ox (by decide) k hk),aB h.ol fun k hk=>so k (nE h.ol (by decide) k hk),a,h.lY,h.lM,h.lR,h.lE,h.lB⟩
theorem bS.title(h:bS w0 T Y M fr R E Bm ti wr pv mv xv lv pl ms xs ls s w)(t:ByteArray):bS w0 T Y M fr R E Bm t wr pv mv xv lv pl ms xs ls s (w.setCell ⟨E,0,none⟩ (.string t)):=by
 refine h.set ?_ (aH w E 0 _) (h.aw.setCell (p:=⟨E,0,none⟩) (.inr (by have:=h.lR;have:=h.lE;show w0.heap.size<=E;omega)) _);rw[Lib.heap_setCell_same (i:=0) h.hE _];rfl
theorem bS.writ(h:bS w0 T Y M fr R E Bm ti wr pv mv xv lv pl ms xs ls s w)(b:Bool):bS w0 T Y M fr R E Bm ti b pv mv xv lv pl ms xs ls s (w.setCell ⟨E,1,none⟩ (.bool b)):=by
 refine h.set ?_ (aH w E 1 _) (h.aw.setCell (p:=⟨E,1,none⟩) (.inr (by have:=h.lR;have:=h.lE;show w0.heap.size<=E;omega)) _);rw[Lib.heap_setCell_same (i:=1) h.hE _];rfl
theorem bS.pushP(h:bS w0 T Y M fr R E Bm ti wr pv mv xv lv pl ms xs ls s w)(hg:w.grownBy w' pv.ownBlock){pv':Value}{p:iZ}{sv:Value}{cs:List Value}(ho1:w.ownsRow w0.heap.size 117 6 pv pl.length cs)(hc1:PsR w0.heap.size pl cs w)(hn:w.ownsRow w0.heap.size 120 3 sv p.staves.length (bT sC p.staves))(ho:w'.ownsRow w0.heap.size 117 6 pv' (pl.length+1) (cs++(kG p sv).toList)) :
  w'.heap[E]?=some (.cells (lU ti wr pv mv xv lv) 64 (0,0))/\bS w0 T Y M fr R E Bm ti wr pv' mv xv lv (pl++[p]) ms xs ls s (w'.setCell ⟨E,2,none⟩ pv'):=by
 have lY:=h.lY;have lM:=h.lM;have lR:=h.lR;have lE:=h.lE;have lB:=h.lB;obtain⟨p1,p2⟩:=And.intro ho1 hc1;obtain⟨c2,m1,m2⟩:=h.om;have tB:∀k,pv.ownBlock=some k->∃c',w.heap[k]?=some (.cells c' 117 (0,0)):=fun k hk=>bA ho1 hk;have kp:∀(k:Nat)(x:Array Value)(t:TypeId),w.heap[k]?=some (.cells x t (0,0))->t≠117->w'.heap[k]?=w.heap[k]?:=fun k x t hk ht=>hg.block k (aA hk) (fun e=>by
  obtain⟨c',hc'⟩:=tB k e.symm;exact aS hk hc' ht)
 have so:=aH w' E 2 pv';have hE':=(kp _ _ _ h.hE (by decide)).trans h.hE;have nE:∀{v:Value}{B sz n:Nat}{t:TypeId}{x:List Value},w'.ownsRow B t sz v n x->t≠64->∀k,v.ownBlock=some k->k≠E:=fun r ht k hk e=>by
  obtain⟨c',hc'⟩:=bA r hk;subst e;exact aS hc' hE' ht
 have oth:∀{v:Value}{B sz n:Nat}{t:TypeId}{x:List Value},w.ownsRow B t sz v n x->t≠64->t≠117->(w'.setCell ⟨E,2,none⟩ pv').ownsRow B t sz v n x:=fun r ht h2=>aB r fun k hk=>by
  obtain⟨c',hc'⟩:=bA r hk;exact(so k (by rintro rfl;exact aS hc' h.hE ht)).trans (kp _ _ _ hc' h2)
 have kT:∀(k:Nat)(x:Array Value)(t:TypeId),w.heap[k]?=some (.cells x t (0,0))->ST t->w0.heap.size<=k->(w'.setCell ⟨E,2,none⟩ pv').heap[k]?=w.heap[k]?:=fun k x t hx hT _=>by
  have hn:=hT.not;exact(so k (by rintro rfl;exact aS hx h.hE hn.2.1)).trans (kp _ _ _ hx (by simp only[ne_eq]at hn⊢;simp[hn]))
 refine⟨hE',⟨?_,?_,(so _ (by omega)).trans ((kp _ _ _ h.hR (by decide)).trans h.hR),⟨cs++(kG p sv).toList,by rw[qf];exact aB ho fun k hk=>so k (nE ho (by decide) k hk),(p2.keepT kT).snoc (aB (oth hn (by decide) (by decide)) fun _ _=>rfl)⟩,⟨c2,oth m1 (by decide) (by decide),m2.keepT kT⟩,oth h.ox (by decide) (by decide),oth h.ol (by decide) (by decide),?_,lY,lM,lR,lE,lB⟩⟩
 ·refine(h.ps.grown hg fun k hk => ?_).put (R:=E) (by omega) (by omega) hE' (by decide) so;obtain⟨c',hc'⟩:=tB k hk;exact⟨by have:=(ho1.lt k hk).1;omega,by have:=(ho1.lt k hk).1;omega,c',_,hc',by decide⟩
 ·rw[Lib.heap_setCell_same (i:=2) hE' pv'];rfl
 ·exact(h.aw.grown hg fun k hk=>by have:=(ho1.lt k hk).1;omega).setCell (p:=⟨E,2,none⟩) (.inr (by show w0.heap.size<=E;omega)) pv'
theorem bS.pushM(h:bS w0 T Y M fr R E Bm ti wr pv mv xv lv pl ms xs ls s w)(hg:w.grownBy w' mv.ownBlock){mv':Value}{m:bC}{tv cv:Value}{cs:List Value}(ho1:w.ownsRow Bm 94 22 mv ms.length cs)(hc1:MsR w0.heap.size ms cs w)(hn:sA w0.heap.size tv cv m w)(ho:w'.ownsRow Bm 94 22 mv' (ms.length+1) (cs++(aU m tv cv).toList)) :
  w'.heap[E]?=some (.cells (lU ti wr pv mv xv lv) 64 (0,0))/\bS w0 T Y M fr R E Bm ti wr pv mv' xv lv pl (ms++[m]) xs ls s (w'.setCell ⟨E,3,none⟩ mv'):=by
 have lY:=h.lY;have lM:=h.lM;have lR:=h.lR;have lE:=h.lE;have lB:=h.lB;obtain⟨c1,p1,p2⟩:=h.op;obtain⟨m1,m2⟩:=And.intro ho1 hc1;have tB:∀k,mv.ownBlock=some k->∃c',w.heap[k]?=some (.cells c' 94 (0,0)):=fun k hk=>bA ho1 hk;have kp:∀(k:Nat)(x:Array Value)(t:TypeId),w.heap[k]?=some (.cells x t (0,0))->t≠94->w'.heap[k]?=w.heap[k]?:=fun k x t hk ht=>hg.block k (aA hk) (fun e=>by
  obtain⟨c',hc'⟩:=tB k e.symm;exact aS hk hc' ht)
 have so:=aH w' E 3 mv';have hE':=(kp _ _ _ h.hE (by decide)).trans h.hE;have nE:∀{v:Value}{B sz n:Nat}{t:TypeId}{x:List Value},w'.ownsRow B t sz v n x->t≠64->∀k,v.ownBlock=some k->k≠E:=fun r ht k hk e=>by
  obtain⟨c',hc'⟩:=bA r hk;subst e;exact aS hc' hE' ht
 have oth:∀{v:Value}{B sz n:Nat}{t:TypeId}{x:List Value},w.ownsRow B t sz v n x->t≠64->t≠94->(w'.setCell ⟨E,3,none⟩ mv').ownsRow B t sz v n x:=fun r ht h2=>aB r fun k hk=>by
  obtain⟨c',hc'⟩:=bA r hk;exact(so k (by rintro rfl;exact aS hc' h.hE ht)).trans (kp _ _ _ hc' h2)
 have kT:∀(k:Nat)(x:Array Value)(t:TypeId),w.heap[k]?=some (.cells x t (0,0))->ST t->w0.heap.size<=k->(w'.setCell ⟨E,3,none⟩ mv').heap[k]?=w.heap[k]?:=fun k x t hx hT _=>by
  have hn:=hT.not;exact(so k (by rintro rfl;exact aS hx h.hE hn.2.1)).trans (kp _ _ _ hx (by simp only[ne_eq]at hn⊢;simp[hn]))
 refine⟨hE',⟨?_,?_,(so _ (by omega)).trans ((kp _ _ _ h.hR (by decide)).trans h.hR),⟨c1,oth p1 (by decide) (by decide),p2.keepT kT⟩,⟨cs++(aU m tv cv).toList,by rw[qf];exact aB ho fun k hk=>so k (nE ho (by decide) k hk),(m2.keepT kT).snoc (hn.keepT kT)⟩,oth h.ox (by decide) (by decide),oth h.ol (by decide) (by decide),?_,lY,lM,lR,lE,lB⟩⟩
 ·refine(h.ps.grown hg fun k hk => ?_).put (R:=E) (by omega) (by omega) hE' (by decide) so;obtain⟨c',hc'⟩:=tB k hk;exact⟨by have:=(ho1.lt k hk).1;omega,by have:=(ho1.lt k hk).1;omega,c',_,hc',by decide⟩
 ·rw[Lib.heap_setCell_same (i:=3) hE' mv'];rfl
 ·exact(h.aw.grown hg fun k hk=>by have:=(ho1.lt k hk).1;omega).setCell (p:=⟨E,3,none⟩) (.inr (by show w0.heap.size<=E;omega)) mv'
theorem bS.pushX(h:bS w0 T Y M fr R E Bm ti wr pv mv xv lv pl ms xs ls s w)(hg:w.grownBy w' xv.ownBlock){xv':Value}{x:wV}(ho:w'.ownsRow w0.heap.size 127 7 xv' (xs.length+1) (bT ER xs++(ER x).toList)) :
  w'.heap[E]?=some (.cells (lU ti wr pv mv xv lv) 64 (0,0))/\bS w0 T Y M fr R E Bm ti wr pv mv xv' lv pl ms (xs++[x]) ls s (w'.setCell ⟨E,4,none⟩ xv'):=by
 have lY:=h.lY;have lM:=h.lM;have lR:=h.lR;have lE:=h.lE;have lB:=h.lB;obtain⟨c1,p1,p2⟩:=h.op;obtain⟨c2,m1,m2⟩:=h.om;have tB:∀k,xv.ownBlock=some k->∃c',w.heap[k]?=some (.cells c' 127 (0,0)):=fun k hk=>bA h.ox hk;have kp:∀(k:Nat)(x:Array Value)(t:TypeId),w.heap[k]?=some (.cells x t (0,0))->t≠127->w'.heap[k]?=w.heap[k]?:=fun k x t hk ht=>hg.block k (aA hk) (fun e=>by
  obtain⟨c',hc'⟩:=tB k e.symm;exact aS hk hc' ht)
 have so:=aH w' E 4 xv';have hE':=(kp _ _ _ h.hE (by decide)).trans h.hE;have nE:∀{v:Value}{B sz n:Nat}{t:TypeId}{x:List Value},w'.ownsRow B t sz v n x->t≠64->∀k,v.ownBlock=some k->k≠E:=fun r ht k hk e=>by
  obtain⟨c',hc'⟩:=bA r hk;subst e;exact aS hc' hE' ht
 have oth:∀{v:Value}{B sz n:Nat}{t:TypeId}{x:List Value},w.ownsRow B t sz v n x->t≠64->t≠127->(w'.setCell ⟨E,4,none⟩ xv').ownsRow B t sz v n x:=fun r ht h2=>aB r fun k hk=>by
  obtain⟨c',hc'⟩:=bA r hk;exact(so k (by rintro rfl;exact aS hc' h.hE ht)).trans (kp _ _ _ hc' h2)
 have kT:∀(k:Nat)(x:Array Value)(t:TypeId),w.heap[k]?=some (.cells x t (0,0))->ST t->w0.heap.size<=k->(w'.setCell ⟨E,4,none⟩ xv').heap[k]?=w.heap[k]?:=fun k x t hx hT _=>by
  have hn:=hT.not;exact(so k (by rintro rfl;exact aS hx h.hE hn.2.1)).trans (kp _ _ _ hx (by simp only[ne_eq]at hn⊢;simp[hn]))
 refine⟨hE',⟨?_,?_,(so _ (by omega)).trans ((kp _ _ _ h.hR (by decide)).trans h.hR),⟨c1,oth p1 (by decide) (by decide),p2.keepT kT⟩,⟨c2,oth m1 (by decide) (by decide),m2.keepT kT⟩,by rw[qf,eV];exact aB ho fun k hk=>so k (nE ho (by decide) k hk),oth h.ol (by decide) (by decide),?_,lY,lM,lR,lE,lB⟩⟩
 ·refine(h.ps.grown hg fun k hk => ?_).put (R:=E) (by omega) (by omega) hE' (by decide) so;obtain⟨c',hc'⟩:=tB k hk;exact⟨by have:=(h.ox.lt k hk).1;omega,by have:=(h.ox.lt k hk).1;omega,c',_,hc',by decide⟩
 ·rw[Lib.heap_setCell_same (i:=4) hE' xv'];rfl
 ·exact(h.aw.grown hg fun k hk=>by have:=(h.ox.lt k hk).1;omega).setCell (p:=⟨E,4,none⟩) (.inr (by show w0.heap.size<=E;omega)) xv'
theorem bS.pushL(h:bS w0 T Y M fr R E Bm ti wr pv mv xv lv pl ms xs ls s w)(hg:w.grownBy w' lv.ownBlock){lv':Value}{x:Int×Int}(ho:w'.ownsRow w0.heap.size 24 2 lv' (ls.length+1) (bT idC ls++(idC x).toList)) :
  w'.heap[E]?=some (.cells (lU ti wr pv mv xv lv) 64 (0,0))/\bS w0 T Y M fr R E Bm ti wr pv mv xv lv' pl ms xs (ls++[x]) s (w'.setCell ⟨E,5,none⟩ lv'):=by
 have lY:=h.lY;have lM:=h.lM;have lR:=h.lR;have lE:=h.lE;have lB:=h.lB;obtain⟨c1,p1,p2⟩:=h.op;obtain⟨c2,m1,m2⟩:=h.om;have tB:∀k,lv.ownBlock=some k->∃c',w.heap[k]?=some (.cells c' 24 (0,0)):=fun k hk=>bA h.ol hk;have kp:∀(k:Nat)(x:Array Value)(t:TypeId),w.heap[k]?=some (.cells x t (0,0))->t≠24->w'.heap[k]?=w.heap[k]?:=fun k x t hk ht=>hg.block k (aA hk) (fun e=>by
  obtain⟨c',hc'⟩:=tB k e.symm;exact aS hk hc' ht)
 have so:=aH w' E 5 lv';have hE':=(kp _ _ _ h.hE (by decide)).trans h.hE;have nE:∀{v:Value}{B sz n:Nat}{t:TypeId}{x:List Value},w'.ownsRow B t sz v n x->t≠64->∀k,v.ownBlock=some k->k≠E:=fun r ht k hk e=>by
  obtain⟨c',hc'⟩:=bA r hk;subst e;exact aS hc' hE' ht
 have oth:∀{v:Value}{B sz n:Nat}{t:TypeId}{x:List Value},w.ownsRow B t sz v n x->t≠64->t≠24->(w'.setCell ⟨E,5,none⟩ lv').ownsRow B t sz v n x:=fun r ht h2=>aB r fun k hk=>by
  obtain⟨c',hc'⟩:=bA r hk;exact(so k (by rintro rfl;exact aS hc' h.hE ht)).trans (kp _ _ _ hc' h2)
 have kT:∀(k:Nat)(x:Array Value)(t:TypeId),w.heap[k]?=some (.cells x t (0,0))->ST t->w0.heap.size<=k->(w'.setCell ⟨E,5,none⟩ lv').heap[k]?=w.heap[k]?:=fun k x t hx hT _=>by
  have hn:=hT.not;exact(so k (by rintro rfl;exact aS hx h.hE hn.2.1)).trans (kp _ _ _ hx (by simp only[ne_eq]at hn⊢;simp[hn]))
 refine⟨hE',⟨?_,?_,(so _ (by omega)).trans ((kp _ _ _ h.hR (by decide)).trans h.hR),⟨c1,oth p1 (by decide) (by decide),p2.keepT kT⟩,⟨c2,oth m1 (by decide) (by decide),m2.keepT kT⟩,oth h.ox (by decide) (by decide),by rw[qf,eV];exact aB ho fun k hk=>so k (nE ho (by decide) k hk),?_,lY,lM,lR,lE,lB⟩⟩
 ·refine(h.ps.grown hg fun k hk => ?_).put (R:=E) (by omega) (by omega) hE' (by decide) so;obtain⟨c',hc'⟩:=tB k hk;exact⟨by have:=(h.ol.lt k hk).1;omega,by have:=(h.ol.lt k hk).1;omega,c',_,hc',by decide⟩
 ·rw[Lib.heap_setCell_same (i:=5) hE' lv'];rfl
 ·exact(h.aw.grown hg fun k hk=>by have:=(h.ol.lt k hk).1;omega).setCell (p:=⟨E,5,none⟩) (.inr (by show w0.heap.size<=E;omega)) lv'
theorem bS.accept(h:bS w0 T Y M fr R E Bm ti wr pv mv xv lv pl ms xs ls s w)(u:ByteArray):Calls Tryz.prog 53 #[.pointer (some ⟨Y,0,none⟩),.string u] w fun r w'=>r=.returned (.bool (isS T u s))/\bS w0 T Y M fr R E Bm ti wr pv mv xv lv pl ms xs ls (aY T u s) w'/\aC [Y,M] w w' :=
 (d9 h.ps u).mono (by rintro r w' ⟨hr,hS,a⟩;exact⟨hr,h.call hS a,a⟩)
theorem bS.expect(h:bS w0 T Y M fr R E Bm ti wr pv mv xv lv pl ms xs ls s w)(u:ByteArray):Calls Tryz.prog 54 #[.pointer (some ⟨Y,0,none⟩),.string u] w fun r w'=>r=.returned (.tuple #[])/\bS w0 T Y M fr R E Bm ti wr pv mv xv lv pl ms xs ls (bY T u s) w'/\aC [Y,M] w w' :=
 (iX h.ps u).mono (by rintro r w' ⟨hr,hS,a⟩;exact⟨hr,h.call hS a,a⟩)
theorem bS.str(h:bS w0 T Y M fr R E Bm ti wr pv mv xv lv pl ms xs ls s w):Calls Tryz.prog 91 #[.pointer (some ⟨Y,0,none⟩)] w fun r w'=>r=.returned (.string (fU T s).1)/\bS w0 T Y M fr R E Bm ti wr pv mv xv lv pl ms xs ls (fU T s).2 w'/\aC [Y,M] w w' :=
 (X2 h.ps).mono (by rintro r w' ⟨hr,hS,a⟩;exact⟨hr,h.call hS a,a⟩)
theorem bS.written(h:bS w0 T Y M fr R E Bm ti wr pv mv xv lv pl ms xs ls s w):Calls Tryz.prog 92 #[.pointer (some ⟨Y,0,none⟩)] w fun r w'=>r=.returned (.agg #[Z (bG T s).1.1,Z (bG T s).1.2])/\bS w0 T Y M fr R E Bm ti wr pv mv xv lv pl ms xs ls (bG T s).2 w'/\aC [Y,M] w w' :=
 (MB h.ps).mono (by rintro r w' ⟨hr,hS,a⟩;exact⟨hr,h.call hS a,a⟩)
theorem bS.end_(h:bS w0 T Y M fr R E Bm ti wr pv mv xv lv pl ms xs ls s w):Calls Tryz.prog 21 #[.pointer (some ⟨Y,0,none⟩)] w fun r w'=>r=.returned (.tuple #[])/\bS w0 T Y M fr R E Bm ti wr pv mv xv lv pl ms xs ls (E4 T s) w'/\aC [Y,M] w w' :=
 (aJH h.ps).mono (by rintro r w' ⟨hr,hS,a⟩;exact⟨hr,h.call hS a,a⟩)
theorem bS.is(h:bS w0 T Y M fr R E Bm ti wr pv mv xv lv pl ms xs ls s w)(u:ByteArray):Calls Tryz.prog 76 #[.pointer (some ⟨Y,0,none⟩),.string u] w fun r w'=>r=.returned (.bool (isS T u s))/\bS w0 T Y M fr R E Bm ti wr pv mv xv lv pl ms xs ls s w'/\aC [Y,M] w w' :=
 (KY h.ps u).mono (by rintro r w' ⟨hr,b⟩;exact⟨hr,h.step b,aC.of_below b⟩)
theorem bS.object{I:eQ}(hI:dH I)(h:bS w0 T Y M (gS I) R E Bm ti wr pv mv xv lv pl ms xs ls s w):Calls Tryz.prog 52 #[.pointer (some ⟨Y,0,none⟩)] w fun r w'=>r=.returned (.agg #[Z (gR T I s).1.1.1,Z (gR T I s).1.1.2])/\bS w0 T Y M (gS (gR T I s).1.2) R E Bm ti wr pv mv xv lv pl ms xs ls (gR T I s).2 w'/\aC [Y,M] w w' :=
 (JM hI h.ps).mono (by rintro r w' ⟨hr,hS,a⟩;exact⟨hr,h.call hS a,a⟩)
theorem bS.part {I : eQ} {mo : ByteArray -> Option kM} (hI : dH I) (h : bS w0 T Y M (gS I) R E Bm ti wr pv mv xv lv pl ms xs ls s w) : Calls Tryz.prog 93 #[.pointer (some ⟨Y, 0, none⟩)] w fun r w' => ∃ sv, r = .returned (.agg (kG (jG ⟨aP, mo⟩ T I s).1.1 sv)) /\
  w'.ownsRow w0.heap.size 120 3 sv (jG ⟨aP,mo⟩ T I s).1.1.staves.length (bT sC (jG ⟨aP,mo⟩ T I s).1.1.staves)/\bS w0 T Y M (gS (jG ⟨aP,mo⟩ T I s).1.2) R E Bm ti wr pv mv xv lv pl ms xs ls (jG ⟨aP,mo⟩ T I s).2 w'/\aC [Y,M] w w' :=
 (aJT hI h.ps).mono (by rintro r w' ⟨sv,hr,ho,hS,a⟩;exact⟨sv,hr,oD ho h.aw.size,h.call hS a,a⟩)
theorem bS.meas{W0:World}{I:eQ}{f:ByteArray->kM×Int}(hf:jQ f)(hI:dH I)(B:mF W0 [Y,M] w0)(h:bS w0 T Y M (gS I) R E Bm ti wr pv mv xv lv pl ms xs ls s w)(b:bC){bta bca:Option Addr}{btn bcn btc bcc:Nat} :
  Calls Tryz.prog 94 #[.pointer (some ⟨Y,0,none⟩),.agg (aU b (.slice bta btn btc) (.slice bca bcn bcc))] w fun r w'=>∃tv cv,r=.returned (.agg (aU (lF aK ⟨aP,bJ f⟩ T b I s).1.1 tv cv)) /\
   sA w0.heap.size tv cv (lF aK ⟨aP,bJ f⟩ T b I s).1.1 w'/\bS w0 T Y M (gS (lF aK ⟨aP,bJ f⟩ T b I s).1.2) R E Bm ti wr pv mv xv lv pl ms xs ls (lF aK ⟨aP,bJ f⟩ T b I s).2 w'/\aC [Y,M] w w' :=
 (ZG hf hI h.ps (B.away h.aw) b).mono (by rintro r w' ⟨tv,cv,hr,hm,hS,a⟩;exact⟨tv,cv,hr,hm.lo h.aw.size,h.call hS a,a⟩)
end
abbrev PD:ByteArray:=⟨#[115,99,111,114,101]⟩
abbrev L5:ByteArray:=⟨#[119,114,105,116,116,101,110]⟩
abbrev EK:ByteArray:=⟨#[108,97,115,116]⟩
abbrev EM:ByteArray:=⟨#[112,97,114,116]⟩
abbrev EN:ByteArray:=⟨#[109,101,97,115,117,114,101]⟩
def BZ(T:List aX)(s:aD):List (Int×Int)×aD:=if isS T EK s=true then((bG T (s.next 1)).1::(iR T T.length (bG T (s.next 1)).2).1,(iR T T.length (bG T (s.next 1)).2).2)else([],s)
section
variable{O:yB}{B:XP}{T:List aX}
theorem aAE{s s2 s3 s4 s5 s6 s7:aD}{ti:ByteArray}{wr la:Bool}{l0:List (Int×Int)}{pl:List iZ}{ms:List bC}{xs:List wV}{I1 I2 I3:eQ}
  (h1:fU T (bY T PD s)=(ti,s2)) (hw:isS T L5 s2=wr) (h2:aY T L5 s2=s3) (hl:isS T EK s3=la) (h3:BZ T s3=(l0,s4)) (h4:iS B T T.length ⟨0,0,[]⟩ s4=((pl,I1),s5))
  (h5:dL O B T T.length JE I1 s5=((ms,I2),s6)) (h6:iT T T.length I2 s6=((xs,I3),s7)) :
  iU O B T s=(⟨ti,wr,pl,ms,xs,if la=true then l0 else CY I3.es⟩,E4 T s7):=by
 unfold iU;unfold PD at h1;unfold L5 at hw h2;unfold BZ EK at h3;unfold EK at hl;simp only[h1,hw,h2,hl]at h3⊢;simp only[h3,h4,h5,h6]
theorem aAF(s:aD):∃(s2 s3 s4 s5 s6 s7:aD)(ti:ByteArray)(wr la:Bool)(l0:List (Int×Int))(pl:List iZ)(ms:List bC)(xs:List wV)(I1 I2 I3:eQ),
  fU T (bY T PD s)=(ti,s2)/\isS T L5 s2=wr/\aY T L5 s2=s3/\isS T EK s3=la/\BZ T s3=(l0,s4)/\iS B T T.length ⟨0,0,[]⟩ s4=((pl,I1),s5) /\
  dL O B T T.length JE I1 s5=((ms,I2),s6)/\iT T T.length I2 s6=((xs,I3),s7) /\
  iU O B T s=(⟨ti,wr,pl,ms,xs,if la=true then l0 else CY I3.es⟩,E4 T s7) :=
 ⟨_,_,_,_,_,_,_,_,_,_,_,_,_,_,_,_,rfl,rfl,rfl,rfl,rfl,rfl,rfl,rfl,aAE rfl rfl rfl rfl rfl rfl rfl rfl⟩
theorem aET{k:Nat}{s:aD}(h:isS T ⟨#[64]⟩ s=false):iR T k s=([],s):=by
 cases k with
 |zero=>rfl
 |succ k=>rw[iR,if_neg (by rw[h];decide)]
theorem aAG{k:Nat}{s s2:aD}{a b:Int}(h:isS T ⟨#[64]⟩ s=true)(h2:bG T s=((a,b),s2)):iR T (k+1) s=((a,b)::(iR T k s2).1,(iR T k s2).2):=by
 rw[iR,if_pos h,h2]
theorem aEU{k:Nat}{I:eQ}{s:aD}(h:isS T EM s=false):iS B T k I s=(([],I),s):=by
 cases k with
 |zero=>rfl
 |succ k=>unfold EM at h;rw[iS,if_neg (by rw[h];decide)]
theorem aAH{k:Nat}{I I2:eQ}{s s2:aD}{p:iZ}(h:isS T EM s=true)(h2:jG B T I (s.next 1)=((p,I2),s2)):iS B T (k+1) I s=((p::(iS B T k I2 s2).1.1,(iS B T k I2 s2).1.2),(iS B T k I2 s2).2):=by
 unfold EM at h;rw[iS,if_pos h];simp only[h2]
theorem aEV{k:Nat}{b:bC}{I:eQ}{s:aD}(h:isS T EN s=false):dL O B T k b I s=(([],I),s):=by
 cases k with
 |zero=>rfl
 |succ k=>unfold EN at h;rw[dL,if_neg (by rw[h];decide)]
theorem aAJ{k:Nat}{b m:bC}{I I2:eQ}{s s2:aD}(h:isS T EN s=true)(h2:lF O B T b I (s.next 1)=((m,I2),s2)):dL O B T (k+1) b I s=((m::(dL O B T k m I2 s2).1.1,(dL O B T k m I2 s2).1.2),(dL O B T k m I2 s2).2):=by
 unfold EN at h;rw[dL,if_pos h];simp only[h2]
theorem aEW{k:Nat}{I:eQ}{s:aD}(h:(aZ T s).kind≠1\/cM (aZ T s).text bZ=none):iT T k I s=(([],I),s):=by
 cases k with
 |zero=>rfl
 |succ k =>
  rw[iT];split
  ·rfl
  ·rename_i h1;rcases h with h|h
   ·exact absurd h h1
   ·rw[h]
theorem aAK{k i:Nat}{I I2:eQ}{s s2 s3 s4:aD}{a b:Int}{f t:Int×Int}(hk:(aZ T s).kind=1)(hi:cM (aZ T s).text bZ=some i)(h1:gR T I (s.next 1)=(((a,b),I2),s2))(h2:bG T (bY T ⟨#[40]⟩ s2)=(f,s3))(h3:bG T s3=(t,s4)) :
  iT T (k+1) I s=((⟨a,b,(i:Int)+1,f,t⟩::(iT T k I2 (bY T ⟨#[41]⟩ s4)).1.1,(iT T k I2 (bY T ⟨#[41]⟩ s4)).1.2),(iT T k I2 (bY T ⟨#[41]⟩ s4)).2):=by
 rw[iT,if_neg (fun h=>h hk),hi];simp only[h1,h2,h3]
theorem EP:∀(k:Nat)(I:eQ)(s:aD),dH I->dH (iS B T k I s).1.2
 |0,_,_,h=>h
 |k+1,I,s,h=>by
  rw[iS];split
  ·exact EP k _ _ (JC h)
  ·exact h
theorem xF:∀(k:Nat)(b:bC)(I:eQ)(s:aD),dH I->dH (dL O B T k b I s).1.2
 |0,_,_,_,h=>h
 |k+1,b,I,s,h=>by
  rw[dL];split
  ·exact xF k _ _ _ (JB h)
  ·exact h
theorem EQ:∀(k:Nat)(I:eQ)(s:aD),dH I->dH (iT T k I s).1.2
 |0,_,_,h=>h
 |k+1,I,s,h=>by
  rw[iT];split
  ·exact h
  ·split
   ·exact h
   ·exact EQ k _ _ (kP h)
end
noncomputable def eU:Array Value:=aU JE (.slice none 0 0) (.slice none 0 0)
def wT:Array Value:=#[Z 4,Z 4,Z 0,Z 0,Z 0,Z 0,Z 0,Z 0]
theorem XM:Tryz.prog.built 90 [(0,Z 4),(1,Z 4)]=some wT:=by kernel_rfl
theorem XN:Tryz.prog.built 94 [(1,.agg wT)]=some eU:=by kernel_rfl
theorem NX{a:Act}{n:Nat}(v:Value)(h:n<a.tmps.size):(a.put (some n) v).eval (.tmp n)=v:=by
 simp[Act.put,Act.eval,h]
theorem UR{a:Act}{n m:Nat}(v:Value)(h:n≠m):(a.put (some n) v).eval (.tmp m)=a.eval (.tmp m):=by
 simp[Act.put,Act.eval,h]
theorem JD{a:Act}{d:Option Nat}(v:Value):(a.put d v).tmps.size=a.tmps.size:=by
 cases d<;>simp[Act.put]
theorem aCC{ops:Array Oper}{Q:Exit->Act->World->Prop}{a:Act}{w:World}{o1 o2 o3 o4:Oper}(g1:o1.guard=none)(g2:o2.guard=none)(g3:o3.guard=none)(g4:o4.guard=none)
  (e1:o1.op=.build 90 #[(0,.const (Z 4)),(1,.const (Z 4))]) (e2:o2.op=.build 94 #[(1,.tmp 59)]) (e3:o3.op=.alloc 94) (e4:o4.op=.store 94 (.tmp 5) (.tmp 60))
  (d1:o1.dst=some 59) (d2:o2.dst=some 60) (d3:o3.dst=some 5) (d4:o4.dst=none) (hs:60<a.tmps.size)
  (h:∀v1 v2,Q .normal ((((a.put (some 59) v1).put (some 60) v2).put (some 5) (.pointer (some ⟨w.heap.size,0,none⟩))).put none undef) (w.alloc (.cells eU 94))) :
  wpList Tryz.prog ops Q [o1,o2,o3,o4] a w:=by
 have hl0:((#[(0,Operand.const (Z 4)),(1,Operand.const (Z 4))]:Array (Nat×Operand)).map fun(i,x)=>(i,a.eval x)).toList=[(0,Z 4),(1,Z 4)]:=by simp[Act.eval]
 refine wpList_build g1 90 _ e1 (by rw[hl0,XM];rfl) ?_;rw[hl0,XM,d1];simp only[Option.getD_some];have hl:((#[(1,Operand.tmp 59)]:Array (Nat×Operand)).map fun(i,x)=>(i,(a.put (some 59) (.agg wT)).eval x)).toList=[(1,.agg wT)]:=by
  simp[NX _ (show 59<a.tmps.size by omega)]
 refine wpList_build g2 94 _ e2 (by rw[hl,XN];rfl) ?_;rw[hl,XN,d2];simp only[Option.getD_some];generalize ha2:((a.put (some 59) (.agg wT)).put (some 60) (.agg eU))=a2;have hs2:a2.tmps.size=a.tmps.size:=by rw[<-ha2,JD,JD]
 have hv60:a2.eval (.tmp 60)=.agg eU:=by rw[<-ha2];exact NX _ (by rw[JD];exact hs)
 have hal:(execOp a2.eval o3).run Tryz.prog w=.ok (.value (.pointer (some ⟨w.heap.size,0,none⟩))) (w.alloc (.cells eD 94)):=by
  unfold execOp;simp only[e3];simp[go_sem];rfl
 refine wpList_plain g3 fun K hK => ?_;unfold Oper.wp;rw[hal,Oper.upon_value];refine hK _ _ ?_;rw[d3];have hv5:(a2.put (some 5) (.pointer (some ⟨w.heap.size,0,none⟩))).eval (.tmp 5)=.pointer (some ⟨w.heap.size,0,none⟩):=NX _ (by omega);have hv60':(a2.put (some 5) (.pointer (some ⟨w.heap.size,0,none⟩))).eval (.tmp 60)=.agg eU:=by rw[UR _ (by decide)];exact hv60
 refine wpList_store_row g4 94 _ _ e4 w.heap.size eU hv5 hv60' 94 eD (qd w _) Tryz.sizeMeas rfl (by simp[eU,aU,Value.oneCell']) ?_;rw[d4];refine wpList_nil ?_;have hw:(w.alloc (.cells eD 94)).setRow w.heap.size eU=w.alloc (.cells eU 94):=by
  have hh:((w.alloc (.cells eD 94)).setRow w.heap.size eU).heap=(w.alloc (.cells eU 94)).heap:=by
   apply Array.ext_getElem?;intro i;by_cases hi:i=w.heap.size
   ·subst hi;rw[setRow_heap _ _ _ _ _ (qd w _),qd w _]
   ·rw[setRow_other _ _ _ _ hi];show(w.heap.push _)[i]?=(w.heap.push _)[i]?;rw[Array.getElem?_push,Array.getElem?_push,if_neg hi,if_neg hi]
  show({ w.alloc (.cells eD 94)with heap:=((w.alloc (.cells eD 94)).setRow w.heap.size eU).heap }:World)=_;rw[hh];rfl
 rw[hw,<-ha2];exact h _ _
end Go.Proofs.YtgkhemnmcgicnaaGreatDoor
namespace Go.Proofs
open Go.Shelf
def Tryz.lays156_ren:Go.Shelf.Ren:=⟨fun|156=>236|165=>184|166=>185|169=>123|240=>155|241=>213|276=>191|277=>230|n=>n,fun|31=>57|9=>9|3=>3|4=>4|0=>0|20=>20|72=>200|76=>196|70=>198|37=>54|75=>195|127=>234|164=>256|5=>5|80=>87|n=>n,fun|n=>n⟩
theorem Tryz.lays156:Go.Proofs.Lays.n156 Tryz.prog Tryz.lays156_ren:={
 mixed:=by kernel_rfl
 f156:=Tryz.func236.trans (congrArg some (by kernel_rfl))
 f165:=Tryz.func184.trans (congrArg some (by kernel_rfl))
 f166:=Tryz.func185.trans (congrArg some (by kernel_rfl))
 f169:=Tryz.func123.trans (congrArg some (by kernel_rfl))
 f240:=Tryz.func155.trans (congrArg some (by kernel_rfl))
 f241:=Tryz.func213.trans (congrArg some (by kernel_rfl))
 f276:=Tryz.func191.trans (congrArg some (by kernel_rfl))
 f277:=Tryz.func230.trans (congrArg some (by kernel_rfl))
 t0:=Tryz.underlying0
 a0:=Tryz.isAgg0
 z0:=Tryz.sizeOf0
 v0:=Tryz.zeroValue0
 t3:=Tryz.underlying3
 a3:=Tryz.isAgg3
 z3:=Tryz.sizeOf3
 v3:=Tryz.zeroValue3
 t4:=Tryz.underlying4
 a4:=Tryz.isAgg4
 z4:=Tryz.sizeOf4
 v4:=Tryz.zeroValue4
 t9:=Tryz.underlying9
 a9:=Tryz.isAgg9
 z9:=Tryz.sizeOf9
 v9:=Tryz.zeroValue9
 t20:=Tryz.underlying20
 a20:=Tryz.isAgg20
 z20:=Tryz.sizeOf20
 v20:=Tryz.zeroValue20
 t31:=Tryz.underlying57
 a31:=Tryz.isAgg57
 z31:=Tryz.sizeOf57
 v31:=Tryz.zeroValue57
 t37:=Tryz.underlying54
 a37:=Tryz.isAgg54
 z37:=Tryz.sizeOf54
 v37:=Tryz.zeroValue54
 t70:=Tryz.underlying198
 a70:=Tryz.isAgg198
 z70:=Tryz.sizeOf198
 v70:=Tryz.zeroValue198
 t72:=Tryz.underlying200
 a72:=Tryz.isAgg200
 z72:=Tryz.sizeOf200
 v72:=Tryz.zeroValue200
 t75:=Tryz.underlying195
 a75:=Tryz.isAgg195
 z75:=Tryz.sizeOf195
 v75:=Tryz.zeroValue195
 t76:=Tryz.underlying196
 a76:=Tryz.isAgg196
 z76:=Tryz.sizeOf196
 v76:=Tryz.zeroValue196
 t127:=Tryz.underlying234
 a127:=Tryz.isAgg234
 z127:=Tryz.sizeOf234
 v127:=Tryz.zeroValue234
 t164:=Tryz.underlying256
 a164:=Tryz.isAgg256
 z164:=Tryz.sizeOf256
 v164:=Tryz.zeroValue256 }
theorem Tryz.Builder_Extra_156:Builder.Extra Tryz.prog Tryz.lays156_ren:={
 sizeBuilder:=by kernel_rfl
 liesBuilder:=by kernel_rfl
 t5:=Tryz.underlying5
 a5:=Tryz.isAgg5
 z5:=Tryz.sizeOf5
 v5:=Tryz.zeroValue5
 infoByte:=by kernel_rfl
 cellsByte:=by kernel_rfl
 sizeByte:=by kernel_rfl
 neB5:=by decide }
open Go.RowKit in
theorem Tryz.strings_Join(bk o c:Nat)(xs:List ByteArray)(sep:ByteArray)(w:World)(hcells:∀(j:Nat) x,xs[j]?=some x->w.cell? ⟨bk,o+j,none⟩=some (.string x))(hbk:bk<w.heap.size)(hN:xs.length<=140737488355328)(hcap:xs.length<=c)(hlen:(Lib.join (xs.map (·.data.toList)) sep.data.toList).length<=140737488355328) :
  Calls Tryz.prog 236 #[.slice (some ⟨bk,o,none⟩) xs.length c,.string sep] w fun e w'=>e=.returned (.string ⟨(Lib.join (xs.map (·.data.toList)) sep.data.toList).toArray⟩)/\Below w.heap.size w w':=Any.strings_Join Tryz.lays156 Tryz.Builder_Extra_156 bk o c xs sep w hcells hbk hN hcap hlen
def Tryz.lays145_ren:Go.Shelf.Ren:=⟨fun|145=>217|220=>233|219=>242|217=>157|225=>248|224=>249|267=>250|266=>192|314=>254|n=>n,fun|9=>9|4=>4|59=>291|3=>3|5=>5|46=>205|146=>281|51=>274|n=>n,fun|1=>2|n=>n⟩
theorem Tryz.lays145:Go.Proofs.Lays.n145 Tryz.prog Tryz.lays145_ren:={
 mixed:=by kernel_rfl
 f145:=Tryz.func217.trans (congrArg some (by kernel_rfl))
 f217:=Tryz.func157.trans (congrArg some (by kernel_rfl))
 f219:=Tryz.func242.trans (congrArg some (by kernel_rfl))
 f220:=Tryz.func233.trans (congrArg some (by kernel_rfl))
 f224:=Tryz.func249.trans (congrArg some (by kernel_rfl))
 f225:=Tryz.func248.trans (congrArg some (by kernel_rfl))
 f266:=Tryz.func192.trans (congrArg some (by kernel_rfl))
 f267:=Tryz.func250.trans (congrArg some (by kernel_rfl))
 f314:=Tryz.func254.trans (congrArg some (by kernel_rfl))
 t3:=Tryz.underlying3
 a3:=Tryz.isAgg3
 z3:=Tryz.sizeOf3
 v3:=Tryz.zeroValue3
 t4:=Tryz.underlying4
 a4:=Tryz.isAgg4
 z4:=Tryz.sizeOf4
 v4:=Tryz.zeroValue4
 t5:=Tryz.underlying5
 a5:=Tryz.isAgg5
 z5:=Tryz.sizeOf5
 v5:=Tryz.zeroValue5
 t9:=Tryz.underlying9
 a9:=Tryz.isAgg9
 z9:=Tryz.sizeOf9
 v9:=Tryz.zeroValue9
 t46:=Tryz.underlying205
 a46:=Tryz.isAgg205
 z46:=Tryz.sizeOf205
 v46:=Tryz.zeroValue205
 t51:=Tryz.underlying274
 a51:=Tryz.isAgg274
 z51:=Tryz.sizeOf274
 v51:=Tryz.zeroValue274
 t59:=Tryz.underlying291
 a59:=Tryz.isAgg291
 z59:=Tryz.sizeOf291
 v59:=Tryz.zeroValue291
 t146:=Tryz.underlying281
 a146:=Tryz.isAgg281
 z146:=Tryz.sizeOf281
 v146:=Tryz.zeroValue281
 g1:=by kernel_rfl }
open Go.RowKit Go.Lib in
theorem Tryz.strings_Cut(s sep:ByteArray)(m:Int)(w:World)(hs:s.size<4294967281)(hm:w.cell? ⟨2,0,none⟩=some (Z m)) :
  Calls Tryz.prog 217 #[.string s,.string sep] w fun e w'=>e=.returned (.tuple #[.string ⟨(Lib.cut s.data.toList sep.data.toList).1.toArray⟩,.string ⟨(Lib.cut s.data.toList sep.data.toList).2.1.toArray⟩,.bool (Lib.cut s.data.toList sep.data.toList).2.2])/\∃n,w'=w.drewN n:=Any.strings_Cut Tryz.lays145 s sep m w hs hm
def Tryz.lays146_ren:Go.Shelf.Ren:=⟨fun|146=>218|221=>234|268=>243|138=>244|143=>245|195=>251|197=>252|218=>253|219=>242|260=>255|217=>157|225=>248|224=>249|267=>250|266=>192|314=>254|n=>n,fun|9=>9|31=>57|3=>3|4=>4|0=>0|105=>322|21=>21|5=>5|46=>205|119=>327|139=>330|138=>329|146=>281|51=>274|n=>n,fun|1=>2|3=>6|4=>7|n=>n⟩
theorem Tryz.lays146:Go.Proofs.Lays.n146 Tryz.prog Tryz.lays146_ren:={
 mixed:=by kernel_rfl
 f138:=Tryz.func244.trans (congrArg some (by kernel_rfl))
 f143:=Tryz.func245.trans (congrArg some (by kernel_rfl))
 f146:=Tryz.func218.trans (congrArg some (by kernel_rfl))
 f195:=Tryz.func251.trans (congrArg some (by kernel_rfl))
 f197:=Tryz.func252.trans (congrArg some (by kernel_rfl))
 f217:=Tryz.func157.trans (congrArg some (by kernel_rfl))
 f218:=Tryz.func253.trans (congrArg some (by kernel_rfl))
 f219:=Tryz.func242.trans (congrArg some (by kernel_rfl))
 f221:=Tryz.func234.trans (congrArg some (by kernel_rfl))
 f224:=Tryz.func249.trans (congrArg some (by kernel_rfl))
 f225:=Tryz.func248.trans (congrArg some (by kernel_rfl))
 f260:=Tryz.func255.trans (congrArg some (by kernel_rfl))
 f266:=Tryz.func192.trans (congrArg some (by kernel_rfl))
 f267:=Tryz.func250.trans (congrArg some (by kernel_rfl))
 f268:=Tryz.func243.trans (congrArg some (by kernel_rfl))
 f314:=Tryz.func254.trans (congrArg some (by kernel_rfl))
 t0:=Tryz.underlying0
 a0:=Tryz.isAgg0
 z0:=Tryz.sizeOf0
 v0:=Tryz.zeroValue0
 t3:=Tryz.underlying3
 a3:=Tryz.isAgg3
 z3:=Tryz.sizeOf3
 v3:=Tryz.zeroValue3
 t4:=Tryz.underlying4
 a4:=Tryz.isAgg4
 z4:=Tryz.sizeOf4
 v4:=Tryz.zeroValue4
 t5:=Tryz.underlying5
 a5:=Tryz.isAgg5
 z5:=Tryz.sizeOf5
 v5:=Tryz.zeroValue5
 t9:=Tryz.underlying9
 a9:=Tryz.isAgg9
 z9:=Tryz.sizeOf9
 v9:=Tryz.zeroValue9
 t21:=Tryz.underlying21
 a21:=Tryz.isAgg21
 z21:=Tryz.sizeOf21
 v21:=Tryz.zeroValue21
 t31:=Tryz.underlying57
 a31:=Tryz.isAgg57
 z31:=Tryz.sizeOf57
 v31:=Tryz.zeroValue57
 t46:=Tryz.underlying205
 a46:=Tryz.isAgg205
 z46:=Tryz.sizeOf205
 v46:=Tryz.zeroValue205
 t51:=Tryz.underlying274
 a51:=Tryz.isAgg274
 z51:=Tryz.sizeOf274
 v51:=Tryz.zeroValue274
 t105:=Tryz.underlying322
 a105:=Tryz.isAgg322
 z105:=Tryz.sizeOf322
 v105:=Tryz.zeroValue322
 t119:=Tryz.underlying327
 a119:=Tryz.isAgg327
 z119:=Tryz.sizeOf327
 t138:=Tryz.underlying329
 a138:=Tryz.isAgg329
 z138:=Tryz.sizeOf329
 v138:=Tryz.zeroValue329
 t139:=Tryz.underlying330
 a139:=Tryz.isAgg330
 z139:=Tryz.sizeOf330
 v139:=Tryz.zeroValue330
 t146:=Tryz.underlying281
 a146:=Tryz.isAgg281
 z146:=Tryz.sizeOf281
 v146:=Tryz.zeroValue281
 g1:=by kernel_rfl
 g3:=by kernel_rfl
 g4:=by kernel_rfl }
open Go.RowKit Go.Lib in
theorem Tryz.strings_Split(s sep:ByteArray)(m:Int)(w:World)(hs:s.size<4294967281)(hm:w.cell? ⟨2,0,none⟩=some (Z m))(h1:1<=sep.size) :
  Calls Tryz.prog 218 #[.string s,.string sep] w fun e w' =>
   e=.returned (.slice (some ⟨w.heap.size,0,none⟩) (Lib.countB s sep+1) (Lib.countB s sep+1))/\w'=w.alloc (.cells ((Lib.splitB sep 0 (Lib.countB s sep) s).map Value.string).toArray 9):=Any.strings_Split Tryz.lays146 (by kernel_rfl) s sep m w hs hm h1
def Tryz.keysA_ren:Go.Shelf.Ren:=⟨fun|7=>97|10=>139|n=>n,fun|23=>129|26=>3|3=>3|28=>168|0=>0|27=>167|33=>207|4=>4|n=>n,fun|n=>n⟩
theorem Tryz.keysA:Go.Proofs.SlLaysZI.n7 Tryz.prog Tryz.keysA_ren:={
 mixed:=by kernel_rfl
 f7:=⟨Tryz.f97.name,by decide,Tryz.func97.trans (congrArg some (by kernel_rfl))⟩
 f10:=⟨Tryz.f139.name,by decide,Tryz.func139.trans (congrArg some (by kernel_rfl))⟩
 t0:=Tryz.underlying0
 a0:=Tryz.isAgg0
 z0:=Tryz.sizeOf0
 v0:=Tryz.zeroValue0
 t4:=Tryz.underlying4
 a4:=Tryz.isAgg4
 z4:=Tryz.sizeOf4
 v4:=Tryz.zeroValue4
 t23:=Tryz.underlying129
 a23:=Tryz.isAgg129
 z23:=Tryz.sizeOf129
 v23:=Tryz.zeroValue129
 t26:=Tryz.underlying3
 a26:=Tryz.isAgg3
 z26:=Tryz.sizeOf3
 v26:=Tryz.zeroValue3
 t27:=Tryz.underlying167
 a27:=Tryz.isAgg167
 z27:=Tryz.sizeOf167
 v27:=Tryz.zeroValue167
 t28:=Tryz.underlying168
 a28:=Tryz.isAgg168
 z28:=Tryz.sizeOf168
 v28:=Tryz.zeroValue168
 t33:=Tryz.underlying207
 a33:=Tryz.isAgg207
 z33:=Tryz.sizeOf207
 v33:=Tryz.zeroValue207 }
def Tryz.sortedA_ren:Go.Shelf.Ren:=⟨fun|6=>96|8=>137|9=>138|11=>175|13=>177|12=>176|23=>205|24=>206|14=>197|15=>198|16=>199|17=>200|18=>201|19=>202|20=>131|21=>203|22=>204|25=>221|26=>222|27=>223|28=>224|29=>225|30=>158|31=>237|n=>n,fun|26=>3|28=>168|24=>106|0=>0|3=>3|37=>205|48=>274|50=>276|4=>4|40=>268|39=>267|45=>160|5=>5|9=>9|51=>296|55=>300|57=>314|58=>109|33=>207|n=>n,fun|n=>n⟩
theorem Tryz.sortedA:Go.Proofs.SlLaysZI.n6 Tryz.prog Tryz.sortedA_ren:={
 mixed:=by kernel_rfl
 f6:=⟨Tryz.f96.name,by decide,Tryz.func96.trans (congrArg some (by kernel_rfl))⟩
 f8:=⟨Tryz.f137.name,by decide,Tryz.func137.trans (congrArg some (by kernel_rfl))⟩
 f11:=⟨Tryz.f175.name,by decide,Tryz.func175.trans (congrArg some (by kernel_rfl))⟩
 t0:=Tryz.underlying0
 a0:=Tryz.isAgg0
 z0:=Tryz.sizeOf0
 v0:=Tryz.zeroValue0
 t24:=Tryz.underlying106
 a24:=Tryz.isAgg106
 z24:=Tryz.sizeOf106
 v24:=Tryz.zeroValue106
 t26:=Tryz.underlying3
 a26:=Tryz.isAgg3
 z26:=Tryz.sizeOf3
 v26:=Tryz.zeroValue3
 t28:=Tryz.underlying168
 a28:=Tryz.isAgg168
 z28:=Tryz.sizeOf168
 v28:=Tryz.zeroValue168
 i26:=by kernel_rfl }
def Tryz.sortA_ren:Go.Shelf.Ren:=⟨fun|5=>138|8=>177|7=>176|19=>205|20=>206|10=>197|11=>198|12=>199|13=>200|14=>201|15=>202|16=>131|17=>203|18=>204|30=>221|31=>222|32=>223|33=>224|34=>225|35=>158|40=>237|n=>n,fun|23=>106|25=>3|3=>3|32=>205|22=>106|0=>0|44=>274|46=>276|4=>4|36=>268|35=>267|41=>160|5=>5|9=>9|53=>296|57=>300|63=>314|64=>109|n=>n,fun|n=>n⟩
theorem Tryz.sortA:Go.Proofs.SlLaysM.n5 Tryz.prog Tryz.sortA_ren:={
 mixed:=by kernel_rfl
 f5:=⟨Tryz.f138.name,by decide,Tryz.func138.trans (congrArg some (by kernel_rfl))⟩
 f7:=⟨Tryz.f176.name,by decide,Tryz.func176.trans (congrArg some (by kernel_rfl))⟩
 f8:=Tryz.func177.trans (congrArg some (by kernel_rfl))
 f10:=⟨Tryz.f197.name,by decide,Tryz.func197.trans (congrArg some (by kernel_rfl))⟩
 f11:=⟨Tryz.f198.name,by decide,Tryz.func198.trans (congrArg some (by kernel_rfl))⟩
 f12:=⟨Tryz.f199.name,by decide,Tryz.func199.trans (congrArg some (by kernel_rfl))⟩
 f13:=⟨Tryz.f200.name,by decide,Tryz.func200.trans (congrArg some (by kernel_rfl))⟩
 f14:=⟨Tryz.f201.name,by decide,Tryz.func201.trans (congrArg some (by kernel_rfl))⟩
 f15:=⟨Tryz.f202.name,by decide,Tryz.func202.trans (congrArg some (by kernel_rfl))⟩
 f16:=⟨Tryz.f131.name,by decide,Tryz.func131.trans (congrArg some (by kernel_rfl))⟩
 f17:=⟨Tryz.f203.name,by decide,Tryz.func203.trans (congrArg some (by kernel_rfl))⟩
 f18:=⟨Tryz.f204.name,by decide,Tryz.func204.trans (congrArg some (by kernel_rfl))⟩
 f19:=Tryz.func205.trans (congrArg some (by kernel_rfl))
 f20:=Tryz.func206.trans (congrArg some (by kernel_rfl))
 f30:=⟨Tryz.f221.name,by decide,Tryz.func221.trans (congrArg some (by kernel_rfl))⟩
 f31:=Tryz.func222.trans (congrArg some (by kernel_rfl))
 f32:=Tryz.func223.trans (congrArg some (by kernel_rfl))
 f33:=⟨Tryz.f224.name,by decide,Tryz.func224.trans (congrArg some (by kernel_rfl))⟩
 f34:=⟨Tryz.f225.name,by decide,Tryz.func225.trans (congrArg some (by kernel_rfl))⟩
 f35:=⟨Tryz.f158.name,by decide,Tryz.func158.trans (congrArg some (by kernel_rfl))⟩
 f40:=⟨Tryz.f237.name,by decide,Tryz.func237.trans (congrArg some (by kernel_rfl))⟩
 t0:=Tryz.underlying0
 a0:=Tryz.isAgg0
 z0:=Tryz.sizeOf0
 v0:=Tryz.zeroValue0
 t3:=Tryz.underlying3
 a3:=Tryz.isAgg3
 z3:=Tryz.sizeOf3
 v3:=Tryz.zeroValue3
 t4:=Tryz.underlying4
 a4:=Tryz.isAgg4
 z4:=Tryz.sizeOf4
 v4:=Tryz.zeroValue4
 t5:=Tryz.underlying5
 a5:=Tryz.isAgg5
 z5:=Tryz.sizeOf5
 v5:=Tryz.zeroValue5
 t9:=Tryz.underlying9
 a9:=Tryz.isAgg9
 z9:=Tryz.sizeOf9
 v9:=Tryz.zeroValue9
 t22:=Tryz.underlying106
 a22:=Tryz.isAgg106
 z22:=Tryz.sizeOf106
 v22:=Tryz.zeroValue106
 t23:=Tryz.underlying106
 a23:=Tryz.isAgg106
 z23:=Tryz.sizeOf106
 v23:=Tryz.zeroValue106
 t25:=Tryz.underlying3
 a25:=Tryz.isAgg3
 z25:=Tryz.sizeOf3
 v25:=Tryz.zeroValue3
 t32:=Tryz.underlying205
 a32:=Tryz.isAgg205
 z32:=Tryz.sizeOf205
 v32:=Tryz.zeroValue205
 t35:=Tryz.underlying267
 a35:=Tryz.isAgg267
 z35:=Tryz.sizeOf267
 v35:=Tryz.zeroValue267
 t36:=Tryz.underlying268
 a36:=Tryz.isAgg268
 z36:=Tryz.sizeOf268
 v36:=Tryz.zeroValue268
 t41:=Tryz.underlying160
 a41:=Tryz.isAgg160
 z41:=Tryz.sizeOf160
 v41:=Tryz.zeroValue160
 t44:=Tryz.underlying274
 a44:=Tryz.isAgg274
 z44:=Tryz.sizeOf274
 v44:=Tryz.zeroValue274
 t46:=Tryz.underlying276
 a46:=Tryz.isAgg276
 z46:=Tryz.sizeOf276
 v46:=Tryz.zeroValue276
 t53:=Tryz.underlying296
 a53:=Tryz.isAgg296
 z53:=Tryz.sizeOf296
 v53:=Tryz.zeroValue296
 t57:=Tryz.underlying300
 a57:=Tryz.isAgg300
 z57:=Tryz.sizeOf300
 v57:=Tryz.zeroValue300
 t63:=Tryz.underlying314
 a63:=Tryz.isAgg314
 z63:=Tryz.sizeOf314
 v63:=Tryz.zeroValue314
 t64:=Tryz.underlying109
 a64:=Tryz.isAgg109
 z64:=Tryz.sizeOf109
 v64:=Tryz.zeroValue109 }
end Go.Proofs
namespace Go.Proofs.YtgkhemnmcgicnaaGreatDoor
open Go.RowKit Go.Maps Go.Sort Go.Shelf
def aJ4(_:Value):Option (DataW Unit×List MemPlace):=some (.lit (.bool true),[])
theorem aAM{k:Int}(h:0<=k/\k<=99):keyOf Tryz.prog 3 (.int .i64 k)=some (.int .i64 k) :=
 keyOf_int_mk Tryz.underlying3 (by
  have h1:IntKind.i64.min=-9223372036854775808:=rfl;have h2:IntKind.i64.max=9223372036854775807:=rfl;simp only[Lit.wf,h1,h2,Bool.and_eq_true,qqy];omega)
theorem C8:∀(n:Nat)(L:List Int),L.Nodup->(∀k∈L,0<=k/\k<(n:Int))->L.length<=n
 |0,L,_,h=>by
  cases L with
  |nil=>exact qa _
  |cons x _=>have:=h x (by simp);omega
 |n+1,L,hd,h=>by
  by_cases hm:(n:Int)∈L
  ·have:=C8 n (L.erase (n:Int)) (hd.erase _) fun k hk=>by
    have h1:=h k (List.mem_of_mem_erase hk);have h2:=(hd.mem_erase_iff.1 hk).1;omega
   rw[List.length_erase_of_mem hm]at this;omega
  ·have:=C8 n L hd fun k hk=>by
    have h1:=h k hk;have h2:k≠n:=by rintro rfl;exact hm hk
    omega
   omega
theorem aAN{L:List Int}(h:L.Nodup)(hL:∀k∈L,0<=k/\k<=99):L.length<=100:=C8 100 L h fun k hk=>by have:=hL k hk;omega
theorem aEX{M:Nat}{es:Array MapEntry}{clk:Nat}{L:List (Int×Int)}{w:World}(hM:w.heap[M]?=some (.map es clk))(h:BU es clk L)(hL:∀p∈L,0<=p.1/\p.1<=99) :
  ∃D:DataW Unit,w.ownsMap Tryz.prog 3 aJ4 M es.size D/\(intKeys D).Perm (L.map (·.1))/\Maps.size D=L.length/\L.length<=100:=by
 have hk:es.toList.map (·.key)=L.map fun p=>.int .i64 p.1:=by
  have:=congrArg (List.map Prod.fst) h.1;rw[List.map_map,List.map_map]at this;exact this
 have hlen:es.size=L.length:=by
  have:=congrArg List.length h.1;simpa using this
 have hnd:(L.map (·.1)).Nodup:=by
  have:=h.2.2.2;rw[hk]at this;have e:(L.map fun p=>Value.int .i64 p.1)=(L.map (·.1)).map (Value.int .i64):=by simp
  rw[e]at this;exact(List.pairwise_map.1 this).imp fun h e=>h (congrArg _ e)
 have h100:=aAN hnd fun k hk=>by
  obtain⟨p,hp,rfl⟩:=List.mem_map.1 hk;exact hL p hp
 rw[qqc]at h100;have hrd:∀x∈es.toList,∃k:Int,x.key=.int .i64 k/\WideElems.rd Tryz.prog 3 aJ4 x=some (.int .i64 k,.lit (.bool true)):=fun x hx=>by
  have:x.key∈L.map fun p=>Value.int .i64 p.1:=by rw[<-hk];exact List.mem_map_of_mem hx
  obtain⟨p,hp,e⟩:=List.mem_map.1 this;refine⟨p.1,e.symm,?_⟩;obtain⟨key,val,born⟩:=x;simp only at e;subst e;exact WideElems.rd_mk (yv:=(.lit (.bool true),[])) (aAM (hL p hp)) rfl
 refine⟨_,⟨es,clk,hM,⟨by unfold maxLen;omega,h.2,fun x hx => ?_⟩,qa _,rfl⟩,?_,?_,h100⟩
 ·obtain⟨k,_,e⟩:=hrd x hx;exact⟨_,e⟩
 ·show(List.map (fun p:Lit×DataW Unit=>_root_.Go.intOf p.1) _).Perm _;refine((WideShapes.sorted_perm _).map _).trans ?_;rw[List.map_map];have:es.toList.map ((fun p=>_root_.Go.intOf p.1) ∘ WideElems.rg Tryz.prog 3 aJ4)=L.map (·.1):=by
   have e2:L.map (·.1)=es.toList.map fun x=>_root_.Go.intOf (match x.key with | .int _ k=>Lit.int .i64 k | _=>.bool true):=by
    have:=congrArg (List.map fun v=>_root_.Go.intOf (match v with | .int _ k=>Lit.int .i64 k | _=>.bool true)) hk;simp only[List.map_map]at this;rw[show es.toList.map (fun x=>_root_.Go.intOf (match x.key with | .int _ k=>Lit.int .i64 k | _=>.bool true))=es.toList.map ((fun v=>_root_.Go.intOf (match v with|Value.int _ k=>Lit.int .i64 k | _=>.bool true)) ∘ fun x=>x.key)from rfl,this];apply List.map_congr_left;intro p _;rfl
   rw[e2];apply List.map_congr_left;intro x hx;obtain⟨k,hkx,e⟩:=hrd x hx;simp only[Function.comp,WideElems.rg_of e,hkx]
  rw[this]
 ·show(List.foldr DataW.insert [] _).length=_;rw[DataW.length_sorted,qqc,Array.length_toList,hlen]
def SS(es:List (Int×Int)):List Int:=(es.map (·.1)).mergeSort fun a b=>decide (a<=b)
theorem aAP(es:List (Int×Int)):(SS es).length=es.length:=by unfold SS;rw[List.length_mergeSort,qqc]
theorem aJ5(m:Nat):AnyZI.SortsIn Tryz.prog Tryz.sortedA_ren Fence.wide m :=
 ⟨fun blk off cap ss W hH hblk hsz=>callsIn_wide.2 (AnyM.slices_Sort_int Tryz.sortA blk off cap ss W hH hblk hsz),
  fun p cap W=>callsIn_wide.2 (AnyM.slices_Sort_int_none Tryz.sortA p cap W)⟩
theorem aAQ(mb:Option Nat)(w:World):Calls Tryz.prog 97 #[.map mb] w fun e w'=>e=.returned (.func (.func 139) #[] #[.pointer (some ⟨w.heap.size,0,none⟩)])/\w'=w.alloc (.cells #[.map mb] 129) :=
 (callsIn_wide (n:=6)).1 (AnyZI.keys_in Tryz.keysA Fence.wide 6 trivial rfl mb w)
theorem SU{Bx M:Nat}{es:Array MapEntry}{clk:Nat}{L:List (Int×Int)}{w:World}(hBx:w.heap[Bx]?=some (.cells #[.map (some M)] 129 (0,0)))(hM:w.heap[M]?=some (.map es clk))(h:BU es clk L)(hL:∀p∈L,0<=p.1/\p.1<=99) :
  Calls Tryz.prog 96 #[.func (.func 139) #[] #[.pointer (some ⟨Bx,0,none⟩)]] w fun e w'=>∃v,e=.returned v/\w'.ownsRow w.heap.size 3 1 v L.length ((SS L).map (Value.int .i64))/\Below w.heap.size w w'/\L.length<=100:=by
 refine(callsIn_wide (n:=6)).1 ?_;obtain⟨D,hown,hp,hsz,h100⟩:=aEX hM h hL;have hseq:SeqGives Fence.wide 3 Tryz.prog 139 #[.pointer (some ⟨Bx,0,none⟩)] encZ (fun ss=>ss.Perm (intKeys D)) (Maps.size D) w :=
  AnyZI.keys_gives (ρ:=Tryz.keysA_ren) { Tryz.keysA with } Fence.wide _ trivial rfl (by omega) Bx M es.size D _ (qe.1 hBx).1 (by rw[Lib.cell_of_heap hBx];rfl) hown
 have cS:=AnyZI.sorted_in Tryz.sortedA Fence.wide 6 trivial trivial trivial trivial rfl (by omega) (aJ5 _) (enters_of Tryz.func138 (by kernel_rfl) rfl) 139 #[.pointer (some ⟨Bx,0,none⟩)] trivial (enters_of Tryz.func139 (by kernel_rfl) rfl) _ _ (by unfold maxLen;omega) (by omega) _ hseq;change CallsIn _ _ Tryz.prog 96 _ _ _ at cS;refine cS.mono ?_;rintro e w' ⟨v,ss,rfl,hS,hrow,hnil,hb⟩;have hperm:=hS.trans hp;have hl:ss.length=L.length:=by have:=hperm.length_eq;simpa using this
 have hm:(ss.mergeSort fun x y=>decide (x<=y))=SS L:=mergeSort_of_perm_i hperm;rw[hm,hl]at hrow;exact⟨v,rfl,hrow,hb,h100⟩
end Go.Proofs.YtgkhemnmcgicnaaGreatDoor
