/- Towards the law ParserBlanks, true for every text and all blanks (no condition): one part of the proof. -/
import Derived.Test.YtgkhemnmcgicnaaGreatDoorG31
import Derived.Test.YtgkhemnmcgicnaaGreatDoorG01
import Derived.Test.YtgkhemnmcgicnaaGreatDoorG21
import Derived.Test.YtgkhemnmcgicnaaGreatDoorG29
import Derived.StillTailTactics
import Derived.MapKept
import Derived.Deep.AppendLies
import Derived.Deep.Cut
namespace Go.Proofs.YtgkhemnmcgicnaaGreatDoor
open Go.RowKit
section
variable{T:List aX}{X E:Nat}{free:Bool}{lv iv:Value}{st st0:aD}{F:EF}{w w0:World}
end
theorem N5(b:Bool)(k:Int)(w:World):(Instr.checkKey b 10000 3 (Z k)).run Tryz.prog w=.ok () w:=by
 show(Instr.checkKey b (9999+1) 3 (Z k)).run Tryz.prog w=.ok () w;unfold Instr.checkKey;simp[qqg Tryz.underlying3,Result.andThen]
theorem aC6(k:Int)(w:World):(Instr.keyThatStays (Z k) (Z k)).run Tryz.prog w=.ok (Z k) w:=by
 unfold Instr.keyThatStays;have:Instr.sameBits 10000 (Z k) (Z k)=true:=by
  show Instr.sameBits (9999+1) _ _=true;unfold Instr.sameBits;simp
 simp[this]
section
variable{T:List aX}{Y M:Nat}{tv:Value}{pos:Nat}{line col e:Int}{free:Bool}{ls ln:Int}{es:Array MapEntry}{clk:Nat}{st:aD}{w:World}
theorem kZ.remap(h:kZ Y M tv T pos line col e free ls ln es clk w)(es':Array MapEntry)(clk':Nat):kZ Y M tv T pos line col e free ls ln es' clk' { w with heap:=w.heap.setIfInBounds M (.map es' clk') }:=by
 have hne:=h.ne;refine⟨?_,?_,fun he=>aB (h.row he) fun k hk => ?_⟩
 ·show(w.heap.setIfInBounds M _)[Y]?=_;rw[Array.getElem?_setIfInBounds_ne (fun e=>hne e.symm)];exact h.blk
 ·show(w.heap.setIfInBounds M _)[M]?=_;rw[Array.getElem?_setIfInBounds_self_of_lt h.ltM]
 ·show(w.heap.setIfInBounds M _)[k]?=_;rw[Array.getElem?_setIfInBounds_ne];rintro rfl;exact kE (h.row he) h.map (by intro cs' fr' hc;cases hc) hk
theorem aC.remap{bs:List Nat}{a w:World}(h:aC bs a w){M:Nat}(hM:M∈bs)(o:Obj):aC bs a { w with heap:=w.heap.setIfInBounds M o } :=
 ⟨h.os,h.tape,h.output,by simpa using h.size,fun k hk hb=>by
  show(w.heap.setIfInBounds M o)[k]?=_;rw[Array.getElem?_setIfInBounds_ne (fun e=>hb (by rw[<-e];exact hM))];exact h.block k hk hb⟩
end
theorem JF{T:List aX}{lo hi:Int}{s:aD}{p:Nat}(h:(bD T lo hi s).2=.ok p):∃q,s=.ok q/\q<p:=by
 unfold bD at h;split at h
 ·exact absurd h (lS T 13 s p)
 ·split at h
  ·exact absurd h (lS T 2 s p)
  ·obtain⟨q,h1,h2⟩:=kQ h;exact⟨q,h1,by omega⟩
theorem BP{T:List aX}{s:aD}{p:Nat}(h:(bG T s).2=.ok p):∃q,s=.ok q/\q<p:=by
 unfold bG at h;simp only at h;obtain⟨q1,h1,l1⟩:=JF h;obtain⟨q2,h2,l2⟩:=N9 h1;obtain⟨q3,h3,l3⟩:=JF h2;obtain⟨q4,h4,l4⟩:=N9 h3;exact⟨q4,h4,by omega⟩
section
variable{T:List aX}{X:Nat}{free:Bool}{lv iv:Value}{st:aD}{w:World}
end
theorem Tryz.sizeEvent:(Tryz.prog.info? 31).map (·.size)=some 13:=by kernel_rfl
def A0:A5:=⟨0,0,0,0,0⟩
def oA:Value:=.slice none 0 0
theorem oD{w:World}{B B':Nat}{e:TypeId}{size:Nat}{v:Value}{n:Nat}{xs:List Value}(h:w.ownsRow B' e size v n xs)(hB:B<=B'):w.ownsRow B e size v n xs:=by
 refine⟨h.1,?_⟩;rcases h.2 with hn |⟨g,cap,cur,rfl,hg,rest⟩
 ·exact .inl hn
 ·exact .inr ⟨g,cap,cur,rfl,qx hB hg,rest⟩
structure kS(B:Nat)(hv gv lv:Value)(hs:List gT)(gs:List eG)(ys:List eY)(w:World):Prop where
 oh:w.ownsRow B 80 5 hv hs.length (bT gT.cells hs)
 og:w.ownsRow B 77 5 gv gs.length (bT eG.cells gs)
 ol:w.ownsRow B 147 2 lv ys.length (bT eY.cells ys)
theorem kS.step{B:Nat}{hv gv lv:Value}{hs:List gT}{gs:List eG}{ys:List eY}{w w':World}(h:kS B hv gv lv hs gs ys w)
  (hb:∀k o (T:TypeId),w.heap[k]?=some (.cells o T (0,0))->T=80\/T=77\/T=147->B<=k->w'.heap[k]?=w.heap[k]?):kS B hv gv lv hs gs ys w':=by
 refine⟨aB h.oh fun k hk => ?_,aB h.og fun k hk => ?_,aB h.ol fun k hk => ?_⟩
 ·obtain⟨c,hc⟩:=bA h.oh hk;exact hb k c _ hc (.inl rfl) (h.oh.lt k hk).1
 ·obtain⟨c,hc⟩:=bA h.og hk;exact hb k c _ hc (.inr (.inl rfl)) (h.og.lt k hk).1
 ·obtain⟨c,hc⟩:=bA h.ol hk;exact hb k c _ hc (.inr (.inr rfl)) (h.ol.lt k hk).1
theorem kS.nil(B:Nat)(w:World):kS B oA oA oA [] [] [] w:=⟨qw _ _ _ _,qw _ _ _ _,qw _ _ _ _⟩
structure NN(bs:List Nat)(R E:Nat)(F:EF)(A:A5)(hs:List gT)(gs:List eG)(ys:List eY)(w0 w:World):Prop where
 hR:w.heap[R]?=some (.cells (evC 0 0 0 0 0 (.slice none 0 0) (.slice none 0 0) ⟨0,0,0,0,0⟩ (.slice none 0 0)) 31 (0,0))
 hE:w.heap[E]?=some (.cells (F.c A) 31 (0,0))
 rows:kS w0.heap.size F.hv F.gv F.lv hs gs ys w
 aw:aC bs w0 w
 bR:w0.heap.size<=R
 ne:R<E
 lo:∀k∈bs,k<w0.heap.size
def EvR(B:Nat)(x:B7)(v:Value)(w:World):Prop:=∃hv gv lv,v=.agg (x.cells hv gv lv)/\kS B hv gv lv x.heads x.graces x.lyr w
section
variable{bs:List Nat}{R E:Nat}{F F':EF}{A A':A5}{hs hs':List gT}{gs gs':List eG}{ys ys':List eY}{w0 w w':World}
theorem NN.away(h:NN bs R E F A hs gs ys w0 w){cs:List Nat}(a:aC cs w w')(hc:∀k∈cs,k∈bs):NN bs R E F A hs gs ys w0 w':=by
 have n:∀k,w0.heap.size<=k->k∉cs:=fun k hk hm=>by have:=h.lo k (hc k hm);omega
 have bR:=h.bR;have ne:=h.ne;exact⟨a.at h.hR (n R bR),a.at h.hE (n E (by omega)),h.rows.step fun k o T ho _ hk=>a.block k (aA ho) (n k hk),h.aw.trans (a.more hc),h.bR,h.ne,h.lo⟩
theorem NN.step(h:NN bs R E F A hs gs ys w0 w)(b:Below w.heap.size w w'):NN bs R E F A hs gs ys w0 w':=h.away (cs:=[]) (aC.of_below b) (fun k hk=>(by cases hk))
theorem NN.other(h:NN bs R E F A hs gs ys w0 w){cs:List Nat}(a:aC cs w w')(hc:∀k∈cs,k=E\/k∈bs)(hE':w'.heap[E]?=some (.cells (F'.c A') 31 (0,0)))(r:kS w0.heap.size F'.hv F'.gv F'.lv hs' gs' ys' w'):NN bs R E F' A' hs' gs' ys' w0 w':=by
 have bR:=h.bR;have ne:=h.ne;have n:∀k,w0.heap.size<=k->k≠E->k∉cs:=fun k hk he hm=>by
  rcases hc k hm with h1|h1
  ·exact he h1
  ·have:=h.lo k h1;omega
 refine⟨a.at h.hR (n R bR (by omega)),hE',r,⟨a.os.trans h.aw.os,a.tape.trans h.aw.tape,a.output.trans h.aw.output,qx h.aw.size a.size,fun k hk hb=>(a.block k (qqa hk h.aw.size) (fun hm => ?_)).trans (h.aw.block k hk hb)⟩,h.bR,h.ne,h.lo⟩;rcases hc k hm with h1|h1
 ·omega
 ·exact hb h1
theorem NN.put(h:NN bs R E F A hs gs ys w0 w)(i:Nat)(u:Value)(hc:(F.c A).setIfInBounds i u=F'.c A')(r:kS w0.heap.size F'.hv F'.gv F'.lv hs' gs' ys' w):NN bs R E F' A' hs' gs' ys' w0 (w.setCell ⟨E,i,none⟩ u) :=
 h.other (cs:=[E]) (aC.setCell (aC.refl _ _) (p:=⟨E,i,none⟩) (.inl (by simp)) u) (fun k hk=>.inl (by simpa using hk)) (by rw[Lib.heap_setCell_same h.hE u,hc])
  (r.step fun k o T ho hT _=>aH w E i u k fun e=>by
   have:=ho.symm.trans (e▸h.hE);injection this with this;injection this with _ h2 _;rcases hT with hT|hT|hT<;>rw[hT]at h2<;>exact absurd h2 (by decide))
theorem NN.cells(h:NN bs R E F A hs gs ys w0 w):w.cell? ⟨E,2,none⟩=some (Z F.kd)/\w.cell? ⟨E,3,none⟩=some (Z F.lg)/\w.cell? ⟨E,4,none⟩=some (Z F.dt)/\w.cell? ⟨E,5,none⟩=some F.hv/\w.cell? ⟨E,6,none⟩=some F.gv/\w.cell? ⟨E,10,none⟩=some F.lv/\∀i,w.frozen? ⟨E,i,none⟩=false:=by
 refine⟨?_,?_,?_,?_,?_,?_,fun i=>Lib.frozen_of_heap h.hE i⟩<;>(rw[Lib.cell_of_heap h.hE];rfl)
end
def zT(w:World)(X:Nat)(v0 v1 v2 v3 v4 v5 v6 v7 v8 v9 v10 v11 v12:Value):World :=
 ((((((((((((w.setCell ⟨X,0,none⟩ v0).setCell ⟨X,1,none⟩ v1).setCell ⟨X,2,none⟩ v2).setCell ⟨X,3,none⟩ v3).setCell ⟨X,4,none⟩ v4).setCell ⟨X,5,none⟩ v5).setCell ⟨X,6,none⟩ v6).setCell ⟨X,7,none⟩ v7).setCell ⟨X,8,none⟩ v8).setCell ⟨X,9,none⟩ v9).setCell ⟨X,10,none⟩ v10).setCell ⟨X,11,none⟩ v11).setCell ⟨X,12,none⟩ v12
section
variable{w:World}{X:Nat}(v0 v1 v2 v3 v4 v5 v6 v7 v8 v9 v10 v11 v12:Value)
theorem RF{T:TypeId}{c0 c1 c2 c3 c4 c5 c6 c7 c8 c9 c10 c11 c12:Value}(h:w.heap[X]?=some (.cells #[c0,c1,c2,c3,c4,c5,c6,c7,c8,c9,c10,c11,c12] T (0,0))) :
  (zT w X v0 v1 v2 v3 v4 v5 v6 v7 v8 v9 v10 v11 v12).heap[X]?=some (.cells #[v0,v1,v2,v3,v4,v5,v6,v7,v8,v9,v10,v11,v12] T (0,0)):=by
 have h0:(w.setCell ⟨X,0,none⟩ v0).heap[X]?=some (.cells #[v0,c1,c2,c3,c4,c5,c6,c7,c8,c9,c10,c11,c12] T (0,0)):=Lib.heap_setCell_same (i:=0) h v0;have h1:((w.setCell ⟨X,0,none⟩ v0).setCell ⟨X,1,none⟩ v1).heap[X]?=some (.cells #[v0,v1,c2,c3,c4,c5,c6,c7,c8,c9,c10,c11,c12] T (0,0)):=Lib.heap_setCell_same (i:=1) h0 v1;have h2:(((w.setCell ⟨X,0,none⟩ v0).setCell ⟨X,1,none⟩ v1).setCell ⟨X,2,none⟩ v2).heap[X]?=some (.cells #[v0,v1,v2,c3,c4,c5,c6,c7,c8,c9,c10,c11,c12] T (0,0)):=Lib.heap_setCell_same (i:=2) h1 v2;have h3:((((w.setCell ⟨X,0,none⟩ v0).setCell ⟨X,1,none⟩ v1).setCell ⟨X,2,none⟩ v2).setCell ⟨X,3,none⟩ v3).heap[X]?=some (.cells #[v0,v1,v2,v3,c4,c5,c6,c7,c8,c9,c10,c11,c12] T (0,0)):=Lib.heap_setCell_same (i:=3) h2 v3;have h4:(((((w.setCell ⟨X,0,none⟩ v0).setCell ⟨X,1,none⟩ v1).setCell ⟨X,2,none⟩ v2).setCell ⟨X,3,none⟩ v3).setCell ⟨X,4,none⟩ v4).heap[X]?=some (.cells #[v0,v1,v2,v3,v4,c5,c6,c7,c8,c9,c10,c11,c12] T (0,0)):=Lib.heap_setCell_same (i:=4) h3 v4;have h5:((((((w.setCell ⟨X,0,none⟩ v0).setCell ⟨X,1,none⟩ v1).setCell ⟨X,2,none⟩ v2).setCell ⟨X,3,none⟩ v3).setCell ⟨X,4,none⟩ v4).setCell ⟨X,5,none⟩ v5).heap[X]?=some (.cells #[v0,v1,v2,v3,v4,v5,c6,c7,c8,c9,c10,c11,c12] T (0,0)):=Lib.heap_setCell_same (i:=5) h4 v5;have h6:(((((((w.setCell ⟨X,0,none⟩ v0).setCell ⟨X,1,none⟩ v1).setCell ⟨X,2,none⟩ v2).setCell ⟨X,3,none⟩ v3).setCell ⟨X,4,none⟩ v4).setCell ⟨X,5,none⟩ v5).setCell ⟨X,6,none⟩ v6).heap[X]?=some (.cells #[v0,v1,v2,v3,v4,v5,v6,c7,c8,c9,c10,c11,c12] T (0,0)):=Lib.heap_setCell_same (i:=6) h5 v6;have h7:((((((((w.setCell ⟨X,0,none⟩ v0).setCell ⟨X,1,none⟩ v1).setCell ⟨X,2,none⟩ v2).setCell ⟨X,3,none⟩ v3).setCell ⟨X,4,none⟩ v4).setCell ⟨X,5,none⟩ v5).setCell ⟨X,6,none⟩ v6).setCell ⟨X,7,none⟩ v7).heap[X]?=some (.cells #[v0,v1,v2,v3,v4,v5,v6,v7,c8,c9,c10,c11,c12] T (0,0)):=Lib.heap_setCell_same (i:=7) h6 v7;have h8:(((((((((w.setCell ⟨X,0,none⟩ v0).setCell ⟨X,1,none⟩ v1).setCell ⟨X,2,none⟩ v2).setCell ⟨X,3,none⟩ v3).setCell ⟨X,4,none⟩ v4).setCell ⟨X,5,none⟩ v5).setCell ⟨X,6,none⟩ v6).setCell ⟨X,7,none⟩ v7).setCell ⟨X,8,none⟩ v8).heap[X]?=some (.cells #[v0,v1,v2,v3,v4,v5,v6,v7,v8,c9,c10,c11,c12] T (0,0)):=Lib.heap_setCell_same (i:=8) h7 v8;have h9:((((((((((w.setCell ⟨X,0,none⟩ v0).setCell ⟨X,1,none⟩ v1).setCell ⟨X,2,none⟩ v2).setCell ⟨X,3,none⟩ v3).setCell ⟨X,4,none⟩ v4).setCell ⟨X,5,none⟩ v5).setCell ⟨X,6,none⟩ v6).setCell ⟨X,7,none⟩ v7).setCell ⟨X,8,none⟩ v8).setCell ⟨X,9,none⟩ v9).heap[X]?=some (.cells #[v0,v1,v2,v3,v4,v5,v6,v7,v8,v9,c10,c11,c12] T (0,0)):=Lib.heap_setCell_same (i:=9) h8 v9;have h10:(((((((((((w.setCell ⟨X,0,none⟩ v0).setCell ⟨X,1,none⟩ v1).setCell ⟨X,2,none⟩ v2).setCell ⟨X,3,none⟩ v3).setCell ⟨X,4,none⟩ v4).setCell ⟨X,5,none⟩ v5).setCell ⟨X,6,none⟩ v6).setCell ⟨X,7,none⟩ v7).setCell ⟨X,8,none⟩ v8).setCell ⟨X,9,none⟩ v9).setCell ⟨X,10,none⟩ v10).heap[X]?=some (.cells #[v0,v1,v2,v3,v4,v5,v6,v7,v8,v9,v10,c11,c12] T (0,0)):=Lib.heap_setCell_same (i:=10) h9 v10;have h11:((((((((((((w.setCell ⟨X,0,none⟩ v0).setCell ⟨X,1,none⟩ v1).setCell ⟨X,2,none⟩ v2).setCell ⟨X,3,none⟩ v3).setCell ⟨X,4,none⟩ v4).setCell ⟨X,5,none⟩ v5).setCell ⟨X,6,none⟩ v6).setCell ⟨X,7,none⟩ v7).setCell ⟨X,8,none⟩ v8).setCell ⟨X,9,none⟩ v9).setCell ⟨X,10,none⟩ v10).setCell ⟨X,11,none⟩ v11).heap[X]?=some (.cells #[v0,v1,v2,v3,v4,v5,v6,v7,v8,v9,v10,v11,c12] T (0,0)):=Lib.heap_setCell_same (i:=11) h10 v11;have h12:(((((((((((((w.setCell ⟨X,0,none⟩ v0).setCell ⟨X,1,none⟩ v1).setCell ⟨X,2,none⟩ v2).setCell ⟨X,3,none⟩ v3).setCell ⟨X,4,none⟩ v4).setCell ⟨X,5,none⟩ v5).setCell ⟨X,6,none⟩ v6).setCell ⟨X,7,none⟩ v7).setCell ⟨X,8,none⟩ v8).setCell ⟨X,9,none⟩ v9).setCell ⟨X,10,none⟩ v10).setCell ⟨X,11,none⟩ v11).setCell ⟨X,12,none⟩ v12).heap[X]?=some (.cells #[v0,v1,v2,v3,v4,v5,v6,v7,v8,v9,v10,v11,v12] T (0,0)):=Lib.heap_setCell_same (i:=12) h11 v12;exact h12
theorem NP(k:Nat)(hk:k≠X):(zT w X v0 v1 v2 v3 v4 v5 v6 v7 v8 v9 v10 v11 v12).heap[k]?=w.heap[k]?:=by
 have s:∀(u:World)(i:Nat)(v:Value),(u.setCell ⟨X,i,none⟩ v).heap[k]?=u.heap[k]?:=fun u i v=>qh u ⟨X,i,none⟩ v k hk;unfold zT;simp only[s]
theorem RG{bs:List Nat}{a:World}(h:aC bs a w)(hX:a.heap.size<=X):aC bs a (zT w X v0 v1 v2 v3 v4 v5 v6 v7 v8 v9 v10 v11 v12):=by
 have s:∀{u:World},aC bs a u->∀(i:Nat)(v:Value),aC bs a (u.setCell ⟨X,i,none⟩ v):=fun hu i v=>hu.setCell (p:=⟨X,i,none⟩) (.inr hX) v;exact s (s (s (s (s (s (s (s (s (s (s (s (s h 0 v0) 1 v1) 2 v2) 3 v3) 4 v4) 5 v5) 6 v6) 7 v7) 8 v8) 9 v9) 10 v10) 11 v11) 12 v12
end
theorem aG0{w:World}{b:Nat}{T:TypeId}{c0 c1 c2 c3 c4 c5 c6 c7 c8 c9 c10 c11 c12:Value}(h:w.heap[b]?=some (.cells #[c0,c1,c2,c3,c4,c5,c6,c7,c8,c9,c10,c11,c12] T (0,0))) :
  w.cell? ⟨b,0,none⟩=some c0/\w.cell? ⟨b,1,none⟩=some c1/\w.cell? ⟨b,2,none⟩=some c2/\w.cell? ⟨b,3,none⟩=some c3/\w.cell? ⟨b,4,none⟩=some c4/\w.cell? ⟨b,5,none⟩=some c5/\w.cell? ⟨b,6,none⟩=some c6/\w.cell? ⟨b,7,none⟩=some c7/\w.cell? ⟨b,8,none⟩=some c8/\w.cell? ⟨b,9,none⟩=some c9/\w.cell? ⟨b,10,none⟩=some c10/\w.cell? ⟨b,11,none⟩=some c11/\w.cell? ⟨b,12,none⟩=some c12 /\
  w.frozen? ⟨b,0,none⟩=false/\w.frozen? ⟨b,1,none⟩=false/\w.frozen? ⟨b,2,none⟩=false/\w.frozen? ⟨b,3,none⟩=false/\w.frozen? ⟨b,4,none⟩=false/\w.frozen? ⟨b,5,none⟩=false/\w.frozen? ⟨b,6,none⟩=false/\w.frozen? ⟨b,7,none⟩=false/\w.frozen? ⟨b,8,none⟩=false/\w.frozen? ⟨b,9,none⟩=false/\w.frozen? ⟨b,10,none⟩=false/\w.frozen? ⟨b,11,none⟩=false/\w.frozen? ⟨b,12,none⟩=false:=by
 refine⟨?_,?_,?_,?_,?_,?_,?_,?_,?_,?_,?_,?_,?_,Lib.frozen_of_heap h 0,Lib.frozen_of_heap h 1,Lib.frozen_of_heap h 2,Lib.frozen_of_heap h 3,Lib.frozen_of_heap h 4,Lib.frozen_of_heap h 5,Lib.frozen_of_heap h 6,Lib.frozen_of_heap h 7,Lib.frozen_of_heap h 8,Lib.frozen_of_heap h 9,Lib.frozen_of_heap h 10,Lib.frozen_of_heap h 11,Lib.frozen_of_heap h 12⟩<;>(rw[Lib.cell_of_heap h];rfl)
section
variable{O:yB}{T:List aX}{q:Int}
theorem CU{T:List aX}{x:ByteArray}{s:aD}(h:isS T x s=false):aY T x s=s:=by unfold aY;rw[h];rfl
theorem yA{T:List aX}{x:ByteArray}{s:aD}(h:isS T x s=true):s.next 1=aY T x s:=by unfold aY;rw[h];rfl
theorem NQ(s:aD):(isS T ⟨#[103,114,97,99,101]⟩ s=true/\nT O T q s=tA T (dE O T q) ⟨#[41]⟩ (bY T ⟨#[40]⟩ (aY T ⟨#[103,114,97,99,101]⟩ s)))\/(isS T ⟨#[103,114,97,99,101]⟩ s=false/\aY T ⟨#[103,114,97,99,101]⟩ s=s/\nT O T q s=([],s)):=by
 cases h:isS T ⟨#[103,114,97,99,101]⟩ s with
 |true=>exact .inl ⟨rfl,by unfold nT;rw[if_pos h,yA h]⟩
 |false=>exact .inr ⟨rfl,CU h,by unfold nT;rw[if_neg (by rw[h];decide)]⟩
theorem UB(s:aD) :
  (isS T ⟨#[82]⟩ s=true/\tP O T s=((3,[]),aY T ⟨#[82]⟩ s))
  \/ (isS T ⟨#[82]⟩ s=false/\aY T ⟨#[82]⟩ s=s/\((isS T ⟨#[114]⟩ s=true/\tP O T s=((2,[]),aY T ⟨#[114]⟩ s))
  \/ (isS T ⟨#[114]⟩ s=false/\aY T ⟨#[114]⟩ s=s/\((isS T ⟨#[115]⟩ s=true/\tP O T s=((4,[]),aY T ⟨#[115]⟩ s))
  \/ (isS T ⟨#[115]⟩ s=false/\aY T ⟨#[115]⟩ s=s/\((isS T ⟨#[60]⟩ s=true/\tP O T s=((1,(tA T (dQ O T) ⟨#[62]⟩ (aY T ⟨#[60]⟩ s)).1),(tA T (dQ O T) ⟨#[62]⟩ (aY T ⟨#[60]⟩ s)).2))
  \/ (isS T ⟨#[60]⟩ s=false/\aY T ⟨#[60]⟩ s=s/\tP O T s=((1,[(dQ O T s).1]),(dQ O T s).2)))))))):=by
 unfold tP;cases h1:isS T ⟨#[82]⟩ s with
 |true=>exact .inl ⟨rfl,by rw[if_pos rfl,yA h1]⟩
 |false =>
  refine .inr ⟨rfl,CU h1,?_⟩;rw[if_neg (by decide)];cases h2:isS T ⟨#[114]⟩ s with
  |true=>exact .inl ⟨rfl,by rw[if_pos rfl,yA h2]⟩
  |false =>
   refine .inr ⟨rfl,CU h2,?_⟩;rw[if_neg (by decide)];cases h3:isS T ⟨#[115]⟩ s with
   |true=>exact .inl ⟨rfl,by rw[if_pos rfl,yA h3]⟩
   |false =>
    refine .inr ⟨rfl,CU h3,?_⟩;rw[if_neg (by decide)];cases h4:isS T ⟨#[60]⟩ s with
    |true=>exact .inl ⟨rfl,by rw[if_pos rfl,yA h4]⟩
    |false=>exact .inr ⟨rfl,CU h4,by rw[if_neg (by decide)]⟩
theorem Y1(kd:Int)(s:aD):(kd=3/\KT O T kd s=((0,0),s))\/(kd≠3/\KT O T kd s=mQ O T (bY T ⟨#[58]⟩ s)):=by
 unfold KT;split
 ·rename_i h;exact .inl ⟨h,rfl⟩
 ·rename_i h;exact .inr ⟨h,rfl⟩
theorem RH(s:aD):(isS T ⟨#[91]⟩ s=true/\rF T s=BN T (aY T ⟨#[91]⟩ s))\/(isS T ⟨#[91]⟩ s=false/\aY T ⟨#[91]⟩ s=s/\rF T s=(⟨0,0,0,0,0⟩,s)):=by
 cases h:isS T ⟨#[91]⟩ s with
 |true=>exact .inl ⟨rfl,by unfold rF;rw[if_pos h,yA h]⟩
 |false=>exact .inr ⟨rfl,CU h,by unfold rF;rw[if_neg (by rw[h];decide)]⟩
def sW(O:yB)(T:List aX)(q:Int)(o:(Int×Int)×aD):B7×aD :=
 let g:=nT O T q o.2
 let b:=tP O T g.2
 let v:=KT O T b.1.1 b.2
 let a:=rF T v.2
 let y:=qD T T.length a.2
 (⟨o.1.1,o.1.2,b.1.1,v.1.1,v.1.2,b.1.2,g.1,a.1.ar,a.1.orn,a.1.dy,y.1,a.1.st,a.1.be⟩,y.2)
theorem UC(o:(Int×Int)×aD):∃(g:List eG×aD)(b:(Int×List gT)×aD)(v:(Int×Int)×aD)(a:A5×aD)(y:List eY×aD),
  g=nT O T q o.2/\b=tP O T g.2/\v=KT O T b.1.1 b.2/\a=rF T v.2/\y=qD T T.length a.2 /\
  sW O T q o=(⟨o.1.1,o.1.2,b.1.1,v.1.1,v.1.2,b.1.2,g.1,a.1.ar,a.1.orn,a.1.dy,y.1,a.1.st,a.1.be⟩,y.2):=⟨_,_,_,_,_,rfl,rfl,rfl,rfl,rfl,rfl⟩
end
end Go.Proofs.YtgkhemnmcgicnaaGreatDoor
