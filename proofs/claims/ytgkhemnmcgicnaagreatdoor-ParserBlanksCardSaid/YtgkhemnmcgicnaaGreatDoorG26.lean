/- Towards the law ParserBlanks, true for every text and all blanks (no condition): one part of the proof. -/
import Derived.Test.YtgkhemnmcgicnaaGreatDoorG01
import Derived.Test.YtgkhemnmcgicnaaGreatDoorG25
import Derived.Test.YtgkhemnmcgicnaaGreatDoorG23
namespace Go.Proofs.YtgkhemnmcgicnaaGreatDoor
open Go.RowKit
theorem pG(w:World)(X:Nat)(a b c:Value)(k:Nat)(hk:k≠X):(m7 w X a b c).heap[k]?=w.heap[k]?:=by
 unfold m7;rw[qh _ ⟨X,2,none⟩ _ k hk,qh _ ⟨X,1,none⟩ _ k hk,qh _ ⟨X,0,none⟩ _ k hk]
theorem rG{bs:List Nat}{a w:World}{X:Nat}(h:aC bs a w)(hX:a.heap.size<=X)(u v z:Value):aC bs a (m7 w X u v z) :=
 ((h.setCell (p:=⟨X,0,none⟩) (.inr hX) u).setCell (p:=⟨X,1,none⟩) (.inr hX) v).setCell (p:=⟨X,2,none⟩) (.inr hX) z
theorem aCD{T:List aX}{st:aD}(h:fV T st=true):∃p,st=.ok p:=by
 cases st with
 |ok p=>exact⟨p,rfl⟩
 |bad e l c=>cases h
theorem aCE{T:List aX}(g:kU T){p:Nat}(hp:p<T.length)(h:fV T (.ok p)=true):p+1<T.length:=by
 refine g.more hp ?_;rw[RJ]at h;unfold NR at h;simp only[Bool.and_eq_true,qqy]at h;rw[show(T.getD p cH).kind=1 from h.1];decide
theorem C0{T:List aX}(g:kU T)(nu:Bool)(sy:List ByteArray){p:Nat}(hp:p+1<T.length):(pE T nu sy (.ok p)).size<=281474976710656:=by
 have h:=SK g nu sy hp (kN T nu sy (.ok p)).length;rw[List.take_length]at h;exact qx h (by decide)
section
variable{W0:World}{T:List aX}{X:Nat}{free:Bool}{lv iv:Value}{st:aD}{w:World}
end
theorem Tryz.sizeVal:(Tryz.prog.info? 26).map (·.size)=some 2:=by kernel_rfl
theorem aCR{T:List aX}{st:aD}(h:rE T st=true):∃p,st=.ok p:=by
 cases st with
 |ok p=>exact⟨p,rfl⟩
 |bad e l c=>cases h
theorem R0{T:List aX}{st:aD}(h:rE T st=true):(aZ T st).kind=2\/((aZ T st).kind≠2/\isS T ⟨#[98]⟩ st=true):=by
 unfold rE at h;simp only[Bool.or_eq_true,qqy]at h;by_cases hk:(aZ T st).kind=2
 ·exact .inl hk
 ·rcases h with h|h
  ·exact absurd h hk
  ·exact .inr ⟨hk,h⟩
theorem aCS{T:List aX}(g:kU T){p:Nat}(hp:p<T.length)(h:rE T (.ok p)=true):p+1<T.length:=by
 refine g.more hp ?_;rcases R0 h with h |⟨_,h⟩
 ·rw[show(T.getD p cH).kind=2 from h];decide
 ·rcases JR h with h|h<;>rw[show(T.getD p cH).kind=_ from h]<;>decide
section
variable{W0:World}{T:List aX}{X:Nat}{free:Bool}{lv iv:Value}{st:aD}{w:World}
end
theorem cQ{w:World}{X:Nat}{c0 c1 c2 c3 c4:Value}{T:TypeId}(h:w.heap[X]?=some (.cells #[c0,c1,c2,c3,c4] T (0,0))) :
  (w.cell? ⟨X,0,none⟩=some c0/\w.cell? ⟨X,1,none⟩=some c1/\w.cell? ⟨X,2,none⟩=some c2/\w.cell? ⟨X,3,none⟩=some c3/\w.cell? ⟨X,4,none⟩=some c4) /\
  (w.frozen? ⟨X,0,none⟩=false/\w.frozen? ⟨X,1,none⟩=false/\w.frozen? ⟨X,2,none⟩=false/\w.frozen? ⟨X,3,none⟩=false/\w.frozen? ⟨X,4,none⟩=false):=by
 refine⟨⟨?_,?_,?_,?_,?_⟩,Lib.frozen_of_heap h 0,Lib.frozen_of_heap h 1,Lib.frozen_of_heap h 2,Lib.frozen_of_heap h 3,Lib.frozen_of_heap h 4⟩<;>(rw[Lib.cell_of_heap h];rfl)
def kC(w:World)(X:Nat)(v0 v1 v2 v3 v4:Value):World :=
 ((((w.setCell ⟨X,0,none⟩ v0).setCell ⟨X,1,none⟩ v1).setCell ⟨X,2,none⟩ v2).setCell ⟨X,3,none⟩ v3).setCell ⟨X,4,none⟩ v4
theorem cZ(w:World)(X:Nat)(v0 v1 v2 v3 v4:Value)(k:Nat)(hk:k≠X):(kC w X v0 v1 v2 v3 v4).heap[k]?=w.heap[k]?:=by
 unfold kC;rw[qh _ ⟨X,4,none⟩ _ k hk,qh _ ⟨X,3,none⟩ _ k hk,qh _ ⟨X,2,none⟩ _ k hk,qh _ ⟨X,1,none⟩ _ k hk,qh _ ⟨X,0,none⟩ _ k hk]
theorem fP{w:World}{X:Nat}{c0 c1 c2 c3 c4:Value}{T:TypeId}(v0 v1 v2 v3 v4:Value)(h:w.heap[X]?=some (.cells #[c0,c1,c2,c3,c4] T (0,0))):(kC w X v0 v1 v2 v3 v4).heap[X]?=some (.cells #[v0,v1,v2,v3,v4] T (0,0)):=by
 unfold kC;have:=Lib.heap_setCell_same (i:=4) (Lib.heap_setCell_same (i:=3) (Lib.heap_setCell_same (i:=2) (Lib.heap_setCell_same (i:=1) (Lib.heap_setCell_same (i:=0) h v0) v1) v2) v3) v4;rw[this];rfl
theorem fQ{bs:List Nat}{a w:World}{X:Nat}(h:aC bs a w)(hX:a.heap.size<=X)(v0 v1 v2 v3 v4:Value):aC bs a (kC w X v0 v1 v2 v3 v4) :=
 ((((h.setCell (p:=⟨X,0,none⟩) (.inr hX) v0).setCell (p:=⟨X,1,none⟩) (.inr hX) v1).setCell (p:=⟨X,2,none⟩) (.inr hX) v2).setCell (p:=⟨X,3,none⟩) (.inr hX) v3).setCell (p:=⟨X,4,none⟩) (.inr hX) v4
theorem aH(w:World)(R i:Nat)(v:Value):∀j,j≠R->(w.setCell ⟨R,i,none⟩ v).heap[j]?=w.heap[j]?:=fun _j hj=>qh _ _ _ _ hj
theorem BG(w:World)(R i:Nat)(v:Value):w.heap.size<=(w.setCell ⟨R,i,none⟩ v).heap.size:=by simp[World.setCell]
def UD(h:gT):Value:=.agg #[Z h.p.st,Z h.p.al,Z h.p.oc,.bool h.tied,Z h.sh]
theorem Tryz.sizeHead:(Tryz.prog.info? 80).map (·.size)=some 5:=by kernel_rfl
def dU:Obj:=.cells #[Z 0,Z 0,Z 0,.bool false,Z 0] 80
section
variable{W0:World}{T:List aX}{X:Nat}{free:Bool}{lv iv:Value}{st:aD}{w:World}
end
def ZC(g:eG):Value:=.agg #[Z g.p.st,Z g.p.al,Z g.p.oc,Z g.lg,.bool g.sl]
theorem Tryz.sizeGrace:(Tryz.prog.info? 77).map (·.size)=some 5:=by kernel_rfl
section
variable{W0:World}{T:List aX}{X:Nat}{free:Bool}{lv iv:Value}{st:aD}{w:World}
theorem aH8{s:aD}(h:(aZ T s).kind=2):∃p,s=.ok p:=by
 cases s with
 |ok p=>exact⟨p,rfl⟩
 |bad e l c=>exact absurd h (by simp[aZ,cH])
end
end Go.Proofs.YtgkhemnmcgicnaaGreatDoor
