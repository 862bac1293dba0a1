/- Towards the law ParserBlanks, true for every text and all blanks (no condition): one part of the proof. -/
import Derived.Test.YtgkhemnmcgicnaaGreatDoorG01
import Derived.Test.YtgkhemnmcgicnaaGreatDoorG21
namespace Go.Proofs.YtgkhemnmcgicnaaGreatDoor
open Go.RowKit
theorem L3{α:Type}(p:α->Bool):∀(l:List α),(∃x∈l,p x=false)->∃x,l[(l.takeWhile p).length]?=some x/\p x=false
 | [],h=>by obtain⟨x,hx,_⟩:=h;cases hx
 |a::r,h=>by
  cases hp:p a with
  |false=>exact⟨a,by simp[hp],hp⟩
  |true =>
   obtain⟨x,hx,hf⟩:=h;have hxr:x∈r:=by
    rcases qqt.1 hx with rfl|hx
    ·rw[hp]at hf;cases hf
    ·exact hx
   obtain⟨y,hy,hyf⟩:=L3 p r ⟨x,hxr,hf⟩;refine⟨y,?_,hyf⟩;rw[List.takeWhile_cons,hp];simpa using hy
theorem SJ{α:Type}(p:α->Bool):∀(l:List α)(i:Nat)(x:α),(l.takeWhile p)[i]?=some x->l[i]?=some x/\p x=true
 | [],i,x,h=>by simp at h
 |a::r,i,x,h=>by
  rw[List.takeWhile_cons]at h;cases hp:p a with
  |false=>rw[hp]at h;simp at h
  |true =>
   rw[hp]at h;cases i with
   |zero =>
    have:a=x:=by simpa using h
    subst this;exact⟨rfl,hp⟩
   |succ i=>simpa using SJ p r i x (by simpa using h)
theorem JT{T:List aX}(g:kU T)(nu:Bool)(sy:List ByteArray){p:Nat}(hp:p+1<T.length) :
  (∀(i:Nat)(x:aX),(kN T nu sy (.ok p))[i]?=some x->T[p+1+i]?=some x/\Joins nu sy x=true) /\
  ∃tn,T[p+1+(kN T nu sy (.ok p)).length]?=some tn/\Joins nu sy tn=false:=by
 unfold kN;refine⟨fun i x h => ?_,?_⟩
 ·obtain⟨h1,h2⟩:=SJ _ _ i x h;rw[List.getElem?_drop]at h1;exact⟨h1,h2⟩
 ·have hl:=g.last.1;have hlast:(T.drop (p+1)).getD (T.length-1-(p+1)) cH=T.getD (T.length-1) cH:=by
   rw[qqf,qqf,List.getElem?_drop,show p+1+(T.length-1-(p+1))=T.length-1 by omega]
  obtain⟨x,h1,h2⟩:=L3 (Joins nu sy) (T.drop (p+1)) ⟨T.getD (T.length-1) cH,by
   rw[<-hlast,qqf,qr (by rw[qqw];omega)];exact List.getElem_mem _,by unfold Joins;rw[hl];simp⟩
  rw[List.getElem?_drop]at h1;exact⟨x,h1,h2⟩
theorem BY{T:List aX}(g:kU T)(nu:Bool)(sy:List ByteArray){p:Nat}(hp:p+1<T.length):p+1+(kN T nu sy (.ok p)).length<T.length:=by
 obtain⟨_,tn,h,_⟩:=JT g nu sy hp;exact(qy.1 h).1
theorem X3{T:List aX}(g:kU T)(i:Nat)(hi:i<T.length):(T.getD i cH).text.size<=4000:=by
 rcases Nat.lt_or_ge (i+1) T.length with h|h
 ·exact(g.ok i h).sz
 ·rw[show i=T.length-1 by omega];exact g.last.2
theorem L4:∀(l:List aX)(s:ByteArray),(∀x∈l,x.text.size<=4000)->(wW l s).size<=s.size+4000*l.length
 | [],s,_=>by simp[wW]
 |t::r,s,h=>by
  have h1:=L4 r (s++t.text) fun x hx=>h x (qqz _ hx);have h2:=h t List.mem_cons_self;rw[wW,qk];rw[ByteArray.size_append]at h1;omega
theorem SK{T:List aX}(g:kU T)(nu:Bool)(sy:List ByteArray){p:Nat}(hp:p+1<T.length)(k:Nat):(wW ((kN T nu sy (.ok p)).take k) (T.getD p cH).text).size<=20000000:=by
 have hl:=BY g nu sy hp;have hm:=g.max;have hs:=(JT g nu sy hp).1;have h1:=L4 ((kN T nu sy (.ok p)).take k) (T.getD p cH).text fun x hx=>by
  obtain⟨i,hi,rfl⟩:=List.mem_iff_getElem.1 (List.mem_of_mem_take hx);have h2:=(hs i _ (qr hi)).1;have h3:=(qy.1 h2).1;have h4:=X3 g _ h3;rw[qqf,h2]at h4;exact h4
 have h2:=X3 g p (by omega);have h3:((kN T nu sy (.ok p)).take k).length<=(kN T nu sy (.ok p)).length:=by rw[List.length_take];omega
 omega
section
variable{T:List aX}{Y M K:Nat}{free:Fr}{w:World}
theorem AC{p:Nat}(h:PS T Y M free (.ok p) w)(hp:p+1<T.length)(nu:Bool)(sy:List ByteArray)(hsy:sy.length<=8)(hK:gF K sy w) :
  Calls Tryz.prog 144 #[.pointer (some ⟨Y,0,none⟩),.bool nu,.slice (some ⟨K,0,none⟩) sy.length sy.length] w fun r w'=>r=.returned (.tuple #[.string (pE T nu sy (.ok p)),Z (((kN T nu sy (.ok p)).length:Int)+1)])/\Below w.heap.size w w':=by
 obtain⟨g,tv,pos,line,col,e,ls,ln,es,clk,h1,h2,h3⟩:=h;obtain⟨rfl,rfl,rfl,rfl,hlt⟩:=h3;have hm:=g.max;have hl:=BY g nu sy hp;obtain⟨hs,tn,htn,hno⟩:=JT g nu sy hp;exact J7 h1 (getD_some hlt) (by omega) nu sy hsy hK (kN T nu sy (.ok p)) hs (by omega) htn hno (SK g nu sy hp)
end
section
variable{T:List aX}{X:Nat}{free:Bool}{lv iv:Value}{w:World}
end
end Go.Proofs.YtgkhemnmcgicnaaGreatDoor
