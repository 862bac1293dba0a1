/- Towards the law ParserBlanks, true for every text and all blanks (no condition): one part of the proof. -/
import Derived.Test.YtgkhemnmcgicnaaGreatDoorG01
import Derived.Test.YtgkhemnmcgicnaaGreatDoorG35
import Derived.Test.YtgkhemnmcgicnaaGreatDoorG32
import Derived.Deep.Cut
import Derived.Deep.CutBlock
import Derived.Test.YtgkhemnmcgicnaaGreatDoorG33
namespace Go.Proofs.YtgkhemnmcgicnaaGreatDoor
open Go.RowKit
def aE3:Obj:=.cells #[Z 0,Z 0,Z 0,Z 0] 100
def MA(w:World)(X:Nat)(a b c d:Value):World:=(((w.setCell ⟨X,0,none⟩ a).setCell ⟨X,1,none⟩ b).setCell ⟨X,2,none⟩ c).setCell ⟨X,3,none⟩ d
section
variable{w:World}{X:Nat}(a b c d:Value)
theorem WJ{T:TypeId}{c0 c1 c2 c3:Value}(h:w.heap[X]?=some (.cells #[c0,c1,c2,c3] T (0,0))):(MA w X a b c d).heap[X]?=some (.cells #[a,b,c,d] T (0,0)):=by
 have h0:(w.setCell ⟨X,0,none⟩ a).heap[X]?=some (.cells #[a,c1,c2,c3] T (0,0)):=Lib.heap_setCell_same (i:=0) h a;have h1:((w.setCell ⟨X,0,none⟩ a).setCell ⟨X,1,none⟩ b).heap[X]?=some (.cells #[a,b,c2,c3] T (0,0)):=Lib.heap_setCell_same (i:=1) h0 b;have h2:(((w.setCell ⟨X,0,none⟩ a).setCell ⟨X,1,none⟩ b).setCell ⟨X,2,none⟩ c).heap[X]?=some (.cells #[a,b,c,c3] T (0,0)):=Lib.heap_setCell_same (i:=2) h1 c;exact Lib.heap_setCell_same (i:=3) h2 d
theorem ET(k:Nat)(hk:k≠X):(MA w X a b c d).heap[k]?=w.heap[k]?:=by
 have s:∀(u:World)(i:Nat)(v:Value),(u.setCell ⟨X,i,none⟩ v).heap[k]?=u.heap[k]?:=fun u i v=>qh u ⟨X,i,none⟩ v k hk;unfold MA;simp only[s]
theorem WK{bs:List Nat}{a0:World}(h:aC bs a0 w)(hX:a0.heap.size<=X):aC bs a0 (MA w X a b c d):=by
 have s:∀{u:World},aC bs a0 u->∀(i:Nat)(v:Value),aC bs a0 (u.setCell ⟨X,i,none⟩ v):=fun hu i v=>hu.setCell (p:=⟨X,i,none⟩) (.inr hX) v;exact s (s (s (s h 0 a) 1 b) 2 c) 3 d
end
theorem uR{w:World}{b:Nat}{T:TypeId}{c0 c1 c2 c3:Value}(h:w.heap[b]?=some (.cells #[c0,c1,c2,c3] T (0,0))) :
  (w.cell? ⟨b,0,none⟩=some c0/\w.cell? ⟨b,1,none⟩=some c1/\w.cell? ⟨b,2,none⟩=some c2/\w.cell? ⟨b,3,none⟩=some c3) /\
  w.frozen? ⟨b,0,none⟩=false/\w.frozen? ⟨b,1,none⟩=false/\w.frozen? ⟨b,2,none⟩=false/\w.frozen? ⟨b,3,none⟩=false:=by
 refine⟨⟨?_,?_,?_,?_⟩,Lib.frozen_of_heap h 0,Lib.frozen_of_heap h 1,Lib.frozen_of_heap h 2,Lib.frozen_of_heap h 3⟩<;>(rw[Lib.cell_of_heap h];rfl)
theorem cE{w:World}{B:Nat}{e:TypeId}{size g n cap m:Nat}{xs:List Value}(h:w.ownsRow B e size (.slice (some ⟨g,0,none⟩) n cap) m xs){i:Nat}{u:Value}(hu:xs[i]?=some u):w.cell? ⟨g,i,none⟩=some u/\∀j,w.frozen? ⟨g,j,none⟩=false:=by
 rcases h.2 with⟨h0,_⟩ |⟨g',cap',cur,e1,_,hg,_,_,_,htk⟩
 ·cases h0
 ·injection e1 with e1 _ _;injection e1 with e1;injection e1 with e1 _ _;subst e1;refine⟨?_,fun j=>Lib.frozen_of_heap hg j⟩;rw[Lib.cell_of_heap hg];rw[<-htk,List.getElem?_take]at hu;split at hu
  ·simpa using hu
  ·cases hu
theorem aE4(x:jH):∀(l:List jH)(i:Nat),l[i]?=some x->(bT jH.cells l)[i*4+1]?=some (Z x.count)
 | [],i,h=>by simp at h
 |y::l,0,h=>by
  simp only[List.getElem?_cons_zero,qv]at h;subst h;simp[bT,jH.cells]
 |y::l,i+1,h=>by
  have h:l[i]?=some x:=by simpa using h
  have ih:=aE4 x l i h;have e:bT jH.cells (y::l)=Z y.first::Z y.count::Z y.actual::Z y.normal::bT jH.cells l:=by simp[bT,jH.cells]
  rw[e,show(i+1)*4+1=i*4+1+1+1+1+1 by omega,List.getElem?_cons_succ,List.getElem?_cons_succ,List.getElem?_cons_succ,List.getElem?_cons_succ,ih]
section
variable{W0:World}{T:List aX}{Y M V B k:Nat}{ev tv:Value}{cs:List Value}{v:fG}{st:aD}{w:World}
end
def KQ(k v:Int):List (Int×Int)->List (Int×Int)
 | []=>[(k,max 0 v)]
 |p::r=>if p.1=k then(k,max p.2 v)::r else p::KQ k v r
def rD(k:Int):List (Int×Int)->Int
 | []=>0
 |p::r=>if p.1=k then p.2 else rD k r
structure kM where
 c:Int
 u:Int
 g0:Int
 g1:Int
 g2:Int
 g3:Int
 g4:Int
 g5:Int
structure XP where
 clef:ByteArray->Option Int
 met:ByteArray->Option kM
structure jF where
 clefs:List (Int×Int)
 vs:List fG
structure bC where
 i0:Int
 i1:Int
 m:kM
 len:Int
 fif:Int
 rs:Bool
 re:Int
 en:Int
 ju:Int
 la:Int
 sw:Int
 br:Int
 reh:ByteArray
 tem:List (Int×Int×Bool)
 cells:List jF
structure wU where
 i0:Int
 i1:Int
 clef:Int
structure iZ where
 i0:Int
 i1:Int
 name:ByteArray
 steps:Int
 semis:Int
 staves:List wU
structure wV where
 i0:Int
 i1:Int
 kind:Int
 f:Int×Int
 t:Int×Int
structure KR where
 title:ByteArray
 written:Bool
 parts:List iZ
 meas:List bC
 spans:List wV
 last:List (Int×Int)
def pV:kM:=⟨0,0,0,0,0,0,0,0⟩
def eT:List ByteArray:=[⟨#[43]⟩,⟨#[47]⟩]
def yT(o:Option Nat):Int:=match o with
 |none=>0
 |some i=>(i:Int)+1
def dF:List ByteArray:=[⟨#[100,97,99,97,112,111]⟩,⟨#[100,97,99,97,112,111,102,105,110,101]⟩,⟨#[100,97,99,97,112,111,99,111,100,97]⟩,⟨#[100,97,108,115,101,103,110,111]⟩,⟨#[100,97,108,115,101,103,110,111,102,105,110,101]⟩,⟨#[100,97,108,115,101,103,110,111,99,111,100,97]⟩]
def dW:List ByteArray:=[⟨#[115,121,115,116,101,109]⟩,⟨#[112,97,103,101]⟩,⟨#[110,101,118,101,114]⟩]
def bZ:List ByteArray:=[⟨#[115,108,117,114]⟩,⟨#[99,114,101,115,99,101,110,100,111]⟩,⟨#[100,105,109,105,110,117,101,110,100,111]⟩,⟨#[111,99,116,97,118,101,117,112]⟩,⟨#[111,99,116,97,118,101,100,111,119,110]⟩,⟨#[112,101,100,97,108]⟩,⟨#[116,114,105,108,108]⟩]
def CY(es:List (Int×Int)):List (Int×Int):=((es.map (·.1)).mergeSort fun a b=>decide (a<=b)).map fun k=>(k,rD k es)
section
variable(O:yB)(B:XP)(T:List aX)
def gR(I:eQ)(s:aD):((Int×Int)×eQ)×aD :=
 if isS T ⟨#[64]⟩ s=true then(((bG T s).1,⟨(bG T s).1.1,(bG T s).1.2,KQ (bG T s).1.1 (bG T s).1.2 I.es⟩),(bG T s).2)
 else if I.ln=1073741824 then(((I.ls,I.ln),⟨I.ls,I.ln,KQ I.ls I.ln I.es⟩),cC T 9 s)
 else(((I.ls,I.ln+1),⟨I.ls,I.ln+1,KQ I.ls (I.ln+1) I.es⟩),s)
def jM(I:eQ)(s:aD):(B7×eQ)×aD :=
 (((sW O T 7 ((gR T I s).1.1,(gR T I s).2)).1,(gR T I s).1.2),(sW O T 7 ((gR T I s).1.1,(gR T I s).2)).2)
def cL:Nat->fG->Int->Int->eQ->aD->(fG×eQ)×aD
 |0,v,_,_,I,s=>((v,I),s)
 |k+1,v,least,n,I,s =>
  if s.good=false then((v,I),s)
  else if isS T ⟨#[40]⟩ s=true then
   let a:=bD T 1 32 (s.next 1)
   let b:=bD T 1 32 (bY T ⟨#[58]⟩ a.2)
   let r:=cL k ⟨v.evs,v.tups++[⟨v.evs.length,0,a.1,b.1⟩]⟩ 1 0 I b.2
   cL k ⟨r.1.1.evs,r.1.1.tups.set v.tups.length ⟨v.evs.length,(r.1.1.evs.length:Int)-v.evs.length,a.1,b.1⟩⟩ least (n+1) r.1.2 (bY T ⟨#[41]⟩ r.2)
  else if mE T s=true then cL k ⟨v.evs++[(jM O T I s).1.1],v.tups⟩ least (n+1) (jM O T I s).1.2 (jM O T I s).2
  else((v,I),if n<least then cC T 13 s else s)
def sZ(most:Int)(s:aD):Int×aD :=
 if isS T ⟨#[45]⟩ s=true then(-(bD T 0 most (s.next 1)).1,(bD T 0 most (s.next 1)).2)else bD T 0 most s
def tN(s:aD):Int×aD :=
 if(aZ T s).kind≠1 then(0,cC T 13 s)
 else match B.clef (aZ T s).text with
  |none=>(0,cC T 32 s)
  |some n=>(n,s.next 1)
def vB(s:aD):kM×aD :=
 if(aZ T s).kind=2 then
  match B.met (pE T true eT s)with
  |none=>(pV,cC T 19 s)
  |some m=>(m,s.next ((kN T true eT s).length+1))
 else(pV,cC T 13 s)
def jB:Nat->aD->List (Int×Int)×aD
 |0,s=>([],s)
 |k+1,s =>
  if isS T ⟨#[99,108,101,102]⟩ s=true then
   let a:=bD T 0 4398046511104 (s.next 1)
   let c:=tN B T a.2
   let r:=jB k c.2
   ((a.1,c.1)::r.1,r.2)
  else([],s)
def kF:Nat->eQ->aD->(List fG×eQ)×aD
 |0,I,s=>(([],I),s)
 |k+1,I,s =>
  if isS T ⟨#[59]⟩ s=true then
   let v:=cL O T T.length ⟨[],[]⟩ 0 0 I (s.next 1)
   let r:=kF k v.1.2 v.2
   ((v.1.1::r.1.1,r.1.2),r.2)
  else(([],I),s)
def jY(I:eQ)(s:aD):(jF×eQ)×aD :=
 let c:=jB B T T.length s
 let v:=cL O T T.length ⟨[],[]⟩ 0 0 I c.2
 if v.1.1.evs.length=0/\isS T ⟨#[59]⟩ v.2=false then((⟨c.1,[]⟩,v.1.2),v.2)
 else
  let r:=kF O T T.length v.1.2 v.2
  ((⟨c.1,v.1.1::r.1.1⟩,r.1.2),r.2)
def fT:List (ByteArray×(bC->aD->bC×aD)):=[
 (⟨#[109,101,116,114,101]⟩,fun m s=>({ m with m:=(vB B T s).1 },(vB B T s).2)),
 (⟨#[108,101,110,103,116,104]⟩,fun m s=>({ m with len:=(bD T 1 4398046511104 s).1 },(bD T 1 4398046511104 s).2)),
 (⟨#[107,101,121]⟩,fun m s=>({ m with fif:=(sZ T 7 s).1 },(sZ T 7 s).2)),
 (⟨#[114,101,112,101,97,116]⟩,fun m s=>({ m with rs:=true },s)),
 (⟨#[116,105,109,101,115]⟩,fun m s=>({ m with re:=(bD T 2 8 s).1 },(bD T 2 8 s).2)),
 (⟨#[101,110,100,105,110,103,115]⟩,fun m s=>({ m with en:=(bD T 1 255 s).1 },(bD T 1 255 s).2)),
 (⟨#[106,117,109,112]⟩,fun m s=>({ m with ju:=yT (bV T dF s).1 },(bV T dF s).2)),
 (⟨#[115,101,103,110,111]⟩,fun m s=>({ m with la:=m.la+1 },s)),
 (⟨#[99,111,100,97]⟩,fun m s=>({ m with la:=m.la+2 },s)),
 (⟨#[102,105,110,101]⟩,fun m s=>({ m with la:=m.la+4 },s)),
 (⟨#[116,111,99,111,100,97]⟩,fun m s=>({ m with la:=m.la+8 },s)),
 (⟨#[115,119,105,110,103]⟩,fun m s=>({ m with sw:=(bD T 1 100 s).1 },(bD T 1 100 s).2)),
 (⟨#[98,114,101,97,107]⟩,fun m s=>({ m with br:=yT (bV T dW s).1 },(bV T dW s).2)),
 (⟨#[109,97,114,107]⟩,fun m s=>({ m with reh:=(fU T s).1 },(fU T s).2))]
def US(o:ByteArray×(bC->aD->bC×aD))(m:bC)(s:aD):bC×aD:=if isS T o.1 s=true then o.2 m (s.next 1)else(m,s)
def nQ:List (ByteArray×(bC->aD->bC×aD))->bC->aD->bC×aD
 | [],m,s=>(m,s)
 |o::r,m,s=>nQ r (US T o m s).1 (US T o m s).2
def jN:Nat->aD->List (Int×Int×Bool)×aD
 |0,s=>([],s)
 |k+1,s =>
  if isS T ⟨#[116,101,109,112,111]⟩ s=true then
   let a:=bD T 0 4398046511104 (s.next 1)
   let b:=bD T 1 60000000 a.2
   let r:=jN k (aY T ⟨#[114,97,109,112]⟩ b.2)
   ((a.1,b.1,isS T ⟨#[114,97,109,112]⟩ b.2)::r.1,r.2)
  else([],s)
def kW:Nat->eQ->aD->(List jF×eQ)×aD
 |0,I,s=>(([],I),s)
 |k+1,I,s =>
  if isS T ⟨#[47]⟩ s=true then
   let c:=jY O B T I (s.next 1)
   let r:=kW k c.1.2 c.2
   ((c.1.1::r.1.1,r.1.2),r.2)
  else(([],I),s)
def lF(b:bC)(I:eQ)(s:aD):(bC×eQ)×aD :=
 let o:=gR T I s
 let m:=nQ T (fT B T) ⟨o.1.1.1,o.1.1.2,b.m,0,b.fif,false,0,0,0,0,0,0,ByteArray.empty,[],[]⟩ o.2
 let t:=jN T T.length m.2
 let c:=jY O B T o.1.2 (bY T ⟨#[123]⟩ t.2)
 let r:=kW O B T T.length c.1.2 c.2
 (({ m.1 with tem:=t.1,cells:=c.1.1::r.1.1 },r.1.2),bY T ⟨#[125]⟩ r.2)
def eA:Nat->eQ->aD->(List wU×eQ)×aD
 |0,I,s=>(([],I),s)
 |k+1,I,s =>
  if isS T ⟨#[115,116,97,102,102]⟩ s=true then
   let o:=gR T I (s.next 1)
   let c:=tN B T o.2
   let r:=eA k o.1.2 c.2
   ((⟨o.1.1.1,o.1.1.2,c.1⟩::r.1.1,r.1.2),r.2)
  else(([],I),s)
def jG(I:eQ)(s:aD):(iZ×eQ)×aD :=
 let o:=gR T I s
 let n:=fU T o.2
 let tr:=isS T ⟨#[116,114,97,110,115,112,111,115,101]⟩ n.2
 let a:=if tr=true then sZ T 140 (n.2.next 1)else(0,n.2)
 let b:=if tr=true then sZ T 140 a.2 else(0,a.2)
 let r:=eA B T T.length o.1.2 b.2
 ((⟨o.1.1.1,o.1.1.2,n.1,a.1,b.1,r.1.1⟩,r.1.2),r.2)
def iR:Nat->aD->List (Int×Int)×aD
 |0,s=>([],s)
 |k+1,s=>if isS T ⟨#[64]⟩ s=true then((bG T s).1::(iR k (bG T s).2).1,(iR k (bG T s).2).2)else([],s)
def iS:Nat->eQ->aD->(List iZ×eQ)×aD
 |0,I,s=>(([],I),s)
 |k+1,I,s =>
  if isS T ⟨#[112,97,114,116]⟩ s=true then
   let p:=jG B T I (s.next 1)
   let r:=iS k p.1.2 p.2
   ((p.1.1::r.1.1,r.1.2),r.2)
  else(([],I),s)
def dL:Nat->bC->eQ->aD->(List bC×eQ)×aD
 |0,_,I,s=>(([],I),s)
 |k+1,b,I,s =>
  if isS T ⟨#[109,101,97,115,117,114,101]⟩ s=true then
   let m:=lF O B T b I (s.next 1)
   let r:=dL k m.1.1 m.1.2 m.2
   ((m.1.1::r.1.1,r.1.2),r.2)
  else(([],I),s)
def iT:Nat->eQ->aD->(List wV×eQ)×aD
 |0,I,s=>(([],I),s)
 |k+1,I,s =>
  if(aZ T s).kind≠1 then(([],I),s)
  else match cM (aZ T s).text bZ with
   |none=>(([],I),s)
   |some i =>
    let o:=gR T I (s.next 1)
    let f:=bG T (bY T ⟨#[40]⟩ o.2)
    let t:=bG T f.2
    let r:=iT k o.1.2 (bY T ⟨#[41]⟩ t.2)
    ((⟨o.1.1.1,o.1.1.2,(i:Int)+1,f.1,t.1⟩::r.1.1,r.1.2),r.2)
def JE:bC:=⟨0,0,⟨4,4,0,0,0,0,0,0⟩,0,0,false,0,0,0,0,0,0,ByteArray.empty,[],[]⟩
def iU(s:aD):KR×aD :=
 let ti:=fU T (bY T ⟨#[115,99,111,114,101]⟩ s)
 let wr:=isS T ⟨#[119,114,105,116,116,101,110]⟩ ti.2
 let s2:=aY T ⟨#[119,114,105,116,116,101,110]⟩ ti.2
 let la:=isS T ⟨#[108,97,115,116]⟩ s2
 let w:=bG T (s2.next 1)
 let l:=if la=true then(w.1::(iR T T.length w.2).1,(iR T T.length w.2).2)else([],s2)
 let p:=iS B T T.length ⟨0,0,[]⟩ l.2
 let m:=dL O B T T.length JE p.1.2 p.2
 let x:=iT T T.length m.1.2 m.2
 (⟨ti.1,wr,p.1.1,m.1.1,x.1.1,if la=true then l.1 else CY x.1.2.es⟩,E4 T x.2)
end
set_option maxHeartbeats 8000000
set_option maxRecDepth 100000
def KU(k v:Int):List (Int×Int)->List (Int×Int)
 | []=>[(k,v)]
 |p::r=>if p.1=k then(k,v)::r else p::KU k v r
theorem SB(k v:Int):∀L:List (Int×Int),KQ k v L=KU k (max (rD k L) v) L
 | []=>rfl
 |p::r=>by
  unfold KQ KU rD;split
  ·rfl
  ·rw[SB k v r]
def kvE(e:MapEntry):Value×Value:=(e.key,e.val)
def kvP(p:Int×Int):Value×Value:=(Z p.1,Z p.2)
def BU(es:Array MapEntry)(clk:Nat)(L:List (Int×Int)):Prop:=es.toList.map kvE=L.map kvP/\Go.MapKept.Stamped es clk
theorem XX(k:Int):∀(l:List MapEntry)(L:List (Int×Int))(i:Nat),l.map kvE=L.map kvP ->
  (Instr.findNow (.int .i64) (Z k) l i=some none/\rD k L=0/\(∀e∈l,e.key≠Z k)/\∀v,KU k v L=L++[(k,v)]) \/
  ∃(j:Nat)(e:MapEntry),l[j]?=some e/\e.key=Z k/\Instr.findNow (.int .i64) (Z k) l i=some (some (i+j,Z (rD k L)))/\∀v,KU k v L=L.set j (k,v)
 | [],[],_,_=>.inl ⟨rfl,rfl,fun e he=>(by cases he),fun _=>rfl⟩
 |e::l,[],_,h=>by cases h
 | [],p::L,_,h=>by cases h
 |e::l,p::L,i,h=>by
  simp only[List.map_cons,List.cons.injEq]at h;obtain⟨h1,h2⟩:=h;have hk:e.key=Z p.1:=congrArg Prod.fst h1;have hv:e.val=Z p.2:=congrArg Prod.snd h1;by_cases hp:p.1=k
  ·refine .inr ⟨0,e,rfl,by rw[hk,hp],?_,fun v => ?_⟩
   ·rw[show rD k (p::L)=p.2 by unfold rD;rw[if_pos hp]];simp[Instr.findNow,hk,hv,Instr.sameNow,hp]
   ·unfold KU;rw[if_pos hp];rfl
  ·have hs:Instr.sameNow (.int .i64) (Z k) e.key=some false:=by rw[hk];simp[Instr.sameNow];exact fun e=>hp e.symm
   have eg:rD k (p::L)=rD k L:=by rw[rD,if_neg hp]
   have ep:∀v,KU k v (p::L)=p::KU k v L:=fun v=>by rw[KU,if_neg hp]
   rcases XX k l L (i+1) h2 with⟨a,b,n,c⟩ |⟨j,e',a,b,c,d⟩
   ·refine .inl ⟨by rw[Instr.findNow,hs];exact a,by rw[eg];exact b,fun e' he' => ?_,fun v=>by rw[ep,c];rfl⟩;rcases qqt.1 he' with rfl|he'
    ·rw[hk];intro h;injection h with _ h;exact hp h
    ·exact n e' he'
   ·exact .inr ⟨j+1,e',a,b,by rw[Instr.findNow,hs];simp only;rw[c,eg];congr 3;omega,fun v=>by rw[ep,d];rfl⟩
theorem BU.ok{es:Array MapEntry}{clk:Nat}{L:List (Int×Int)}(h:BU es clk L):aG5 es:=fun e he=>by
 have:kvE e∈es.toList.map kvE:=List.mem_map_of_mem he;rw[h.1]at this;obtain⟨p,_,hp⟩:=List.mem_map.1 this;exact⟨p.1,p.2,(congrArg Prod.fst hp).symm,(congrArg Prod.snd hp).symm⟩
theorem aC7(ls:Int){es:Array MapEntry}(clk:Nat){L:List (Int×Int)}(h:BU es clk L) :
  (∀(M:Nat)(w:World),w.heap[M]?=some (.map es clk)->(Instr.lookup 129 (.map (some M)) (Z ls) false).run Tryz.prog w=.ok (Z (rD ls L)) w)
  /\ ∀v:Int,∃(es':Array MapEntry)(clk':Nat),BU es' clk' (KU ls v L)/\∀(M:Nat)(w:World),w.heap[M]?=some (.map es clk)->(Instr.mapUpdate 129 (.map (some M)) (Z ls) (Z v)).run Tryz.prog w=.ok () { w with heap:=w.heap.setIfInBounds M (.map es' clk') }:=by
 rcases XX ls es.toList L 0 h.1 with⟨h1,hg,hno,hp⟩ |⟨j,e,hj,hk,h1,hp⟩
 ·have hf:∀w,(Instr.findKey 3 (Z ls) es.toList).run Tryz.prog w=.ok none w:=fun w=>by
   unfold Instr.findKey;simp[qqg Tryz.underlying3,Result.andThen,h1]
  refine⟨fun M w hM => ?_,fun v=>⟨es.push ⟨Z ls,Z v,clk⟩,clk+1,?_,fun M w hM => ?_⟩⟩
  ·unfold Instr.lookup;simp only[qqn,qqg Tryz.underlying129,Result.andThen_ok,mG hM,Sem.run_pure,N5,hf,Tryz.zeroValue3,Bool.false_eq_true,if_false];rw[hg]
  ·refine⟨?_,Go.MapKept.stamped_push h.2 hno⟩;rw[hp v,Array.toList_push,List.map_append,List.map_append,h.1];rfl
  ·unfold Instr.mapUpdate;simp only[qqn,qqg Tryz.underlying129,Result.andThen_ok,mG hM,N5,hf];rw[yY _ hM]
 ·rw[Nat.zero_add]at h1;have hf:∀w,(Instr.findKey 3 (Z ls) es.toList).run Tryz.prog w=.ok (some (j,Z (rD ls L))) w:=fun w=>by
   unfold Instr.findKey;simp[qqg Tryz.underlying3,Result.andThen,h1]
  have hkey:((es[j]?).map (·.key)).getD (Z ls)=Z ls:=by
   have:es[j]?=some e:=by rw[<-Array.getElem?_toList];exact hj
   rw[this];exact hk
  refine⟨fun M w hM => ?_,fun v=>⟨es.modify j fun e=>{ e with key:=Z ls,val:=Z v },clk,?_,fun M w hM => ?_⟩⟩
  ·unfold Instr.lookup;simp only[qqn,qqg Tryz.underlying129,Result.andThen_ok,mG hM,Sem.run_pure,N5,hf,Bool.false_eq_true,if_false]
  ·refine⟨?_,Go.MapKept.stamped_modify h.2 j _ (fun _ _=>rfl) fun e' _ he' => ?_⟩;case refine_2 =>
    have:es[j]?=some e:=by rw[<-Array.getElem?_toList];exact hj
    rw[this]at he';obtain rfl:=qi he';exact hk.symm
   rw[hp v,List.map_set,<-h.1];apply List.ext_getElem?;intro n;rw[List.getElem?_map,Array.getElem?_toList,Array.getElem?_modify,List.getElem?_set,qqc];by_cases hn:j=n
   ·subst hn;have h2:es[j]?=some e:=by rw[<-Array.getElem?_toList];exact hj
    have hlt:j<es.toList.length:=(qy.1 hj).1;rw[if_pos rfl,if_pos rfl,if_pos hlt,h2];rfl
   ·rw[if_neg hn,if_neg hn,List.getElem?_map,Array.getElem?_toList]
  ·unfold Instr.mapUpdate;simp only[qqn,qqg Tryz.underlying129,Result.andThen_ok,mG hM,N5,hf,hkey,aC6];rw[yY _ hM]
theorem ZU(T:List aX)(I:eQ)(s:aD):∃(p:Int×Int)(s1:aD),gR T I s=((p,⟨p.1,p.2,KQ p.1 p.2 I.es⟩),s1) /\
  ((isS T ⟨#[64]⟩ s=true/\bG T s=(p,s1))\/(isS T ⟨#[64]⟩ s=false/\I.ln=1073741824/\p=(I.ls,I.ln)/\s1=cC T 9 s)\/(isS T ⟨#[64]⟩ s=false/\I.ln≠1073741824/\p=(I.ls,I.ln+1)/\s1=s)):=by
 unfold gR;cases hb:isS T ⟨#[64]⟩ s with
 |true=>exact⟨(bG T s).1,(bG T s).2,by rw[if_pos rfl],.inl ⟨rfl,rfl⟩⟩
 |false =>
  by_cases h:I.ln=1073741824
  ·exact⟨(I.ls,I.ln),_,by rw[if_neg (by decide),if_pos h],.inr (.inl ⟨rfl,h,rfl,rfl⟩)⟩
  ·exact⟨(I.ls,I.ln+1),_,by rw[if_neg (by decide),if_neg h],.inr (.inr ⟨rfl,h,rfl,rfl⟩)⟩
abbrev gS(I:eQ):Fr:=⟨false,some I⟩
def dH(I:eQ):Prop:=0<=I.ln/\I.ln<=1073741824/\(0<=I.ls/\I.ls<=99)/\∀p∈I.es,(0<=p.1/\p.1<=99)/\0<=p.2/\p.2<=1073741824
section
variable{T:List aX}{Y M:Nat}{I:eQ}{st:aD}{w:World}
theorem PS.ids{I:eQ}(h:PS T Y M (gS I) st w):∃tv pos line col e es clk,kZ Y M tv T pos line col e false I.ls I.ln es clk w/\BU es clk I.es/\aD6 T st pos line col e:=by
 obtain⟨_,tv,pos,line,col,e,ls,ln,es,clk,h1,⟨h2,h4⟩,h3⟩:=h;obtain⟨rfl,rfl,h6,h5⟩:=h4 I rfl;exact⟨tv,pos,line,col,e,es,clk,h1,⟨h5,h6⟩,h3⟩
theorem PS.of_ids{tv:Value}{pos:Nat}{line col e ls ln:Int}{es:Array MapEntry}{clk:Nat}{L:List (Int×Int)}(g:kU T)(h1:kZ Y M tv T pos line col e false ls ln es clk w)(h2:BU es clk L)(h3:aD6 T st pos line col e):PS T Y M (gS ⟨ls,ln,L⟩) st w :=
 ⟨g,tv,pos,line,col,e,ls,ln,es,clk,h1,⟨h2.ok,fun I hI=>by obtain rfl:=qi hI;exact⟨rfl,rfl,h2.2,h2.1⟩⟩,h3⟩
theorem JM(hI:dH I)(h:PS T Y M (gS I) st w):Calls Tryz.prog 52 #[.pointer (some ⟨Y,0,none⟩)] w fun r w'=>r=.returned (.agg #[Z (gR T I st).1.1.1,Z (gR T I st).1.1.2])/\PS T Y M (gS (gR T I st).1.2) (gR T I st).2 w'/\aC [Y,M] w w':=by
 have lY:=h.lt;have lM:=h.ltM;obtain⟨p,s1,he,hc⟩:=ZU T I st;rw[he];clear he;obtain⟨v0,v1⟩:=p;have g:=h.good;have b00:=(qb w.heap.size w).alloc (qa _) (.cells #[Z 0,Z 0] 24);have h0:=h.step b00;have x1:=KY h0 ⟨#[64]⟩;have hR0:=qd w (.cells #[Z 0,Z 0] 24);have hRY:w.heap.size≠Y:=by omega
 have hRM:w.heap.size≠M:=by omega
 have xw:=fun w' (h:PS T Y M (gS I) st w')=>MB h;have xf:=fun w' (h:PS T Y M (gS I) st w')=>jC h 9 (by decide);have HC:=aJ hc;have HIO:=aJ hI;have aw:=aC.of_below (bs:=[Y,M]) b00;clear hc hI h b00;go_enter Tryz.func52,Tryz.ntmps52
 go_upto_block 0 with(fail)
 generalize w.alloc (.cells #[Z 0,Z 0] 24)=W at h0 hR0 aw x1⊢;have HLE:Shut (w.heap.size<=w.heap.size):=qa _;generalize hRw:w.heap.size=R at hR0 hRY hRM lY lM⊢;have HLE:=aJ (qj hRw);clear hRw
 go_cut []from 3 to 67 (fun wc=>∃tv pos line col e es clk,kZ Y M tv T pos line col e false v0 v1 es clk wc/\BU es clk I.es/\aD6 T s1 pos line col e/\wc.heap[R]?=some (.cells #[Z 0,Z 0] 24 (0,0))/\aC [Y,M] w wc)
 case first =>
  rcases HC.out with⟨hb,hwr⟩ |⟨hb,hln,hp,rfl⟩ |⟨hb,hln,hp,rfl⟩
  ·rw[hb]at x1;simp only[hwr]at xw;clear hb hwr xf;go_wp2_with(go_at_call 76;refine x1.mono ?_);intro r w1;first |(intro he b1;subst he)|rintro⟨rfl,b1⟩
   have xw1:=xw _ (h0.step b1);have hR1:=(b1.block _ (aA hR0)).trans hR0;have aw1:=aw.trans (aC.of_below b1);clear x1 xw h0 hR0 aw b1;go_wp2_with(go_at_call 92;refine xw1.mono ?_);intro r w2;first |(intro he hs b2;subst he)|rintro⟨rfl,hs,b2⟩
   have hR2:=b2.at hR1 (by simp;omega);have aw2:=aw1.trans b2;obtain⟨tv,pos,line,col,e,es,clk,hs,hmo,hst⟩:=hs.ids;have f6:=hs.fz 6;have f7:=hs.fz 7;have c6:=hs.c6;have c7:=hs.c7;clear xw1 aw1 b2 hR1;have h2:=(hs.put (pos':=pos) (line':=line) (col':=col) (e':=e) (ls':=v0) (ln':=I.ln) 6 (Z v0) (fun h=>h) rfl).put (pos':=pos) (line':=line) (col':=col) (e':=e) (ls':=v0) (ln':=v1) 7 (Z v1) (fun h=>h) rfl;have aw3:=(aw2.setCell (p:=⟨Y,6,none⟩) (.inl (by simp)) (Z v0)).setCell (p:=⟨Y,7,none⟩) (.inl (by simp)) (Z v1);have hR3:=(qh (w2.setCell ⟨Y,6,none⟩ (Z v0)) ⟨Y,7,none⟩ (Z v1) R hRY).trans ((qh w2 ⟨Y,6,none⟩ (Z v0) R hRY).trans hR2);have HF:=aJ (And.intro h2 (And.intro aw3 hR3));clear hs aw2 hR2 h2 aw3 hR3;go_wp2
   go_meet
   case rel =>
    obtain⟨h2,aw3,hR3⟩:=HF.out;exact⟨tv,pos,line,col,e,es,clk,h2,hmo,hst,hR3,aw3⟩
  ·rw[hb]at x1;simp only[qu]at hp;obtain⟨rfl,rfl⟩:=hp;clear hb xw;go_wp2_with(go_at_call 76;refine x1.mono ?_);intro r w1;first |(intro he b1;subst he)|rintro⟨rfl,b1⟩
   have h1:=h0.step b1;have xf1:=xf _ h1;have hR1:=(b1.block _ (aA hR0)).trans hR0;have aw1:=aw.trans (aC.of_below b1);obtain⟨tv,pos,line,col,e,es,clk,hs,hmo,hst⟩:=h1.ids;have c5:=hs.c5;have c7:=hs.c7;rw[hln]at c7;clear x1 xf h0 hR0 aw b1 h1 hs hmo hst hln;go_wp2_with(go_at_call 63;refine xf1.mono ?_);intro r w2;first |(intro he hs b2;subst he)|rintro⟨rfl,hs,b2⟩
   have hR2:=b2.at hR1 (by simp;omega);have aw2:=aw1.trans b2;obtain⟨tv,pos,line,col,e,es,clk,hs,hmo,hst⟩:=hs.ids;go_wp2
   go_meet
   case rel=>exact⟨tv,pos,line,col,e,es,clk,hs,hmo,hst,hR2,aw2⟩
  ·rw[hb]at x1;simp only[qu]at hp;obtain⟨rfl,rfl⟩:=hp;clear hb xw xf;have hln':(I.ln==1073741824)=false:=by simpa using hln
   have hwr:IntKind.i64.wrap (I.ln+1)=I.ln+1:=IntWalk.i64_in _ (by have:=HIO.out.1;have:=HIO.out.2.1;omega);go_wp2_with(go_at_call 76;refine x1.mono ?_);intro r w1;first |(intro he b1;subst he)|rintro⟨rfl,b1⟩
   have h1:=h0.step b1;have hR1:=(b1.block _ (aA hR0)).trans hR0;have aw1:=aw.trans (aC.of_below b1);obtain⟨tv,pos,line,col,e,es,clk,hs,hmo,hst⟩:=h1.ids;have c5:=hs.c5;have c7:=hs.c7;have f7:=hs.fz 7;have h2:=hs.put (pos':=pos) (line':=line) (col':=col) (e':=e) (ls':=I.ls) (ln':=I.ln+1) 7 (Z (I.ln+1)) (fun h=>h) rfl;have aw3:=aw1.setCell (p:=⟨Y,7,none⟩) (.inl (by simp)) (Z (I.ln+1));have hR3:=(qh w1 ⟨Y,7,none⟩ (Z (I.ln+1)) R hRY).trans hR1;have HF:=aJ (And.intro h2 (And.intro aw3 hR3));clear x1 h0 hR0 aw b1 h1 hs hln h2 aw3 hR3 aw1 hR1;go_wp2
   go_meet
   case rel =>
    obtain⟨h2,aw3,hR3⟩:=HF.out;exact⟨tv,pos,line,col,e,es,clk,h2,hmo,hst,hR3,aw3⟩
 case rest =>
  clear x1 xw xf HC HIO h0 hR0 aw;obtain⟨tv,pos,line,col,e,es,clk,h2,hmo,hst,hR2,aw2⟩:=hcut;have d6:=h2.c6;have d7:=h2.c7;have d8:=h2.c8;obtain⟨U1,U2⟩:=aC7 v0 clk hmo;have hlk:=U1 M wc.drew h2.map;obtain⟨mx,hmx⟩:∃mx,max (rD v0 I.es) v1=mx:=⟨_,rfl⟩;obtain⟨es',clk',hmo',U3⟩:=U2 mx;have hput:=U3 M wc.drew h2.map;have eu:=SB v0 v1 I.es;rw[hmx]at eu;rw[<-eu]at hmo';generalize rD v0 I.es=b0 at hlk hmx;clear U1 U2 U3 eu;go_wp2
  go_still_tail 25,(by kernel_rfl)
  change wpList _ _ _ _ _ wc.drew;have h3:=(h2.step (qb _ wc).drew).remap es' clk';have aw3:=aw2.drew.remap (M:=M) (by simp) (.map es' clk');have hR3:({ wc.drew with heap:=wc.drew.heap.setIfInBounds M (.map es' clk') }:World).heap[R]?=some (.cells #[Z 0,Z 0] 24 (0,0)):=(Array.getElem?_setIfInBounds_ne (fun e=>hRM e.symm)).trans hR2;generalize hw3:({ wc.drew with heap:=wc.drew.heap.setIfInBounds M (.map es' clk') }:World)=w3 at h3 aw3 hR3 hput;clear h2 aw2 hR2 hlk;have e6:=h3.c6;have e7:=h3.c7;obtain⟨r0,r1,fr0,fr1⟩:=bL hR3;have h4:=(PS.of_ids g h3 hmo' hst).put (R:=R) (w':=g8 w3 R (Z v0) (Z v1)) hRY hRM hR3 (by decide) (fun j hj=>fE w3 R _ _ j hj);have hR4:=fN (a:=Z v0) (b:=Z v1) hR3;have aw4:=iE aw3 HLE.out (Z v0) (Z v1);have HF:=aJ (And.intro h4 (And.intro hR4 aw4));clear h3 aw3 hR3 hst hmo hmo' h4 hR4 aw4;unfold g8 at HF;go_wp2;obtain⟨h4,hR4,aw4⟩:=HF.out;refine qg (qp rfl _ _ R 24 _ (0,0) _ rfl hR4 Tryz.underlying24 rfl Tryz.sizeId) rfl ?_;exact⟨rfl,h4,aw4⟩
end
theorem oP(T:List aX)(I:eQ)(s:aD):dM s (gR T I s).2:=by
 unfold gR;split
 ·exact i7.back fun _ h=>BP h
 ·split
  ·exact(fL _ _ _).back
  ·exact dM.refl s
theorem ZR(O:yB)(T:List aX)(q:Int)(i:Int×Int)(s:aD):i7 s (sW O T q (i,s)).2:=by
 unfold sW;exact((((SY O T q _).transS (aAR O T _)).trans (aE2 O T _ _)).trans (WG T _)).trans (SX T _ _)
theorem xA(O:yB)(T:List aX)(I:eQ)(s:aD):i7 s (jM O T I s).2:=(oP T I s).transS (ZR O T 7 _ _)
theorem U7{O:yB}{T:List aX}(k:Nat)(v:fG)(least n:Int)(I:eQ)(e l c:Int):cL O T k v least n I (.bad e l c)=((v,I),.bad e l c):=by cases k<;>rfl
theorem i6(O:yB)(T:List aX):∀(k:Nat)(v:fG)(least n:Int)(I:eQ)(s:aD),dM s (cL O T k v least n I s).2
 |0,v,least,n,I,s=>dM.refl s
 |k+1,v,least,n,I,s=>by
  rw[cL];split
  ·exact dM.refl s
  ·split
   ·simp only;exact((((((dS s 1).trans (eE T 1 32 _).back).trans (fY T _ _).back).trans (eE T 1 32 _).back).trans (i6 O T k _ 1 0 _ _)).trans (fY T _ _).back).trans (i6 O T k _ least (n+1) _ _)
   ·split
    ·exact(xA O T I s).back.trans (i6 O T k _ least (n+1) _ _)
    ·simp only;split
     ·exact(fL _ _ _).back
     ·exact dM.refl s
theorem pH(O:yB)(T:List aX):∀(k:Nat)(v:fG)(least n:Int)(I:eQ)(s:aD),
  (cL O T k v least n I s).1.1.evs.length+need T (cL O T k v least n I s).2<=v.evs.length+need T s /\
  (cL O T k v least n I s).1.1.tups.length+need T (cL O T k v least n I s).2<=v.tups.length+need T s
 |0,v,least,n,I,s=>⟨qa _,qa _⟩
 |k+1,v,least,n,I,s=>by
  rw[cL];split
  ·exact⟨qa _,qa _⟩
  ·split
   ·rename_i hb;have h0:=eF hb;have h1:=eX (T:=T) (eP s) h0;have h2:=bU (T:=T) (eE T 1 32 (s.next 1)).back;have h3:=bU (T:=T) (fY T ⟨#[58]⟩ (bD T 1 32 (s.next 1)).2).back;have h4:=bU (T:=T) (eE T 1 32 (bY T ⟨#[58]⟩ (bD T 1 32 (s.next 1)).2)).back;simp only;have i1:=pH O T k ⟨v.evs,v.tups++[⟨v.evs.length,0,(bD T 1 32 (s.next 1)).1,(bD T 1 32 (bY T ⟨#[58]⟩ (bD T 1 32 (s.next 1)).2)).1⟩]⟩ 1 0 I (bD T 1 32 (bY T ⟨#[58]⟩ (bD T 1 32 (s.next 1)).2)).2;generalize cL O T k ⟨v.evs,v.tups++[⟨v.evs.length,0,(bD T 1 32 (s.next 1)).1,(bD T 1 32 (bY T ⟨#[58]⟩ (bD T 1 32 (s.next 1)).2)).1⟩]⟩ 1 0 I (bD T 1 32 (bY T ⟨#[58]⟩ (bD T 1 32 (s.next 1)).2)).2=r at i1⊢;have h5:=bU (T:=T) (fY T ⟨#[41]⟩ r.2).back;have i2:=pH O T k ⟨r.1.1.evs,r.1.1.tups.set v.tups.length ⟨v.evs.length,(r.1.1.evs.length:Int)-v.evs.length,(bD T 1 32 (s.next 1)).1,(bD T 1 32 (bY T ⟨#[58]⟩ (bD T 1 32 (s.next 1)).2)).1⟩⟩ least (n+1) r.1.2 (bY T ⟨#[41]⟩ r.2);simp only[List.length_set,qf,qz]at i1 i2;constructor<;>omega
   ·split
    ·rename_i hb;have h0:=ES hb;have h1:=eX (T:=T) (xA O T I s) h0;have i1:=pH O T k ⟨v.evs++[(jM O T I s).1.1],v.tups⟩ least (n+1) (jM O T I s).1.2 (jM O T I s).2;simp only[qf,qz]at i1;constructor<;>omega
    ·have h1:need T (if n<least then cC T 13 s else s)<=need T s:=by
      split
      ·exact bU (fL _ _ _).back
      ·exact qa _
     simp only;constructor<;>omega
theorem pJ(O:yB)(T:List aX):∀(k:Nat)(v:fG)(least n:Int)(I:eQ)(s:aD)(i:Nat),i<v.tups.length->(cL O T k v least n I s).1.1.tups[i]?=v.tups[i]?
 |0,_,_,_,_,_,_,_=>rfl
 |k+1,v,least,n,I,s,i,hi=>by
  rw[cL];split
  ·rfl
  ·split
   ·simp only;rw[pJ O T k _ least (n+1) _ _ i]
    ·simp only;rw[List.getElem?_set_ne (by omega),pJ O T k _ 1 0 _ _ i (by simp only[qf];omega)];exact List.getElem?_append_left hi
    ·simp only[List.length_set];have:=pJ O T k ⟨v.evs,v.tups++[⟨v.evs.length,0,(bD T 1 32 (s.next 1)).1,(bD T 1 32 (bY T ⟨#[58]⟩ (bD T 1 32 (s.next 1)).2)).1⟩]⟩ 1 0 I (bD T 1 32 (bY T ⟨#[58]⟩ (bD T 1 32 (s.next 1)).2)).2 i (by simp only[qf];omega);refine Decidable.byContradiction fun hn => ?_;rw[List.getElem?_eq_none (Nat.le_of_not_lt hn)]at this;simp only at this;rw[List.getElem?_append_left hi,qr hi]at this;cases this
   ·split
    ·exact pJ O T k _ least (n+1) _ _ i hi
    ·rfl
theorem ZS{O:yB}{T:List aX}{k:Nat}{evs:List B7}{tups:List jH}{x:jH}{least n:Int}{I:eQ}{s:aD}:(cL O T k ⟨evs,tups++[x]⟩ least n I s).1.1.tups[tups.length]?=some x:=by
 rw[pJ O T k _ least n I s tups.length (by simp)];simp
theorem C5{T:List aX}{lo hi:Int}{s:aD}(h0:0<=lo)(h1:lo<=hi):0<=(bD T lo hi s).1/\(bD T lo hi s).1<=hi:=by
 unfold bD;split
 ·exact⟨Int.le_refl _,by simp only;omega⟩
 ·split
  ·exact⟨Int.le_refl _,by simp only;omega⟩
  ·simp only;omega
theorem R9(k v:Int):∀(L:List (Int×Int))(p:Int×Int),p∈KQ k v L->p∈L\/(p.1=k/\(p.2=max 0 v\/∃q∈L,p.2=max q.2 v))
 | [],p,h=>by
  rcases qqq.1 h with rfl;exact .inr ⟨rfl,.inl rfl⟩
 |q::r,p,h=>by
  unfold KQ at h;split at h
  ·rcases qqt.1 h with rfl|h
   ·exact .inr ⟨rfl,.inr ⟨q,List.mem_cons_self,rfl⟩⟩
   ·exact .inl (qqz _ h)
  ·rcases qqt.1 h with rfl|h
   ·exact .inl List.mem_cons_self
   ·rcases R9 k v r p h with h |⟨h1,h2 |⟨q',h2,h3⟩⟩
    ·exact .inl (qqz _ h)
    ·exact .inr ⟨h1,.inl h2⟩
    ·exact .inr ⟨h1,.inr ⟨q',qqz _ h2,h3⟩⟩
theorem C6{I:eQ}{k v:Int}(h:dH I)(hk:0<=k/\k<=99)(hv:0<=v/\v<=1073741824):dH ⟨k,v,KQ k v I.es⟩:=by
 refine⟨hv.1,hv.2,hk,fun p hp => ?_⟩;rcases R9 k v I.es p hp with h1 |⟨h1,h2 |⟨q,h2,h3⟩⟩
 ·exact h.2.2.2 p h1
 ·rw[h1,h2];exact⟨hk,by omega⟩
 ·have:=(h.2.2.2 q h2).2;rw[h1,h3];exact⟨hk,by omega⟩
theorem kP{T:List aX}{I:eQ}{s:aD}(h:dH I):dH (gR T I s).1.2:=by
 have h0:=h;obtain⟨h1,h2,h3,_⟩:=h0;unfold gR;split
 ·exact C6 h (C5 (by decide) (by decide)) (C5 (by decide) (by decide))
 ·split
  ·exact C6 h h3 ⟨h1,h2⟩
  ·exact C6 h h3 (by omega)
theorem EC{O:yB}{T:List aX}{I:eQ}{s:aD}(h:dH I):dH (jM O T I s).1.2:=kP h
section
variable{W0:World}{T:List aX}{Y M:Nat}{I:eQ}{st:aD}{w:World}
theorem aC5(hI:dH I)(h:PS T Y M (gS I) st w)(B:mF W0 [Y,M] w):Calls Tryz.prog 20 #[.pointer (some ⟨Y,0,none⟩)] w fun r w'=>∃v,r=.returned v/\EvR w.heap.size (jM aK T I st).1.1 v w'/\PS T Y M (gS (jM aK T I st).1.2) (jM aK T I st).2 w'/\aC [Y,M] w w' :=
 Z2 (o:=((gR T I st).1.1,(gR T I st).2)) h (fun _ h=>JM hI h) B
end
structure yV(W0:World)(T:List aX)(Y M V B:Nat)(ev tv:Value)(cs:List Value)(v:fG)(I:eQ)(st:aD)(w:World):Prop where
 io:dH I
 ps:PS T Y M (gS I) st w
 bas:mF W0 [Y,M] w
 vo:PG V B ev tv cs v w
 lY:Y<B
 lM:M<B
 nY:V≠Y
 nM:V≠M
 lW:W0.heap.size<=V
section
variable{W0:World}{T:List aX}{Y M V B:Nat}{ev tv ev' tv':Value}{cs cs':List Value}{v v':fG}{I I':eQ}{st st':aD}{w w':World}
theorem yV.callI(hI:dH I')(h:yV W0 T Y M V B ev tv cs v I st w)(hS:PS T Y M (gS I') st' w')(a:aC [Y,M] w w'):yV W0 T Y M V B ev tv cs v I' st' w':=by
 have nY:=h.nY;have nM:=h.nM;have lY:=h.lY;have lM:=h.lM;exact⟨hI,hS,h.bas.away a,h.vo.away a (by simp;omega) (fun k hk=>.inl (by simp at hk;omega)),h.lY,h.lM,h.nY,h.nM,h.lW⟩
theorem yV.call(h:yV W0 T Y M V B ev tv cs v I st w)(hS:PS T Y M (gS I) st' w')(a:aC [Y,M] w w'):yV W0 T Y M V B ev tv cs v I st' w':=h.callI h.io hS a
theorem yV.step(h:yV W0 T Y M V B ev tv cs v I st w)(b:Below w.heap.size w w'):yV W0 T Y M V B ev tv cs v I st w':=h.call (h.ps.step b) (aC.of_below b)
theorem yV.pushE(h:yV W0 T Y M V B ev tv cs v I st w)(hg:w.grownBy w' ev.ownBlock){u:Value}{n:Nat}{x:B7}{hv gv lv:Value}(hn:n=v.evs.length+1)(ho:w'.ownsRow B 31 13 u n (cs++(x.cells hv gv lv).toList))(r:kS B hv gv lv x.heads x.graces x.lyr w) :
  yV W0 T Y M V B u tv (cs++(x.cells hv gv lv).toList) ⟨v.evs++[x],v.tups⟩ I st (w'.setCell ⟨V,0,none⟩ u):=by
 have lY:=h.lY;have lM:=h.lM;have lW:=h.lW;have lV:=h.vo.lV;have p1:PS T Y M (gS I) st w':=h.ps.grown hg fun k hk=>by
  have:=(h.vo.oe.lt k hk).1;obtain⟨c,hc⟩:=bA h.vo.oe hk;exact⟨by omega,by omega,c,_,hc,by decide⟩
 have hV':w'.heap[V]?=some (.cells #[ev,tv] 48 (0,0)):=(hg.block V h.vo.lt fun e=>by have:=(h.vo.oe.lt V e.symm).1;omega).trans h.vo.hV;have b1:mF W0 [Y,M] w':=h.bas.row (cs:=ev.ownBlock.toList) ⟨hg.os,hg.tape,hg.output,hg.size,fun k hk hb=>hg.block k hk fun e=>hb (by rw[<-e];simp)⟩ fun k hk=>by
  rw[Option.mem_toList]at hk;have:=(h.vo.oe.lt k hk).1;omega
 exact⟨h.io,p1.put (R:=V) h.nY h.nM hV' (by decide) (aH w' V 0 u),b1.row ((aC.refl [V] w').setCell (p:=⟨V,0,none⟩) (.inl (by simp)) u) (fun k hk=>by simp at hk;omega),h.vo.pushE hg hn ho r,h.lY,h.lM,h.nY,h.nM,h.lW⟩
theorem yV.pushT(h:yV W0 T Y M V B ev tv cs v I st w)(hg:w.grownBy w' tv.ownBlock){u:Value}{n:Nat}{x:jH}(hn:n=v.tups.length+1)(ho:w'.ownsRow B 100 4 u n (bT jH.cells v.tups++x.cells.toList)) :
  yV W0 T Y M V B ev u cs ⟨v.evs,v.tups++[x]⟩ I st (w'.setCell ⟨V,1,none⟩ u):=by
 have lY:=h.lY;have lM:=h.lM;have lW:=h.lW;have lV:=h.vo.lV;have p1:PS T Y M (gS I) st w':=h.ps.grown hg fun k hk=>by
  have:=(h.vo.ot.lt k hk).1;obtain⟨c,hc⟩:=bA h.vo.ot hk;exact⟨by omega,by omega,c,_,hc,by decide⟩
 have hV':w'.heap[V]?=some (.cells #[ev,tv] 48 (0,0)):=(hg.block V h.vo.lt fun e=>by have:=(h.vo.ot.lt V e.symm).1;omega).trans h.vo.hV;have b1:mF W0 [Y,M] w':=h.bas.row (cs:=tv.ownBlock.toList) ⟨hg.os,hg.tape,hg.output,hg.size,fun k hk hb=>hg.block k hk fun e=>hb (by rw[<-e];simp)⟩ fun k hk=>by
  rw[Option.mem_toList]at hk;have:=(h.vo.ot.lt k hk).1;omega
 exact⟨h.io,p1.put (R:=V) h.nY h.nM hV' (by decide) (aH w' V 1 u),b1.row ((aC.refl [V] w').setCell (p:=⟨V,1,none⟩) (.inl (by simp)) u) (fun k hk=>by simp at hk;omega),h.vo.pushT hg hn ho,h.lY,h.lM,h.nY,h.nM,h.lW⟩
theorem yV.setT{g n cap:Nat}(h:yV W0 T Y M V B ev (.slice (some ⟨g,0,none⟩) n cap) cs v I st w){i:Nat}{x:jH}(hx:v.tups[i]?=some x)(c:Int) :
  yV W0 T Y M V B ev (.slice (some ⟨g,0,none⟩) n cap) cs ⟨v.evs,v.tups.set i ⟨x.first,c,x.actual,x.normal⟩⟩ I st (w.setCell ⟨g,i*4+1,none⟩ (Z c)):=by
 have lY:=h.lY;have lM:=h.lM;have lW:=h.lW;have lV:=h.vo.lV;have hlo:=(h.vo.ot.lt g rfl).1;obtain⟨o,ho⟩:=bA h.vo.ot (k:=g) rfl;exact⟨h.io,h.ps.put (R:=g) (by omega) (by omega) ho (by decide) (aH w g _ _),h.bas.row ((aC.refl [g] w).setCell (p:=⟨g,i*4+1,none⟩) (.inl (by simp)) _) (fun k hk=>by simp at hk;omega),h.vo.setT hx c,h.lY,h.lM,h.nY,h.nM,h.lW⟩
end
set_option maxHeartbeats 32000000
def BT(O:yB)(T:List aX)(k:Nat)(v:fG)(I:eQ)(s:aD):(fG×eQ)×aD :=
 let a:=bD T 1 32 (s.next 1)
 let b:=bD T 1 32 (bY T ⟨#[58]⟩ a.2)
 let r:=cL O T k ⟨v.evs,v.tups++[⟨v.evs.length,0,a.1,b.1⟩]⟩ 1 0 I b.2
 ((⟨r.1.1.evs,r.1.1.tups.set v.tups.length ⟨v.evs.length,(r.1.1.evs.length:Int)-v.evs.length,a.1,b.1⟩⟩,r.1.2),bY T ⟨#[41]⟩ r.2)
theorem U5{O:yB}{T:List aX}{k:Nat}{v:fG}{least n:Int}{I:eQ}{s:aD}(hg:s.good=true)(hb:isS T ⟨#[40]⟩ s=true):cL O T (k+1) v least n I s=cL O T k (BT O T k v I s).1.1 least (n+1) (BT O T k v I s).1.2 (BT O T k v I s).2:=by
 rw[cL,if_neg (by rw[hg];decide),if_pos hb];rfl
theorem ZP{O:yB}{T:List aX}{k:Nat}{v:fG}{least n:Int}{I:eQ}{s:aD}(hg:s.good=true)(hb:isS T ⟨#[40]⟩ s=false)(he:mE T s=true) :
  cL O T (k+1) v least n I s=cL O T k ⟨v.evs++[(jM O T I s).1.1],v.tups⟩ least (n+1) (jM O T I s).1.2 (jM O T I s).2:=by
 rw[cL,if_neg (by rw[hg];decide),if_neg (by rw[hb];decide),if_pos he]
theorem U6{O:yB}{T:List aX}{k:Nat}{v:fG}{least n:Int}{I:eQ}{s:aD}(hg:s.good=true)(hb:isS T ⟨#[40]⟩ s=false)(he:mE T s=false) :
  cL O T (k+1) v least n I s=((v,I),if n<least then cC T 13 s else s):=by
 rw[cL,if_neg (by rw[hg];decide),if_neg (by rw[hb];decide),if_neg (by rw[he];decide)]
def aC4(W0:World)(T:List aX)(Y M V B k:Nat):Prop :=
 ∀(I:eQ)(st:aD)(v:fG)(least:Int)(ev tv:Value)(cs:List Value)(w:World),need T st<=k->v.evs.length+need T st<=4001->v.tups.length+need T st<=4001->yV W0 T Y M V B ev tv cs v I st w ->
  Calls Tryz.prog 35 #[.pointer (some ⟨Y,0,none⟩),.pointer (some ⟨V,0,none⟩),Z least] w fun r w'=>r=.returned (.tuple #[]) /\
   ∃ev' tv' cs',yV W0 T Y M V B ev' tv' cs' (cL aK T k v least 0 I st).1.1 (cL aK T k v least 0 I st).1.2 (cL aK T k v least 0 I st).2 w'/\VS [Y,M,V] ev tv ev' tv' w w'
theorem yV.cell0{W0:World}{T:List aX}{Y M V B:Nat}{ev tv:Value}{cs:List Value}{v:fG}{I:eQ}{st:aD}{w:World}(h:yV W0 T Y M V B ev tv cs v I st w):w.cell? ⟨V,0,none⟩=some ev:=h.vo.cells.1
theorem yV.cell1{W0:World}{T:List aX}{Y M V B:Nat}{ev tv:Value}{cs:List Value}{v:fG}{I:eQ}{st:aD}{w:World}(h:yV W0 T Y M V B ev tv cs v I st w):w.cell? ⟨V,1,none⟩=some tv:=h.vo.cells.2.1
section
variable{W0:World}{T:List aX}{Y M V B k:Nat}{ev tv:Value}{cs:List Value}{v:fG}{I:eQ}{st:aD}{w:World}
theorem ZQ(IH:aC4 W0 T Y M V B k)(hb:isS T ⟨#[40]⟩ st=true)(hn:need T st<=k+1)(hle:v.evs.length+need T st<=4001)(hlt:v.tups.length+need T st<=4001)(h:yV W0 T Y M V B ev tv cs v I st w) :
  Calls Tryz.prog 77 #[.pointer (some ⟨Y,0,none⟩),.pointer (some ⟨V,0,none⟩)] w fun r w'=>r=.returned (.tuple #[]) /\
   ∃ev' tv' cs',yV W0 T Y M V B ev' tv' cs' (BT aK T k v I st).1.1 (BT aK T k v I st).1.2 (BT aK T k v I st).2 w'/\VS [Y,M,V] ev tv ev' tv' w w':=by
 obtain⟨i9,hi9,hz9⟩:∃i,Tryz.prog.info? 100=some i/\∃z,i.zero=some z/\z.cells.size=4/\i.size=4/\i.bytes=32:=by
  have:=Tryz.infotups;cases hi:Tryz.prog.info? 100 with
  |none=>rw[hi]at this;cases this
  |some i =>
   rw[hi]at this;simp only[qqu,qv,qu]at this;obtain⟨h1,h2,h3⟩:=this;cases hz:i.zero with
   |none=>rw[hz]at h1;cases h1
   |some z=>rw[hz]at h1;simp only[qqu,qv]at h1;exact⟨i,rfl,z,hz,h1,h2,h3⟩
 obtain⟨z9,hz9,hc9,hs9,hy9⟩:=hz9;have h0:=eF hb;have n1:=eX (T:=T) (eP st) h0;have n2:=bU (T:=T) (eE T 1 32 (st.next 1)).back;have n3:=bU (T:=T) (fY T ⟨#[58]⟩ (bD T 1 32 (st.next 1)).2).back;have n4:=bU (T:=T) (eE T 1 32 (bY T ⟨#[58]⟩ (bD T 1 32 (st.next 1)).2)).back;have x1:=iX h.ps ⟨#[40]⟩;rw[show bY T ⟨#[40]⟩ st=st.next 1 by unfold bY;rw[if_pos hb]]at x1;have x2:=fun w' (h:PS T Y M (gS I) (st.next 1) w')=>jJ h 1 32;have hvn:=pH aK T k ⟨v.evs,v.tups++[⟨v.evs.length,0,(bD T 1 32 (st.next 1)).1,(bD T 1 32 (bY T ⟨#[58]⟩ (bD T 1 32 (st.next 1)).2)).1⟩]⟩ 1 0 I (bD T 1 32 (bY T ⟨#[58]⟩ (bD T 1 32 (st.next 1)).2)).2;have hva:=ZS (O:=aK) (T:=T) (k:=k) (I:=I) (evs:=v.evs) (tups:=v.tups) (x:=⟨v.evs.length,0,(bD T 1 32 (st.next 1)).1,(bD T 1 32 (bY T ⟨#[58]⟩ (bD T 1 32 (st.next 1)).2)).1⟩) (least:=1) (n:=0) (s:=(bD T 1 32 (bY T ⟨#[58]⟩ (bD T 1 32 (st.next 1)).2)).2);unfold BT;simp only;generalize st.next 1=s1 at x1 x2 n1 n2 n3 n4 hvn hva⊢;generalize bD T 1 32 s1=a at x2 n2 n3 n4 hvn hva⊢;obtain⟨na,s2⟩:=a;simp only at x2 n2 n3 n4 hvn hva⊢;have x3:=fun w' (h:PS T Y M (gS I) s2 w')=>iX h ⟨#[58]⟩;generalize bY T ⟨#[58]⟩ s2=s3 at x3 n3 n4 hvn hva⊢;have x4:=fun w' (h:PS T Y M (gS I) s3 w')=>jJ h 1 32;generalize bD T 1 32 s3=b at x4 n4 hvn hva⊢;obtain⟨nb,s4⟩:=b;simp only at x4 n4 hvn hva⊢;have x5:=fun ev tv cs w' (h':yV W0 T Y M V B ev tv cs ⟨v.evs,v.tups++[⟨v.evs.length,0,na,nb⟩]⟩ I s4 w')=>IH I s4 ⟨v.evs,v.tups++[⟨v.evs.length,0,na,nb⟩]⟩ 1 ev tv cs w' (by omega) (by simp only;omega) (by simp only[qf,qz];omega) h';generalize cL aK T k ⟨v.evs,v.tups++[⟨v.evs.length,0,na,nb⟩]⟩ 1 0 I s4=r5 at x5 hvn hva⊢;obtain⟨⟨v5,I5⟩,s5⟩:=r5;simp only[qf,qz]at x5 hvn hva⊢;have x6:=fun w' (h:PS T Y M (gS I5) s5 w')=>iX h ⟨#[41]⟩;generalize bY T ⟨#[41]⟩ s5=s6 at x6⊢;have hN:=aJ (And.intro hvn.1 hva);clear IH hvn hva hn;obtain⟨ao,ca,rfl⟩:=aL h.vo.oe;obtain⟨bo,cb,rfl⟩:=aL h.vo.ot;have lE:v.evs.length<=4001:=by omega
 have lT:v.tups.length<=4000:=by omega
 have l5:v5.evs.length<=4001:=by have:=hN.out.1;omega
 clear n1 n2 n3 n4 h0 hle hlt hb;have lY:=h.ps.lt;have lM:=h.ps.ltM;have lV:=h.vo.lt;have nYV:=h.nY;have nMV:=h.nM;go_enter Tryz.func77,Tryz.ntmps77;go_wp2_with(go_at_call 54;(with_reducible refine x1.mono ?_));rintro r w1 ⟨rfl,hS1,a1⟩;have H1:=h.call hS1 a1;have sz1:=a1.size;clear x1 hS1 h;have H1d:=H1.step (qb _ w1).drew;have c1:=H1d.cell0;have l1V:=H1.vo.lt;have c1a:(w1.alloc (.cells #[Z 0,Z 0,Z 0,Z 0] 100)).drew.cell? ⟨V,0,none⟩=some (.slice ao v.evs.length ca):=(World.cell?_alloc_lt w1 _ ⟨V,0,none⟩ l1V).trans H1.cell0;have c1b:(w1.drew.alloc (.cells #[Z 0,Z 0,Z 0,Z 0] 100)).cell? ⟨V,0,none⟩=some (.slice ao v.evs.length ca):=(World.cell?_alloc_lt w1.drew _ ⟨V,0,none⟩ l1V).trans c1;have hzt:(w1.drew.alloc aE3).heap[w1.heap.size]?=some aE3:=qd w1.drew aE3;have hnE:w1.heap.size∉[Y,M]:=by simp;omega
 go_wp2
 go_cut [4] from 5 (fun s4' wc => ∃ E, s4' = .pointer (some ⟨E, 0, none⟩) /\ w1.heap.size <= E /\ wc.heap[E]? = some (.cells #[Z v.evs.length, Z 0, Z na, Z 0] 100 (0, 0)) /\
   PS T Y M (gS I) s2 wc/\aC [Y,M] w1 wc)
 case first =>
  go_region_held3 (fun w'=>w'.cell? ⟨V,0,none⟩=some (.slice ao v.evs.length ca)) (go_keep) (first
   |(go_at_call 114;refine(x2 _ (by first|exact H1d.ps|exact H1d.ps.step ((qb _ _).alloc (qa _) _))).mono ?_;rintro r w2 ⟨rfl,hS2,a2⟩;(first |(have H2:=H1d.call hS2 a2) |(have H2:=(H1d.step ((qb _ _).alloc (qa _) aE3)).call hS2 a2;have hx:=a2.at hzt hnE;obtain⟨⟨q0,q1,q2,q3⟩,r0,r1,r2,r3⟩:=uR hx;have cf:(MA w2 w1.heap.size (Z v.evs.length) (Z 0) (Z na) (Z 0)).cell? ⟨V,0,none⟩=some (.slice ao v.evs.length ca):=(by rw[Lib.cell_of_heap ((ET (w:=w2) (X:=w1.heap.size) (Z v.evs.length) (Z 0) (Z na) (Z 0) V (by omega)).trans H2.vo.hV)];rfl);unfold MA at cf));have c2:=H2.cell0))
  ·go_wp2
   go_meet
   case rel =>
    have aw:=(aC.of_below (bs:=[Y,M]) (qb w1.heap.size w1).drew).trans a2;exact⟨w2.heap.size,rfl,aw.size,qd w2 _,hS2.step ((qb _ _).alloc (qa _) _),aw.alloc _⟩
  ·go_wp2
   go_meet
   case rel =>
    have aw:=(aC.of_below (bs:=[Y,M]) ((qb w1.heap.size w1).drew.alloc (qa _) aE3)).trans a2;exact⟨w1.heap.size,rfl,qa _,WJ _ _ _ _ hx,hS2.put (R:=w1.heap.size) (by omega) (by omega) hx (by decide) (fun j hj=>ET _ _ _ _ j hj),WK _ _ _ _ aw (qa _)⟩
 case rest =>
  obtain⟨E,rfl,hE1,hE3,hS3,a13⟩:=hcut;clear x2 H1d c1 c1a c1b hzt hnE;have x33:=x3 _ hS3;have nEY:E≠Y:=by omega
  have nEM:E≠M:=by omega
  go_wp2_with(go_at_call 54;(with_reducible refine x33.mono ?_));rintro r w4 ⟨rfl,hS4,a4⟩;have hE4:=a4.at hE3 (by simp;omega);have a14:=a13.trans a4;have x44:=x4 _ hS4;clear x3 x33 x4 hS3 hE3 a13 a4;go_wp2_with(go_at_call 114;(with_reducible refine x44.mono ?_));rintro r w5 ⟨rfl,hS5,a5⟩;have hE5:=a5.at hE4 (by simp;omega);have a15:=a14.trans a5;clear x44 hS4 hE4 a14 a5;obtain⟨⟨q0,q1,q2,q3⟩,r0,r1,r2,r3⟩:=uR hE5;have hS6:=hS5.put (R:=E) (w':=w5.setCell ⟨E,3,none⟩ (Z nb)) nEY nEM hE5 (by decide) (fun j hj=>aH w5 E 3 _ j hj);have hE6:(w5.setCell ⟨E,3,none⟩ (Z nb)).heap[E]?=some (.cells #[Z v.evs.length,Z 0,Z na,Z nb] 100 (0,0)):=Lib.heap_setCell_same (i:=3) hE5 (Z nb);have a16:=a15.setCell (p:=⟨E,3,none⟩) (.inr (by show w1.heap.size<=E;omega)) (Z nb);generalize hW6:w5.setCell ⟨E,3,none⟩ (Z nb)=w6 at hS6 hE6 a16;have H6:=H1.call hS6 a16;have cV1:=H6.cell1;have HW6:=aJ hW6;rw[<-hW6]at cV1;clear hW6 hS5 hE5 a15;go_wp2;rw[HW6.out]at cV1⊢;have H6d:=H6.step (qb _ w6).drew;have H6a:=H6.step ((qb w6.heap.size w6).drew.alloc (qa _) (.cells #[Z v.evs.length,Z 0,Z na,Z nb] 100));have lE6:=aA hE6;have lV6:=H6.vo.lt;have hB6:=H6.vo.lB;have ltB:∀k,(Value.slice bo v.tups.length cb).ownBlock=some k->k<w1.heap.size:=fun k hk=>(H1.vo.ot.lt k hk).2;have nVE:V≠E:=by have:=H1.vo.lt;omega
  have ntV:∀k,(Value.slice bo v.tups.length cb).ownBlock=some k->k≠V:=fun k hk=>by have:=(H1.vo.ot.lt k hk).1;have:=H1.vo.lV;omega
  go_cut [] from 6 (fun wc => ∃ tv', yV W0 T Y M V B (.slice ao v.evs.length ca) tv' cs ⟨v.evs, v.tups ++ [⟨v.evs.length, 0, na, nb⟩]⟩ I s4 wc /\ VS [Y, M, V] (.slice ao v.evs.length ca) (.slice bo v.tups.length cb) (.slice ao v.evs.length ca) tv' w6 wc /\
    wc.heap[E]?=some (.cells #[Z v.evs.length,Z 0,Z na,Z nb] 100 (0,0)))
  case first =>
   have cd:=H6d.cell1;have ca1:=H6a.cell1;obtain⟨⟨p0,p1,p2,p3⟩,_⟩:=uR (w:=w6.drew) hE6
   go_region_law ((refine step_append_lies _ (by rfl) _ _ _ (by rfl) B 100 i9 _ 4 32 Tryz.underlying46 hi9 hz9 hs9 hy9 hc9 (by omega) (.slice bo v.tups.length cb) v.tups.length (bT jH.cells v.tups) (by rfl) H6a.vo.ot ⟨w6.heap.size,0,none⟩ 1 1 #[Z v.evs.length,Z 0,Z na,Z nb].toList (by rfl) (by rfl) (World.news_of_block (cs:=#[Z v.evs.length,Z 0,Z na,Z nb]) (t:=100) (fr:=(0,0)) (qd _ _)) (by simp[Value.oneCell']) (by omega) (by simp only[maxLen];omega) (by omega) (by simp;omega) (w6.heap.size+1) (by simp) ?_;intro gg cap w7 hown hgrow hat hgl;have hV7:=(hgrow.block V H6a.vo.lt (fun e=>ntV V e.symm rfl)).trans H6a.vo.hV;have q1:=Lib.cell_of_heap hV7 1;have f1:=Lib.frozen_of_heap hV7 1;simp only[List.getElem?_toArray,List.getElem?_cons_succ,List.getElem?_cons_zero]at q1))
   all_goals go_wp2
   all_goals go_meet
   all_goals
    have b6a:=(qb w6.heap.size w6).drew.alloc (qa _) (.cells #[Z v.evs.length,Z 0,Z na,Z nb] 100);exact⟨_,H6a.pushT hgrow (n:=v.tups.length+1) (x:=⟨v.evs.length,0,na,nb⟩) rfl hown,
     ((VS.of_below b6a).trans (VS.growT hgrow (hat.imp id (fun e=>by rw[e];simp)))).trans (VS.set V 1 _ (by simp)),
     (aH w7 V 1 _ E nVE.symm).trans ((hgrow.block E (qqa lE6 b6a.size) (fun e=>by have:=ltB E e.symm;omega)).trans ((b6a.block E lE6).trans hE6))⟩
  case rest =>
   obtain⟨tv7,H7,V7,hE7⟩:=hcut;have xv:=x5 _ _ _ _ H7;clear x5;go_wp2_with(go_at_call 35;(with_reducible refine xv.mono ?_));rintro r w9 ⟨rfl,ev9,tv9,cs9,H9,V9⟩;have hE9:=V9.aw.at hE7 (fun hm=>by
    rcases List.mem_append.1 hm with hm|hm
    ·simp only[qqt,List.not_mem_nil,or_false]at hm;omega
    ·rcases List.mem_append.1 hm with hm|hm
     ·rw[Option.mem_toList]at hm;have:=(H1.vo.oe.lt E hm).2;omega
     ·rw[Option.mem_toList]at hm;rcases V7.ht E hm with h1|h1
      ·have:=ltB E h1;omega
      ·omega)
   have x66:=x6 _ H9.ps;have V19:=((VS.of_away (a1.more (cs:=[Y,M,V]) (by simp))).trans (VS.of_away (a16.more (cs:=[Y,M,V]) (by simp)))).trans (V7.trans V9);obtain⟨ao9,ca9,rfl⟩:=aL H9.vo.oe;have hx9:v5.tups[v.tups.length]?=some ⟨v.evs.length,0,na,nb⟩:=hN.out.2;have hi9':v.tups.length<v5.tups.length:=(qy.1 hx9).1;obtain⟨g9,cb9,rfl⟩:∃g cap,tv9=.slice (some ⟨g,0,none⟩) v5.tups.length cap:=by
    rcases H9.vo.ot.2 with⟨_,h0⟩ |⟨g,cap,cur,e1,_⟩
    ·omega
    ·exact⟨g,cap,e1⟩
   have hgE:E≠g9:=fun e=>by
    rcases(V7.trans V9).ht g9 rfl with h1|h1
    ·have:=ltB g9 h1;omega
    ·omega
   clear xv V7 V9 hE7 H7 H6 H6a H6d H1 hE6 hS6 a16 cV1;go_wp2_with(go_at_call 54;(with_reducible refine x66.mono ?_));rintro r w10 ⟨rfl,hS10,a10⟩;have hE10:=a10.at hE9 (by simp;omega);have H10:=H9.call hS10 a10;have V10:=V19.trans (VS.of_away (a10.more (cs:=[Y,M,V]) (by simp)));clear x66 x6 hS10 a10 hE9 H9 V19;have H10d:=H10.step (qb _ w10).drew;have k0:=H10d.cell0;have k1:=H10d.cell1;obtain⟨⟨p0,p1,p2,p3⟩,_⟩:=uR (w:=w10.drew) hE10;obtain⟨kc,kf⟩:=cE H10d.vo.ot (aE4 _ _ _ hx9);have kfi:=kf (v.tups.length*4+1);have hwr:IntKind.i64.wrap ((v5.evs.length:Int)-(v.evs.length:Int))=(v5.evs.length:Int)-(v.evs.length:Int):=IntWalk.i64_in _ (by omega);have hii:(v.tups.length:Int)<(v5.tups.length:Int):=by omega
   have H11:=H10.setT hx9 ((v5.evs.length:Int)-v.evs.length);have s0:=(H11.step (qb _ _).drew).cell0;have s1:=(H11.step (qb _ _).drew).cell1;have s2:(w10.setCell ⟨g9,v.tups.length*4+1,none⟩ (Z ((v5.evs.length:Int)-v.evs.length))).drew.cell? ⟨E,0,none⟩=some (Z v.evs.length):=by
    show(w10.setCell ⟨g9,v.tups.length*4+1,none⟩ (Z ((v5.evs.length:Int)-v.evs.length))).cell? ⟨E,0,none⟩=_;rw[Lib.cell_of_heap ((aH w10 g9 _ _ E hgE).trans hE10)];rfl
   go_wp2
   go_region_held3 (fun w'=>w'.cell? ⟨V,0,none⟩=some (.slice ao9 v5.evs.length ca9)/\w'.cell? ⟨V,1,none⟩=some (.slice (some ⟨g9,0,none⟩) v5.tups.length cb9)/\w'.cell? ⟨E,0,none⟩=some (Z v.evs.length)) (go_keep) (fail)
   go_wp2
   go_end0
   exact⟨rfl,_,_,_,H11.step (qb _ _).drew,(V10.trans (VS.setT (a:=⟨g9,0,none⟩) _ _)).trans (VS.of_below (qb _ _).drew)⟩
end
end Go.Proofs.YtgkhemnmcgicnaaGreatDoor
