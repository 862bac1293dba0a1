/- An own evaluator of closed runs of a program, proved sound against the model: one part of it. -/
import Derived.Test.YtgkhemnmcgicnaaGreatDoorG02
import Derived.KernelRfl
import Derived.TacticsIn
import Derived.OrdersIn
import Derived.RangeFuncSeq
import Derived.Test.YtgkhemnmcgicnaaGreatDoorG01
namespace Go.Dam
section
variable{P:Program}{E:cA}{A:Nat->Prop}{h h':List (Nat×Obj)}{nx:Nat}{w w':World}
theorem aW.mapAny(H:aW P E A h w){n:Nat}{es:Array MapEntry}{clock:Nat}(hg:aQ h n=some (.map es clock)) :
  ∃(esl:Array MapEntry)(c':Nat),oJ esl es/\(uT es clock=false->esl=es/\c'=clock)/\w.heap[E.β n]?=some (.map (esl.map (bP E)) c')/\(∀x∈esl,Sc A x.key/\Sc A x.val)/\A n:=by
 obtain⟨ha,hs,oc,hoc,hr⟩:=H.blk n _ hg;simp only[cV]at hr;split at hr
 ·rename_i hl;obtain⟨esl,c',k1,_,rfl⟩:=hr;exact⟨esl,c',k1,(fun h=>by rw[hl]at h;cases h),hoc,k1.all (p:=fun k v=>Sc A k/\Sc A v) hs,ha⟩
 ·subst hr;exact⟨es,clock,List.Perm.refl _,fun _=>⟨rfl,rfl⟩,hoc,hs,ha⟩
theorem aW.mapAt(H:aW P E A h w){n:Nat}{es:Array MapEntry}{clock:Nat}(hg:aQ h n=some (.map es clock))(hl:uT es clock=false) :
  w.heap[E.β n]?=some (.map (es.map (bP E)) clock)/\(∀x∈es,Sc A x.key/\Sc A x.val)/\A n:=by
 obtain⟨esl,c',_,h1,h2,h3,h4⟩:=H.mapAny hg;obtain⟨rfl,rfl⟩:=h1 hl;exact⟨h2,h3,h4⟩
theorem TU(s t:ByteArray):(s==t)=true↔s=t:=by
 cases s with
 |mk a =>
  cases t with
  |mk b =>
   constructor
   ·intro h;have:(a==b)=true:=h;rw[eq_of_beq this]
   ·intro h;have:a=b:=by injection h
    subst this;show(a==a)=true;exact beq_self_eq_true a
def jT(s:ByteArray):List MapEntry->Option Value
 | []=>none
 |e::r=>(match e.key with
  | .string t=>if s==t then some e.val else jT s r
  | _=>jT s r)
def GB(l:List MapEntry):Prop:=∀e∈l,∃t,e.key=.string t
theorem DK(s:ByteArray):∀{l:List MapEntry}{j:Nat},GB l->∃r,Instr.findNow .string (.string s) l j=some r/\r.map (·.2)=jT s l
 | [],j,_=>⟨none,rfl,rfl⟩
 |e::r,j,h=>by
  obtain⟨t,ht⟩:=h e (by simp);simp only[Instr.findNow,jT,ht,Instr.sameNow];cases hst:s==t with
  |true=>exact⟨some (j,e.val),rfl,by simp⟩
  |false =>
   obtain⟨r',h1,h2⟩:=DK s (l:=r) (j:=j+1) fun e' he'=>h e' (yo _ he');exact⟨r',h1,by simpa using h2⟩
theorem DL{s:ByteArray}:∀{l:List MapEntry},MK s l=true->∀e∈l,∃t,e.key=.string t/\s≠t
 | [],_,e,he=>by cases he
 |a::r,h,e,he=>by
  simp only[MK,yd]at h;rcases yk.1 he with rfl|he
  ·have:=h.1;split at this
   ·rename_i t ht;refine⟨t,ht,fun e => ?_⟩;have h2:=(TU s t).2 e;rw[h2]at this;cases this
   ·cases this
  ·exact DL h.2 e he
theorem uV:∀{l:List MapEntry},j2 l=true->GB l
 | [],_,e,he=>by cases he
 |a::r,h,e,he=>by
  simp only[j2,yd]at h;rcases yk.1 he with rfl|he
  ·have:=h.1;split at this
   ·rename_i t ht;exact⟨t,ht⟩
   ·cases this
  ·exact uV h.2 e he
theorem uW:∀{l:List MapEntry},j2 l=true->∀e∈l,∀e'∈l,e.key=e'.key->(e.key,e.val)=(e'.key,e'.val)
 | [],_,e,he=>by cases he
 |a::r,h,e,he=>by
  intro e' he' hk;simp only[j2,yd]at h;have ha:=h.1;split at ha;case h_2=>cases ha
  rename_i s hs;have cross:∀y∈r,a.key≠y.key:=by
   intro y hy hky;obtain⟨t,ht,hne⟩:=DL ha y hy;rw[hs,ht]at hky;exact hne (by injection hky)
  rcases yk.1 he with h1|h1<;>rcases yk.1 he' with h2|h2
  ·rw[h1,h2]
  ·exact absurd (by rw[<-h1];exact hk) (cross e' h2)
  ·exact absurd (by rw[<-h2];exact hk.symm) (cross e h1)
  ·exact uW h.2 e h1 e' h2 hk
theorem nF{s:ByteArray}{v:Value}:∀{l:List MapEntry},jT s l=some v->∃e∈l,e.key=.string s/\e.val=v
 | [],h=>by cases h
 |a::r,h=>by
  simp only[jT]at h;split at h
  ·rename_i t ht;split at h
   ·rename_i hst;rw[(TU s t).1 hst];exact⟨a,by simp,ht,yg h⟩
   ·obtain⟨e,h1,h2⟩:=nF h;exact⟨e,yo _ h1,h2⟩
  ·obtain⟨e,h1,h2⟩:=nF h;exact⟨e,yo _ h1,h2⟩
theorem p7{s:ByteArray}:∀{l:List MapEntry},jT s l=none->∀e∈l,e.key≠.string s
 | [],_,e,he=>by cases he
 |a::r,h,e,he=>by
  simp only[jT]at h;split at h
  ·rename_i t ht;split at h
   ·cases h
   ·rename_i hst;rcases yk.1 he with rfl|he
    ·rw[ht];intro hx;injection hx with hx;exact hst ((TU s t).2 hx.symm)
    ·exact p7 h e he
  ·rename_i hno;rcases yk.1 he with rfl|he
   ·exact hno s
   ·exact p7 h e he
theorem oJ.mem{es es':Array MapEntry}(h:oJ es es'){e:MapEntry}(he:e∈es.toList):∃e'∈es'.toList,e'.key=e.key/\e'.val=e.val:=by
 have h1:(e.key,e.val)∈es.toList.map fun x=>(x.key,x.val):=yw.2 ⟨e,he,rfl⟩;obtain⟨y,hy,e1⟩:=yw.1 (h.mem_iff.1 h1);simp only[yc]at e1;exact⟨y,hy,e1⟩
theorem oJ.symm{es es':Array MapEntry}(h:oJ es es'):oJ es' es:=List.Perm.symm h
theorem M2{s:ByteArray}{es es':Array MapEntry}(h:oJ es es')(hd:j2 es'.toList=true):jT s es.toList=jT s es'.toList:=by
 cases h1:jT s es.toList with
 |none =>
  cases h2:jT s es'.toList with
  |none=>rfl
  |some v =>
   obtain⟨e,he,hk,_⟩:=nF h2;obtain⟨e',he',hk',_⟩:=h.symm.mem he;exact absurd (hk'.trans hk) (p7 h1 e' he')
 |some v =>
  obtain⟨e,he,hk,hv⟩:=nF h1;obtain⟨e',he',hk',hv'⟩:=h.mem he;cases h2:jT s es'.toList with
  |none=>exact absurd (hk'.trans hk) (p7 h2 e' he')
  |some v2 =>
   obtain⟨e2,he2,hk2,hv2⟩:=nF h2;have:=uW hd e' he' e2 he2 (by rw[hk',hk,hk2]);simp only[yc]at this;rw[<-hv,<-hv',this.2,hv2]
theorem QM{es es':Array MapEntry}(h:oJ es es')(hd:GB es'.toList):GB es.toList:=by
 intro e he;obtain⟨e',he',hk,_⟩:=h.mem he;obtain⟨t,ht⟩:=hd e' he';exact⟨t,by rw[<-hk,ht]⟩
theorem AT{k:TypeId}(hk:P.underlying k=some .string)(b:Bool)(s:ByteArray):bH P (Instr.checkKey b 10000 k (.string s))=some ():=by
 unfold Instr.checkKey;rw[bE,dK,hk];rfl
theorem DM{k:TypeId}(hk:P.underlying k=some .string)(s:ByteArray){l:List MapEntry}(h:GB l):∃r,bH P (Instr.findKey k (.string s) l)=some r/\r.map (·.2)=jT s l:=by
 obtain⟨r,h1,h2⟩:=DK s (j:=0) h;refine⟨r,?_,h2⟩;unfold Instr.findKey;rw[bE,dK,hk];simp only[yj,h1];rfl
theorem GC{k:TypeId}{i:Value}{es esl:Array MapEntry}{clock:Nat}(h:oJ esl es)(hx:uT es clock=false->esl=es)(ho:aBL P k i es clock=true){r:Option (Nat×Value)}(hf:WU P k i es=some r) :
  ∃r',bH P (Instr.checkKey esl.isEmpty 10000 k i)=some ()/\bH P (Instr.findKey k i esl.toList)=some r'/\r'.map (·.2)=r.map (·.2):=by
 unfold aBL at ho;simp only[yu,yd,yyb]at ho;rcases ho with ho |⟨⟨h1,h2⟩,h3⟩
 ·obtain rfl:=hx ho;unfold WU at hf;rw[bE]at hf;cases hc:bH P (Instr.checkKey esl.isEmpty 10000 k i)with
  |none=>simp[hc]at hf
  |some u=>simp only[hc,yj]at hf;exact⟨r,rfl,hf,rfl⟩
 ·unfold aBJ at h1;split at h1;case h_2=>cases h1
  rename_i hk;unfold aBK at h2;split at h2;case h_2=>cases h2
  rename_i s;have hd:=uV h3;obtain⟨r1,q1,q2⟩:=DM (P:=P) hk s hd;obtain⟨r2,q3,q4⟩:=DM (P:=P) hk s (QM h hd);unfold WU at hf;rw[bE,AT hk,yj,q1]at hf;obtain rfl:=yg hf;exact⟨r2,AT hk _ _,q3,by rw[q4,q2,M2 h h3]⟩
theorem AU:∀{l:List MapEntry},(∀e∈l,mK e.key=true)->gD l=true
 | [],_=>rfl
 |a::r,h=>by
  simp only[gD,yd];exact⟨h a (by simp),AU fun e he=>h e (yo _ he)⟩
theorem GD{es esl:Array MapEntry}(h:oJ esl es)(hk:∀e∈es.toList,mK e.key=true):gD esl.toList=true :=
 AU fun e he=>by
  obtain⟨e',he',k,_⟩:=h.mem he;rw[<-k];exact hk e' he'
theorem kA{r:Nat}{es:Array MapEntry}{clock:Nat}(hg:w.heap[r]?=some (.map es clock)):(getObj r).run P w=.ok (.map es clock) w:=by
 simp[getObj,Sem.run,hg]
theorem vY{r:Nat}{es es':Array MapEntry}{clock clock':Nat}(hg:w.heap[r]?=some (.map es clock)):(setObj r (.map es' clock')).run P w=.ok () { w with heap:=w.heap.setIfInBounds r (.map es' clock') }:=by
 simp[setObj,Sem.run,hg]
theorem sQ:∀{l:List MapEntry},gD l=true->∀e∈l,mK e.key=true
 | [],_=>by simp
 |a::r,h=>by
  simp[gD]at h;intro e he;rcases yk.1 he with rfl|he
  ·exact h.1
  ·exact sQ h.2 e he
theorem DN(E:cA)(kind:TypeDesc)(k:Value):∀(l:List MapEntry)(i:Nat),gD l=true ->
  Instr.findNow kind k (l.map (bP E)) i=(Instr.findNow kind k l i).map (fun o=>o.map fun x=>(x.1,aN E x.2))
 | [],i,_=>rfl
 |e::l,i,h=>by
  simp[gD]at h;simp only[yyn,Instr.findNow,bP,iC E h.1];cases hs:Instr.sameNow kind k e.key with
  |none=>rfl
  |some b=>cases b with
   |true=>rfl
   |false=>exact DN E kind k l (i+1) h.2
theorem vZ(E:cA)(kt:TypeId)(k:Value):∀(l:List MapEntry)(i:Nat),gD l=true ->
  bH P (Instr.findAsking kt k (l.map (bP E)) i)=(bH P (Instr.findAsking kt k l i)).map (fun o=>o.map fun x=>(x.1,aN E x.2))
 | [],i,_=>rfl
 |e::l,i,h=>by
  simp[gD]at h;simp only[yyn,Instr.findAsking,bP,iC E h.1,bE];cases hq:bH P (Op.equal kt k e.key)with
  |none=>rfl
  |some b =>
   simp only[yj,tY];cases b with
   |true=>rfl
   |false=>exact vZ E kt k l (i+1) h.2
theorem DP(E:cA)(kt:TypeId)(k:Value)(l:List MapEntry)(h:gD l=true) :
  bH P (Instr.findKey kt k (l.map (bP E)))=(bH P (Instr.findKey kt k l)).map (fun o=>o.map fun x=>(x.1,aN E x.2)):=by
 unfold Instr.findKey;simp only[bE,dK];cases P.underlying kt with
 |none=>rfl
 |some d =>
  simp only[yj,DN E d k l 0 h];cases hf:Instr.findNow d k l 0 with
  |none=>exact vZ E kt k l 0 h
  |some r=>rfl
theorem DQ(kind:TypeDesc)(k:Value):∀(l:List MapEntry)(i j:Nat)(v:Value),Instr.findNow kind k l i=some (some (j,v))->∃e∈l,e.val=v
 | [],i,j,v,h=>by simp[Instr.findNow]at h
 |e::l,i,j,v,h=>by
  simp only[Instr.findNow]at h;split at h
  ·simp at h;exact⟨e,List.mem_cons_self ..,h.2⟩
  ·obtain⟨e',h1,h2⟩:=DQ kind k l (i+1) j v h;exact⟨e',yo _ h1,h2⟩
  ·simp at h
theorem wB(kt:TypeId)(k:Value):∀(l:List MapEntry)(i j:Nat)(v:Value),bH P (Instr.findAsking kt k l i)=some (some (j,v))->∃e∈l,e.val=v
 | [],i,j,v,h=>by simp[Instr.findAsking,eC]at h
 |e::l,i,j,v,h=>by
  simp only[Instr.findAsking,bE]at h;cases hq:bH P (Op.equal kt k e.key)with
  |none=>simp[hq]at h
  |some b =>
   simp only[hq,yj,tY]at h;cases b with
   |true=>simp[eC]at h;exact⟨e,List.mem_cons_self ..,h.2⟩
   |false=>obtain⟨e',h1,h2⟩:=wB kt k l (i+1) j v (by simpa using h);exact⟨e',yo _ h1,h2⟩
theorem QN(kt:TypeId)(k:Value)(l:List MapEntry)(j:Nat)(v:Value)(h:bH P (Instr.findKey kt k l)=some (some (j,v))):∃e∈l,e.val=v:=by
 unfold Instr.findKey at h;simp only[bE,dK]at h;cases hu:P.underlying kt with
 |none=>simp[hu]at h
 |some d =>
  simp only[hu,yj]at h;cases hf:Instr.findNow d k l 0 with
  |none=>rw[hf]at h;exact wB kt k l 0 j v h
  |some r=>rw[hf]at h;simp[eC]at h;subst h;exact DQ d k l 0 j v hf
theorem M3(H:aW P E A h w){t:TypeId}{x i v:Value}{ok:Bool}(hb:ML P h t x i ok=some v) :
  (Instr.lookup t (aN E x) (aN E i) ok).run P w=.ok (aN E v) w/\Sc A v:=by
 unfold ML at hb;split at hb
 ·rename_i k e hu;split at hb
  ·rename_i hpi;rw[iC E hpi];have hzr:∀z,tD P e=some z->mK z=true->∀w:World,(zeroValue e).run P w=.ok (aN E z) w:=by
    intro z hz hp w;rw[iC E hp];exact CD hz w
   have hfin:∀(y:Value)(b:Bool),Sc A y->aN E (if ok=true then .tuple #[y,.bool b]else y)=(if ok=true then .tuple #[aN E y,.bool b]else aN E y)/\Sc A (if ok=true then .tuple #[y,.bool b]else y):=by
    intro y b hy;cases ok with
    |true =>
     simp only[if_true];rw[gV,j7];refine⟨by simp[gX],?_⟩;intro x hx;simp at hx;rcases hx with rfl|rfl
     ·exact hy
     ·exact rT _ _
    |false=>exact⟨rfl,hy⟩
   split at hb
   ·split at hb
    ·rename_i z hz;simp only[yb]at hb;obtain⟨hp,hb⟩:=hb;split at hb
     ·rename_i u hck;simp only[ya]at hb;subst hb;obtain⟨f1,f2⟩:=hfin z false (qG A hp);refine⟨?_,f2⟩;rw[f1,gJ];have hfk:bH P (Instr.findKey k i [])=bH P (Instr.findKey k i []):=rfl;simp only[Instr.lookup,Sem.run_bind,run_underlying hu,Result.andThen_ok,Sem.run_pure];rw[show(#[]:Array MapEntry).isEmpty=true from rfl,eL hck];have hk0:(Instr.findKey k i ([]:List MapEntry)).run P w=.ok none w:=by
       unfold Instr.findKey;have hk:=hck;unfold Instr.checkKey at hk;rw[bE,dK]at hk;cases hku:P.underlying k with
       |none=>simp[hku]at hk
       |some d=>simp only[Sem.run_bind,run_underlying hku,Result.andThen_ok,Instr.findNow,Sem.run_pure]
      simp only[Result.andThen_ok,hk0,Sem.run_bind,hzr z hz hp,Sem.run_pure]
     ·simp at hb
    ·simp at hb
   ·rename_i n;rw[mC];split at hb
    ·rename_i es clock hg;obtain⟨esl,c',k1,k2,m1,m2,_⟩:=H.mapAny hg;simp only[Option.ite_none_left_eq_some,yb,Bool.not_eq_false]at hb;obtain⟨hask,hkp,hb⟩:=hb;have hkl:=GD k1 (sQ hkp);have hfr:=DP (P:=P) E k i esl.toList hkl;have hlist:(esl.map (bP E)).toList=esl.toList.map (bP E):=by simp
     have hemp:(esl.map (bP E)).isEmpty=esl.isEmpty:=by simp[Array.isEmpty]
     split at hb
     ·rename_i j y hf;obtain⟨r',c1,c2,c3⟩:=GC k1 (fun hl=>(k2 hl).1) hask hf;obtain⟨j',rfl⟩:∃j',r'=some (j',y):=by
       cases r' with
       |none=>simp at c3
       |some x=>obtain⟨j',y'⟩:=x;simp at c3;subst c3;exact⟨j',rfl⟩
      simp only[ya]at hb;subst hb;obtain⟨e',he1,he2⟩:=QN (P:=P) _ _ _ _ _ c2;have hy:Sc A y:=by rw[<-he2];exact(m2 e' (by simpa using he1)).2
      obtain⟨f1,f2⟩:=hfin y true hy;refine⟨?_,f2⟩;rw[f1];rw[c2]at hfr;simp only[Instr.lookup,Sem.run_bind,run_underlying hu,Result.andThen_ok,kA m1,Sem.run_pure,hemp,eL c1,hlist,eL hfr,yr]
     ·rename_i hf;obtain⟨r',c1,c2,c3⟩:=GC k1 (fun hl=>(k2 hl).1) hask hf;obtain rfl:r'=none:=by
       cases r' with
       |none=>rfl
       |some x=>simp at c3
      split at hb
      ·rename_i z hz;simp only[yb,ya]at hb;obtain⟨hp,rfl⟩:=hb;obtain⟨f1,f2⟩:=hfin z false (qG A hp);refine⟨?_,f2⟩;rw[f1];rw[c2]at hfr;simp only[Instr.lookup,Sem.run_bind,run_underlying hu,Result.andThen_ok,kA m1,Sem.run_pure,hemp,eL c1,hlist,eL hfr,Option.map_none,hzr z hz hp]
      ·simp at hb
     ·simp at hb
    ·simp at hb
   ·simp at hb
  ·simp at hb
 ·simp at hb
theorem DS(k v:Value):∀(l:List MapEntry)(j:Nat),B9 l j k v=l.modify j fun e=>{ e with key:=k,val:=v }
 | [],j=>by cases j<;>rfl
 |e::r,0=>by simp[B9,List.modify]
 |e::r,n+1=>by simp[B9,DS k v r n]
theorem K9:∀(l:List MapEntry)(j:Nat),(((l[j]?).map (·.key)).getD undef)=PW l j
 | [],j=>by cases j<;>rfl
 |e::r,0=>rfl
 |e::r,n+1=>by simpa [PW]using K9 r n
theorem zL(a b:Nat):Nat.blt a b=false↔b<=a:=by
 rw[<-Bool.not_eq_true];constructor
 ·intro h;exact Nat.le_of_not_lt fun hlt=>h (Nat.ble_eq_true_of_le hlt)
 ·intro h hlt;have:=ye hlt;omega
theorem DT:∀(l:List MapEntry)(j:Nat)(k v:Value),(B9 l j k v).length=l.length
 | [],j,_,_=>by cases j<;>rfl
 |e::r,0,_,_=>rfl
 |e::r,n+1,k,v=>by simp[B9,DT r n k v]
theorem uX{S S':St}(H:aW P E A S.heap w){t:TypeId}{m i v:Value}(hb:zF P S t m i v=some S')(hsc:Sc A v) :
  ∃w',(Instr.mapUpdate t (aN E m) (aN E i) (aN E v)).run P w=.ok () w'/\bB P E A S.heap S.next w E S'.heap S'.next w':=by
 unfold zF at hb;split at hb
 ·rename_i k e hu;split at hb
  ·rename_i hpi;rw[iC E hpi];split at hb
   ·rename_i n;rw[mC];split at hb
    ·rename_i es clock hg;simp only[Option.ite_none_left_eq_some,yb,Bool.not_eq_true]at hb;obtain⟨hloose,hkp,hb⟩:=hb;obtain⟨m1,m2,mA⟩:=H.mapAt hg hloose;have hsz:=(zL clock es.size).1 hloose;have hfr:=DP (P:=P) E k i es.toList hkp;have hck:∀r,bH P (do Instr.checkKey false 10000 k i;Instr.findKey k i es.toList)=some r->bH P (Instr.checkKey false 10000 k i)=some ()/\bH P (Instr.findKey k i es.toList)=some r:=by
      intro r hr;rw[bE]at hr;cases hc:bH P (Instr.checkKey false 10000 k i)with
      |none=>simp[hc]at hr
      |some u=>simp only[hc,yj]at hr;exact⟨rfl,hr⟩
     have hlist:(es.map (bP E)).toList=es.toList.map (bP E):=by simp
     have hlt:E.β n<w.heap.size:=(yz.1 m1).1
     have hpost : ∀ (es' : Array MapEntry) (clock' : Nat), (∀ x ∈ es', Sc A x.key /\ Sc A x.val) -> uT es' clock' = false ->
       bB P E A S.heap S.next w E (u9 S.heap n (.map es' clock')) S.next { w with heap:=w.heap.setIfInBounds (E.β n) (.map (es'.map (bP E)) clock') }:=by
      intro es' clock' hes hl';refine bB.put (m:=n) (b:=E.β n) (o':=.map es' clock') (oc':=.map (es'.map (bP E)) clock') H (yh _) rfl (fun _ _=>⟨rfl,rfl,rfl⟩) (fun _ _=>rfl) (fun k _ hk=>by omega) (.inl mA) rfl ?_
       (fun x hx=>⟨oC (hes x hx).1,oC (hes x hx).2⟩) (by simp only[cV,hl'];simp) ?_ ?_ (by simp) rfl rfl rfl (.inl ⟨n,_,hg,rfl⟩)
      ·intro k x hk;rcases tF _ _ _ _ _ hk with⟨rfl,rfl⟩ |⟨hne,hgk⟩
       ·exact .inl ⟨rfl,rfl⟩
       ·exact .inr ⟨hne,hgk,fun he=>hne (H.inj k n _ _ hgk hg he)⟩
      ·simp[hlt]
      ·intro j hj _;simp[Ne.symm hj]
     split at hb
     ·rename_i j y hf;obtain⟨c1,c2⟩:=hck _ hf;simp only[yb,ya,yd]at hb;obtain⟨⟨hsame,hjlt⟩,rfl⟩:=hb;have hjlt:j<es.size:=ye hjlt;have hes':∀x∈(B9 es.toList j i v).toArray,Sc A x.key/\Sc A x.val:=by
       intro x hx;have hx:x∈B9 es.toList j i v:=by simpa using hx
       have key:∀(l:List MapEntry)(j:Nat),x∈B9 l j i v->x∈l\/(Sc A x.key/\Sc A x.val):=by
        intro l
        induction l with
        |nil=>intro j h;cases j<;>simp[B9]at h
        |cons a r ih =>
         intro j h;cases j with
         |zero =>
          simp only[B9,yk]at h;rcases h with rfl|h
          ·exact .inr ⟨qG A hpi,hsc⟩
          ·exact .inl (yo _ h)
         |succ j =>
          simp only[B9,yk]at h;rcases h with rfl|h
          ·exact .inl (List.mem_cons_self ..)
          ·exact(ih j h).imp (yo _) id
       rcases key _ _ hx with h|h
       ·exact m2 x (by simpa using h)
       ·exact h
      refine⟨_,?_,hpost _ clock hes' ((zL _ _).2 (by simp[DT];exact hsz))⟩;rw[c2]at hfr;have hold:PW es.toList j=(((es.map (bP E))[j]?).map (·.key)).getD i:=by
       have hj:∃e',es.toList[j]?=some e':=⟨es[j],by simp[hjlt]⟩;obtain⟨e',he'⟩:=hj;rw[<-K9,he'];have hpk:=sQ hkp e' (yyd he');have:es[j]?=some e':=by simpa using he'
       simp[this,bP,iC E hpk]
      simp only[Instr.mapUpdate,Sem.run_bind,run_underlying hu,Result.andThen_ok,kA m1,eL c1,hlist,eL hfr,yr];rw[<-hold];simp only[Instr.keyThatStays,hsame,if_true,Sem.run_pure,Result.andThen_ok,vY m1]
      congr 3
      apply congrArg (fun x=>Obj.map x clock);apply yl;apply List.ext_getElem?;intro q;simp only[yyj,yyl,DS];rw[Array.getElem?_toList,Array.getElem?_modify,List.getElem?_modify];by_cases hq:j=q
      ·subst hq;simp;cases es[j]? with
       |none=>rfl
       |some x=>simp[bP,iC E hpi]
      ·simp[hq]
     ·rename_i hf;obtain⟨c1,c2⟩:=hck _ hf;simp only[ya]at hb;subst hb;refine⟨_,?_,hpost (es.push { key:=i,val:=v,born:=clock }) (clock+1) ?_ ((zL _ _).2 (by simp;exact hsz))⟩
      ·rw[c2]at hfr;simp only[Instr.mapUpdate,Sem.run_bind,run_underlying hu,Result.andThen_ok,kA m1,eL c1,hlist,eL hfr,Option.map_none,vY m1];simp[Array.map_push,bP,iC E hpi]
      ·intro x hx;rcases Array.mem_push.1 hx with hx|rfl
       ·exact m2 x hx
       ·exact⟨qG A hpi,hsc⟩
     ·simp at hb
    ·simp at hb
   ·simp at hb
  ·simp at hb
 ·simp at hb
theorem dY{r:Nat}{o:Obj}(hg:w.heap[r]?=some o)(hc:∀c e f,o≠.cells c e f):(getObj r).run P w=.ok o w:=by
 cases o<;>first |(simp only[getObj,Sem.run,hg];done)|exact absurd rfl (hc _ _ _)
theorem wC{r:Nat}{o o':Obj}(hg:w.heap[r]?=some o)(hc:∀c e f,o≠.cells c e f):(setObj r o').run P w=.ok () { w with heap:=w.heap.setIfInBounds r o' }:=by
 cases o<;>first |(simp only[setObj,Sem.run,hg];done)|exact absurd rfl (hc _ _ _)
theorem bB.turnAt{n:Nat}{o o' oc':Obj}(H:aW P E A h w)(hg:aQ h n=some o)(hA:∀k,A k->¬(nx<=k/\k<nx))(hsc:yJ A o')(hr:cV P E n o' oc') :
  bB P E A h nx w E (u9 h n o') nx { w with heap:=w.heap.setIfInBounds (E.β n) oc' }:=by
 obtain⟨ha,_,oc,hoc,_⟩:=H.blk n o hg;have hlt:E.β n<w.heap.size:=(yz.1 hoc).1;refine bB.put (m:=n) (b:=E.β n) (o':=o') (oc':=oc') H (yh _) rfl (fun _ _=>⟨rfl,rfl,rfl⟩) (fun _ _=>rfl) hA (.inl ha) rfl ?_ (mM (fun _ hn=>Or.inl hn) o' hsc) hr (by simp[hlt]) ?_ (by simp) rfl rfl rfl (.inl ⟨n,_,hg,rfl⟩)
 ·intro k x hk;rcases tF _ _ _ _ _ hk with⟨rfl,rfl⟩ |⟨hne,hgk⟩
  ·exact .inl ⟨rfl,rfl⟩
  ·exact .inr ⟨hne,hgk,fun he=>hne (H.inj k n _ _ hgk hg he)⟩
 ·intro j hj _;simp[Ne.symm hj]
theorem aBQ(E:cA)(es:Array MapEntry)(seen:Array Nat):(es.map (bP E)).filter (fun e=>!seen.contains e.born)=((WV es.toList seen.toList).map (bP E)).toArray:=by
 apply yl;simp only[Array.toList_filter,yyj,WV,List.filter_map]
 congr 1
 apply List.filter_congr;intro x _;simp[bP,Function.comp]
theorem YR{es:List MapEntry}{seen:List Nat}{l:List MapEntry}(hl:WV es seen=l):∀e∈l,e∈es:=by
 intro e he;subst hl;exact(List.mem_filter.1 he).1
theorem QP{S S':St}(H:aW P E A S.heap w){t:TypeId}{x v:Value}(hb:TG P S t x=some (v,S'))(hA:∀n,A n->¬(S.next<=n/\n<S'.next)) :
  ∃E' w',(Instr.range t (aN E x)).run P w=.ok (aN E' v) w'/\bB P E A S.heap S.next w E' S'.heap S'.next w'/\Sc (fun n=>A n\/(S.next<=n/\n<S'.next)) v:=by
 have fin : ∀ (o oc : Obj), yJ A o -> (∀ E' : cA, kR A E E' -> E'.σ S.next = 0 -> cV P E' S.next o oc) -> (eR S o) = (S.next, S') -> v = .pointer (some ⟨S.next, 0, none⟩) ->
   (Instr.range t (aN E x)).run P w=.ok (.pointer (some ⟨w.heap.size,0,none⟩)) (w.alloc oc) ->
   ∃E' w',(Instr.range t (aN E x)).run P w=.ok (aN E' v) w'/\bB P E A S.heap S.next w E' S'.heap S'.next w'/\Sc (fun n=>A n\/(S.next<=n/\n<S'.next)) v:=by
  intro o oc hs hrel hn hv hrun;simp only[eR,yc,true_and]at hn;subst hn hv;have hag:kR A E (E.bind S.next w.heap.size 0 0):=by
   intro n hn;have:n≠S.next:=by rintro rfl;exact hA _ hn ⟨yh _,by simp⟩
   simp[cA.bind,this]
  refine⟨E.bind S.next w.heap.size 0 0,w.alloc oc,?_,?_,by rw[oG];exact .inr ⟨yh _,by simp⟩⟩
  ·rw[hrun,cT];simp[cA.addr,cA.bind]
  ·exact bB.new H hA ⟨yh _,by omega⟩ hs (hrel _ hag (by simp[cA.bind])) rfl rfl rfl rfl
 unfold TG at hb;split at hb
 ·rename_i s hu;simp only[eR,ya,yc]at hb;obtain⟨rfl,rfl⟩:=hb;refine fin (.stringIter s 0) (.stringIter s 0) trivial (fun _ _ h0=>⟨h0,rfl⟩) rfl rfl ?_;rw[eJ];simp[Instr.range,run_underlying hu]
 ·rename_i hu;simp only[eR,ya,yc]at hb;obtain⟨rfl,rfl⟩:=hb;refine fin (.mapIter none 0 #[] 0) (.mapIter none 0 #[] 0) (by intro n hn;cases hn) (fun _ _ h0=>⟨h0,rfl⟩) rfl rfl ?_;rw[gJ];simp[Instr.range,run_underlying hu]
 ·rename_i n hu;split at hb
  ·rename_i es clock hg;simp only[eR,Option.ite_none_left_eq_some,ya,yc,Bool.not_eq_true]at hb;obtain⟨hloose,rfl,rfl⟩:=hb;obtain⟨m1,_,mA⟩:=H.mapAt hg hloose;refine fin (.mapIter (some n) clock #[] clock) (.mapIter (some (E.β n)) clock #[] clock) (by intro k hk;obtain rfl:=yg hk;exact mA) (fun E' hag h0=>⟨h0,by simp[(hag n mA).1]⟩) rfl rfl ?_;rw[mC];simp[Instr.range,run_underlying hu,dY m1 (by simp)]
  ·simp at hb
 ·simp at hb
theorem TV{S S':St}(H:aW P E A S.heap w){it v:Value}{b:Bool}{ty:TypeId}(hb:aBM S it b=some (v,S'))(hA:∀k,A k->¬(S.next<=k/\k<S.next)) :
  ∃w',(Instr.next (aN E it) b ty).run P w=.ok (aN E v) w'/\bB P E A S.heap S.next w E S'.heap S'.next w'/\Sc A v:=by
 have pX:aN E (.tuple #[.bool false])=.tuple #[.bool false]/\Sc A (.tuple #[.bool false]):=by
  refine⟨by rw[gV];simp[gX],by rw[j7];intro x hx;simp at hx;subst hx;exact rT _ _⟩
 unfold aBM at hb;split at hb;case h_2=>simp at hb
 rename_i r;split at hb
 ·
  rename_i s pos hg;obtain⟨_,_,oc,hoc,hr⟩:=H.blk r _ hg;obtain⟨h0,rfl⟩:=hr;have hp:aN E (.pointer (some ⟨r,0,none⟩))=.pointer (some ⟨E.β r,0,none⟩):=by rw[cT];simp[cA.addr,h0]
  rw[hp];split at hb
  ·rename_i hlt;have hlt:pos<s.size:=ye hlt;simp only[ya,yc]at hb;obtain⟨rfl,rfl⟩:=hb;refine⟨_,?_,bB.turnAt H hg hA trivial ⟨h0,rfl⟩,?_⟩
   ·rw[gV];simp[Instr.next,dY hoc (by simp),wC hoc (by simp),hlt,gX,goInt,fZ]
   ·rw[j7];intro x hx;simp[goInt]at hx;rcases hx with rfl|rfl|rfl
    ·exact rT _ _
    ·exact qS _ _ _
    ·exact qS _ _ _
  ·rename_i hlt;have hlt:¬pos<s.size:=fun h=>hlt (Nat.ble_eq_true_of_le h);simp only[ya,yc]at hb;obtain⟨rfl,rfl⟩:=hb;refine⟨w,?_,bB.refl H,pX.2⟩;rw[pX.1];simp[Instr.next,dY hoc (by simp),hlt]
 ·
  rename_i x1 x2 x3 hg;obtain⟨_,_,oc,hoc,hr⟩:=H.blk r _ hg;obtain⟨h0,rfl⟩:=hr;have hp:aN E (.pointer (some ⟨r,0,none⟩))=.pointer (some ⟨E.β r,0,none⟩):=by rw[cT];simp[cA.addr,h0]
  simp only[ya,yc]at hb;obtain⟨rfl,rfl⟩:=hb;refine⟨w,?_,bB.refl H,pX.2⟩;rw[hp,pX.1];simp[Instr.next,dY hoc (by simp)]
 ·
  rename_i m since seen last hg;obtain⟨_,hsc,oc,hoc,hr⟩:=H.blk r _ hg;obtain⟨h0,rfl⟩:=hr;have hp:aN E (.pointer (some ⟨r,0,none⟩))=.pointer (some ⟨E.β r,0,none⟩):=by rw[cT];simp[cA.addr,h0]
  rw[hp];split at hb;case h_2=>simp at hb
  rename_i es clock hgm;split at hb
  ·simp at hb
  rename_i hloose;obtain⟨m1,m2,mA⟩:=H.mapAt hgm (by simpa using hloose);split at hb
  ·simp at hb
  rename_i hcond;have hcond':(!seen.isEmpty && !(es.map (bP E)).isEmpty && (es.map (bP E)).all (fun e=>decide (e.born ≥ last)))=false:=by
   have he:(es.map (bP E)).isEmpty=es.isEmpty:=by simp[Array.isEmpty]
   have ha:(es.map (bP E)).all (fun e=>decide (e.born ≥ last))=es.all (fun e=>decide (e.born ≥ last)):=by
    rw[Array.all_map];rfl
   rw[he,ha];simpa using hcond
  have hl:=aBQ E es seen;split at hb
  ·rename_i hl0;simp only[ya,yc]at hb;obtain⟨rfl,rfl⟩:=hb;rw[hl0]at hl;refine⟨w,?_,bB.refl H,pX.2⟩;rw[pX.1];simp only[yr]at hoc;simp only[Instr.next,Sem.run_bind,dY hoc (by simp),dY m1 (by simp),Result.andThen_ok,hcond',hl];simp[choose,Sem.run,Question.forced]
  ·rename_i e hl1;simp only[yb,ya,yc]at hb;obtain⟨hlt,rfl,rfl⟩:=hb;have hlt:e.born<since:=ye hlt;have he:e∈es:=by simpa using YR hl1 e (by simp)
   rw[hl1]at hl;simp only[yr]at hoc;refine⟨_,?_,bB.turnAt (o':=.mapIter (some m) since (seen.push e.born) clock) H hg hA hsc ⟨h0,rfl⟩,?_⟩
   ·rw[gV];simp only[Instr.next,Sem.run_bind,dY hoc (by simp),dY m1 (by simp),Result.andThen_ok,hcond',hl];simp[choose,Sem.run,Question.forced,bP,hlt,gX];rw[wC hoc (by simp)];rfl
   ·rw[j7];intro x hx;simp at hx;rcases hx with rfl|rfl|rfl
    ·exact rT _ _
    ·exact(m2 e he).1
    ·exact(m2 e he).2
  ·simp at hb
 ·simp at hb
theorem AV(E:cA)(b:Nat):∀(l:List MapEntry),(l.map (bP E)).find? (fun x=>x.born==b)=(qN b l).map (bP E)
 | []=>rfl
 |e::r=>by
  simp only[yyn,List.find?_cons,qN,bP];by_cases h:e.born=b
  ·simp[h,bP]
  ·have:(e.born==b)=false:=by simpa using h
   rw[this];simp only[Nat.beq_eq,h,if_false];exact AV E b r
theorem AW{b:Nat}:∀{l:List MapEntry}{e:MapEntry},qN b l=some e->e∈l
 | [],_,h=>by simp[qN]at h
 |a::r,e,h=>by
  simp only[qN]at h;split at h
  ·rw[yg h];simp
  ·exact yo _ (AW h)
theorem LA:∀(l:List Nat),WW l=l.getLast?
 | []=>rfl
 | [x]=>rfl
 |x::y::r=>by
  show WW (y::r)=_;rw[LA (y::r)];simp
theorem QQ{S:St}(H:aW P E A S.heap w){it v:Value}(hb:TH S it=some v) :
  (Instr.entry (aN E it)).run P w=.ok (aN E v) w/\Sc A v:=by
 unfold TH at hb;split at hb;case h_2=>simp at hb
 rename_i r;split at hb;case h_2=>simp at hb
 rename_i m since seen last hg;obtain⟨_,hsc,oc,hoc,hr⟩:=H.blk r _ hg;obtain⟨h0,rfl⟩:=hr;have hp:aN E (.pointer (some ⟨r,0,none⟩))=.pointer (some ⟨E.β r,0,none⟩):=by rw[cT];simp[cA.addr,h0]
 rw[hp];split at hb;case h_2=>simp at hb
 rename_i es clock b hgm hlast;simp only[yb,yd,yyb]at hb;obtain⟨⟨hc,hloose⟩,hb⟩:=hb;obtain⟨m1,m2,mA⟩:=H.mapAt hgm hloose;have hc:=yf hc;split at hb;case h_2=>simp at hb
 rename_i e he;simp only[ya]at hb;subst hb;simp only[yr]at hoc;have hback:seen.back?=some b:=by rw[<-Array.getLast?_toList,<-LA,hlast]
 have hfind:(es.map (bP E)).find? (fun x=>x.born==b)=some (bP E e):=by
  rw[<-Array.find?_toList,yyj,AV,he];rfl
 have hmem:e∈es:=by simpa using AW he
 refine⟨?_,?_⟩
 ·rw[gV];simp[Instr.entry,dY hoc (by simp),dY m1 (by simp),hback,hc,hfind,bP]
 ·rw[j7];intro x hx;simp at hx;rcases hx with rfl|rfl
  ·exact(m2 e hmem).1
  ·exact(m2 e hmem).2
end
def vD(P:Program)(E:cA)(A:Nat->Prop):Prop:=∀g,g<P.globals.size->E.β (2*g)=g/\E.σ (2*g)=0/\A (2*g)
structure Tm(E:cA)(A:Nat->Prop)(tm:List Value)(a:Act):Prop where
 tmps:a.tmps=(tm.map (aN E)).toArray
 sc:∀x∈tm,Sc A x
def rd(r:Option Nat):Fence:={ Fence.wide with round:=r }
theorem AX(r:Option Nat):(rd r).depth.isSome=true->1<=0:=fun h=>by simp[rd,Fence.wide]at h
theorem GE{r:Option Nat}{P:Program}{f:FuncId}{args:Array Value}{w:World}{R:Ending->World->Prop}(h:Calls P f args w R):CallsIn (rd r) 0 P f args w R :=
 (callsIn_wide (n:=0)).2 h
theorem aBR{r:Option Nat}{P:Program}{l:Nat}{f:FuncId}{tmps:Array Value}{assign body:Code}{w:World}{R:Ending->World->Prop}(h:RoundIn Fence.wide 0 P l f tmps assign body w R):RoundIn (rd r) 0 P l f tmps assign body w R:=h
def aBS(P:Program)(E:cA)(F:Fn)(args:Array Value)(w:World)(R:Ending->World->Prop):Prop :=
 match F with
 | .func g=>Calls P g args w R
 | .yield l=>YieldAt Fence.wide 0 P (E.β l) args w R
 | _=>False
def iN(P:Program)(callF:Fn->List Value->St->Option (Value×St)):Prop :=
 ∀f args S v S',callF f args S=some (v,S')->∀(E:cA)(A:Nat->Prop)(w:World),vD P E A->S.next % 2=0->(∀x∈args,Sc A x)->aW P E A S.heap w ->
  (∀n,A n->¬(S.next<=n/\n<S'.next)) ->
  aBS P E f (args.map (aN E)).toArray w fun e w'=>∃E',e=.returned (aN E' v)/\bB P E A S.heap S.next w E' S'.heap S'.next w'/\Sc (fun n=>A n\/(S.next<=n/\n<S'.next)) v
section
variable{P:Program}{E:cA}{A:Nat->Prop}{tm:List Value}{a:Act}{w:World}
theorem AY:∀(l:List Value)(n:Nat),xM l n=l[n]?.getD undef
 | [],_=>rfl
 | _::_,0=>rfl
 | _::r,n+1=>by simpa [xM]using AY r n
theorem AZ(ht:Tm E A tm a)(hg:vD P E A){x:Operand}(hx:tC P x=true):a.eval x=aN E (aE tm x)/\Sc A (aE tm x):=by
 cases x with
 |tmp t =>
  simp only[Act.eval,aE,AY,ht.tmps];cases hv:tm[t]? with
  |none=>simp[hv,kJ,oW]
  |some v=>simp[hv];exact ht.sc v (yyd hv)
 |const v=>exact⟨(kK E hx).symm,vU A hx⟩
 |global g =>
  obtain⟨h1,h2,h3⟩:=hg g (ye hx);simp only[Act.eval,aE,cT,oG,cA.addr,h1,h2];exact⟨trivial,h3⟩
 |func f =>
  simp only[Act.eval,aE,gW,pZ];exact⟨by simp,by simp,by simp⟩
theorem qV{o:Oper}{r:Option Nat}{K:Act->World->Prop}{Q:Exit->Act->World->Prop}(hd:∀c,o.op≠.defer c)(h:o.uponIn (rd r) 0 P a K Q ((execOp a.eval o).run P w)):o.wpIn (rd r) 0 P a w K Q :=
 ⟨fun _ _=>trivial,by rw[Oper.semAt_eq _ _ _ hd];exact h⟩
theorem upon_value{o:Oper}{r:Option Nat}{K:Act->World->Prop}{Q:Exit->Act->World->Prop}{v:Value}{w':World}(hd:∀c,o.op≠.defer c)(hr:(execOp a.eval o).run P w=.ok (.value v) w')(hK:K (a.put o.dst v) w'):o.wpIn (rd r) 0 P a w K Q :=
 qV hd (by rw[hr];exact hK)
theorem YS{o:Oper}{r:Option Nat}{K:Act->World->Prop}{Q:Exit->Act->World->Prop}{w':World}(hd:∀c,o.op≠.defer c)(hr:(execOp a.eval o).run P w=.ok .skip w')(hK:K (a.put o.dst undef) w'):o.wpIn (rd r) 0 P a w K Q :=
 qV hd (by rw[hr];exact hK)
def cU(P:Program)(E:cA)(A:Nat->Prop)(o:Oper)(a:Act)(h:List (Nat×Obj))(nx:Nat)(w:World)(v:Value)(h':List (Nat×Obj))(nx':Nat):Prop :=
 (∀c,o.op≠.defer c)->∀(r:Option Nat)(K:Act->World->Prop)(Q:Exit->Act->World->Prop),
  (∀E' w',bB P E A h nx w E' h' nx' w'->Sc (fun n=>A n\/(nx<=n/\n<nx')) v->K (a.put o.dst (aN E' v)) w')->o.wpIn (rd r) 0 P a w K Q
theorem cU.value{o:Oper}{h h':List (Nat×Obj)}{nx nx':Nat}{v:Value}{E':cA}{w':World}(hr:(execOp a.eval o).run P w=.ok (.value (aN E' v)) w')(hp:bB P E A h nx w E' h' nx' w')(hs:Sc (fun n=>A n\/(nx<=n/\n<nx')) v):cU P E A o a h nx w v h' nx' :=
 fun hd _ _ _ hK=>upon_value hd hr (hK E' w' hp hs)
theorem cU.still{o:Oper}{h:List (Nat×Obj)}{nx:Nat}{v:Value}(H:aW P E A h w)(hr:(execOp a.eval o).run P w=.ok (.value (aN E v)) w)(hs:Sc A v):cU P E A o a h nx w v h nx :=
 cU.value hr (bB.refl H) (oC hs)
theorem cU.skip{o:Oper}{h h':List (Nat×Obj)}{nx nx':Nat}{E':cA}{w':World}(hr:(execOp a.eval o).run P w=.ok .skip w')(hp:bB P E A h nx w E' h' nx' w'):cU P E A o a h nx w undef h' nx' :=
 fun hd _ _ _ hK=>YS hd hr (by have:=hK E' w' hp (oW _);rw[kJ]at this;exact this)
theorem YT{o:Oper}{v:Value}(hops:∀x∈o.op.operands,a.eval x=aE tm x)(hsel:∀cs b,o.op≠.select cs b)(hb:mU P tm o=some v)(w:World) :
  (execOp a.eval o).run P w=.ok (.value v) w/\plain v=true:=by
 unfold mU at hb;split at hb
 ·rename_i v' hp;simp only[yb,ya]at hb;obtain⟨h1,rfl⟩:=hb;rw[execOp_congr o hsel hops];exact⟨eL hp w,h1⟩
 ·simp at hb
theorem cU.pure{o:Oper}{h:List (Nat×Obj)}{nx:Nat}{v:Value}(H:aW P E A h w)(hops:∀x∈o.op.operands,a.eval x=aN E (aE tm x))(hpl:∀x∈o.op.operands,plain (aE tm x)=true)
  (hsel:∀cs b,o.op≠.select cs b) (hb:mU P tm o=some v):cU P E A o a h nx w v h nx:=by
 obtain⟨h1,h2⟩:=YT (P:=P) (a:=a) (tm:=tm) (fun x hx=>by rw[hops x hx,kK E (hpl x hx)]) hsel hb w;exact cU.still H (by rw[h1,kK E h2]) (vU A h2)
theorem LB{ps:Array (Nat×Operand)}(hops:∀p∈ps,a.eval p.2=aN E (aE tm p.2)):(ps.map fun(i,x)=>(i,a.eval x))=(mL tm ps).map (KA E):=by
 apply yl;simp only[mL,yyj,List.map_map];refine yp fun p hp => ?_;obtain⟨i,x⟩:=p;simp only[Function.comp_apply,KA];rw[hops (i,x) (by simpa using hp)]
theorem LC{ps:Array (Nat×Operand)}(hsc:∀p∈ps,Sc A (aE tm p.2)):∀p∈mL tm ps,Sc A p.2:=by
 intro p hp;simp only[mL,yyk,yw]at hp;obtain⟨q,hq,rfl⟩:=hp;exact hsc q (by simpa using hq)
theorem xW{xs:Array Operand}(hops:∀x∈xs,a.eval x=aN E (aE tm x)):xs.map a.eval=((xs.toList.map (aE tm)).map (aN E)).toArray:=by
 apply yl;simp only[yyj,List.map_map];exact yp fun x hx=>hops x (by simpa using hx)
theorem EY{c:Call}{b:Builtin}{t:TypeId}(hc:c.callee=.builtin b)(hops:∀x∈c.args,a.eval x=aN E (aE tm x)) :
  resolve a.eval c t=pure { target:=.builtin b c.argTypes t (c.args.map fun | .const _=>true | _=>false),args:=((c.args.toList.map (aE tm)).map (aN E)).toArray }:=by
 unfold resolve;rw[xW hops,hc];rfl
theorem KE{c:Call}{f:Operand}{t:TypeId}{l:Nat}(hc:c.callee=.value f)(hf:a.eval f=.func (.yield l) #[] #[])(hops:∀x∈c.args,a.eval x=aN E (aE tm x)) :
  resolve a.eval c t=pure { target:=.fn (.yield l) #[],args:=((c.args.toList.map (aE tm)).map (aN E)).toArray }:=by
 unfold resolve;rw[xW hops,hc];simp[hf,Deferred.ofValue]
theorem yL {c : Call} {f : Operand} {t : TypeId} {g : FuncId} {first captured : Array Value} (hc : c.callee = .value f) (hf : a.eval f = .func (.func g) first captured) (hops : ∀ x ∈ c.args, a.eval x = aN E (aE tm x)) :
  resolve a.eval c t=pure { target:=.fn (.func g) captured,args:=first++((c.args.toList.map (aE tm)).map (aN E)).toArray }:=by
 unfold resolve;rw[xW hops,hc];simp only[hf,Deferred.ofValue]
def M4(fn:Func):Bool:=!(fn.name=="runtime.NumGoroutine")
theorem jU{g:FuncId}{fn:Func}{args:Array Value}(hg:P.funcs[g]?=some fn)(hb:fn.body.isSome=true)(hn:M4 fn=true)(w:World) :
  (callFunc g args).run P w=.ok (.enter g args) w:=by
 have hb':fn.body.isNone=false:=by cases h:fn.body<;>simp_all
 have hn':(fn.name=="runtime.NumGoroutine")=false:=by simpa [M4]using hn
 simp only[callFunc,Sem.run_bind,run_program,Result.andThen_ok,hg,hn',hb',ym,if_false,Sem.run_pure]
theorem mZ{α:Type}{l:List (String×α)}{k:String}(h:(l.lookup k).isNone=true):l.lookup k=none:=by simpa using h
theorem KF:Extern.allNextRows.lookup "internal/abi.NoEscape"=none:=mZ (by kernel_rfl)
theorem GF:Extern.allNextRows.lookup ""=none:=mZ (by kernel_rfl)
theorem CK:Extern.allGenericRows.lookup "internal/abi.NoEscape"=none:=mZ (by kernel_rfl)
theorem GG:Extern.allTypedRows.lookup "internal/abi.NoEscape"=none:=mZ (by kernel_rfl)
theorem M5:Extern.allRows.lookup "internal/abi.NoEscape"=some Extern.AbiNoEscape.same:=by kernel_rfl
theorem EZ:Extern.allNextRows.lookup "internal/bytealg.MakeNoZero"=none:=mZ (by kernel_rfl)
theorem zM:Extern.allGenericRows.lookup "internal/bytealg.MakeNoZero"=none:=mZ (by kernel_rfl)
theorem CL:Extern.allTypedRows.lookup "internal/bytealg.MakeNoZero"=some Extern.BytealgMakeNoZero.makeNoZero:=by kernel_rfl
theorem vA{g:FuncId}{fn:Func}{x:Value}(hg:P.funcs[g]?=some fn)(hb:fn.body=none)(hn:fn.name="internal/abi.NoEscape")(ho:fn.origin="")(w:World) :
  (callFunc g #[x]).run P w=.ok (.value x) w:=by
 have h1:Extern.findNext fn=none:=by simp[Extern.findNext,hn,ho,KF,GF]
 have h2:Extern.find fn=some Extern.AbiNoEscape.same:=by simp[Extern.find,hn,CK,GG,M5]
 have hn':(fn.name=="runtime.NumGoroutine")=false:=by rw[hn];decide
 simp only[callFunc,Sem.run_bind,run_program,Result.andThen_ok,hg,hn',ym,if_false,hb,Option.isNone_none,if_true,run_mark,h1,h2,Sem.run_pure];rfl
theorem tG{g:FuncId}{fn:Func}{x v:Value}{w w':World}(hg:P.funcs[g]?=some fn)(hb:fn.body=none)(hn:fn.name="internal/bytealg.MakeNoZero")(ho:fn.origin="")
  (hr:(Extern.BytealgMakeNoZero.makeNoZero fn.params fn.resultTypes #[x]).run P w=.ok v w') :
  (callFunc g #[x]).run P w=.ok (.value v) w':=by
 have h1:Extern.findNext fn=none:=by simp[Extern.findNext,hn,ho,EZ,GF]
 have h2:Extern.find fn=some (Extern.BytealgMakeNoZero.makeNoZero fn.params fn.resultTypes):=by simp[Extern.find,hn,zM,CL]
 have hn':(fn.name=="runtime.NumGoroutine")=false:=by rw[hn];decide
 simp only[callFunc,Sem.run_bind,run_program,Result.andThen_ok,hg,hn',ym,if_false,hb,Option.isNone_none,if_true,run_mark,h1,h2,Sem.run_pure,hr]
end
section
variable{P:Program}{E:cA}{A:Nat->Prop}{tm:List Value}{a:Act}{w:World}
theorem GH{callF:Fn->List Value->St->Option (Value×St)}(hcf:iN P callF){o:Oper}{g:FuncId}{args:List Value}{S S':St}{v:Value}(hg:vD P E A)(hev:S.next % 2=0)(H:aW P E A S.heap w)
  (hsc:∀x∈args,Sc A x) (hA:∀n,A n->¬(S.next<=n/\n<S'.next)) (hb:callF (.func g) args S=some (v,S')) (hr:(execOp a.eval o).run P w=.ok (.enter g (args.map (aN E)).toArray) w) :
  cU P E A o a S.heap S.next w v S'.heap S'.next:=by
 intro hd r K Q hK;refine qV hd ?_;rw[hr];refine⟨AX r,(GE (hcf (.func g) args S v S' hb E A w hg hev hsc H hA)).mono ?_⟩;rintro e w' ⟨E',rfl,h1,h2⟩;exact hK E' w' h1 h2
theorem QR{callF:Fn->List Value->St->Option (Value×St)}(hcf:iN P callF){o:Oper}{l:Nat}{args:List Value}{S S':St}{v:Value}(hg:vD P E A)(hev:S.next % 2=0)(H:aW P E A S.heap w)
  (hsc:∀x∈args,Sc A x) (hA:∀n,A n->¬(S.next<=n/\n<S'.next)) (hb:callF (.yield l) args S=some (v,S')) (hr:execOp a.eval o=Instr.yield (E.β l) (args.map (aN E)).toArray) :
  cU P E A o a S.heap S.next w v S'.heap S'.next:=by
 intro hd r K Q hK;refine qV hd ?_;obtain⟨fn,tmps,assign,body,hy,hR⟩:=hcf (.yield l) args S v S' hb E A w hg hev hsc H hA;rw[hr,hy];refine⟨AX r,(aBR hR).mono ?_⟩;rintro e w' ⟨E',rfl,h1,h2⟩;exact hK E' w' h1 h2
theorem aR{o:Oper}{s:Sem Value}{v:Value}{w':World}(he:execOp a.eval o=(do pure (.value (<-s))))(hr:s.run P w=.ok v w'):(execOp a.eval o).run P w=.ok (.value v) w':=by
 rw[he];simp[hr]
theorem wD{o:Oper}{s:Sem Unit}{w':World}(he:execOp a.eval o=(do s;pure .skip))(hr:s.run P w=.ok () w'):(execOp a.eval o).run P w=.ok .skip w':=by
 rw[he];simp[hr]
theorem DU{op:BinOp}{t:TypeId}{x y:Operand}{u v:Value}(hu:∀cs,u≠.agg cs)(hn:u≠.nilIface)(w:World):(eqGuard op t x y u v).run P w=.ok () w:=by
 unfold eqGuard;cases u<;>first|exact absurd rfl hn|exact absurd rfl (hu _) |(split<;>rfl)
theorem GJ{t:TypeId}{x y:Value}{b:Bool}(h:aBH P t x y=some b):(∀cs,aN E x≠.agg cs)/\aN E x≠.nilIface /\
  binOp .eql t (aN E x) (aN E y)=(do pure (.bool (<-Op.equal t (aN E x) (aN E y))))/\binOp .neq t (aN E x) (aN E y)=(do pure (.bool (!(<-Op.equal t (aN E x) (aN E y))))):=by
 unfold aBH at h
 have key : ∀ (u v : Value), ((∃ p, u = .pointer p) \/ (∃ p l c, u = .slice p l c) \/ (∃ p, u = .map p) \/ u = .nilFunc \/ (∃ f a b, u = .func f a b) \/ (∃ t v, u = .iface t v)) ->
   (∀cs,u≠.agg cs)/\u≠.nilIface/\binOp .eql t u v=(do pure (.bool (<-Op.equal t u v)))/\binOp .neq t u v=(do pure (.bool (!(<-Op.equal t u v)))):=by
  intro u v hu;rcases hu with⟨p,rfl⟩ |⟨p,l,c,rfl⟩ |⟨p,rfl⟩|rfl |⟨f,a,b,rfl⟩ |⟨t,v,rfl⟩;all_goals exact⟨by simp,by simp,by simp[binOp],by simp[binOp]⟩
 split at h
 ·split at h<;>first |(simp at h;done)|skip
  all_goals exact key _ _ (.inl (by first|exact⟨_,gH E⟩|exact⟨_,cT E _⟩))
 ·split at h<;>first |(simp at h;done)|skip
  all_goals exact key _ _ (.inr (.inl (by first|exact⟨_,_,_,cF E _ _⟩|exact⟨_,_,_,bQ E _ _ _⟩)))
 ·split at h<;>first |(simp at h;done)|skip
  all_goals exact key _ _ (.inr (.inr (.inl (by first|exact⟨_,gJ E⟩|exact⟨_,mC E _⟩))))
 ·split at h<;>first |(simp at h;done)|skip
  all_goals exact key _ _ (.inr (.inr (.inr (by first|exact .inl (j6 E)|exact .inr (.inl ⟨_,_,_,gW E _ _ _⟩)))))
 ·split at h<;>first |(simp at h;done)|skip
  all_goals exact key _ _ (.inr (.inr (.inr (.inr (.inr ⟨_,_,jK E _ _⟩)))))
 ·simp at h
theorem GK{first captured:Array Value}{xs:List Value}{fn:Fn}(h1:Sc A (.func fn first captured))(h2:∀x∈xs,Sc A x):∀x∈first.toList++xs++captured.toList,Sc A x:=by
 rw[pZ]at h1;intro x hx;rcases yy.1 hx with hx|hx
 ·rcases yy.1 hx with hx|hx
  ·exact h1.2.1 x (by simpa using hx)
  ·exact h2 x hx
 ·exact h1.2.2 x (by simpa using hx)
theorem gY:∀{l:List Operand},cN tm l=true->∀x∈l,plain (aE tm x)=true
 | [],_=>by simp
 |y::r,h=>by
  simp[cN]at h;intro x hx;rcases yk.1 hx with rfl|hx
  ·exact h.1
  ·exact gY h.2 x hx
end
section
variable{P:Program}{E:cA}{A:Nat->Prop}{tm:List Value}{a:Act}{w:World}
def fD(P:Program):Prop:=∀(g:FuncId)(fn:Func),P.funcs[g]?=some fn->fn.body.isSome=true->M4 fn=true
theorem GT{b off:Nat}{cc:Array Value}{e:TypeId}{fz:Nat×Nat}(hg:w.heap[b]?=some (.cells cc e fz)):(Conv.seenAt ⟨b,off,none⟩).run P w=.ok ⟨b,off,none⟩ w:=by
 have hsh:w.shape? b=some (e,cc.size):=by simp[World.shape?,hg]
 simp[Conv.seenAt,viewAt,hsh]
theorem GU{h:List (Nat×Obj)}(H:aW P E A h w){s d t:TypeId}{x v:Value}(hs:P.underlying s=some (.pointer t))(hd:P.underlying d=some .unsafePointer)(hb:CA P h t x=some v) :
  (Go.convert s d (aN E x)).run P w=.ok (aN E v) w/\v=x:=by
 unfold CA at hb;split at hb
 ·rename_i n off;split at hb
  ·rename_i c e fz sz hg hsz;simp only[yb,ya,yd]at hb;obtain⟨⟨h1,h2⟩,rfl⟩:=hb;have h1:off<c.size:=ye h1;have h2:0<sz:=ye h2;obtain⟨cc,fzc,g1,_,_,_,_,g6⟩:=H.cells hg;have hsh:w.shape? (E.β n)=some (e,cc.size):=by simp[World.shape?,g1]
   have hn:¬(cc.size<=E.σ n+off):=by omega
   have hz:sz≠0:=by omega
   refine⟨?_,rfl⟩;rw[cT];simp[Go.convert,Conv.unsafePointer,run_underlying hs,run_underlying hd,cA.addr,GT g1,cellsIn,hsh,hn,fJ hsz,hz]
  ·simp at hb
 ·simp at hb
theorem CM{h:List (Nat×Obj)}(H:aW P E A h w){s d u:TypeId}{x v:Value}(hs:P.underlying s=some .unsafePointer)(hd:P.underlying d=some (.pointer u))(hb:vN P h u x=some v) :
  (Go.convert s d (aN E x)).run P w=.ok (aN E v) w/\v=x:=by
 unfold vN at hb;split at hb
 ·rename_i n;split at hb
  ·rename_i c e fz sz hg hsz;simp only[yb,ya,yd]at hb;obtain⟨⟨⟨⟨h0,h1⟩,h2⟩,h3⟩,rfl⟩:=hb;obtain rfl:e=u:=by simpa using h1
   have h2:0<sz:=ye h2;have h3:=ye h3;have hrow:jZ n=false:=by simpa using h0
   obtain⟨_,_,oc,hoc,hr⟩:=H.blk n _ hg;simp only[cV,hrow]at hr;obtain⟨r1,rfl⟩:=hr;have hsh:w.shape? (E.β n)=some (e,c.size):=by simp[World.shape?,hoc]
   have hz:sz≠0:=by omega
   have hco:P.cellsOf e=sz:=by unfold gG at hsz;unfold Program.cellsOf;rw[hsz];rfl
   have hdp:P.depth=(2*(P.types.size+Made.depth)+1)+1:=rfl;have hlies:liesAt P P.depth e (c.size / sz) 0 e 1=true:=by
    rw[hdp];simp only[liesAt,yu];left;rw[hdp];have:1<=c.size / sz:=(Nat.le_div_iff_mul_le h2).2 (by omega);simp[rowAt,hco,hz,sameLayout,this]
   have hva:(variablesAt ⟨E.β n,0,none⟩ e 1).run P w=.ok true w:=by
    simp only[variablesAt,Sem.run_bind,run_program,Result.andThen_ok,run_shape,hsh,Sem.run_pure,hco,hlies]
   refine⟨?_,rfl⟩;rw[cT];simp[Go.convert,Conv.unsafePointer,run_underlying hs,run_underlying hd,cA.addr,r1,GT hoc,fJ hsz,hz,hva]
  ·simp at hb
 ·simp at hb
theorem TY{h:List (Nat×Obj)}(H:aW P E A h w){args:Array TypeId}{ty:TypeId}{x v:Value}(hb:aHN P h args x=some v) :
  (Builtin.len_ args ty #[aN E x]).run P w=.ok (aN E v) w/\Sc A v:=by
 unfold aHN at hb;split at hb
 ·rename_i t hargs;obtain rfl:args=#[t]:=by apply yl;simpa using hargs
  split at hb
  ·rename_i q n cp e hu;simp only[ya]at hb;subst hb;rw[bQ,fZ];exact⟨by simp[Builtin.len_,run_underlying hu,goInt],qS _ _ _⟩
  ·rename_i n k e hu;split at hb
   ·rename_i es clock hg;simp only[Option.ite_none_left_eq_some,ya,Bool.not_eq_true]at hb;obtain⟨hloose,rfl⟩:=hb;obtain⟨m1,_,_⟩:=H.mapAt hg hloose;rw[mC,fZ];exact⟨by simp[Builtin.len_,run_underlying hu,kA m1,goInt],qS _ _ _⟩
   ·simp at hb
  ·simp at hb
 ·simp at hb
theorem TZ{args:Array TypeId}{ty:TypeId}{x v:Value}(hb:aHP P args x=some v)(w:World) :
  (Builtin.cap_ args ty #[aN E x]).run P w=.ok (aN E v) w/\Sc A v:=by
 unfold aHP at hb;split at hb
 ·rename_i t hargs;obtain rfl:args=#[t]:=by apply yl;simpa using hargs
  split at hb
  ·rename_i q n cp e hu;split at hb
   ·simp at hb
   ·rename_i hrow;simp only[ya]at hb;subst hb;rw[bQ,fZ,if_neg hrow];exact⟨by simp[Builtin.cap_,run_underlying hu,goInt],qS _ _ _⟩
  ·simp at hb
 ·simp at hb
theorem CN{h:List (Nat×Obj)}(H:aW P E A h w){ts:Array TypeId}{ty:TypeId}{x v:Value}(hb:zG P h x=some v)(hs:Sc A x) :
  (Builtin.unsafeSliceData_ ts ty #[aN E x]).run P w=.ok (aN E v) w/\Sc A v:=by
 unfold zG at hb;split at hb
 ·simp only[ya]at hb;subst hb;rw[cF,gH];exact⟨rfl,CC _⟩
 ·rename_i n off len cp;have hAn:A n:=(dX A _ _ _).1 hs;rw[bQ];split at hb
  ·rename_i hrow;split at hb
   ·rename_i c e fz hg;split at hb
    ·rename_i hs1;simp only[yb,ya,yd]at hb;obtain⟨⟨h1,h2⟩,rfl⟩:=hb;have h1:off<c.size:=ye h1;have h2:off=cp:=by simpa using h2
     obtain⟨_,_,oc,_,hr⟩:=H.blk n _ hg;simp only[cV,hrow,if_true]at hr;obtain⟨cc,fzc,s',_,r2,_,_,r5,_⟩:=hr;rw[hs1]at r2;obtain rfl:=yg r2;rw[cT];refine⟨?_,(oG A _).2 hAn⟩;simp only[hrow,if_true];exact Lib.run_unsafeSliceData_row w ts ty _ _ _ (by omega)
    ·simp at hb
   ·simp at hb
  ·rename_i hrow;simp only[yb,ya]at hb;obtain⟨h1,rfl⟩:=hb;have h1:0<cp:=ye h1;rw[cT];refine⟨?_,(oG A _).2 hAn⟩;simp only[hrow];exact Lib.run_unsafeSliceData_row w ts ty _ _ _ (by simp;omega)
 ·simp at hb
theorem T0{t:TypeId}{name:String}{f:FuncId}(h:MM P t name=some f)(v:Value)(w:World):(method (P.types.size+Made.depth) t v name).run P w=.ok (f,v) w:=by
 unfold MM at h;split at h;case h_2=>cases h
 rename_i e i hu hi;split at h;case h_2=>cases h
 rename_i m hm;split at h;case h_2=>cases h
 rename_i g hf;simp only[yb,ya]at h;obtain⟨hp,rfl⟩:=h;have hp':m.path.toList=[]:=by simpa using hp
 obtain⟨k,hk⟩:∃k,P.types.size+Made.depth=k+1:=⟨P.types.size+99,rfl⟩;rw[hk];have hti:(typeInfo t).run P w=.ok i w:=by
  simp[typeInfo,hi]
 simp only[method,Sem.run_bind,hti,Result.andThen_ok,hm,hp',follow,Sem.run_pure,hf,receiverAt,run_underlying hu,Place.get]
theorem wJ{callF:Fn->List Value->St->Option (Value×St)}(hcf:iN P callF)(hnm:fD P){o:Oper}{S S':St}{v:Value}(ht:Tm E A tm a)(hg:vD P E A)(hev:S.next % 2=0)(H:aW P E A S.heap w)
  (hok:∀x∈o.op.operands,tC P x=true) (hA:∀n,A n->¬(S.next<=n/\n<S'.next)) (hb:bX callF P tm S o=some (v,S')) :
  cU P E A o a S.heap S.next w v S'.heap S'.next:=by
 have hop:∀x∈o.op.operands,a.eval x=aN E (aE tm x)/\Sc A (aE tm x):=fun x hx=>AZ ht hg (hok x hx);have hpure:∀{v:Value},(∀x∈o.op.operands,plain (aE tm x)=true)->(∀cs b,o.op≠.select cs b)->mU P tm o=some v->cU P E A o a S.heap S.next w v S.heap S.next :=
  fun h1 h2 h3=>cU.pure H (fun x hx=>(hop x hx).1) h1 h2 h3
 obtain⟨dst,op,ty,pos,after,guard⟩:=o;cases op with
 |move x =>
  simp only[bX,ya,yc]at hb;obtain⟨rfl,rfl⟩:=hb;obtain⟨h1,h2⟩:=hop x (by simp[Op.operands]);exact cU.still H (by simp[execOp,h1]) h2
 |assign x =>
  simp only[bX,ya,yc]at hb;obtain⟨rfl,rfl⟩:=hb;obtain⟨h1,h2⟩:=hop x (by simp[Op.operands]);exact cU.still H (by simp[execOp,h1]) h2
 |pick c x y =>
  simp only[bX]at hb;obtain⟨c1,c2⟩:=hop c (by simp[Op.operands]);obtain⟨x1,x2⟩:=hop x (by simp[Op.operands]);obtain⟨y1,y2⟩:=hop y (by simp[Op.operands]);split at hb
  ·rename_i d hd;simp only[ya,yc]at hb;obtain⟨rfl,rfl⟩:=hb;rw[hd,gX]at c1;refine cU.still H ?_ (by cases d<;>simp[x2,y2]);cases d<;>simp[execOp,c1,asBool,x1,y1]
  ·simp at hb
 |alloc t =>
  simp only[bX]at hb;split at hb
  ·rename_i cs hcs;simp only[yb,eR,ya,yc]at hb;obtain⟨hp,rfl,rfl⟩:=hb;obtain⟨E',w',h1,h2⟩:=QE (P:=P) H hev hA hcs hp;exact cU.value (aR rfl h1) h2 (by rw[oG];exact .inr ⟨yh _,by dsimp only;omega⟩)
  ·simp at hb
 |box t x =>
  simp only[bX,eR,ya,yc]at hb;obtain⟨rfl,rfl⟩:=hb;obtain⟨x1,x2⟩:=hop x (by simp[Op.operands]);obtain⟨E',w',h1,h2⟩:=YP (P:=P) H hev hA (t:=t) x2;rw[<-x1]at h1;exact cU.value (aR rfl h1) h2 (by rw[oG];exact .inr ⟨yh _,by dsimp only;omega⟩)
 |build t ps =>
  simp only[bX]at hb;have hps:∀p∈ps,a.eval p.2=aN E (aE tm p.2)/\Sc A (aE tm p.2):=fun p hp=>hop p.2 (by simp only[Op.operands,yyk,yw];exact⟨p,by simpa using hp,rfl⟩);split at hb
  ·rename_i z v' hz hv;simp only[yb,ya,yc]at hb;obtain⟨hp,rfl,rfl⟩:=hb;obtain⟨h1,h2⟩:=QF (E:=E) hz hp hv (LC fun p hp=>(hps p hp).2);refine cU.still H (aR (s:=Instr.build t (ps.map fun(i,x)=>(i,a.eval x))) rfl ?_) h2;rw[LB fun p hp=>(hps p hp).1];exact eL h1 w
  ·simp at hb
 |buildSlice t n ps =>
  simp only[bX]at hb;have hps:∀p∈ps,a.eval p.2=aN E (aE tm p.2)/\Sc A (aE tm p.2):=fun p hp=>hop p.2 (by simp only[Op.operands,yyk,yw];exact⟨p,by simpa using hp,rfl⟩);obtain⟨E',w',h1,h2,h3⟩:=CH (P:=P) H hev hb hA (LC fun p hp=>(hps p hp).2);rw[<-LB fun p hp=>(hps p hp).1]at h1;exact cU.value (aR rfl h1) h2 h3
 |load t x =>
  simp only[bX]at hb;obtain⟨x1,x2⟩:=hop x (by simp[Op.operands]);split at hb
  ·rename_i v' hv;simp only[ya,yc]at hb;obtain⟨rfl,rfl⟩:=hb;obtain⟨h1,h2⟩:=DD H hv;rw[<-x1]at h1;exact cU.still H (aR rfl h1) h2
  ·simp at hb
 |store t x y =>
  simp only[bX]at hb;obtain⟨x1,x2⟩:=hop x (by simp[Op.operands]);obtain⟨y1,y2⟩:=hop y (by simp[Op.operands]);split at hb
  ·rename_i h' hs;simp only[ya,yc]at hb;obtain⟨rfl,rfl⟩:=hb;obtain⟨w',h1,h2⟩:=MY H hs y2 S.next;rw[<-x1,<-y1]at h1;exact cU.skip (wD rfl h1) h2
  ·simp at hb
 |nilCheck x =>
  simp only[bX]at hb;obtain⟨x1,x2⟩:=hop x (by simp[Op.operands]);split at hb
  ·rename_i p hp;simp only[ya,yc]at hb;obtain⟨rfl,rfl⟩:=hb;rw[hp]at x1 x2;rw[cT]at x1;refine cU.still H ?_ x2;simp only[execOp,x1,cT];rfl
  ·simp at hb
 |binOp op t x y yt =>
  simp only[bX]at hb;obtain⟨x1,x2⟩:=hop x (by simp[Op.operands]);obtain⟨y1,y2⟩:=hop y (by simp[Op.operands]);split at hb
  ·rename_i hpl;simp only[yd]at hpl;split at hb
   ·rename_i v' hv;simp only[ya,yc]at hb;obtain⟨rfl,rfl⟩:=hb;refine hpure (fun z hz => ?_) (by simp) hv;simp only[Op.operands,yyk,yk,List.not_mem_nil,or_false]at hz;rcases hz with rfl|rfl
    ·exact hpl.1
    ·exact hpl.2
   ·simp at hb
  ·split at hb
   ·rename_i b he;simp only[ya,yc]at hb;obtain⟨rfl,rfl⟩:=hb;obtain⟨s1,s2,s3,s4⟩:=GJ (E:=E) he;refine cU.still H (aR (s:=do eqGuard .eql t x y (a.eval x) (a.eval y);Go.binOp .eql t (a.eval x) (a.eval y)) rfl ?_) (rT _ _);rw[x1,y1,s3,gX];simp only[Sem.run_bind,DU s1 s2,Result.andThen_ok,F7 he,Sem.run_pure]
   ·rename_i b he;simp only[ya,yc]at hb;obtain⟨rfl,rfl⟩:=hb;obtain⟨s1,s2,s3,s4⟩:=GJ (E:=E) he;refine cU.still H (aR (s:=do eqGuard .neq t x y (a.eval x) (a.eval y);Go.binOp .neq t (a.eval x) (a.eval y)) rfl ?_) (rT _ _);rw[x1,y1,s4,gX];simp only[Sem.run_bind,DU s1 s2,Result.andThen_ok,F7 he,Sem.run_pure]
   ·simp at hb
 |unOp op t x =>
  simp only[bX]at hb;split at hb
  ·rename_i hpl;split at hb
   ·rename_i v' hv;simp only[ya,yc]at hb;obtain⟨rfl,rfl⟩:=hb;refine hpure (fun z hz => ?_) (by simp) hv;simp only[Op.operands,yyk,yk,List.not_mem_nil,or_false]at hz;subst hz;exact hpl
   ·simp at hb
  ·simp at hb
 |makeInterface t x =>
  simp only[bX]at hb;obtain⟨x1,x2⟩:=hop x (by simp[Op.operands]);split at hb
  ·simp at hb
  ·rename_i d hu hd;simp only[ya,yc]at hb;obtain⟨rfl,rfl⟩:=hb;refine cU.still H (aR (s:=Instr.makeInterface t (a.eval x)) rfl ?_) (by rw[vS];exact x2);rw[x1,jK];simp only[Instr.makeInterface,Sem.run_bind,run_underlying hd,Result.andThen_ok];rfl
  ·simp at hb
 |makeFunc fn first captured =>
  have hfn:bX callF P tm S ⟨dst,.makeFunc fn first captured,ty,pos,after,guard⟩=some (.func fn (first.toList.map (aE tm)).toArray (captured.toList.map (aE tm)).toArray,S)/\AR E fn=fn/\QA A fn:=by
   cases fn<;>first
    |exact⟨rfl,rfl,trivial⟩
    |(simp[bX]at hb;done)
  rw[hfn.1]at hb;simp only[ya,yc]at hb;obtain⟨rfl,rfl⟩:=hb;have hf:∀x∈first,a.eval x=aN E (aE tm x)/\Sc A (aE tm x):=fun x hx=>hop x (by simp[Op.operands,hx])
  have hc:∀x∈captured,a.eval x=aN E (aE tm x)/\Sc A (aE tm x):=fun x hx=>hop x (by simp[Op.operands,hx]);refine cU.still H (aR (s:=Instr.makeFunc fn (first.map a.eval) (captured.map a.eval)) rfl ?_) ?_
  ·rw[xW fun x hx=>(hf x hx).1,xW fun x hx=>(hc x hx).1,gW,hfn.2.1];simp[Instr.makeFunc]
  ·rw[pZ];refine⟨hfn.2.2,?_,?_⟩
   ·intro x hx;simp only[yyk,yw]at hx;obtain⟨y,hy,rfl⟩:=hx;exact(hf y (by simpa using hy)).2
   ·intro x hx;simp only[yyk,yw]at hx;obtain⟨y,hy,rfl⟩:=hx;exact(hc y (by simpa using hy)).2
 |makeSlice t l c =>
  simp only[bX]at hb;obtain⟨l1,l2⟩:=hop l (by simp[Op.operands]);obtain⟨c1,c2⟩:=hop c (by simp[Op.operands]);obtain⟨E',w',h1,h2,h3⟩:=EX (P:=P) H hev hb hA;rw[<-l1,<-c1]at h1;exact cU.value (aR rfl h1) h2 h3
 |fieldAddr t x f =>
  simp only[bX]at hb;obtain⟨x1,x2⟩:=hop x (by simp[Op.operands]);split at hb
  ·rename_i v' hv;simp only[ya,yc]at hb;obtain⟨rfl,rfl⟩:=hb;obtain⟨h1,h2⟩:=EV (E:=E) hv x2 w;rw[<-x1]at h1;exact cU.still H (aR rfl h1) h2
  ·simp at hb
 |indexAddr t x i =>
  simp only[bX]at hb;obtain⟨x1,x2⟩:=hop x (by simp[Op.operands]);obtain⟨i1,i2⟩:=hop i (by simp[Op.operands]);split at hb
  ·rename_i v' hv;simp only[ya,yc]at hb;obtain⟨rfl,rfl⟩:=hb;obtain⟨h1,h2⟩:=EW (E:=E) hv x2 w;rw[<-x1,<-i1]at h1;exact cU.still H (aR rfl h1) h2
  ·simp at hb
 |field t x f =>
  simp only[bX]at hb;obtain⟨x1,x2⟩:=hop x (by simp[Op.operands]);split at hb
  ·rename_i v' hv;simp only[ya,yc]at hb;obtain⟨rfl,rfl⟩:=hb;obtain⟨h1,h2⟩:=QG (E:=E) hv x2;rw[<-x1]at h1;exact cU.still H (aR rfl (eL h1 w)) h2
  ·simp at hb
 |index t x i =>
  simp only[bX]at hb;obtain⟨x1,x2⟩:=hop x (by simp[Op.operands]);obtain⟨i1,i2⟩:=hop i (by simp[Op.operands]);split at hb
  ·rename_i v' hv;simp only[ya,yc]at hb;obtain⟨rfl,rfl⟩:=hb;obtain⟨h1,h2⟩:=QH (E:=E) hv x2;rw[<-x1,<-i1]at h1;exact cU.still H (aR rfl (eL h1 w)) h2
  ·simp at hb
 |extract x i =>
  simp only[bX]at hb;obtain⟨x1,x2⟩:=hop x (by simp[Op.operands]);split at hb
  ·rename_i v' hv;simp only[ya,yc]at hb;obtain⟨rfl,rfl⟩:=hb;obtain⟨h1,h2⟩:=KB (E:=E) hv x2;rw[<-x1]at h1;exact cU.still H (aR rfl (eL h1 w)) h2
  ·simp at hb
 |lookup t x i ok =>
  simp only[bX]at hb;obtain⟨x1,x2⟩:=hop x (by simp[Op.operands]);obtain⟨i1,i2⟩:=hop i (by simp[Op.operands]);split at hb
  ·rename_i v' hv;simp only[ya,yc]at hb;obtain⟨rfl,rfl⟩:=hb;obtain⟨h1,h2⟩:=M3 H hv;rw[<-x1,<-i1]at h1;exact cU.still H (aR rfl h1) h2
  ·simp at hb
 |mapUpdate t m k x =>
  simp only[bX]at hb;obtain⟨m1,m2⟩:=hop m (by simp[Op.operands]);obtain⟨k1,k2⟩:=hop k (by simp[Op.operands]);obtain⟨x1,x2⟩:=hop x (by simp[Op.operands]);split at hb
  ·rename_i S'' hs;simp only[ya,yc]at hb;obtain⟨rfl,rfl⟩:=hb;obtain⟨w',h1,h2⟩:=uX H hs x2;rw[<-m1,<-k1,<-x1]at h1;exact cU.skip (wD rfl h1) h2
  ·simp at hb
 |insert t m k x =>
  simp only[bX]at hb;obtain⟨m1,m2⟩:=hop m (by simp[Op.operands]);obtain⟨k1,k2⟩:=hop k (by simp[Op.operands]);obtain⟨x1,x2⟩:=hop x (by simp[Op.operands]);split at hb
  ·rename_i S'' hs;simp only[ya,yc]at hb;obtain⟨rfl,rfl⟩:=hb;obtain⟨w',h1,h2⟩:=uX H hs x2;rw[<-m1,<-k1,<-x1]at h1;exact cU.skip (wD rfl h1) h2
  ·simp at hb
 |makeMap t r =>
  cases r with
  |some _=>simp[bX]at hb
  |none =>
   simp only[bX,eR,ya,yc]at hb;obtain⟨rfl,rfl⟩:=hb;refine cU.value (E':=E.bind S.next w.heap.size 0 0) (w':=w.alloc (.map #[] 0)) (aR (s:=Instr.makeMap t none) rfl ?_) ?_ (by rw[MV];exact .inr ⟨yh _,by dsimp only;omega⟩)
   ·simp[Instr.makeMap,mC,cA.bind]
   ·exact bB.new H hA ⟨yh _,by omega⟩ (by intro x hx;simp at hx) (by simp[cV,uT]) rfl rfl rfl rfl
 |range t x =>
  simp only[bX]at hb;obtain⟨x1,x2⟩:=hop x (by simp[Op.operands]);obtain⟨E',w',h1,h2,h3⟩:=QP H (t:=t) hb hA;rw[<-x1]at h1;exact cU.value (aR rfl h1) h2 h3
 |next x b =>
  simp only[bX]at hb;obtain⟨x1,x2⟩:=hop x (by simp[Op.operands]);obtain⟨w',h1,h2,h3⟩:=TV H (ty:=ty) hb (fun k _ hx=>by omega);rw[<-x1]at h1;exact cU.value (aR rfl h1) h2 (oC h3)
 |entry x =>
  simp only[bX]at hb;obtain⟨x1,x2⟩:=hop x (by simp[Op.operands]);split at hb
  ·rename_i v' hv;simp only[ya,yc]at hb;obtain⟨rfl,rfl⟩:=hb;obtain⟨h1,h2⟩:=QQ H hv;rw[<-x1]at h1;exact cU.still H (aR rfl h1) h2
  ·simp at hb
 |slice t x lo hi mx =>
  cases mx with
  |some _=>simp[bX]at hb
  |none =>
   simp only[bX]at hb;obtain⟨x1,x2⟩:=hop x (by simp[Op.operands]);have hlo:lo.map a.eval=(lo.map (aE tm)).map (aN E):=by
    cases lo with
    |none=>rfl
    |some y=>simp[(hop y (by simp[Op.operands])).1]
   have hhi:hi.map a.eval=(hi.map (aE tm)).map (aN E):=by
    cases hi with
    |none=>rfl
    |some y=>simp[(hop y (by simp[Op.operands])).1]
   split at hb
   ·split at hb
    ·rename_i hpl;split at hb
     ·rename_i v' hv;simp only[ya,yc]at hb;obtain⟨rfl,rfl⟩:=hb;exact hpure (fun z hz=>gY hpl z (by simpa [Op.operands]using hz)) (by simp) hv
     ·simp at hb
    ·simp at hb
   ·split at hb
    ·rename_i hpl;split at hb
     ·rename_i v' hv;simp only[ya,yc]at hb;obtain⟨rfl,rfl⟩:=hb;exact hpure (fun z hz=>gY hpl z (by simpa [Op.operands]using hz)) (by simp) hv
     ·simp at hb
    ·simp at hb
   ·split at hb
    ·rename_i v' hv;simp only[ya,yc]at hb;obtain⟨rfl,rfl⟩:=hb;obtain⟨h1,h2⟩:=QJ H hv x2;rw[<-x1,<-hlo,<-hhi]at h1;exact cU.still H (aR rfl h1) h2
    ·simp at hb
 |convert s d x =>
  simp only[bX]at hb;obtain⟨x1,x2⟩:=hop x (by simp[Op.operands]);have hpx:∀{v:Value},plain (aE tm x)=true->mU P tm ⟨dst,.convert s d x,ty,pos,after,guard⟩=some v->cU P E A ⟨dst,.convert s d x,ty,pos,after,guard⟩ a S.heap S.next w v S.heap S.next :=
   fun h1 h2=>hpure (fun z hz=>by simp only[Op.operands,yyk,yk,List.not_mem_nil,or_false]at hz;subst hz;exact h1) (by simp) h2
  split at hb
  ·rename_i b e hx hs hd;split at hb
   ·rename_i hu hs1;simp only[ya]at hb;have hv:v=(lA S e b).1:=by rw[hb]
    have hS:S'=(lA S e b).2:=by rw[hb]
    subst hv hS;obtain⟨E',w',h1,h2,h3⟩:=KD (P:=P) H hev hA hs1 (s:=b);refine cU.value (aR (s:=Go.convert s d (a.eval x)) rfl ?_) h2 h3;rw[x1,hx,eJ];simp only[Go.convert,Sem.run_bind,run_underlying hs,run_underlying hd,Result.andThen_ok,run_underlying hu,h1]
   ·simp at hb
  ·rename_i e hs hd;split at hb
   ·rename_i hu;split at hb
    ·rename_i v' hv;simp only[ya,yc]at hb;obtain⟨rfl,rfl⟩:=hb;obtain⟨h1,h2⟩:=GA (P:=P) H hv;refine cU.still H (aR (s:=Go.convert s d (a.eval x)) rfl ?_) h2;rw[x1];have hsh:∃q l c,aE tm x=.slice q l c:=by
      unfold xN at hv;split at hv
      ·rename_i hq;exact⟨_,_,_,hq⟩
      ·rename_i hq;exact⟨_,_,_,hq⟩
      ·simp at hv
     obtain⟨q,l,c,hq⟩:=hsh;have hrs:∃q' c',aN E (aE tm x)=.slice q' l c':=by
      rw[hq];cases q with
      |none=>exact⟨_,_,cF _ _ _⟩
      |some q=>exact⟨_,_,bQ _ _ _ _⟩
     obtain⟨q',c',hrs⟩:=hrs;rw[hrs]at h1⊢;rw[run_convert_bytes_string w s d e q' l c' hs hu hd,h1]
    ·simp at hb
   ·simp at hb
  ·rename_i t hs hd;split at hb
   ·rename_i v' hv;simp only[ya,yc]at hb;obtain⟨rfl,rfl⟩:=hb;obtain⟨h1,rfl⟩:=GU H hs hd hv;exact cU.still H (aR (s:=Go.convert s d (a.eval x)) rfl (by rw[x1];exact h1)) x2
   ·simp at hb
  ·rename_i u hs hd;split at hb
   ·rename_i v' hv;simp only[ya,yc]at hb;obtain⟨rfl,rfl⟩:=hb;obtain⟨h1,rfl⟩:=CM H hs hd hv;exact cU.still H (aR (s:=Go.convert s d (a.eval x)) rfl (by rw[x1];exact h1)) x2
   ·simp at hb
  ·simp only[yb]at hb;obtain⟨hpl,hb⟩:=hb;split at hb
   ·rename_i v' hv;simp only[ya,yc]at hb;obtain⟨rfl,rfl⟩:=hb;exact hpx hpl hv
   ·simp at hb
 |call c =>
  simp only[bX]at hb;have harg:∀x∈c.args,a.eval x=aN E (aE tm x)/\Sc A (aE tm x):=fun x hx=>hop x (by simp[Op.operands,Call.operands,hx]);have hbi:∀(b:Builtin),c.callee=.builtin b->execOp a.eval ⟨dst,.call c,ty,pos,after,guard⟩=Go.builtin b c.argTypes ty (c.args.map fun | .const _=>true | _=>false) ((c.args.toList.map (aE tm)).map (aN E)).toArray:=by
   intro b hc;simp only[execOp,EY hc (fun x hx=>(harg x hx).1)];rfl
  have hpl:∀{v:Value}(b:Builtin),c.callee=.builtin b->cN tm c.args.toList=true->mU P tm ⟨dst,.call c,ty,pos,after,guard⟩=some v->cU P E A ⟨dst,.call c,ty,pos,after,guard⟩ a S.heap S.next w v S.heap S.next:=by
   intro v b hc h1 h2;refine hpure (fun z hz=>gY h1 z ?_) (by simp) h2;simpa [Op.operands,Call.operands,hc]using hz
  split at hb
  ·rename_i x y hc hxs;have hx:x∈c.args:=by
    have:x∈c.args.toList:=by rw[hxs];simp
    simpa using this
   obtain⟨E',w',h1,h2,h3⟩:=KC (P:=P) H hev (ty:=ty) hb hA (harg x hx).2;refine cU.value (aR (s:=Builtin.append_ c.argTypes ty ((c.args.toList.map (aE tm)).map (aN E)).toArray) (hbi _ hc) ?_) h2 h3;rw[hxs];exact h1
  ·rename_i x y hc hxs;obtain⟨w',h1,h2,h3⟩:=TS (P:=P) H (ty:=ty) hb;have:S'.next=S.next:=by
    unfold WT at hb;repeat' (first |(split at hb)|skip)
    all_goals first |(simp at hb;done) |(dsimp only at hb;repeat' (split at hb))|skip
    all_goals first |(simp at hb;done) |(simp only[ya,yc]at hb;obtain⟨_,rfl⟩:=hb;rfl)|skip
   refine cU.value (aR (s:=Builtin.copy_ c.argTypes ty ((c.args.toList.map (aE tm)).map (aN E)).toArray) (hbi _ hc) ?_) h2 (oC h3);rw[hxs];exact h1
  ·rename_i x hc hxs;have hx:x∈c.args:=by
    have:x∈c.args.toList:=by rw[hxs];simp
    simpa using this
   split at hb
   ·rename_i v' hv;simp only[ya,yc]at hb;obtain⟨rfl,rfl⟩:=hb;obtain⟨h1,h2⟩:=TY (P:=P) H (ty:=ty) hv;refine cU.still H (aR (s:=Builtin.len_ c.argTypes ty ((c.args.toList.map (aE tm)).map (aN E)).toArray) (hbi _ hc) ?_) h2;rw[hxs];exact h1
   ·simp only[yb]at hb;obtain⟨h1,hb⟩:=hb;split at hb
    ·rename_i v' hv;simp only[ya,yc]at hb;obtain⟨rfl,rfl⟩:=hb;exact hpl _ hc (by rw[hxs];exact h1) hv
    ·simp at hb
  ·rename_i x hc hxs;split at hb
   ·rename_i v' hv;simp only[ya,yc]at hb;obtain⟨rfl,rfl⟩:=hb;obtain⟨h1,h2⟩:=TZ (P:=P) (E:=E) (A:=A) (ty:=ty) hv w;refine cU.still H (aR (s:=Builtin.cap_ c.argTypes ty ((c.args.toList.map (aE tm)).map (aN E)).toArray) (hbi _ hc) ?_) h2;rw[hxs];exact h1
   ·simp only[yb]at hb;obtain⟨h1,hb⟩:=hb;split at hb
    ·rename_i v' hv;simp only[ya,yc]at hb;obtain⟨rfl,rfl⟩:=hb;exact hpl _ hc (by rw[hxs];exact h1) hv
    ·simp at hb
  ·rename_i x hc hxs;have hx:x∈c.args:=by
    have:x∈c.args.toList:=by rw[hxs];simp
    simpa using this
   split at hb
   ·rename_i v' hv;simp only[ya,yc]at hb;obtain⟨rfl,rfl⟩:=hb;obtain⟨h1,h2⟩:=CN (P:=P) H (ts:=c.argTypes) (ty:=ty) hv (harg x hx).2;refine cU.still H (aR (s:=Builtin.unsafeSliceData_ c.argTypes ty ((c.args.toList.map (aE tm)).map (aN E)).toArray) (hbi _ hc) ?_) h2;rw[hxs];exact h1
   ·simp at hb
  ·rename_i x y hc hxs;obtain⟨w',h1,h2,h3⟩:=zK (P:=P) H (ty:=ty) hb;refine cU.value (aR (s:=Builtin.unsafeString_ c.argTypes ty ((c.args.toList.map (aE tm)).map (aN E)).toArray) (hbi _ hc) ?_) h2 (oC h3);rw[hxs];exact h1
  ·rename_i hc;simp only[yb]at hb;obtain⟨h1,hb⟩:=hb;split at hb
   ·rename_i v' hv;simp only[ya,yc]at hb;obtain⟨rfl,rfl⟩:=hb;exact hpl _ hc h1 hv
   ·simp at hb
  ·rename_i hc;simp only[yb]at hb;obtain⟨h1,hb⟩:=hb;split at hb
   ·rename_i v' hv;simp only[ya,yc]at hb;obtain⟨rfl,rfl⟩:=hb;exact hpl _ hc h1 hv
   ·simp at hb
  ·rename_i f hc;have hf:=hop f (by simp[Op.operands,Call.operands,hc]);split at hb
   ·rename_i g first captured hfv
    rw[hfv,gW,F1]at hf;have hex:execOp a.eval ⟨dst,.call c,ty,pos,after,guard⟩=callFunc g (first.map (aN E)++((c.args.toList.map (aE tm)).map (aN E)).toArray++captured.map (aN E)):=by
     simp only[execOp,yL hc hf.1 (fun x hx=>(harg x hx).1)];rfl
    split at hb
    ·simp at hb
    ·rename_i fn hfn;split at hb
     ·rename_i bd hbd;refine GH hcf hg hev H (GK hf.2 ?_) hA hb ?_
      ·intro x hx;obtain⟨y,hy,rfl⟩:=yw.1 hx;exact(harg y (by simpa using hy)).2
      ·rw[hex,jU hfn (by rw[hbd];rfl) (hnm g fn hfn (by rw[hbd];rfl))]
       congr 2
       apply yl;simp
     ·rename_i hbd;split at hb
      ·rename_i hcond;simp only[yd,beq_iff_eq]at hcond;obtain⟨⟨⟨q1,q2⟩,q3⟩,q4⟩:=hcond;split at hb
       ·rename_i x hxs;simp only[ya,yc]at hb;obtain⟨rfl,rfl⟩:=hb;have hx:x∈c.args:=by
         have:x∈c.args.toList:=by rw[hxs];simp
         simpa using this
        have e1:first=#[]:=by apply yl;simpa using q1
        have e2:captured=#[]:=by apply yl;simpa using q2
        refine cU.still H ?_ (harg x hx).2;rw[hex,hxs,e1,e2];simpa using vA (P:=P) (x:=aN E (aE tm x)) hfn hbd q3 q4 w
       ·simp at hb
      ·split at hb
       ·rename_i hcond;simp only[yd,beq_iff_eq]at hcond;obtain⟨⟨⟨q1,q2⟩,q3⟩,q4⟩:=hcond;split at hb
        ·rename_i x t hxs hrt;have e1:first=#[]:=by apply yl;simpa using q1
         have e2:captured=#[]:=by apply yl;simpa using q2
         have hr0:fn.resultTypes=#[t]:=by apply yl;simpa using hrt
         obtain⟨E',w',h1,h2,h3⟩:=CJ (P:=P) H hev (ps:=fn.params) hb hA;refine cU.value ?_ h2 h3;rw[hex,hxs,e1,e2];simpa using tG (P:=P) hfn hbd q3 q4 (by rw[hr0];exact h1)
        ·simp at hb
       ·simp only[yb,yd]at hb;obtain⟨⟨⟨h1,q1⟩,q2⟩,hb⟩:=hb;split at hb
        ·rename_i v' hv;simp only[ya,yc]at hb;obtain⟨rfl,rfl⟩:=hb;refine hpure (fun z hz => ?_) (by simp) hv;simp only[Op.operands,Call.operands,hc,Array.mem_append,yyk,yk,List.not_mem_nil,or_false]at hz;rcases hz with rfl|hz
         ·rw[hfv];simp only[plain,mK,iB,yd];exact⟨q1,q2⟩
         ·exact gY h1 z (by simpa using hz)
        ·simp at hb
   ·rename_i l first captured hfv
    simp only[yb,yd]at hb;obtain⟨⟨q1,q2⟩,hb⟩:=hb;have e1:first=#[]:=by apply yl;simpa using q1
    have e2:captured=#[]:=by apply yl;simpa using q2
    subst e1 e2;rw[hfv,gW,DB]at hf;refine QR hcf hg hev H ?_ hA hb ?_
    ·intro x hx;obtain⟨y,hy,rfl⟩:=yw.1 hx;exact(harg y (by simpa using hy)).2
    ·simp only[execOp,KE hc (by simpa using hf.1) (fun x hx=>(harg x hx).1)];simp[invoke]
   ·simp at hb
  ·rename_i r name hc;have hr:=hop r (by simp[Op.operands,Call.operands,hc]);split at hb
   ·rename_i t x hrv;rw[hrv,jK]at hr;split at hb
    ·rename_i f hm;simp only[yb]at hb;obtain⟨hbody,hb⟩:=hb;obtain⟨fn,hfn,hbd⟩:∃fn,P.funcs[f]?=some fn/\fn.body.isSome=true:=by
      unfold PX at hbody;split at hbody
      ·rename_i fn hfn;exact⟨fn,hfn,hbody⟩
      ·cases hbody
     refine GH hcf hg hev H ?_ hA hb ?_
     ·intro y hy;rcases yk.1 hy with rfl|hy
      ·have:=hr.2;rw[vS]at this;exact this
      ·obtain⟨z,hz,rfl⟩:=yw.1 hy;exact(harg z (by simpa using hz)).2
     ·have hres:resolve a.eval c ty=pure { target:=.fn (.method name) #[],args:=#[Value.iface t (aN E x)]++((c.args.toList.map (aE tm)).map (aN E)).toArray }:=by
       unfold resolve;rw[xW fun x hx=>(harg x hx).1,hc];simp only[hr.1]
      have hex:execOp a.eval ⟨dst,.call c,ty,pos,after,guard⟩=callMethod (.iface t (aN E x)) name ((c.args.toList.map (aE tm)).map (aN E)).toArray:=by
       simp only[execOp,hres];simp only[pure_bind,invoke];simp;rw[List.take_of_length_le (by simp)]
      rw[hex];simp only[callMethod,Sem.run_bind,run_program,Result.andThen_ok,T0 hm];rw[jU hfn hbd (hnm f fn hfn hbd)]
      congr 2
      apply yl;simp
    ·simp at hb
   ·simp at hb
  ·simp at hb
 | _=>simp[bX]at hb
theorem sS{callF:Fn->List Value->St->Option (Value×St)}{o:Oper}{S S':St}{v:Value}(hb:bX callF P tm S o=some (v,S')):∀c,o.op≠.defer c:=by
 intro c h;obtain⟨dst,op,ty,pos,after,guard⟩:=o;simp only at h;subst h;simp[bX]at hb
end
def MN(n:Nat):Bool:=Nat.beq (n % 2) 0
def eZ:List Nat->Nat->Nat
 | [],_=>0
 |x::_,0=>x
 | _::r,n+1=>eZ r n
def oF:List (List (Nat×Obj))->Nat->List (Nat×Obj)
 | [],_=>[]
 |x::_,0=>x
 | _::r,n+1=>oF r n
def tV(f:Nat->Oper->Bool):Nat->List Oper->Bool
 | _,[]=>true
 |k,o::r=>f k o && tV f (k+1) r
def aBP:Nat->(Nat->Bool)->Bool
 |0,f=>f 0
 |n+1,f=>f (n+1) && aBP n f
def CB(ms:List Nat)(o:Oper):Nat:=o.after.toList.foldl (fun s e=>if Region.binds .any e=true then s |||(2 ^ e.on) ||| eZ ms e.on else s) 0
def eS:List Oper->List Nat->List Nat
 | [],acc=>acc
 |o::r,acc=>eS r (acc++[CB acc o])
def qP(ms:List Nat):List Nat->Nat->Nat->Bool
 |e::r,k+1,j=>Nat.testBit (eZ ms e) j || qP ms r k j
 | _,_,_=>false
def own(p:Nat->Bool):List (Nat×Nat×Obj)->List (Nat×Obj)
 | []=>[]
 |(j,n,o)::r=>if p j=true then(n,o)::own p r else own p r
def AM:Option Nat->Option Nat->Bool
 |some a,some b=>Nat.beq a b
 | _,_=>false
def zH(ms:List Nat)(ops:List Oper)(i t:Nat):Bool :=
 tV (fun l o=>!(AM o.dst (some t)) || Nat.beq l i || Nat.testBit (eZ ms i) l || Nat.testBit (eZ ms l) i) 0 ops
def K5(ms:List Nat)(ops:List Oper)(i:Nat):Operand->Bool
 | .tmp t=>zH ms ops i t
 | _=>true
def vP(ms:List Nat)(ops:List Oper)(i:Nat)(o:Oper):Bool :=
 match o.guard with
 |none=>true
 |some (g,_)=>match ops[g]? with
  |none=>true
  |some p=>match p.dst with
   |none=>true
   |some d=>zH ms ops i d
def TJ(ops:List Oper):Bool :=
 let ms:=eS ops []
 tV (fun i o=>Nat.beq (eZ ms i) (CB ms o) && Nat.blt (eZ ms i) (2 ^ i) &&
  (o.op.operands.toList.all (K5 ms ops i) && vP ms ops i o) && tV (fun l o'=>Nat.beq i l || !(AM o.dst o'.dst)) 0 ops) 0 ops
def aFG:Value->Value->Bool
 | .bool a,.bool b=>a==b
 | .int k n,.int k' n'=>k==k' && n==n'
 | .string a,.string b=>a.data.toList==b.data.toList
 | .pointer none,.pointer none=>true
 | .pointer (some ⟨m,off,none⟩),.pointer (some ⟨m',off',none⟩)=>Nat.beq m m' && Nat.beq off off'
 | .slice none l c,.slice none l' c'=>Nat.beq l l' && Nat.beq c c'
 | .slice (some ⟨m,off,none⟩) l c,.slice (some ⟨m',off',none⟩) l' c'=>Nat.beq m m' && Nat.beq off off' && (Nat.beq l l' && Nat.beq c c')
 | .map none,.map none=>true
 | .map (some m),.map (some m')=>Nat.beq m m'
 | .nilFunc,.nilFunc=>true
 | .nilIface,.nilIface=>true
 | .iface t (.pointer (some ⟨m,off,none⟩)),.iface t' (.pointer (some ⟨m',off',none⟩))=>Nat.beq t t' && (Nat.beq m m' && Nat.beq off off')
 | .iface t (.int k n),.iface t' (.int k' n')=>Nat.beq t t' && (k==k' && n==n')
 | _,_=>false
def MP:List Value->List Value->Bool
 | [],[]=>true
 |a::r,b::s=>aFG a b && MP r s
 | _,_=>false
def TK:Fn->Fn->Bool
 | .func g,.func g'=>Nat.beq g g'
 | .yield l,.yield l'=>Nat.beq l l'
 | _,_=>false
def aFH:Value->Value->Bool
 | .agg a,.agg b=>MP a.toList b.toList
 | .func f a b,.func f' a' b'=>TK f f' && (MP a.toList a'.toList && MP b.toList b'.toList)
 |a,b=>aFG a b
def AN:List Value->List Value->Bool
 | [],[]=>true
 |a::r,b::s=>aFH a b && AN r s
 | _,_=>false
def veq:Value->Value->Bool
 | .tuple a,.tuple b=>AN a.toList b.toList
 |a,b=>aFH a b
structure PY where
 on:Bool
 tm:List Value
 v:Value
 nx:Nat
 nx':Nat
structure DR where
 tm:List Value
 nx:Nat
 recs:List PY
 al:List (Nat×Nat×Obj)
 es:List Nat
 hs:List (List (Nat×Obj))
def seen(ms:List Nat)(es:List Nat)(hs:List (List (Nat×Obj)))(al:List (Nat×Nat×Obj))(i k:Nat):List (Nat×Obj) :=
 own (fun j=>Nat.testBit (eZ ms i) j && !qP ms es k j) al++oF hs k
def K6(callF:Fn->List Value->St->Option (Value×St))(P:Program)(ops:List Oper)(ms:List Nat)(i:Nat)(o:Oper)(R:DR):Option DR :=
 if tT ops R.tm o=true then
  match kind o.op with
  |3 =>
   if(R.es.all fun e=>Nat.testBit (eZ ms i) e)=true then
    match bX callF P R.tm ⟨seen ms R.es R.hs R.al i R.es.length,R.nx⟩ o with
    |some (v,S')=>if(Nat.ble R.nx S'.next && MN S'.next)=true then some ⟨rJ R.tm o.dst v,S'.next,R.recs++[⟨true,R.tm,v,R.nx,S'.next⟩],R.al,R.es++[i],R.hs++[S'.heap]⟩else none
    |none=>none
   else none
  |2 =>
   match bX callF P R.tm ⟨[],R.nx⟩ o with
   |some (v,⟨[(n,b)],nx⟩)=>if(Nat.ble R.nx nx && MN nx)=true then some ⟨rJ R.tm o.dst v,nx,R.recs++[⟨true,R.tm,v,R.nx,nx⟩],R.al++[(i,n,b)],R.es,R.hs⟩else none
   | _=>none
  | _ =>
   match bX callF P R.tm ⟨seen ms R.es R.hs R.al i R.es.length,R.nx⟩ o with
   |some (v,_)=>some ⟨rJ R.tm o.dst v,R.nx,R.recs++[⟨true,R.tm,v,R.nx,R.nx⟩],R.al,R.es,R.hs⟩
   |none=>none
 else some ⟨rJ R.tm o.dst undef,R.nx,R.recs++[⟨false,R.tm,undef,R.nx,R.nx⟩],R.al,R.es,R.hs⟩
def PZ(callF:Fn->List Value->St->Option (Value×St))(P:Program)(ops:List Oper)(ms:List Nat):Nat->List Oper->DR->Option DR
 | _,[],R=>some R
 |i,o::r,R=>match K6 callF P ops ms i o R with
  |some R'=>PZ callF P ops ms (i+1) r R'
  |none=>none
def MQ(callF:Fn->List Value->St->Option (Value×St))(P:Program)(ms:List Nat)(F:DR)(i:Nat)(o:Oper)(r:PY)(k:Nat):Bool :=
 qP ms F.es k i ||(F.es.drop k).any (fun e=>Nat.testBit (eZ ms i) e) ||
  (match bX callF P r.tm ⟨seen ms F.es F.hs F.al i k,r.nx⟩ o with
   |some (v,_)=>veq v r.v
   |none=>false)
def AP(callF:Fn->List Value->St->Option (Value×St))(P:Program)(ms:List Nat)(F:DR):Nat->List Oper->List PY->Bool
 | _,[],_=>true
 | _,_::_,[]=>false
 |i,o::l,r::rs=>(!r.on || !(Nat.beq (kind o.op) 1) || aBP F.es.length (MQ callF P ms F i o r)) && AP callF P ms F (i+1) l rs
def MR(n:Nat):List (Nat×Nat×Obj)->Bool
 | []=>true
 |(_,m,_)::r=>!(Nat.beq n m) && MR n r
def tW:List (Nat×Nat×Obj)->Bool
 | []=>true
 |(_,n,_)::r=>MR n r && tW r
def AQ(ms:List Nat)(F:DR):List (Nat×Nat×Obj)->Bool
 | []=>true
 |(j,n,_)::r=>aBP F.es.length (fun k=>qP ms F.es k j ||(aQ (oF F.hs k) n).isNone) && AQ ms F r
def vQ(callF:Fn->List Value->St->Option (Value×St))(P:Program)(ops:List Oper)(tm:List Value)(S:St):Option (List Value×St) :=
 match PZ callF P ops (eS ops []) 0 ops ⟨tm,S.next,[],[],[],[S.heap]⟩with
 |some F =>
  if AP callF P (eS ops []) F 0 ops F.recs && tW F.al && AQ (eS ops []) F F.al then
   some (F.tm,⟨own (fun j=>!qP (eS ops []) F.es F.es.length j) F.al++oF F.hs F.es.length,F.nx⟩)
  else none
 |none=>none
def mW:List MapEntry->List MapEntry->Bool
 | [],[]=>true
 |a::r,b::s=>veq a.key b.key && veq a.val b.val && Nat.beq a.born b.born && mW r s
 | _,_=>false
def FY:Obj->Obj->Bool
 | .map es c,.map es' c'=>mW es.toList es'.toList && Nat.beq c c'
 | .cells c e fz,.cells c' e' fz'=>AN c.toList c'.toList && Nat.beq e e' && (Nat.beq fz.1 fz'.1 && Nat.beq fz.2 fz'.2)
 | _,_=>false
def vR(h':List (Nat×Obj)):List (Nat×Obj)->Bool
 | []=>true
 |(n,o)::r=>(match aQ h' n with|some o'=>FY o o'|none=>false) && vR h' r
def TL:List Value->List Value->Bool
 | [],[]=>true
 |a::r,b::s=>veq a b && TL r s
 | _,_=>false
def xP(n:Nat):List (Nat×Obj)->Bool
 | []=>false
 |(m,_)::r=>Nat.beq m n || xP n r
def rS(h:List (Nat×Obj)):List (Nat×Obj)->List (Nat×Obj)
 | []=>[]
 |(n,o)::r=>if xP n h=true then rS h r else(n,o)::rS h r
def qQ(callF:Fn->List Value->St->Option (Value×St))(P:Program)(ops:List Oper):List Oper->List Value->St->Option (List Value×St)
 | [],tm,S=>some (tm,S)
 |o::r,tm,S =>
  if tT ops tm o=true then
   match bX callF P tm S o with
   |some (v,S')=>if Nat.ble S.next S'.next=true then qQ callF P ops r (rJ tm o.dst v) S' else none
   |none=>none
  else qQ callF P ops r (rJ tm o.dst undef) S
def WX(P:Program)(l:List Oper):Bool:=tV (fun _ o=>o.op.operands.toList.all (tC P)) 0 l
def dV(P:Program):Code->Bool
 | .skip | .exit _ | .ret | .label _=>true
 | .region _ ops d=>WX P ops.toList && (!d || TJ ops.toList)
 | .seq a b=>dV P a && dV P b
 | .cond x a b=>tC P x && (dV P a && dV P b)
 | .block _ b | .loop b | .scope b=>dV P b
 | .rangeFunc g _ _ _=>tC P g
 | _=>true
def FZ:Code->Bool
 | .seq a b | .cond _ a b=>FZ a && FZ b
 | .block _ b | .loop b | .scope b=>FZ b
 | .rangeFunc ..=>false
 | _=>true
def MS:LoopState->Bool
 | .ready=>true
 | _=>false
def aHQ:LoopState->Bool
 | .busy=>true
 | _=>false
def xQ(P:Program)(g:FuncId):Bool :=
 match P.funcs[g]? with
 |some fn=>fn.body.isSome
 |none=>false
def MT:Option Code->Option Exit
 |none=>some .normal
 |some .ret=>some .ret
 |some (.exit j)=>some (.exit j)
 | _=>none
def F0:Exit->Option (Option Code)
 | .normal=>some none
 | .ret=>some (some .ret)
 | .exit j=>some (some (.exit j))
 | _=>none
def pP:List Tmp->List Value->List Value->List Value
 |p::ps,x::xs,tm=>pP ps xs (kX tm p x)
 | _,_,tm=>tm
def evC(callF:Fn->List Value->St->Option (Value×St))(P:Program):Nat->Code->List Value->St->Option (Exit×List Value×St)
 |0,_,_,_=>none
 |f+1,c,tm,S =>
  match c with
  | .skip=>some (.normal,tm,S)
  | .region _ ops false =>
   match qQ callF P ops.toList ops.toList tm S with
   |some (tm',S')=>some (.normal,tm',S')
   |none=>none
  | .region _ ops true =>
   match vQ callF P ops.toList tm S with
   |some (tm',S')=>some (.normal,tm',S')
   |none=>none
  | .seq a b =>
   match evC callF P f a tm S with
   |some (.normal,tm',S')=>evC callF P f b tm' S'
   |r=>r
  | .cond x a b =>
   match aE tm x with
   | .bool true=>evC callF P f a tm S
   | .bool false=>evC callF P f b tm S
   | _=>none
  | .block id b =>
   match evC callF P f b tm S with
   |some (.exit j,tm',S')=>if Nat.beq j id=true then some (.normal,tm',S')else some (.exit j,tm',S')
   |r=>r
  | .loop b =>
   match evC callF P f b tm S with
   |some (.normal,tm',S')=>evC callF P f (.loop b) tm' S'
   |r=>r
  | .exit id=>some (.exit id,tm,S)
  | .ret=>some (.ret,tm,S)
  | .label _=>some (.normal,tm,S)
  | .scope b=>evC callF P f b tm S
  | .rangeFunc g ps a9 b =>
   match aE tm g with
   | .func (.func gf) first captured =>
    if first.toList.isEmpty && xQ P gf then
     match callF (.func gf) (.func (.yield S.next) #[] #[]::captured.toList) ⟨(S.next,.loop ⟨.ready,none,0,tm.toArray,ps,a9,b,0⟩)::S.heap,S.next+2⟩with
     |some (_,S2) =>
      if Nat.ble (S.next+2) S2.next then
       match aQ S2.heap S.next with
       |some (.loop r) =>
        if aHQ r.state then none else
        match MT r.pending with
        |some e=>some (e,tm,⟨J8 S2.heap S.next,S2.next⟩)
        |none=>none
       | _=>none
      else none
     |none=>none
    else none
   | _=>none
  | _=>none
def MU(callF:Fn->List Value->St->Option (Value×St))(P:Program)(fuel:Nat)(l:Nat)(args:List Value)(S:St):Option (Value×St) :=
 match aQ S.heap l with
 |some (.loop r) =>
  if MS r.state && Nat.beq args.length r.params.size && (FZ r.assign && FZ r.body) && (dV P r.assign && dV P r.body)then
   match evC callF P fuel r.assign (pP r.params.toList args r.tmps.toList) S with
   |some (.normal,tm1,S1) =>
    match aQ S1.heap l with
    |some (.loop r1) =>
     if MS r1.state then
      match evC callF P fuel r.body tm1 ⟨u9 S1.heap l (.loop { r1 with state:=.busy }),S1.next⟩with
      |some (e,_,S3) =>
       match aQ S3.heap l,F0 e with
       |some (.loop r3),some j=>some (.bool j.isNone,⟨u9 S3.heap l (.loop { r3 with state:=if j.isNone then .ready else .done,pending:=j }),S3.next⟩)
       | _,_=>none
      |none=>none
     else none
    | _=>none
   | _=>none
  else none
 | _=>none
def j5(orc:FuncId->List Value->St->Option (Value×St))(P:Program)(fs:Nat)(fuel:Nat):Nat->Fn->List Value->St->Option (Value×St)
 |0,_,_,_=>none
 |d+1,.yield l,args,S=>MU (j5 orc P fs fuel d) P fuel l args S
 |d+1,.func f,args,S =>
  if Nat.testBit fs f=true then
   match P.funcs[f]? with
   |none=>none
   |some fn =>
    match fn.body with
    |none=>none
    |some c =>
     match evC (j5 orc P fs fuel d) P fuel c (args++List.replicate (fn.ntmps-args.length) undef) S with
     |some (.normal,tm,S')|some (.ret,tm,S') =>
      match j3 P S'.heap tm fn.results.toList with
      |some vs =>
       let v:Value:=match vs with
        | [v]=>v
        |vs=>.tuple vs.toArray
       if plain v && AK args then some (v,⟨tU S.next S'.heap,S'.next⟩)else some (v,S')
      |none=>none
     | _=>none
  else orc f args S
 | _+1,_,_,_=>none
def mB(P:Program):Nat->Nat->Bool
 |0,_=>true
 |f+1,fs=>(!(Nat.testBit fs f) ||(match P.funcs[f]? with
  |some fn=>match fn.body with
   |some c=>dV P c
   |none=>true
  |none=>true)) && mB P f fs
end Go.Dam
