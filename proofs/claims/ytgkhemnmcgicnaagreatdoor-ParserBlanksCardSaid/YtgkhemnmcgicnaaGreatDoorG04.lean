/- An own evaluator of closed runs of a program, proved sound against the model: one part of it. -/
import Derived.Test.YtgkhemnmcgicnaaGreatDoorG03
import Derived.LoopNIn
import Derived.RangeFuncRecord
import Derived.RangeFuncIn
import Derived.Scope
import Derived.Below
import Derived.Laws.Sem
namespace Go.Dam
section
variable{P:Program}{tm tm':List Value}{callF:Fn->List Value->St->Option (Value×St)}
theorem QX{o:Oper}(hsel:∀cs b,o.op≠.select cs b)(h:∀x∈o.op.operands,aE tm x=aE tm' x):mU P tm o=mU P tm' o:=by
 unfold mU;rw[execOp_congr o hsel h]
theorem iJ:∀{l:List Operand},(∀x∈l,aE tm x=aE tm' x)->cN tm l=cN tm' l
 | [],_=>rfl
 |x::r,h=>by
  simp only[cN];rw[h x (by simp),iJ fun y hy=>h y (by simp[hy])]
theorem A4{ps:Array (Nat×Operand)}(h:∀x∈ps.map (·.2),aE tm x=aE tm' x):mL tm ps=mL tm' ps:=by
 unfold mL
 congr 1
 refine yp fun p hp => ?_;obtain⟨i,x⟩:=p;simp only[yc,true_and];exact h x (Array.mem_map.2 ⟨(i,x),by simpa using hp,rfl⟩)
theorem oS{xs:Array Operand}(h:∀x∈xs,aE tm x=aE tm' x):xs.toList.map (aE tm)=xs.toList.map (aE tm') :=
 yp fun x hx=>h x (by simpa using hx)
theorem A6{S:St}{t:TypeId}{n:Nat}{ps:Array (Nat×Operand)}(h:∀x∈ps.map (·.2),aE tm x=aE tm' x):mV P tm S t n ps=mV P tm' S t n ps:=by
 unfold mV;rw[A4 h]
theorem QY{S:St}{o:Oper}(hsel:∀cs b,o.op≠.select cs b)(h:∀x∈o.op.operands,aE tm x=aE tm' x):bX callF P tm S o=bX callF P tm' S o:=by
 have hp:mU P tm o=mU P tm' o:=QX hsel h;obtain⟨dst,op,ty,pos,after,guard⟩:=o;cases op;case call c =>
  have hargs:∀x∈c.args.toList,aE tm x=aE tm' x:=fun x hx=>h x (by
   simp only[Op.operands,Call.operands];cases c.callee<;>simp[by simpa using hx])
  simp only[bX,hp];cases hc:c.callee with
  |builtin b =>
   generalize hxs:c.args.toList=xs at hargs⊢;have hpo:=iJ hargs;rcases xs with _ |⟨x,_ |⟨y,_ |⟨z,r⟩⟩⟩
   ·cases b<;>simp only[hpo]
   ·have hx:=hargs x (by simp);cases b<;>simp only[hpo,hx]
   ·have hx:=hargs x (by simp);have hy:=hargs y (by simp);cases b<;>simp only[hpo,hx,hy]
   ·cases b<;>simp only[hpo]
  |value f =>
   have hf:aE tm f=aE tm' f:=h f (by simp[Op.operands,Call.operands,hc]);simp only[hf,iJ hargs,oS (xs:=c.args) (fun x hx=>hargs x (by simpa using hx))];generalize hxs:c.args.toList=xs at hargs⊢;rcases xs with _ |⟨x,_ |⟨y,r⟩⟩
   ·rfl
   ·have hx:=hargs x (by simp);simp only[hx];generalize aE tm' f=u;cases u<;>try rfl
    rename_i fn first captured
    cases fn<;>try rfl
    rename_i g;simp only;cases P.funcs[g]?<;>try rfl
    rename_i fn;simp only;cases fn.body<;>try rfl
    simp only;generalize fn.resultTypes.toList=l;rcases l with _ |⟨y,_ |⟨z,r⟩⟩
    ·rfl
    ·simp only[hx]
    ·rfl
   ·rfl
  |invoke r m =>
   have hr:aE tm r=aE tm' r:=h r (by simp[Op.operands,Call.operands,hc]);have hm:c.args.toList.map (aE tm)=c.args.toList.map (aE tm'):=oS fun x hx=>h x (by simp[Op.operands,Call.operands,hx]);simp only[hr,hm]
 case build t ps=>simp only[bX,A4 (tm:=tm) (tm':=tm') fun x hx=>h x (by simpa [Op.operands]using hx)]
 case buildSlice t n ps=>simp only[bX,A6 (P:=P) (tm:=tm) (tm':=tm') fun x hx=>h x (by simpa [Op.operands]using hx)]
 case makeFunc fn first captured =>
  simp only[bX,oS (xs:=first) fun x hx=>h x (by simp[Op.operands,hx]),oS (xs:=captured) fun x hx=>h x (by simp[Op.operands,hx])]
 case makeMap t r=>cases r<;>rfl
 case slice t x lo hi mx =>
  cases mx with
  |some m=>rfl
  |none =>
   have hx:aE tm x=aE tm' x:=h x (by simp[Op.operands]);have hl:lo.map (aE tm)=lo.map (aE tm'):=by cases lo with|none=>rfl|some l=>simp[h l (by simp[Op.operands])]
   have hh:hi.map (aE tm)=hi.map (aE tm'):=by cases hi with|none=>rfl|some l=>simp[h l (by simp[Op.operands])]
   have hpo:cN tm (x::(lo.toList++hi.toList))=cN tm' (x::(lo.toList++hi.toList)):=iJ fun y hy=>h y (by
    simp only[yk,yy,Option.mem_toList]at hy;rcases hy with rfl|hy|hy
    ·simp[Op.operands]
    ·cases lo<;>simp_all[Op.operands]
    ·cases hi<;>simp_all[Op.operands])
   simp only[bX,hx,hl,hh,hp,hpo]
 all_goals(simp only[Op.operands]at h;first|rfl |(simp only[bX];simp_all;done))
theorem DX{S S':St}{o:Oper}{v:Value}(hk:kind o.op=0\/kind o.op=1)(h:bX callF P tm S o=some (v,S')):S'=S:=by
 obtain⟨dst,op,ty,pos,after,guard⟩:=o;cases op;case call c =>
  obtain⟨callee,args,at'⟩:=c;cases callee with
  |builtin b =>
   cases b<;>simp only[kind]at hk<;>first |(simp at hk;done)|skip
   all_goals(simp only[bX]at h;repeat' split at h)<;>simp_all
  | _=>simp[kind]at hk
 case makeMap t r=>cases r<;>simp[kind]at hk
 all_goals first |(simp[kind]at hk;done)|skip
 all_goals(simp only[bX]at h;(repeat' split at h)<;>simp_all)
theorem T3{S S' S₂:St}{o:Oper}{v:Value}(hk:kind o.op=0)(h:bX callF P tm S o=some (v,S')):bX callF P tm S₂ o=some (v,S₂):=by
 obtain⟨dst,op,ty,pos,after,guard⟩:=o;cases op;case call c =>
  obtain⟨callee,args,at'⟩:=c;cases callee with
  |builtin b =>
   cases b<;>simp only[kind]at hk<;>first |(simp at hk;done)|skip
   all_goals(simp only[bX]at h⊢;repeat' split at h)<;>simp_all
  | _=>simp[kind]at hk
 case makeMap t r=>cases r<;>simp[kind]at hk
 all_goals first |(simp[kind]at hk;done)|skip
 all_goals(simp only[bX]at h⊢;(repeat' split at h)<;>simp_all)
end
theorem nG{f:Nat->Oper->Bool}:∀{l:List Oper}{k:Nat},tV f k l=true->∀j o,l[j]?=some o->f (k+j) o=true
 | [],_,_,j,o,h=>by simp at h
 |p::r,k,hf,j,o,h=>by
  simp only[tV,yd]at hf;cases j with
  |zero=>simp only[List.getElem?_cons_zero,ya]at h;subst h;exact hf.1
  |succ j =>
   have:=nG hf.2 j o (by simpa using h);rwa[yx,Nat.add_comm 1 j]at this
theorem CP{f:Nat->Bool}:∀{n:Nat},aBP n f=true->∀k,k<=n->f k=true
 | 0, h, k, hk => by obtain rfl : k = 0 := by omega
                     exact h
 |n+1,h,k,hk=>by
  simp only[aBP,yd]at h;rcases Nat.lt_or_ge n k with h'|h'
  ·obtain rfl:k=n+1:=by omega
   exact h.1
  ·exact CP h.2 k h'
theorem DY{n:Nat}(h:MN n=true):n % 2=0:=by simpa [MN]using h
theorem testBit_or{a b j:Nat}:Nat.testBit (a ||| b) j=(Nat.testBit a j || Nat.testBit b j):=Nat.testBit_or a b j
theorem LF (ms : List Nat) : ∀ (l : List Edge) (s j : Nat), Nat.testBit (l.foldl (fun s e => if Region.binds .any e = true then s ||| (2 ^ e.on) ||| eZ ms e.on else s) s) j = true ->
  Nat.testBit s j=true\/∃e∈l,Region.binds .any e=true/\(j=e.on\/Nat.testBit (eZ ms e.on) j=true)
 | [],s,j,h=>.inl h
 |e::l,s,j,h=>by
  simp only[List.foldl_cons]at h;rcases LF ms l _ j h with h |⟨e',he,h⟩
  ·split at h
   ·rename_i hb;rw[testBit_or,testBit_or,Nat.testBit_two_pow]at h;simp only[yu,decide_eq_true_eq]at h;rcases h with(h|h)|h
    ·exact .inl h
    ·exact .inr ⟨e,by simp,hb,.inl h.symm⟩
    ·exact .inr ⟨e,by simp,hb,.inr h⟩
   ·exact .inl h
  ·exact .inr ⟨e',by simp[he],h⟩
theorem yM{a b:Option Nat}(h:AM a b=false){d:Nat}(ha:a=some d):b≠some d:=by
 subst ha;rintro rfl;simp[AM]at h
structure OkD(ops:List Oper)(ms:List Nat):Prop where
 mask:∀(i:Nat)(o:Oper)(j:Nat),ops[i]?=some o->Nat.testBit (eZ ms i) j=true->j<i/\∃e∈o.after,Region.binds .any e=true/\(j=e.on\/Nat.testBit (eZ ms e.on) j=true)
 early:∀(i:Nat)(o:Oper)(e:Edge),ops[i]?=some o->e∈o.after->Region.binds .any e=true->e.on<i
 slot:∀(i:Nat)(o:Oper)(x:Operand)(t:Nat),ops[i]?=some o->x∈o.op.operands->x=.tmp t->zH ms ops i t=true
 guard:∀(i:Nat)(o:Oper)(g:Nat)(want:Bool)(p:Oper)(d:Nat),ops[i]?=some o->o.guard=some (g,want)->ops[g]?=some p->p.dst=some d->zH ms ops i d=true
 dst:∀(i l:Nat)(o o':Oper)(d:Nat),ops[i]?=some o->ops[l]?=some o'->i≠l->o.dst=some d->o'.dst≠some d
theorem yN(ms:List Nat):∀(l:List Edge)(s j:Nat),(Nat.testBit s j=true\/∃e∈l,Region.binds .any e=true/\j=e.on) ->
  Nat.testBit (l.foldl (fun s e=>if Region.binds .any e=true then s |||(2 ^ e.on) ||| eZ ms e.on else s) s) j=true
 | [],s,j,h=>by
  rcases h with h |⟨e,he,_⟩
  ·exact h
  ·cases he
 |e::l,s,j,h=>by
  simp only[List.foldl_cons];refine yN ms l _ j ?_;rcases h with h |⟨e',he,hb,rfl⟩
  ·left;split
   ·rw[testBit_or,testBit_or,h];rfl
   ·exact h
  ·rcases yk.1 he with rfl|he
   ·left;rw[if_pos hb,testBit_or,testBit_or,Nat.testBit_two_pow];simp
   ·exact .inr ⟨e',he,hb,rfl⟩
theorem QZ{ops:List Oper}(h:TJ ops=true):OkD ops (eS ops []):=by
 have key : ∀ i o, ops[i]? = some o -> eZ (eS ops []) i = CB (eS ops []) o /\ eZ (eS ops []) i < 2 ^ i /\ (∀ x ∈ o.op.operands, K5 (eS ops []) ops i x = true) /\
   vP (eS ops []) ops i o=true/\∀l o',ops[l]?=some o'->i=l\/AM o.dst o'.dst=false:=by
  intro i o ho;have:=nG h i o ho;simp only[yym,yd,List.all_eq_true]at this;obtain⟨⟨⟨h1,h2⟩,h3,h4⟩,h5⟩:=this;refine⟨yf h1,ye h2,fun x hx=>h3 x (by simpa using hx),h4,fun l o' hl => ?_⟩;have:=nG h5 l o' hl;simp only[yym,yu,yyb]at this;exact this.imp yf id
 have small:∀i o j,ops[i]?=some o->Nat.testBit (eZ (eS ops []) i) j=true->j<i:=by
  intro i o j ho hj;rcases Nat.lt_or_ge j i with h'|h'
  ·exact h'
  ·have:=Nat.testBit_lt_two_pow (Nat.lt_of_lt_of_le (key i o ho).2.1 (Nat.pow_le_pow_right (by decide) h'));rw[this]at hj;cases hj
 constructor
 ·intro i o j ho hj;refine⟨small i o j ho hj,?_⟩;rw[(key i o ho).1]at hj;rcases LF _ _ _ _ hj with h |⟨e,he,h⟩
  ·simp at h
  ·exact⟨e,by simpa using he,h⟩
 ·intro i o e ho he hb;refine small i o _ ho ?_;rw[(key i o ho).1];exact yN _ _ _ _ (.inr ⟨e,by simpa using he,hb,rfl⟩)
 ·rintro i o _ t ho hx rfl;exact(key i o ho).2.2.1 _ hx
 ·intro i o g want p d ho hg hp hd;have:=(key i o ho).2.2.2.1;simpa [vP,hg,hp,hd]using this
 ·intro i l o o' d ho hl hne hd;rcases(key i o ho).2.2.2.2 l o' hl with h|h
  ·exact absurd h hne
  ·exact yM h hd
theorem Q0{ms:List Nat}{ops:List Oper}{i t:Nat}(h:zH ms ops i t=true){l:Nat}{o:Oper}(ho:ops[l]?=some o)(hd:o.dst=some t) :
  l=i\/Nat.testBit (eZ ms i) l=true\/Nat.testBit (eZ ms l) i=true:=by
 have:=nG h l o ho;simp only[yym,yu,yyb]at this;rcases this with((h|h)|h)|h
 ·exact absurd rfl (yM (b:=some t) h hd)
 ·exact .inl (yf h)
 ·exact .inr (.inl h)
 ·exact .inr (.inr h)
theorem LG{a b:Value}(h:aFG a b=true):a=b:=by
 unfold aFG at h;split at h;case h_3 a b =>
  have:a.data.toList=b.data.toList:=by simpa using h
  congr 1
  cases a;cases b
  congr 1
  exact yl this
 all_goals simp_all
theorem tH:∀{a b:List Value},MP a b=true->a=b
 | [],[],_=>rfl
 | [],_::_,h=>by simp[MP]at h
 | _::_,[],h=>by simp[MP]at h
 |a::r,b::s,h=>by
  simp only[MP,yd]at h;rw[LG h.1,tH h.2]
theorem Q5{a b:Fn}(h:TK a b=true):a=b:=by
 unfold TK at h;split at h
 ·rw[yf h]
 ·rw[yf h]
 ·cases h
theorem LH{a b:Value}(h:aFH a b=true):a=b:=by
 unfold aFH at h;split at h
 ·congr 1;exact yl (tH h)
 ·simp only[yd]at h;rw[Q5 h.1,yl (tH h.2.1),yl (tH h.2.2)]
 ·exact LG h
theorem qW:∀{a b:List Value},AN a b=true->a=b
 | [],[],_=>rfl
 |a::r,b::s,h=>by
  simp only[AN,yd]at h;rw[LH h.1,qW h.2]
 | [],_::_,h=>by simp[AN]at h
 | _::_,[],h=>by simp[AN]at h
theorem qX{a b:Value}(h:veq a b=true):a=b:=by
 unfold veq at h;split at h
 ·congr 1;exact yl (qW h)
 ·exact LH h
theorem rV{p:Nat->Bool}{n:Nat}{o:Obj}:∀{al:List (Nat×Nat×Obj)},aQ (own p al) n=some o->∃j,(j,n,o)∈al/\p j=true
 | [],h=>by simp[own,aQ]at h
 |(j,m,x)::r,h=>by
  simp only[own]at h;split at h
  ·rename_i hp;simp only[aQ]at h;split at h
   ·rename_i hm;obtain rfl:=yf hm;obtain rfl:=yg h;exact⟨j,by simp,hp⟩
   ·obtain⟨j',h1,h2⟩:=rV h;exact⟨j',by simp[h1],h2⟩
  ·obtain⟨j',h1,h2⟩:=rV h;exact⟨j',by simp[h1],h2⟩
theorem rW{n:Nat}:∀{al:List (Nat×Nat×Obj)},MR n al=true->∀x∈al,x.2.1≠n
 | [],_,x,hx=>by cases hx
 |(j,m,y)::r,h,x,hx=>by
  simp only[MR,yd,yyb]at h;rcases yk.1 hx with rfl|hx
  ·intro e;subst e;simp at h
  ·exact rW h.2 x hx
theorem t7{p:Nat->Bool}{n j:Nat}{o:Obj}:∀{al:List (Nat×Nat×Obj)},tW al=true->(j,n,o)∈al->p j=true->aQ (own p al) n=some o
 | [],_,h,_=>by cases h
 |(i,m,x)::r,hn,h,hp=>by
  simp only[tW,yd]at hn;rcases yk.1 h with h|h
  ·obtain⟨rfl,rfl,rfl⟩:j=i/\n=m/\o=x:=by simpa using h
   simp[own,hp,aQ]
  ·have hne:n≠m:=fun e=>rW hn.1 _ h e;simp only[own];split
   ·simp only[aQ];rw[if_neg (by simpa using fun e=>hne e.symm)];exact t7 hn.2 h hp
   ·exact t7 hn.2 h hp
theorem A7:∀{al:List (Nat×Nat×Obj)},tW al=true->∀{i j n:Nat}{o o':Obj},(i,n,o)∈al->(j,n,o')∈al->i=j/\o=o'
 | [],_,_,_,_,_,_,h,_=>by cases h
 |(k,m,x)::r,hn,i,j,n,o,o',h1,h2=>by
  simp only[tW,yd]at hn;rcases yk.1 h1 with e1|m1<;>rcases yk.1 h2 with e2|m2
  ·simp only[yc]at e1 e2;obtain⟨rfl,rfl,rfl⟩:=e1;obtain⟨rfl,_,rfl⟩:=e2;exact⟨rfl,rfl⟩
  ·simp only[yc]at e1;obtain⟨rfl,rfl,rfl⟩:=e1;exact absurd rfl (rW hn.1 (_,_,_) m2)
  ·simp only[yc]at e2;obtain⟨rfl,rfl,rfl⟩:=e2;exact absurd rfl (rW hn.1 (_,_,_) m1)
  ·exact A7 hn.2 m1 m2
theorem t8{ms:List Nat}{F:DR}:∀{al:List (Nat×Nat×Obj)},AQ ms F al=true->∀j n o k,(j,n,o)∈al->k<=F.es.length->qP ms F.es k j=false->aQ (oF F.hs k) n=none
 | [],_,_,_,_,_,h,_,_=>by cases h
 |(i,m,x)::r,ha,j,n,o,k,h,hk,hab=>by
  simp only[AQ,yd]at ha;rcases yk.1 h with e|h
  ·simp only[yc]at e;obtain⟨rfl,rfl,rfl⟩:=e;have:=CP ha.1 k hk;simpa [hab]using this
  ·exact t8 ha.2 j n o k h hk hab
theorem wK(a b:List (Nat×Obj))(n:Nat):aQ (a++b) n=match aQ a n with|some o=>some o|none=>aQ b n:=by
 induction a with
 |nil=>rfl
 |cons x r ih =>
  obtain⟨m,o⟩:=x;simp only[List.cons_append,aQ];split
  ·rfl
  ·exact ih
theorem LJ{ms:List Nat}{j:Nat}:∀{es:List Nat}{k:Nat},qP ms es k j=true->∃t e,t<k/\es[t]?=some e/\Nat.testBit (eZ ms e) j=true
 | [],_,h=>by simp[qP]at h
 | _::_,0,h=>by simp[qP]at h
 |e::r,k+1,h=>by
  simp only[qP,yu]at h;rcases h with h|h
  ·exact⟨0,e,by omega,rfl,h⟩
  ·obtain⟨t,e',h1,h2,h3⟩:=LJ h;exact⟨t+1,e',by omega,by simpa using h2,h3⟩
theorem LK{ms:List Nat}{j e:Nat}:∀{es:List Nat}{k:Nat},es[k]?=some e->qP ms es (k+1) j=(qP ms es k j || Nat.testBit (eZ ms e) j)
 | [],_,h=>by simp at h
 |x::r,0,h=>by
  obtain rfl:x=e:=by simpa using h
  cases r<;>simp[qP]
 |x::r,k+1,h=>by
  have ih:=LK (ms:=ms) (j:=j) (es:=r) (k:=k) (by simpa using h);rw[qP.eq_1,ih,qP.eq_1,Bool.or_assoc]
theorem DZ{ms:List Nat}{j:Nat}:∀{es es':List Nat}{k:Nat},k<=es.length->qP ms (es++es') k j=qP ms es k j
 | [],es',k,h=>by
  obtain rfl:k=0:=by simpa using h
  cases es'<;>simp[qP]
 |x::r,es',0,_=>by simp[qP]
 |x::r,es',k+1,h=>by
  simp only[List.cons_append,qP];rw[DZ (by simpa using h)]
theorem sU:∀{hs hs':List (List (Nat×Obj))}{k:Nat},k<hs.length->oF (hs++hs') k=oF hs k
 | [],_,k,h=>by simp at h
 |x::r,hs',0,_=>rfl
 |x::r,hs',k+1,h=>by
  simp only[List.cons_append,oF];exact sU (by simpa using h)
theorem GV{p:Nat->Bool}:∀{al al':List (Nat×Nat×Obj)},(∀x∈al',p x.1=false)->own p (al++al')=own p al
 | [],al',h=>by
  induction al' with
  |nil=>rfl
  |cons x r ih =>
   obtain⟨j,n,o⟩:=x;have hx:=h (j,n,o) (by simp);simp only at hx;simp only[List.nil_append,own]at ih⊢;rw[if_neg (by simp[hx])];exact ih fun y hy=>h y (by simp[hy])
 |(j,n,o)::r,al',h=>by
  simp only[List.cons_append,own];rw[GV h]
theorem D1{ms:List Nat}{es es':List Nat}{hs hs':List (List (Nat×Obj))}{al al':List (Nat×Nat×Obj)}{i k:Nat}(hal:∀x∈al',Nat.testBit (eZ ms i) x.1=false)(hk:k<=es.length)(hh:k<hs.length) :
  seen ms (es++es') (hs++hs') (al++al') i k=seen ms es hs al i k:=by
 unfold seen;rw[sU hh,GV fun x hx=>by simp[hal x hx]]
 congr 2
 funext j
 rw[DZ hk]
theorem tJ:∀{a b:List MapEntry},mW a b=true->a=b
 | [],[],_=>rfl
 |a::r,b::s,h=>by
  simp only[mW,yd]at h;obtain⟨⟨⟨h1,h2⟩,h3⟩,h4⟩:=h;rw[tJ h4]
  congr 1
  obtain⟨k,v,b0⟩:=a;obtain⟨k',v',b0'⟩:=b;simp only at h1 h2 h3;rw[qX h1,qX h2,yf h3]
 | [],_::_,h=>by simp[mW]at h
 | _::_,[],h=>by simp[mW]at h
theorem KG{o o':Obj}(h:FY o o'=true):o=o':=by
 unfold FY at h;split at h
 ·simp only[yd]at h
  congr 1
  ·exact yl (tJ h.1)
  ·exact yf h.2
 ·rename_i c e fz c' e' fz';simp only[yd]at h;obtain⟨⟨h1,h2⟩,h3,h4⟩:=h
  congr 1
  ·exact yl (qW h1)
  ·exact yf h2
  ·exact Prod.ext (yf h3) (yf h4)
 ·cases h
theorem rX{h':List (Nat×Obj)}:∀{h:List (Nat×Obj)},vR h' h=true->∀n o,aQ h n=some o->aQ h' n=some o
 | [],_,n,o,hg=>by cases hg
 |(m,x)::r,hs,n,o,hg=>by
  simp only[vR,yd]at hs;simp only[aQ]at hg;split at hg
  ·rename_i hm;obtain rfl:=yf hm;obtain rfl:=yg hg;have:=hs.1;split at this
   ·rename_i o' ho';rw[ho',KG this]
   ·cases this
  ·exact rX hs.2 n o hg
theorem CQ:∀{a b:List Value},TL a b=true->a=b
 | [],[],_=>rfl
 |a::r,b::s,h=>by
  simp only[TL,yd]at h;rw[qX h.1,CQ h.2]
 | [],_::_,h=>by simp[TL]at h
 | _::_,[],h=>by simp[TL]at h
section
variable{P:Program}{E E' E₁ E₂:cA}{A B:Nat->Prop}{h h' h₁ h₂ hs hs':List (Nat×Obj)}{nx nx' i i' N:Nat}{w w' w₁ w₂:World}
theorem bB.frame(H:aW P E A h w)(hsub:∀n o,aQ hs n=some o->aQ h n=some o)(q:bB P E A hs nx w E' hs' nx' w')(hA:∀n,A n->¬(nx<=n/\n<nx'))
  (hh:∀n o,aQ h₂ n=some o->aQ hs' n=some o\/(aQ h n=some o/\aQ hs n=none)):bB P E A h nx w E' h₂ nx' w' where
 le:=q.le
 even:=q.even
 agree:=q.agree
 os:=q.os
 tape:=q.tape
 output:=q.output
 size:=q.size
 same b hb hn:=q.same b hb fun n o hg=>hn n o (hsub n o hg)
 img n o hn:=by
  rcases hh n o hn with hg |⟨hg,hno⟩
  ·exact(q.img n o hg).imp (fun⟨m,o',hm,e⟩=>⟨m,o',hsub m o' hm,e⟩) id
  ·exact .inl ⟨n,o,hg,(q.agree n (hA n (H.blk n o hg).1)).1⟩
 holds:=by
  have hag:kR A E E':=q.agreeA hA;have hfr:∀n o,aQ h n=some o->aQ hs n=none->E'.β n=E.β n/\E.β n<w.heap.size/\w'.heap[E.β n]?=w.heap[E.β n]?:=by
   intro n o hg hno;obtain⟨a,s,oc,hc,hr⟩:=H.blk n o hg;have hlt:E.β n<w.heap.size:=by
    rcases Nat.lt_or_ge (E.β n) w.heap.size with h'|h'
    ·exact h'
    ·rw[yye h']at hc;cases hc
   refine⟨(hag n a).1,hlt,q.same _ hlt fun m x hm e => ?_⟩;have:=H.inj m n x o (hsub m x hm) hg e;subst this;rw[hno]at hm;cases hm
  have cross:∀n m o o',aQ hs' n=some o->aQ h m=some o'->aQ hs m=none->E'.β n≠E'.β m:=by
   intro n m o o' hn hm hno e;obtain⟨e1,e2,_⟩:=hfr m o' hm hno;rcases q.img n o hn with⟨k,x,hk,ek⟩|ek
   ·have:=H.inj k m x o' (hsub k x hk) hm (by rw[<-ek,e,e1]);subst this;rw[hno]at hk;cases hk
   ·rw[e,e1]at ek;omega
  refine⟨fun n o hn => ?_,fun n m o o' hn hm e => ?_⟩
  ·rcases hh n o hn with hg |⟨hg,hno⟩
   ·exact q.holds.blk n o hg
   ·obtain⟨a,s,oc,hc,hr⟩:=H.blk n o hg;obtain⟨e1,e2,e3⟩:=hfr n o hg hno;exact⟨.inl a,mM (fun _ h=>.inl h) o s,oc,by rw[e1,e3];exact hc,cV.agree hag a s hr⟩
  ·rcases hh n o hn with hg |⟨hg,hno⟩<;>rcases hh m o' hm with hg' |⟨hg',hno'⟩
   ·exact q.holds.inj n m o o' hg hg' e
   ·exact absurd e (cross n m o o' hg hg' hno')
   ·exact absurd e.symm (cross m n o' o hg' hg hno)
   ·rw[(hfr n o hg hno).1,(hfr m o' hg' hno').1]at e;exact H.inj n m o o' hg hg' e
theorem bB.wide(p:bB P E A h nx w E₁ h₁ N w₁)(q:bB P E₁ B h₁ i w₁ E₂ h₂ i' w₂)(hi:nx<=i)(hi':i'<=N)(hB:∀n,B n\/(i<=n/\n<i')->A n\/(nx<=n/\n<N)):bB P E A h nx w E₂ h₂ N w₂ where
 le:=p.le
 even:=p.even
 agree n hn:=by
  obtain⟨a1,a2,a3⟩:=p.agree n hn;obtain⟨b1,b2,b3⟩:=q.agree n (by omega);exact⟨b1.trans a1,b2.trans a2,b3.trans a3⟩
 holds:=q.holds.mono hB
 os:=q.os.trans p.os
 tape:=q.tape.trans p.tape
 output:=q.output.trans p.output
 size:=yya p.size q.size
 same b hb hnot:=by
  have hp:=p.same b hb hnot;rw[<-hp];refine q.same b (Nat.lt_of_lt_of_le hb p.size) fun n o hn he => ?_;rcases p.img n o hn with⟨m,o',hm,e⟩|e
  ·exact hnot m o' hm (by rw[<-e];exact he)
  ·omega
 img n o hn:=by
  rcases q.img n o hn with⟨m,o',hm,e⟩|e
  ·rcases p.img m o' hm with⟨k,o'',hk,e'⟩|e'
   ·exact .inl ⟨k,o'',hk,e.trans e'⟩
   ·exact .inr (by rw[e];exact e')
  ·exact .inr (yya p.size e)
theorem bB.start(H:aW P E A h w)(hle:nx<=nx')(he:nx' % 2=nx % 2):bB P E A h nx w E h nx' w :=
 ⟨hle,he,fun _ _=>⟨rfl,rfl,rfl⟩,H.mono fun _ hn=>.inl hn,rfl,rfl,rfl,yh _,fun _ _ _=>rfl,fun n o hn=>.inl ⟨n,o,hn,rfl⟩⟩
end
theorem yP:∀(l:List Value)(n:Nat)(x:Value),(kX l n x).length=l.length
 | [],_,_=>rfl
 | _::_,0,_=>rfl
 | _::r,n+1,x=>by simp[kX,yP r n x]
theorem uY:∀(l:List Value)(n:Nat)(x:Value),n<l.length->xM (kX l n x) n=x
 | [],_,_,h=>by simp at h
 | _::_,0,_,_=>rfl
 | _::r,n+1,x,h=>by simpa [kX,xM]using uY r n x (by simpa using h)
theorem yQ:∀(l:List Value)(n m:Nat)(x:Value),n≠m->xM (kX l n x) m=xM l m
 | [],_,_,_,_=>rfl
 | _::_,0,0,_,h=>absurd rfl h
 | _::_,0,_+1,_,_=>rfl
 | _::_,_+1,0,_,_=>rfl
 | _::r,n+1,m+1,x,h=>by simpa [kX,xM]using yQ r n m x (by omega)
theorem GW:∀(l:List Value)(n:Nat),l.length<=n->xM l n=undef
 | [],_,_=>rfl
 | _::_,0,h=>by simp at h
 | _::r,n+1,h=>by simpa [xM]using GW r n (by simpa using h)
theorem qY:∀(l:List Value)(n:Nat)(x:Value)(f:Value->Value),((kX l n x).map f)=(l.map f).set n (f x)
 | [],_,_,_=>rfl
 | _::_,0,_,_=>rfl
 | _::r,n+1,x,f=>by simp[kX,qY r n x f]
theorem XD:∀{l m:List Value},l.length=m.length->(∀d,d<l.length->xM l d=xM m d)->l=m
 | [],[],_,_=>rfl
 | [],_::_,h,_=>by simp at h
 | _::_,[],h,_=>by simp at h
 |a::r,b::s,h,hd=>by
  have h0:a=b:=hd 0 (by simp);rw[h0,XD (l:=r) (m:=s) (by simpa using h) fun d hd'=>by simpa [xM]using hd (d+1) (by simpa using hd')]
def nH(ops:List Oper)(recs:List PY)(tm0:List Value)(p:Nat->Bool)(tm:List Value):Prop :=
 tm.length=tm0.length/\∀d,d<tm0.length ->
  (∀(l:Nat)(o:Oper)(r:PY),ops[l]?=some o->recs[l]?=some r->p l=true->o.dst=some d->xM tm d=r.v) /\
  ((∀(l:Nat)(o:Oper),ops[l]?=some o->p l=true->o.dst≠some d)->xM tm d=xM tm0 d)
section
variable{ops:List Oper}{ms:List Nat}{recs:List PY}{tm0 tm tm':List Value}{p q:Nat->Bool}
theorem nH.put(hok:OkD ops ms)(h:nH ops recs tm0 p tm){i:Nat}{o:Oper}{r:PY}(ho:ops[i]?=some o)(hr:recs[i]?=some r)(hp:p i=false)
  (hq:∀l,q l=true↔(p l=true\/l=i)):nH ops recs tm0 q (rJ tm o.dst r.v):=by
 obtain⟨h1,h2⟩:=h;refine⟨?_,fun d hd => ?_⟩
 ·unfold rJ;split
  ·rw[yP];exact h1
  ·exact h1
 obtain⟨h3,h4⟩:=h2 d hd;by_cases hdo:o.dst=some d
 ·have hv:xM (rJ tm o.dst r.v) d=r.v:=by
   simp only[rJ,hdo];exact uY tm d r.v (by omega)
  refine⟨fun l o' r' hl hr' hql hd' => ?_,fun hn=>absurd hdo (hn i o ho ((hq i).2 (.inr rfl)))⟩;by_cases hli:l=i
  ·subst hli;rw[hr]at hr';obtain rfl:=yg hr';exact hv
  ·exact absurd hd' (hok.dst i l o o' d ho hl (fun e=>hli e.symm) hdo)
 ·have hv:xM (rJ tm o.dst r.v) d=xM tm d:=by
   unfold rJ;split
   ·rename_i e he;exact yQ tm e d r.v (fun e'=>hdo (by rw[he,e']))
   ·rfl
  rw[hv];refine⟨fun l o' r' hl hr' hql hd' => ?_,fun hn=>h4 fun l o' hl hpl=>hn l o' hl ((hq l).2 (.inl hpl))⟩;rcases(hq l).1 hql with hpl|rfl
  ·exact h3 l o' r' hl hr' hpl hd'
  ·rw[ho]at hl;obtain rfl:=yg hl;exact absurd hd' hdo
theorem nH.agree(hlen:recs.length=ops.length)(hp:nH ops recs tm0 p tm)(hq:nH ops recs tm0 q tm'){i t:Nat}(hs:zH ms ops i t=true)
  (hpi:p i=false) (hqi:q i=false) (hpm:∀l,Nat.testBit (eZ ms i) l=true->p l=true) (hqm:∀l,Nat.testBit (eZ ms i) l=true->q l=true)
  (hpn:∀l,Nat.testBit (eZ ms l) i=true->ops[l]?.isSome=true->p l=false) (hqn:∀l,Nat.testBit (eZ ms l) i=true->ops[l]?.isSome=true->q l=false):xM tm t=xM tm' t:=by
 by_cases hd:t<tm0.length
 ·obtain⟨p3,p4⟩:=hp.2 t hd;obtain⟨q3,q4⟩:=hq.2 t hd;by_cases hex:∃(l:Nat)(o:Oper),ops[l]?=some o/\o.dst=some t/\Nat.testBit (eZ ms i) l=true
  ·obtain⟨l,o,ho,hdo,hb⟩:=hex;have hl:l<recs.length:=by rw[hlen];exact(yi.1 ho).1
   obtain⟨r,hr⟩:∃r,recs[l]?=some r:=⟨_,yyi hl⟩;rw[p3 l o r ho hr (hpm l hb) hdo,q3 l o r ho hr (hqm l hb) hdo]
  ·have hno:∀(l:Nat)(o:Oper),ops[l]?=some o->o.dst=some t->p l=false/\q l=false:=by
    intro l o ho hdo;rcases Q0 hs ho hdo with rfl|hb|hb
    ·exact⟨hpi,hqi⟩
    ·exact absurd ⟨l,o,ho,hdo,hb⟩ hex
    ·exact⟨hpn l hb (by rw[ho];rfl),hqn l hb (by rw[ho];rfl)⟩
   rw[p4 (fun l o ho hpl hdo=>by rw[(hno l o ho hdo).1]at hpl;cases hpl),q4 (fun l o ho hql hdo=>by rw[(hno l o ho hdo).2]at hql;cases hql)]
 ·rw[GW tm t (by have:=hp.1;omega),GW tm' t (by have:=hq.1;omega)]
end
theorem M8{ops:List Oper}{tm tm':List Value}{o:Oper}(h:∀(g:Nat) (want:Bool) (p:Oper) (d:Nat),o.guard=some (g,want)->ops[g]?=some p->p.dst=some d->xM tm d=xM tm' d):tT ops tm o=tT ops tm' o:=by
 unfold tT;cases hg:o.guard with
 |none=>rfl
 |some gw =>
  obtain⟨g,want⟩:=gw;simp only;cases hp:ops[g]? with
  |none=>rfl
  |some p =>
   simp only;cases hd:p.dst with
   |none=>rfl
   |some d=>simp only[h g want p d hg hp hd]
theorem M9(E:cA)(v:Value)(b:Bool):aN E v=.bool b↔v=.bool b:=by
 cases v with
 |pointer a=>cases a<;>simp[aN]
 |slice a l c=>cases a<;>simp[aN]
 |map a=>cases a<;>simp[aN]
 | _=>simp[aN]
theorem CR{E:cA}{A:Nat->Prop}{tm:List Value}{a:Act}(ht:Tm E A tm a)(ops:Array Oper)(o:Oper):Region.wanted o (yielded ops a.tmps)=tT ops.toList tm o:=by
 unfold Region.wanted tT;cases hg:o.guard with
 |none=>rfl
 |some gw =>
  obtain⟨g,want⟩:=gw;simp only[yielded,Array.getElem?_toList];cases hp:ops[g]? with
  |none=>simp
  |some p =>
   simp only[yj];cases hd:p.dst with
   |none=>simp
   |some d =>
    simp only[yj,ht.tmps,AY];cases hv:tm[d]? with
    |none=>simp[hv,undef]
    |some v =>
     simp only[List.getElem?_toArray,yyl,hv,yr,Option.getD_some];by_cases hb:∃b,v=.bool b
     ·obtain⟨b,rfl⟩:=hb;rw[gX];simp only[Option.some_beq_some]
     ·have h1:∀b,aN E v≠.bool b:=fun b e=>hb ⟨b,(M9 E v b).1 e⟩;have h2:∀b,v≠.bool b:=fun b e=>hb ⟨b,e⟩;split
      ·rename_i b e;exact absurd (yg e) (h1 b)
      ·split
       ·rename_i b e;exact absurd rfl (h2 b)
       ·rfl
section
variable{P:Program}{callF:Fn->List Value->St->Option (Value×St)}{ops:List Oper}{ms:List Nat}{tm0:List Value}
structure aKB(callF:Fn->List Value->St->Option (Value×St))(P:Program)(ops:List Oper)(ms:List Nat)(tm0:List Value)(F:DR)(i:Nat)(o:Oper)(r:PY):Prop where
 record:F.recs[i]?=some r
 slots:nH ops F.recs tm0 (fun l=>Nat.blt l i) r.tm
 on:r.on=tT ops r.tm o
 le:r.nx<=r.nx'
 ev:r.nx % 2=0
 off:r.on=false->r.v=undef/\r.nx'=r.nx
 effect:r.on=true->kind o.op≠0->kind o.op≠1->kind o.op≠2->∃t S',F.es[t]?=some i/\(∀s e,s<t->F.es[s]?=some e->Nat.testBit (eZ ms i) e=true) /\
  bX callF P r.tm ⟨seen ms F.es F.hs F.al i t,r.nx⟩ o=some (r.v,S')/\S'.next=r.nx'/\oF F.hs (t+1)=S'.heap
 lays:r.on=true->kind o.op=2->∃n b,(i,n,b)∈F.al/\bX callF P r.tm ⟨[],r.nx⟩ o=some (r.v,⟨[(n,b)],r.nx'⟩)
 reads:r.on=true->(kind o.op=0\/kind o.op=1)->r.nx'=r.nx/\∃k S',k<=F.es.length/\bX callF P r.tm ⟨seen ms F.es F.hs F.al i k,r.nx⟩ o=some (r.v,S')
theorem A8{i:Nat}{o:Oper}{R R':DR}(h:K6 callF P ops ms i o R=some R') :
  ∃r es' hs' al',R'.recs=R.recs++[r]/\R'.es=R.es++es'/\R'.hs=R.hs++hs'/\R'.al=R.al++al'/\(∀e∈es',e=i)/\(∀x∈al',x.1=i)/\es'.length=hs'.length/\R.nx<=R'.nx /\
   R'.tm=rJ R.tm o.dst r.v/\r.tm=R.tm/\r.nx=R.nx/\r.nx'=R'.nx/\(R.nx % 2=0->R'.nx % 2=0)/\es'.length<=1:=by
 unfold K6 at h;split at h
 ·split at h
  ·simp only[yb]at h;obtain⟨_,h⟩:=h;split at h
   ·rename_i v S' hs;simp only[yb,ya,yd]at h;obtain⟨⟨h1,h2⟩,rfl⟩:=h;exact⟨_,[i],[S'.heap],[],rfl,rfl,rfl,by simp,by simp,by simp,rfl,ye h1,rfl,rfl,rfl,rfl,fun _=>DY h2,by simp⟩
   ·simp at h
  ·split at h
   ·rename_i v n b nx hs;simp only[yb,ya,yd]at h;obtain⟨⟨h1,h2⟩,rfl⟩:=h;exact⟨_,[],[],[(i,n,b)],rfl,by simp,by simp,rfl,by simp,by simp,rfl,ye h1,rfl,rfl,rfl,rfl,fun _=>DY h2,by simp⟩
   ·simp at h
  ·split at h
   ·rename_i v S' hs;simp only[ya]at h;subst h;exact⟨_,[],[],[],rfl,by simp,by simp,by simp,by simp,by simp,rfl,yh _,rfl,rfl,rfl,rfl,id,by simp⟩
   ·simp at h
 ·simp only[ya]at h;subst h;exact⟨_,[],[],[],rfl,by simp,by simp,by simp,by simp,by simp,rfl,yh _,rfl,rfl,rfl,rfl,id,by simp⟩
theorem oZ:∀{l:List Oper}{i:Nat}{R F:DR},PZ callF P ops ms i l R=some F ->
  ∃recs' es' hs' al',F.recs=R.recs++recs'/\recs'.length=l.length/\F.es=R.es++es'/\F.hs=R.hs++hs'/\F.al=R.al++al'/\(∀e∈es',i<=e)/\(∀x∈al',i<=x.1)/\es'.length=hs'.length/\R.nx<=F.nx /\
   (R.nx % 2=0->F.nx % 2=0)
 | [],i,R,F,h=>by
  simp only[PZ,ya]at h;subst h;exact⟨[],[],[],[],by simp,rfl,by simp,by simp,by simp,by simp,by simp,rfl,yh _,id⟩
 |o::l,i,R,F,h=>by
  simp only[PZ]at h;split at h
  ·rename_i R' hs;obtain⟨r,es1,hs1,al1,a1,a2,a3,a4,a5,a6,a7,a8,_,_,_,_,a9,_⟩:=A8 hs;obtain⟨rs2,es2,hs2,al2,b1,b2,b3,b4,b5,b6,b7,b8,b9,b10⟩:=oZ h;refine⟨r::rs2,es1++es2,hs1++hs2,al1++al2,by rw[b1,a1];simp,by simp[b2],by rw[b3,a2];simp,by rw[b4,a3];simp,by rw[b5,a4];simp,?_,?_,by simp[a7,b8],by omega,fun e=>b10 (a9 e)⟩
   ·intro e he;rcases yy.1 he with he|he
    ·rw[a5 e he];exact yh _
    ·have:=b6 e he;omega
   ·intro e he;rcases yy.1 he with he|he
    ·rw[a6 e he];exact yh _
    ·have:=b7 e he;omega
  ·simp at h
theorem T4(hok:OkD ops ms){i:Nat}{o:Oper}{R R' F:DR}(ho:ops[i]?=some o)(h:K6 callF P ops ms i o R=some R')
  (hlen:R.recs.length=i) (hhl:R.hs.length=R.es.length+1) (hev:R.nx % 2=0) (hsl:nH ops F.recs tm0 (fun l=>Nat.blt l i) R.tm)
  {recs':List PY} {es':List Nat} {hs':List (List (Nat×Obj))} {al':List (Nat×Nat×Obj)} (p1:F.recs=R'.recs++recs') (p2:F.es=R'.es++es') (p3:F.hs=R'.hs++hs') (p4:F.al=R'.al++al')
  (p6:∀x∈al',i+1<=x.1):∃r,aKB callF P ops ms tm0 F i o r/\r.nx=R.nx/\r.nx'=R'.nx/\R'.tm=rJ R.tm o.dst r.v/\R'.recs=R.recs++[r] /\
   (∀e,R'.es=R.es++[e]->e=i/\r.on=true/\kind o.op≠0/\kind o.op≠1/\kind o.op≠2)/\(∀x,R'.al=R.al++[x]->x.1=i/\r.on=true/\kind o.op=2/\bX callF P r.tm ⟨[],r.nx⟩ o=some (r.v,⟨[(x.2.1,x.2.2)],r.nx'⟩)):=by
 have hnom:∀(x:Nat×Nat×Obj),i<=x.1->Nat.testBit (eZ ms i) x.1=false:=by
  intro x hx;cases hb:Nat.testBit (eZ ms i) x.1 with
  |false=>rfl
  |true=>have:=(hok.mask i o _ ho hb).1;omega
 have hrec:∀r,R'.recs=R.recs++[r]->F.recs[i]?=some r:=by
  intro r hr;rw[p1,hr,List.append_assoc,yyc (by omega)];simp[hlen]
 unfold K6 at h;split at h
 ·rename_i hg;split at h
  ·rename_i hk;simp only[yb]at h;obtain⟨hall,h⟩:=h;split at h
   ·rename_i v S' hs;simp only[yb,ya,yd]at h;obtain⟨⟨h1,h2⟩,rfl⟩:=h;simp only at p1 p2 p3 p4;refine⟨⟨true,R.tm,v,R.nx,S'.next⟩,⟨hrec _ rfl,hsl,hg.symm,ye h1,hev,by simp,fun _ _ _ _ => ?_,by rw[hk];simp,by rw[hk];simp⟩,rfl,rfl,rfl,rfl,?_,?_⟩
    ·refine⟨R.es.length,S',by rw[p2];simp,?_,?_,rfl,?_⟩
     ·intro s e hs' he;rw[p2,List.append_assoc,yyf hs']at he;exact List.all_eq_true.1 hall e (yyd he)
     ·rw[p2,p3,p4,List.append_assoc,List.append_assoc,D1 (fun x hx=>hnom x (by have:=p6 x hx;omega)) (yh _) (by omega)];exact hs
     ·rw[p3,sU (by simp[hhl])];have:∀(l:List (List (Nat×Obj))) x n,n=l.length->oF (l++[x]) n=x:=by
       intro l
       induction l with
       |nil=>intro x n hn;subst hn;rfl
       |cons y r ih=>intro x n hn;subst hn;exact ih x _ rfl
      exact this _ _ _ hhl.symm
    ·intro e he;simp only[List.append_cancel_left_eq,List.cons.injEq,and_true]at he;exact⟨he.symm,rfl,by rw[hk];simp,by rw[hk];simp,by rw[hk];simp⟩
    ·intro x hx;simp at hx
   ·simp at h
  ·rename_i hk;split at h
   ·rename_i v n b nx hs;simp only[yb,ya,yd]at h;obtain⟨⟨h1,h2⟩,rfl⟩:=h;simp only at p1 p2 p3 p4;refine⟨⟨true,R.tm,v,R.nx,nx⟩,⟨hrec _ rfl,hsl,hg.symm,ye h1,hev,by simp,by rw[hk];simp,fun _ _=>⟨n,b,by rw[p4];simp,hs⟩,by rw[hk];simp⟩,rfl,rfl,rfl,rfl,?_,?_⟩
    ·intro e he;simp at he
    ·intro x hx;simp only[List.append_cancel_left_eq,List.cons.injEq,and_true]at hx;subst hx;exact⟨rfl,rfl,hk,hs⟩
   ·simp at h
  ·rename_i hk3 hk2;split at h
   ·rename_i v S' hs;simp only[ya]at h;subst h;simp only at p1 p2 p3 p4;have hk01:kind o.op=0\/kind o.op=1:=by
     have:kind o.op<=3:=by unfold kind;split<;>omega
     have h3:kind o.op≠3:=hk3;have h2:kind o.op≠2:=hk2;omega
    refine⟨⟨true,R.tm,v,R.nx,R.nx⟩,⟨hrec _ rfl,hsl,hg.symm,yh _,hev,by simp,fun _ a b _ => ?_,fun _ a=>absurd a hk2,fun _ _=>⟨rfl,R.es.length,S',by rw[p2];simp,?_⟩⟩,rfl,rfl,rfl,rfl,?_,?_⟩
    ·rcases hk01 with h|h
     ·exact absurd h a
     ·exact absurd h b
    ·rw[p2,p3,p4,D1 (fun x hx=>hnom x (by have:=p6 x hx;omega)) (yh _) (by omega)];exact hs
    ·intro e he;simp at he
    ·intro e he;simp at he
   ·simp at h
 ·rename_i hg;simp only[ya]at h;subst h;refine⟨⟨false,R.tm,undef,R.nx,R.nx⟩,⟨hrec _ rfl,hsl,by simpa using hg,yh _,hev,fun _=>⟨rfl,rfl⟩,by simp,by simp,by simp⟩,rfl,rfl,rfl,rfl,?_,?_⟩
  ·intro e he;simp at he
  ·intro e he;simp at he
end
theorem xY(a b:Nat):Nat.blt a b=true↔a<b:=⟨ye,Nat.ble_eq_true_of_le⟩
theorem CS(a b:Nat):Nat.blt a b=false↔b<=a:=by rw[<-Bool.not_eq_true,xY];omega
section
variable{P:Program}{callF:Fn->List Value->St->Option (Value×St)}{ops:List Oper}{ms:List Nat}{tm0:List Value}
structure aBU(callF:Fn->List Value->St->Option (Value×St))(P:Program)(ops:List Oper)(ms:List Nat)(tm0:List Value)(F:DR)(i n:Nat)(es:Nat->Prop)(al:Nat×Nat×Obj->Prop):Prop where
 fact:∀(j:Nat)(o:Oper),i<=j->ops[j]?=some o->∃r,aKB callF P ops ms tm0 F j o r/\n<=r.nx/\r.nx'<=F.nx
 order:∀(j j':Nat)(r r':PY),i<=j->j<j'->F.recs[j]?=some r->F.recs[j']?=some r'->r.nx'<=r'.nx
 effects:∀(t e:Nat),F.es[t]?=some e->es t\/∃o r,ops[e]?=some o/\F.recs[e]?=some r/\r.on=true/\kind o.op≠0/\kind o.op≠1/\kind o.op≠2
 laid:∀x∈F.al,al x\/∃o r,ops[x.1]?=some o/\F.recs[x.1]?=some r/\r.on=true/\kind o.op=2/\bX callF P r.tm ⟨[],r.nx⟩ o=some (r.v,⟨[(x.2.1,x.2.2)],r.nx'⟩)
 sorted:F.es.Pairwise (·<·)
 slots:nH ops F.recs tm0 (fun l=>Nat.blt l ops.length) F.tm
 heaps:F.hs.length=F.es.length+1
 le:n<=F.nx
 ev:F.nx % 2=0
 recs:F.recs.length=ops.length
theorem GX(hok:OkD ops ms):∀{l:List Oper}{i:Nat}{R F:DR},PZ callF P ops ms i l R=some F->(∀j,l[j]?=ops[i+j]?)->i+l.length=ops.length->R.recs.length=i->R.hs.length=R.es.length+1->R.nx % 2=0 ->
  nH ops F.recs tm0 (fun l=>Nat.blt l i) R.tm->(∀e∈R.es,e<i)->R.es.Pairwise (·<·)->aBU callF P ops ms tm0 F i R.nx (fun t=>t<R.es.length) (fun x=>x∈R.al)
 | [],i,R,F,h,hl,hn,hlen,hhl,hev,hsl,hes,hso=>by
  simp only[PZ,ya]at h;subst h;simp only[List.length_nil,Nat.add_zero]at hn;refine⟨?_,?_,?_,?_,hso,by rw[<-hn];exact hsl,hhl,yh _,hev,by omega⟩
  ·intro j o hj ho;have:=(yi.1 ho).1;omega
  ·intro j j' r r' hj hjj hr hr';have:=(yi.1 hr).1;omega
  ·intro t e he;exact .inl (yi.1 he).1
  ·intro x hx;exact .inl hx
 |o::l,i,R,F,h,hl,hn,hlen,hhl,hev,hsl,hes,hso=>by
  simp only[PZ]at h;split at h
  ·rename_i R' hs;have ho:ops[i]?=some o:=by have:=hl 0;simpa using this.symm
   obtain⟨r0,es1,hs1,al1,a1,a2,a3,a4,a5,a6,a7,a8,_,_,_,_,a9,a10⟩:=A8 hs;obtain⟨rs2,es2,hs2,al2,b1,b2,b3,b4,b5,b6,b7,b8,b9,b10⟩:=oZ h;obtain⟨r,hf,f1,f2,f3,f4,f5,f6⟩:=T4 (tm0:=tm0) hok ho hs hlen hhl hev hsl b1 b3 b4 b5 b7;have hsl':nH ops F.recs tm0 (fun l=>Nat.blt l (i+1)) R'.tm:=by
    rw[f3];refine hsl.put hok ho hf.record ((CS i i).2 (yh _)) fun l => ?_;simp only[xY];omega
   have hlen':R'.recs.length=i+1:=by rw[f4];simp[hlen]
   have hn':i+1+l.length=ops.length:=by simp only[List.length_cons]at hn;omega
   have IH:=GX hok h (fun j=>by have:=hl (j+1);simpa [yx,Nat.add_comm 1 j]using this) hn' hlen' (by rw[a3,a2];simp[hhl,a7];omega) (a9 hev) hsl'
    (fun e he=>by
     rw[a2]at he;rcases yy.1 he with he|he
     ·have:=hes e he;omega
     ·have:=a5 e he;omega)
    (by
     rw[a2,List.pairwise_append];refine⟨hso,?_,fun x hx y hy=>by rw[a5 y hy];exact hes x hx⟩
     match es1,a10 with
     | [],_=>simp
     | [x],_=>simp
     | _::_::_,hlt=>simp at hlt)
   refine⟨?_,?_,?_,?_,IH.sorted,IH.slots,IH.heaps,yya a8 IH.le,IH.ev,IH.recs⟩
   ·intro j o' hj ho';by_cases hji:j=i
    ·subst hji;rw[ho]at ho';obtain rfl:=yg ho';exact⟨r,hf,by rw[f1];exact yh _,by rw[f2];exact IH.le⟩
    ·obtain⟨r',q1,q2,q3⟩:=IH.fact j o' (by omega) ho';exact⟨r',q1,by omega,q3⟩
   ·intro j j' r1 r2 hj hjj hr1 hr2;by_cases hji:j=i
    ·subst hji;rw[hf.record]at hr1;obtain rfl:=yg hr1;have hlt:j'<ops.length:=by rw[<-IH.recs];exact(yi.1 hr2).1
     obtain⟨r',q1,q2,q3⟩:=IH.fact j' ops[j'] (by omega) (yyi hlt);rw[q1.record]at hr2;obtain rfl:=yg hr2;rw[f2];exact q2
    ·exact IH.order j j' r1 r2 (by omega) hjj hr1 hr2
   ·intro t e he;rcases IH.effects t e he with ht|hx
    ·rw[a2]at ht;by_cases htl:t<R.es.length
     ·exact .inl htl
     ·right
      match es1,a10,a2,a5 with
      | [],_,a2,_=>simp at ht;omega
      | [x],_,a2,a5 =>
       have:t=R.es.length:=by simp at ht;omega
       subst this;have hx:x=i:=a5 x (by simp);subst hx;obtain⟨_,g2,g3⟩:=f5 x a2;rw[b3,a2,List.append_assoc]at he;simp at he;subst he;exact⟨o,r,ho,hf.record,g2,g3⟩
      | _::_::_,hlt,_,_=>simp at hlt
    ·exact .inr hx
   ·intro x hx;rcases IH.laid x hx with hy|hz
    ·rw[a4]at hy;rcases yy.1 hy with hy|hy
     ·exact .inl hy
     ·right;have hyi:=a6 x hy;rw[hyi];refine⟨o,r,ho,hf.record,?_⟩
      match al1,a4,hy with
      | [z],a4,hy =>
       obtain rfl:x=z:=by simpa using hy
       exact(f6 x a4).2
      |z::z'::rest,a4,hy =>
       exfalso;unfold K6 at hs;split at hs
       ·split at hs
        ·simp only[yb]at hs;obtain⟨_,hs⟩:=hs;split at hs
         ·simp only[yb,ya]at hs;obtain⟨_,rfl⟩:=hs;simp at a4
         ·simp at hs
        ·split at hs
         ·simp only[yb,ya]at hs;obtain⟨_,rfl⟩:=hs;simp at a4
         ·simp at hs
        ·split at hs
         ·simp only[ya]at hs;subst hs;simp at a4
         ·simp at hs
       ·simp only[ya]at hs;subst hs;simp at a4
    ·exact .inr hz
  ·simp at h
theorem BA{F:DR}:∀{l:List Oper}{rs:List PY}{i:Nat},AP callF P ms F i l rs=true->∀(j:Nat)(o:Oper)(r:PY),l[j]?=some o->rs[j]?=some r->r.on=true->kind o.op=1 ->
  ∀k,k<=F.es.length->MQ callF P ms F (i+j) o r k=true
 | [],_,_,_,j,o,r,h,_,_,_,_,_=>by simp at h
 | _::_,[],_,h,_,_,_,_,_,_,_,_,_=>by simp[AP]at h
 |p::l,q::rs,i,h,j,o,r,hl,hr,hon,hk,k,hkl=>by
  simp only[AP,yd,yu,yyb]at h;cases j with
  |zero =>
   simp only[List.getElem?_cons_zero,ya]at hl hr;subst hl;subst hr;rcases h.1 with(h1|h1)|h1
   ·rw[hon]at h1;cases h1
   ·rw[hk]at h1;simp at h1
   ·exact CP h1 k hkl
  |succ j =>
   have:=BA h.2 j o r (by simpa using hl) (by simpa using hr) hon hk k hkl;rwa[yx,Nat.add_comm 1 j]at this
end
theorem zQ:∀{l:List Value}{n:Nat}{x y:Value},y∈kX l n x->y=x\/y∈l
 | [],_,_,_,h=>by simp[kX]at h
 | _::_,0,_,_,h=>by
  simp only[kX,yk]at h;exact h.imp id fun h=>by simp[h]
 | _::r,n+1,_,_,h=>by
  simp only[kX,yk]at h;rcases h with h|h
  ·exact .inr (by simp[h])
  ·exact(zQ h).imp id fun h=>by simp[h]
theorem Tm.move{E E':cA}{A B:Nat->Prop}{tm:List Value}{a:Act}(ht:Tm E A tm a)(hag:kR A E E')(hAB:∀n,A n->B n):Tm E' B tm a :=
 ⟨by rw[ht.tmps];congr 1;exact yp fun x hx=>(fH hag x (ht.sc x hx)).symm,fun x hx=>iH hAB x (ht.sc x hx)⟩
theorem Tm.put{E E':cA}{A B:Nat->Prop}{tm:List Value}{a:Act}(ht:Tm E A tm a)(hag:kR A E E')(hAB:∀n,A n->B n){dst:Option Tmp}{v:Value}(hs:Sc B v):Tm E' B (rJ tm dst v) (a.put dst (aN E' v)):=by
 have h:=ht.move hag hAB;cases dst with
 |none=>exact h
 |some d =>
  refine⟨?_,fun x hx => ?_⟩
  ·simp only[Act.put,rJ,h.tmps,qY];simp
  ·rcases zQ hx with rfl|hx
   ·exact hs
   ·exact h.sc x hx
structure Q8(P:Program)(callF:Fn->List Value->St->Option (Value×St))(ops:List Oper)(ms:List Nat)(tm0:List Value)(F:DR)(E0:cA)(A:Nat->Prop)(S:St):Prop where
 calls:iN P callF
 names:fD P
 ok:OkD ops ms
 facts:aBU callF P ops ms tm0 F 0 S.next (fun _=>False) (fun _=>False)
 opd:∀(i:Nat)(o:Oper)(x:Operand),ops[i]?=some o->x∈o.op.operands->tC P x=true
 glb:vD P E0 A
 out:∀n,A n->¬(S.next<=n/\n<F.nx)
 reads:∀(j:Nat)(o:Oper)(r:PY),ops[j]?=some o->F.recs[j]?=some r->r.on=true->kind o.op=1->∀k,k<=F.es.length->MQ callF P ms F j o r k=true
 twice:tW F.al=true
 apart:AQ ms F F.al=true
def AL(recs:List PY)(A:Nat->Prop)(L:Nat->Bool)(n:Nat):Prop:=A n\/∃l r,L l=true/\recs[l]?=some r/\r.nx<=n/\n<r.nx'
def hp(ms:List Nat)(F:DR)(L:Nat->Bool)(k:Nat):List (Nat×Obj):=own (fun j=>L j && !qP ms F.es k j) F.al++oF F.hs k
structure uZ(P:Program)(ops:List Oper)(ms:List Nat)(tm0:List Value)(F:DR)(E0:cA)(A:Nat->Prop)(S:St)(w0:World)(a0:Act)(L:Nat->Bool)(E:cA)(tm:List Value)(k:Nat)(a:Act)(w:World):Prop where
 slots:nH ops F.recs tm0 L tm
 tm:Tm E (AL F.recs A L) tm a
 kle:k<=F.es.length
 keff:∀t e,F.es[t]?=some e->(L e=true↔t<k)
 holds:aW P E (AL F.recs A L) (hp ms F L k) w
 post:bB P E0 A S.heap S.next w0 E (hp ms F L k) F.nx w
 dfr:a.defers=a0.defers
section
variable{P:Program}{callF:Fn->List Value->St->Option (Value×St)}{ops:List Oper}{ms:List Nat}{tm0:List Value}{F:DR}{E0:cA}{A:Nat->Prop}{S:St}{w0:World}{a0:Act}
variable{L L':Nat->Bool}{E:cA}{tm:List Value}{k:Nat}{a:Act}{w:World}{i:Nat}{o:Oper}{r:PY}
theorem Q8.bounds(C:Q8 P callF ops ms tm0 F E0 A S){l:Nat}{r:PY}(hr:F.recs[l]?=some r):S.next<=r.nx/\r.nx<=r.nx'/\r.nx'<=F.nx:=by
 have hlt:l<ops.length:=by rw[<-C.facts.recs];exact(yi.1 hr).1
 obtain⟨r',h1,h2,h3⟩:=C.facts.fact l ops[l] (Nat.zero_le _) (yyi hlt);rw[h1.record]at hr;obtain rfl:=yg hr;exact⟨h2,h1.le,h3⟩
theorem Q8.apartAL(C:Q8 P callF ops ms tm0 F E0 A S)(hr:F.recs[i]?=some r)(hi:L i=false):∀n,AL F.recs A L n->¬(r.nx<=n/\n<r.nx'):=by
 intro n hn hin;obtain⟨b1,b2,b3⟩:=C.bounds hr;rcases hn with hn |⟨l,r',hl,hr',h1,h2⟩
 ·exact C.out n hn (by omega)
 ·rcases Nat.lt_trichotomy l i with h|h|h
  ·have:=C.facts.order l i r' r (Nat.zero_le _) h hr' hr;omega
  ·subst h;rw[hi]at hl;cases hl
  ·have:=C.facts.order i l r r' (Nat.zero_le _) h hr hr';omega
theorem uZ.next(C:Q8 P callF ops ms tm0 F E0 A S)(hJ:uZ P ops ms tm0 F E0 A S w0 a0 L E tm k a w)(ho:ops[i]?=some o)(hr:F.recs[i]?=some r)(hi:L i=false)
  (hL':∀l,L' l=true↔L l=true\/l=i) {E':cA} {w':World} {k':Nat} {hs hs':List (Nat×Obj)} (q:bB P E (AL F.recs A L) hs r.nx w E' hs' r.nx' w')
  (hsub:∀n x,aQ hs n=some x->aQ (hp ms F L k) n=some x) (hh:∀n x,aQ (hp ms F L' k') n=some x->aQ hs' n=some x\/(aQ (hp ms F L k) n=some x/\aQ hs n=none))
  (hsc:Sc (fun n=>AL F.recs A L n\/(r.nx<=n/\n<r.nx')) r.v) (hk':k'<=F.es.length) (heff':∀t e,F.es[t]?=some e->(L' e=true↔t<k')) :
  uZ P ops ms tm0 F E0 A S w0 a0 L' E' (rJ tm o.dst r.v) k' (a.put o.dst (aN E' r.v)) w':=by
 have hAL:=C.apartAL (L:=L) hr hi;have hgrow:∀n,AL F.recs A L n\/(r.nx<=n/\n<r.nx')->AL F.recs A L' n:=by
  intro n hn;rcases hn with(hn |⟨l,r',hl,hx⟩)|hn
  ·exact .inl hn
  ·exact .inr ⟨l,r',(hL' l).2 (.inl hl),hx⟩
  ·exact .inr ⟨i,r,(hL' i).2 (.inr rfl),hr,hn⟩
 have hq:=bB.frame hJ.holds hsub q hAL hh;obtain⟨b1,b2,b3⟩:=C.bounds hr;refine⟨hJ.slots.put C.ok ho hr hi hL',?_,hk',heff',hq.holds.mono hgrow,hJ.post.wide hq b1 b3 ?_,?_⟩
 ·exact hJ.tm.put (q.agreeA hAL) (fun n hn=>hgrow n (.inl hn)) (iH hgrow _ hsc)
 ·intro n hn;rcases hn with(hn |⟨l,r',hl,hr',hx⟩)|hn
  ·exact .inl hn
  ·have:=C.bounds hr';exact .inr (by omega)
  ·exact .inr (by omega)
 ·rw[<-hJ.dfr];unfold Act.put;split<;>rfl
theorem Q8.getHp(C:Q8 P callF ops ms tm0 F E0 A S){p:Nat->Bool}{h:List (Nat×Obj)}{n:Nat}{x:Obj}(hg:aQ (own p F.al++h) n=some x) :
  (∃j,(j,n,x)∈F.al/\p j=true)\/((∀j y,(j,n,y)∈F.al->p j=false)/\aQ h n=some x):=by
 rw[wK]at hg;cases hc:aQ (own p F.al) n with
 |some y =>
  rw[hc]at hg;obtain rfl:=yg hg;exact .inl (rV hc)
 |none =>
  rw[hc]at hg;refine .inr ⟨fun j y hj => ?_,hg⟩;cases hp:p j with
  |false=>rfl
  |true=>rw[t7 C.twice hj hp]at hc;cases hc
theorem Q8.inOwn(C:Q8 P callF ops ms tm0 F E0 A S){p:Nat->Bool}{h:List (Nat×Obj)}{j n:Nat}{x:Obj}(hj:(j,n,x)∈F.al)(hp:p j=true):aQ (own p F.al++h) n=some x:=by
 rw[wK,t7 C.twice hj hp]
theorem tK{p:Nat->Bool}{al:List (Nat×Nat×Obj)}{h:List (Nat×Obj)}{n:Nat}(hn:∀j y,(j,n,y)∈al->p j=false):aQ (own p al++h) n=aQ h n:=by
 rw[wK];cases hc:aQ (own p al) n with
 |none=>rfl
 |some y=>obtain⟨j,hj,hp⟩:=rV hc;rw[hn j y hj]at hp;cases hp
theorem Q8.seen_sub(C:Q8 P callF ops ms tm0 F E0 A S)(hk:k<=F.es.length)(hm:∀j,Nat.testBit (eZ ms i) j=true->L j=true):∀n x,aQ (seen ms F.es F.hs F.al i k) n=some x->aQ (hp ms F L k) n=some x:=by
 intro n x hg;unfold seen at hg;unfold hp;rcases C.getHp hg with⟨j,hj,hp⟩ |⟨hno,hg⟩
 ·simp only[yd]at hp;exact C.inOwn hj (by simp only[yd];exact⟨hm j hp.1,hp.2⟩)
 ·rw[tK]
  ·exact hg
  ·intro j y hj;cases hab:qP ms F.es k j with
   |true=>simp
   |false=>rw[t8 C.apart j n y k hj hk hab]at hg;cases hg
end
theorem LL{p q:Nat->Bool}:∀{al:List (Nat×Nat×Obj)},(∀x∈al,p x.1=q x.1)->own p al=own q al
 | [],_=>rfl
 |(j,n,o)::r,h=>by
  have hj:p j=q j:=h (j,n,o) (by simp);simp only[own];rw[LL (al:=r) fun x hx=>h x (by simp[hx]),hj]
section
variable{P:Program}{callF:Fn->List Value->St->Option (Value×St)}{opsA:Array Oper}{ms:List Nat}{tm0:List Value}{F:DR}{E0:cA}{A:Nat->Prop}{S:St}{w0:World}{a0:Act}
variable{L L':Nat->Bool}{E:cA}{tm:List Value}{k:Nat}{a:Act}{w:World}{i:Nat}{o:Oper}{r:PY}
theorem Q8.globals(C:Q8 P callF opsA.toList ms tm0 F E0 A S)(hJ:uZ P opsA.toList ms tm0 F E0 A S w0 a0 L E tm k a w):vD P E (AL F.recs A L):=by
 intro g hg;obtain⟨h1,h2,h3⟩:=C.glb g hg;obtain⟨e1,e2,_⟩:=hJ.post.agree (2*g) (C.out _ h3);exact⟨by rw[e1,h1],by rw[e2,h2],.inl h3⟩
theorem XE(C:Q8 P callF opsA.toList ms tm0 F E0 A S)(hL':∀l,L' l=true↔L l=true\/l=i)(hno:∀n y,(i,n,y)∉F.al):∀n x,aQ (hp ms F L' k) n=some x->aQ (hp ms F L k) n=some x:=by
 intro n x hg;unfold hp at hg⊢;rcases C.getHp hg with⟨j,hj,hp⟩ |⟨hn,hg⟩
 ·simp only[yd]at hp;rcases(hL' j).1 hp.1 with hl|rfl
  ·exact C.inOwn hj (by simp only[yd];exact⟨hl,hp.2⟩)
  ·exact absurd hj (hno n x)
 ·rw[tK]
  ·exact hg
  ·intro j y hj;have:=hn j y hj;cases hl:L j with
   |false=>rfl
   |true=>rw[(hL' j).2 (.inl hl)]at this;simpa using this
theorem uZ.step(C:Q8 P callF opsA.toList ms tm0 F E0 A S)(hJ:uZ P opsA.toList ms tm0 F E0 A S w0 a0 L E tm k a w)(ho:opsA.toList[i]?=some o)(hi:L i=false)
  (hm:∀j,Nat.testBit (eZ ms i) j=true->L j=true) (hdown:∀l,L l=true->∀j,Nat.testBit (eZ ms l) j=true->L j=true) (hL':∀l,L' l=true↔L l=true\/l=i)
  {ro:Option Nat} {K:Act->World->Prop} {Q:Exit->Act->World->Prop} (hK:∀E' tm' k' a' w',uZ P opsA.toList ms tm0 F E0 A S w0 a0 L' E' tm' k' a' w'->K a' w') :
  if Region.wanted o (yielded opsA a.tmps)=true then o.wpIn (rd ro) 0 P a w K Q else K (a.put o.dst undef) w:=by
 obtain⟨r,hf,hn1,hn2⟩:=C.facts.fact i o (Nat.zero_le _) ho;have hr:=hf.record;have hslot:∀t,zH ms opsA.toList i t=true->xM tm t=xM r.tm t:=fun t ht =>
  nH.agree C.facts.recs hJ.slots hf.slots ht hi ((CS i i).2 (yh _)) hm (fun l hl=>(xY l i).2 (C.ok.mask i o l ho hl).1)
   (fun l hl hs=>by
    cases hLl:L l with
    |false=>rfl
    |true=>rw[hdown l hLl i hl]at hi;cases hi)
   (fun l hl hs=>by
    obtain⟨o',ho'⟩:=Option.isSome_iff_exists.1 hs;have:=(C.ok.mask l o' i ho' hl).1;exact(CS l i).2 (by omega))
 have hopd:∀x∈o.op.operands,aE tm x=aE r.tm x:=by
  intro x hx;cases x with
  |tmp t=>exact hslot t (C.ok.slot i o _ t ho hx rfl)
  | _=>rfl
 have hgd:tT opsA.toList tm o=r.on:=by
  rw[hf.on];exact M8 fun g want p d hg hp hd=>hslot d (C.ok.guard i o g want p d ho hg hp hd)
 have hnoeff:¬(r.on=true/\kind o.op≠0/\kind o.op≠1/\kind o.op≠2)->∀t e,F.es[t]?=some e->(L' e=true↔t<k):=by
  intro hne t e he;rw[hL',<-hJ.keff t e he];refine⟨fun h=>h.resolve_right ?_,.inl⟩;rintro rfl;rcases C.facts.effects t e he with h |⟨o',r',ho',hr',h⟩
  ·exact h
  ·rw[ho]at ho';obtain rfl:=yg ho';rw[hr]at hr';obtain rfl:=yg hr';exact hne h
 have hnolay:¬(r.on=true/\kind o.op=2)->∀n y,(i,n,y)∉F.al:=by
  intro hne n y hy;rcases C.facts.laid _ hy with h |⟨o',r',ho',hr',h1,h2,_⟩
  ·exact h
  ·rw[ho]at ho';obtain rfl:=yg ho';rw[hr]at hr';obtain rfl:=yg hr';exact hne ⟨h1,h2⟩
 rw[CR hJ.tm,hgd];cases hon:r.on with
 |false =>
  obtain⟨u1,u2⟩:=hf.off hon;have hq:bB P E (AL F.recs A L) (hp ms F L k) r.nx w E (hp ms F L k) r.nx' w:=by rw[u2];exact bB.refl hJ.holds
  have:=hJ.next C ho hr hi hL' (k':=k) hq (fun _ _ h=>h) (fun n x hg=>.inl (XE C hL' (hnolay (by simp[hon])) n x hg)) (by rw[u1];exact oW _) hJ.kle (hnoeff (by simp[hon]));rw[u1,kJ]at this;simp only[ym,if_false];exact hK _ _ _ _ _ this
 |true =>
  simp only[if_true];have hsel:∀{T S':St}{v:Value},bX callF P r.tm T o=some (v,S')->∀cs b,o.op≠.select cs b:=by
   intro T S' v h cs b e;obtain⟨dst,op,ty,pos,after,guard⟩:=o;simp only at e;subst e;simp[bX]at h
  have run : ∀ {h : List (Nat × Obj)} {S' : St} {k' : Nat}, bX callF P r.tm ⟨h, r.nx⟩ o = some (r.v, S') -> S'.next = r.nx' ->
    (∀n x,aQ h n=some x->aQ (hp ms F L k) n=some x)->(∀n x,aQ (hp ms F L' k') n=some x->aQ S'.heap n=some x\/(aQ (hp ms F L k) n=some x/\aQ h n=none)) ->
    k'<=F.es.length->(∀t e,F.es[t]?=some e->(L' e=true↔t<k'))->o.wpIn (rd ro) 0 P a w K Q:=by
   intro h S' k' hs hnx hsub hh hk' heff';have hs':bX callF P tm ⟨h,r.nx⟩ o=some (r.v,S'):=by rw[QY (hsel hs) hopd];exact hs
   refine wJ (A:=AL F.recs A L) C.calls C.names hJ.tm (C.globals hJ) (S:=⟨h,r.nx⟩) hf.ev (hJ.holds.sub hsub) (fun x hx=>C.opd i o x ho hx) (by simp only[hnx];exact C.apartAL hr hi) hs' (sS hs') ro K Q ?_;intro E' w' hq hsc;rw[hnx]at hq hsc;exact hK _ _ _ _ _ (hJ.next C ho hr hi hL' hq hsub hh hsc hk' heff')
  by_cases hk2:kind o.op=2
  ·obtain⟨n,b,hmem,hs⟩:=hf.lays hon hk2;refine run (k':=k) hs rfl (fun _ _ h=>by simp[aQ]at h) ?_ hJ.kle (hnoeff (by simp[hk2]));intro n' x hg;unfold hp at hg;rcases C.getHp hg with⟨j,hj,hp'⟩ |⟨hn,hg⟩
   ·simp only[yd]at hp';rcases(hL' j).1 hp'.1 with hl|rfl
    ·exact .inr ⟨C.inOwn hj (by simp only[yd];exact⟨hl,hp'.2⟩),rfl⟩
    ·left;rcases C.facts.laid _ hj with h |⟨o',r',ho',hr',_,_,h3⟩
     ·exact h.elim
     ·rw[ho]at ho';obtain rfl:=yg ho';rw[hr]at hr';obtain rfl:=yg hr';rw[hs]at h3;simp only[ya,yc,St.mk.injEq,List.cons.injEq,and_true,true_and]at h3;obtain⟨rfl,rfl⟩:=h3;simp[aQ]
   ·right;refine⟨?_,rfl⟩;unfold hp;rw[tK]
    ·exact hg
    ·intro j y hj;have:=hn j y hj;cases hl:L j with
     |false=>rfl
     |true=>rw[(hL' j).2 (.inl hl)]at this;simpa using this
  by_cases hk01:kind o.op=0\/kind o.op=1
  ·obtain⟨hnx,k0,S',hk0,hs⟩:=hf.reads hon hk01;have hst:=DX hk01 hs;have hsk:bX callF P r.tm ⟨seen ms F.es F.hs F.al i k,r.nx⟩ o=some (r.v,⟨seen ms F.es F.hs F.al i k,r.nx⟩):=by
    rcases hk01 with h0|h1
    ·exact T3 h0 hs
    ·have hrd:=C.reads i o r ho hr hon h1 k hJ.kle;unfold MQ at hrd;simp only[yu]at hrd;rcases hrd with(hrd|hrd)|hrd
     ·obtain⟨t,e,ht,he,hb⟩:=LJ hrd;rw[hdown e ((hJ.keff t e he).2 ht) i hb]at hi;cases hi
     ·obtain⟨e,he,hb⟩:=List.any_eq_true.1 hrd;obtain⟨t,ht⟩:=List.mem_iff_getElem?.1 he;rw[List.getElem?_drop]at ht;have:=(hJ.keff _ e ht).1 (hm e hb);omega
     ·split at hrd
      ·rename_i v S₂ hs2;obtain rfl:=qX hrd;obtain rfl:=DX (.inr h1) hs2;exact hs2
      ·cases hrd
   refine run (k':=k) hsk hnx.symm (C.seen_sub hJ.kle hm) ?_ hJ.kle (hnoeff (by rcases hk01 with h|h<;>simp[h]));intro n x hg;have h1:=XE C hL' (hnolay (by simp[hk2])) n x hg;cases hc:aQ (seen ms F.es F.hs F.al i k) n with
   |none=>exact .inr ⟨h1,rfl⟩
   |some y =>
    have:=C.seen_sub hJ.kle hm n y hc;rw[h1]at this;obtain rfl:=yg this;exact .inl rfl
  ·have hk0:kind o.op≠0:=fun h=>hk01 (.inl h);have hk1:kind o.op≠1:=fun h=>hk01 (.inr h);obtain⟨t,S',ht,hprev,hs,hnx,hheap⟩:=hf.effect hon hk0 hk1 hk2;have htl:=(yi.1 ht).1;have htk:t=k:=by
    have h1:¬t<k:=fun h=>by rw[(hJ.keff t i ht).2 h]at hi;cases hi
    rcases Nat.lt_or_ge k t with h|h
    ·have hkl:k<F.es.length:=by omega
     have hek:F.es[k]?=some F.es[k]:=yyi hkl;have:=(hJ.keff k _ hek).1 (hm _ (hprev k _ h hek));omega
    ·omega
   subst htk;refine run (k':=t+1) hs hnx (C.seen_sub hJ.kle hm) ?_ htl ?_
   ·intro n x hg;unfold hp at hg;rcases C.getHp hg with⟨j,hj,hp'⟩ |⟨hn,hg⟩
    ·simp only[yd,yyb,LK ht,Bool.or_eq_false_iff]at hp';obtain⟨q1,q2,q3⟩:=hp';right;rcases(hL' j).1 q1 with hl|rfl
     ·refine⟨C.inOwn hj (by simp only[yd,yyb];exact⟨hl,q2⟩),?_⟩;unfold seen;rw[tK]
      ·exact t8 C.apart j n x t hj hJ.kle q2
      ·intro j' y hj';obtain⟨rfl,_⟩:=A7 C.twice hj' hj;simp[q3]
     ·exact absurd hj (hnolay (by simp[hk2]) n x)
    ·left;rw[<-hheap];exact hg
   ·intro s e he;rw[hL',hJ.keff s e he];constructor
    ·rintro(h|rfl)
     ·omega
     ·rcases Nat.lt_trichotomy s t with h|h|h
      ·omega
      ·omega
      ·have h1:=List.pairwise_iff_getElem.1 C.facts.sorted t s htl (yi.1 he).1 h;rw[(yi.1 ht).2,(yi.1 he).2]at h1;omega
    ·intro h;rcases Nat.lt_or_ge s t with h'|h'
     ·exact .inl h'
     ·obtain rfl:s=t:=by omega
      rw[ht]at he;exact .inr (yg he).symm
end
section
variable{P:Program}{callF:Fn->List Value->St->Option (Value×St)}{opsA:Array Oper}{ms:List Nat}{tm0:List Value}{F:DR}{E0:cA}{A:Nat->Prop}{S:St}{w0:World}{a0:Act}
theorem uZ.any(C:Q8 P callF opsA.toList ms tm0 F E0 A S){ro:Option Nat}{Q:Exit->Act->World->Prop}
  (hQ:∀E tm k a w L,(∀j,j<opsA.size->L j=true)->uZ P opsA.toList ms tm0 F E0 A S w0 a0 L E tm k a w->Q .normal a w) :
  ∀(fuel:Nat)(listed:Array Bool)(rem:List Nat)(E:cA)(tm:List Value)(k:Nat)(a:Act)(w:World),listed.size=opsA.size->rem.length<=fuel->(∀j,j<opsA.size->listed.getD j false=false->j∈rem) ->
   (∀l,listed.getD l false=true->∀j,Nat.testBit (eZ ms l) j=true->listed.getD j false=true) ->
   uZ P opsA.toList ms tm0 F E0 A S w0 a0 (fun j=>listed.getD j false) E tm k a w->wpAnyIn (rd ro) 0 P .any opsA Q fuel listed a w:=by
 have hall:∀(listed:Array Bool),listed.size=opsA.size->Region.ready .any opsA listed=[]->∀j,j<opsA.size->listed.getD j false=true:=by
  intro listed hsz hr j
  induction j using Nat.strongRecOn with
  | _ j ih =>
   intro hj;cases hc:listed.getD j false with
   |true=>rfl
   |false =>
    exfalso;have ho:opsA[j]?=some opsA[j]:=Array.getElem?_eq_getElem hj;have:j∈Region.ready .any opsA listed:=by
     rw[mem_ready];refine⟨?_,opsA[j],ho,fun e he hb => ?_⟩
     ·have hjl:j<listed.size:=by omega
      simp only[Array.getD,hjl,dif_pos]at hc⊢;exact hc
     ·have:=C.ok.early j opsA[j] e (by simp[ho]) he hb;exact ih e.on this (by omega)
    rw[hr]at this;cases this
 intro fuel
 induction fuel with
 |zero =>
  intro listed rem E tm k a w hsz hrem hmem hdown hJ;have hrem0:rem=[]:=List.length_eq_zero_iff.1 (by omega);subst hrem0;have hL:∀j,j<opsA.size->listed.getD j false=true:=by
   intro j hj;cases hc:listed.getD j false with
   |true=>rfl
   |false=>have:=hmem j hj hc;cases this
  refine⟨?_,hQ E tm k a w _ hL hJ⟩;rw[List.eq_nil_iff_forall_not_mem];intro j hj;obtain⟨h1,o,ho,_⟩:=mem_ready.1 hj;have hlt:j<opsA.size:=(yz.1 ho).1;have h2:=hL j hlt;have hjl:j<listed.size:=by omega
  simp only[Array.getD,hjl,dif_pos]at h1 h2;rw[h1]at h2;cases h2
 |succ fuel ih =>
  intro listed rem E tm k a w hsz hrem hmem hdown hJ;refine⟨fun hr=>hQ E tm k a w _ (hall listed hsz hr) hJ,fun i hi => ?_⟩;obtain⟨h1,o,ho,hedge⟩:=mem_ready.1 hi;have hlt:i<opsA.size:=(yz.1 ho).1;have hil:i<listed.size:=by omega
  have hi0:listed.getD i false=false:=by
   simp only[Array.getD,hil,dif_pos]at h1⊢;exact h1
  have ho':opsA.toList[i]?=some o:=by simpa using ho
  have hm:∀j,Nat.testBit (eZ ms i) j=true->listed.getD j false=true:=by
   intro j hj;obtain⟨_,e,he,hb,hx⟩:=C.ok.mask i o j ho' hj;rcases hx with rfl|hx
   ·exact hedge e he hb
   ·exact hdown e.on (hedge e he hb) j hx
  have hL':∀l,(fun j=>(listed.setIfInBounds i true).getD j false) l=true↔(fun j=>listed.getD j false) l=true\/l=i:=by
   intro l;by_cases hli:l=i
   ·subst hli;simp only[or_true,iff_true];simp[hil]
   ·simp only[hli,or_false];rw[getD_set_ne false (fun e=>hli e.symm)]
  unfold wpOpIn;rw[ho];simp only;have hstep:=uZ.step (L:=fun j=>listed.getD j false) (L':=fun j=>(listed.setIfInBounds i true).getD j false) C hJ ho' hi0 hm hdown hL' (ro:=ro) (K:=wpAnyIn (rd ro) 0 P .any opsA Q fuel (listed.setIfInBounds i true)) (Q:=Q) (fun E' tm' k' a' w' hJ'=>by
   refine ih (listed.setIfInBounds i true) (rem.erase i) E' tm' k' a' w' (by simpa using hsz) ?_ ?_ ?_ hJ'
   ·have:i∈rem:=hmem i hlt hi0;rw[List.length_erase_of_mem this];omega
   ·intro j hj hc;have hne:j≠i:=by
     rintro rfl;have:=(hL' j).2 (.inr rfl);simp only at this;rw[this]at hc;cases hc
    rw[getD_set_ne false (fun e=>hne e.symm)]at hc;exact(List.mem_erase_of_ne hne).2 (hmem j hj hc)
   ·intro l hl j hj;refine(hL' j).2 (.inl ?_);rcases(hL' l).1 hl with hl|rfl
    ·exact hdown l hl j hj
    ·exact hm j hj)
  split
  ·rename_i hw;rw[if_pos hw]at hstep;exact hstep
  ·rename_i hw;rw[if_neg hw]at hstep;exact⟨fun _ _=>trivial,hstep⟩
theorem zR{l:List Oper}(h:WX P l=true):∀(i:Nat)(o:Oper)(x:Operand),l[i]?=some o->x∈o.op.operands->tC P x=true:=by
 intro i o x ho hx;have:=nG h i o ho;exact List.all_eq_true.1 this x (by simpa using hx)
theorem GY(hm:P.follows .mixedOrders=true)(hcf:iN P callF)(hnm:fD P){E:cA}{tm tm':List Value}{S':St}{a:Act}{w:World}{rid:Nat}{ro:Option Nat}{Q:Exit->Act->World->Prop}(hops:WX P opsA.toList=true)(hd:TJ opsA.toList=true)(hb:vQ callF P opsA.toList tm S=some (tm',S'))
  (ht:Tm E A tm a) (hg:vD P E A) (hev:S.next % 2=0) (H:aW P E A S.heap w) (hA:∀n,A n->¬(S.next<=n/\n<S'.next))
  (hQ:∀E' a' w',bB P E A S.heap S.next w E' S'.heap S'.next w'->Tm E' (fun n=>A n\/(S.next<=n/\n<S'.next)) tm' a'->a'.defers=a.defers->Q .normal a' w') :
  (Code.region rid opsA true).wpIn (rd ro) 0 P Q a w:=by
 unfold vQ at hb;split at hb
 ·rename_i F hF;simp only[yb,ya,yc,yd]at hb;obtain⟨⟨⟨k1,k2⟩,k3⟩,rfl,rfl⟩:=hb;have hok:=QZ hd;have hsl0:nH opsA.toList F.recs tm (fun l=>Nat.blt l 0) tm:=⟨rfl,fun d _=>⟨fun l o r _ _ hl=>by rw[xY]at hl;omega,fun _=>rfl⟩⟩;have hfacts:=GX (tm0:=tm) hok hF (fun j=>by simp) (by simp) rfl rfl hev hsl0 (by simp) (by simp);have hfacts:aBU callF P opsA.toList (eS opsA.toList []) tm F 0 S.next (fun _=>False) (fun _=>False) :=
   { hfacts with
     effects:=fun t e he=>(hfacts.effects t e he).imp (fun h=>by simp at h) id
     laid:=fun x hx=>(hfacts.laid x hx).imp (fun h=>by simp at h) id }
  obtain⟨_,_,_,_,_,_,_,phs,_⟩:=oZ hF;have h0:oF F.hs 0=S.heap:=by
   obtain⟨recs',es',hs',al',q1,q2,q3,q4,_⟩:=oZ hF;rw[q4];rfl
  simp only at hA hQ;have C:Q8 P callF opsA.toList (eS opsA.toList []) tm F E A S :=
   { calls := hcf, names := hnm, ok := hok, facts := hfacts, opd := zR hops, glb := hg, out := hA, twice := k2, apart := k3,
     reads:=fun j o r ho hr hon hk k hkl=>by simpa using BA k1 j o r ho hr hon hk k hkl }
  refine wpIn_region_any hm (uZ.any (ro:=ro) (w0:=w) (a0:=a) C ?_ opsA.size _ (List.range opsA.size) E tm 0 a _ (by simp) (by simp) (fun j hj _=>List.mem_range.2 hj) ?_ ?_)
  ·intro E' tm₁ k a' w' L hL hJ;have hke:k=F.es.length:=by
    rcases Nat.lt_or_ge k F.es.length with h|h
    ·have hek:F.es[k]?=some F.es[k]:=yyi h;have hlt:F.es[k]<opsA.size:=by
      rcases hfacts.effects k _ hek with h |⟨o,r,ho,_⟩
      ·exact h.elim
      ·simpa using (yi.1 ho).1
     have:=(hJ.keff k _ hek).1 (hL _ hlt);omega
    ·have:=hJ.kle;omega
   subst hke;have htm:tm₁=F.tm:=by
    refine XD (by rw[hJ.slots.1,hfacts.slots.1]) fun d hd => ?_;rw[hJ.slots.1]at hd;obtain⟨p3,p4⟩:=hJ.slots.2 d hd;obtain⟨q3,q4⟩:=hfacts.slots.2 d hd;by_cases hex:∃(l:Nat)(o:Oper),opsA.toList[l]?=some o/\o.dst=some d
    ·obtain⟨l,o,ho,hdo⟩:=hex;have hlt:=(yi.1 ho).1;have hl:l<F.recs.length:=by rw[hfacts.recs];exact hlt
     have hr:=yyi hl;rw[p3 l o _ ho hr (hL l (by simpa using hlt)) hdo,q3 l o _ ho hr ((xY _ _).2 hlt) hdo]
    ·rw[p4 fun l o ho _ hdo=>hex ⟨l,o,ho,hdo⟩,q4 fun l o ho _ hdo=>hex ⟨l,o,ho,hdo⟩]
   subst htm;have hhp:hp (eS opsA.toList []) F L F.es.length=own (fun j=>!qP (eS opsA.toList []) F.es F.es.length j) F.al++oF F.hs F.es.length:=by
    unfold hp;rw[LL];intro x hx;rcases hfacts.laid x hx with h |⟨o,r,ho,_⟩
    ·exact h.elim
    ·simp[hL x.1 (by simpa using (yi.1 ho).1)]
   have hpost:=hJ.post;rw[hhp]at hpost;refine hQ E' a' w' hpost ⟨hJ.tm.tmps,fun x hx=>iH ?_ x (hJ.tm.sc x hx)⟩ hJ.dfr;rintro n (hn |⟨l,r,hl,hr,hx⟩)
   ·exact .inl hn
   ·have:=C.bounds hr;exact .inr (by omega)
  ·intro l hl;exfalso;by_cases h:l<opsA.size<;>simp[h]at hl
  ·have hno:∀j,(Array.replicate opsA.size false).getD j false=false:=by
    intro j;by_cases h:j<opsA.size<;>simp[h]
   have hhp:∀n x,aQ (hp (eS opsA.toList []) F (fun j=>(Array.replicate opsA.size false).getD j false) 0) n=some x->aQ S.heap n=some x:=by
    intro n x hg;unfold hp at hg;rw[tK (fun j y _=>by simp only[hno];rfl),h0]at hg;exact hg
   have hhd:aW P E A S.heap { w with drawn:=w.drawn+1 }:=H.world rfl;refine⟨⟨rfl,fun d _=>⟨fun l o r _ _ hl=>(by simp only[hno]at hl;cases hl),fun _=>rfl⟩⟩,⟨ht.tmps,fun x hx=>iH (fun n hn=>.inl hn) x (ht.sc x hx)⟩,Nat.zero_le _,fun t e _ => ?_,(hhd.sub hhp).mono fun n hn=>.inl hn,?_,rfl⟩
   ·simp only[hno];simp
   ·exact(bB.world (w₁:={ w with drawn:=w.drawn+1 }) (bB.start H hfacts.le (by rw[hfacts.ev,hev])) rfl rfl rfl rfl).drop hhp
 ·simp at hb
end
section
variable{P:Program}
theorem aW.lt2{E:cA}{A:Nat->Prop}{h:List (Nat×Obj)}{w:World}(H:aW P E A h w){n:Nat}{o:Obj}(hg:aQ h n=some o):E.β n<w.heap.size:=by
 obtain⟨_,_,oc,hoc,_⟩:=H.blk n o hg;exact(yz.1 hoc).1
theorem pA(h g:List (Nat×Obj))(k:Nat)(x:Obj):aQ (h++g) k=some x->aQ h k=some x\/(aQ h k=none/\aQ g k=some x):=by
 induction h with
 |nil=>intro e;exact .inr ⟨rfl,e⟩
 |cons a r ih =>
  obtain⟨m,y⟩:=a;simp only[List.cons_append,aQ];split
  ·intro e;exact .inl e
  ·exact ih
theorem T5{h:List (Nat×Obj)}{n:Nat}{o:Obj}(hg:aQ h n=some o):xP n h=true:=by
 induction h with
 |nil=>cases hg
 |cons a r ih =>
  obtain⟨m,y⟩:=a;simp only[aQ]at hg;simp only[xP,yu];split at hg
  ·rename_i hm;exact .inl hm
  ·exact .inr (ih hg)
theorem uA{h:List (Nat×Obj)}:∀{g:List (Nat×Obj)}{n:Nat}{o:Obj},aQ (rS h g) n=some o->aQ g n=some o/\aQ h n=none
 | [],n,o,hg=>by cases hg
 |(m,x)::r,n,o,hg=>by
  simp only[rS]at hg;split at hg
  ·rename_i hm;obtain⟨h1,h2⟩:=uA hg;refine⟨?_,h2⟩;simp only[aQ];split
   ·rename_i he;obtain rfl:=yf he;exfalso;have:∀{h:List (Nat×Obj)},xP m h=true->∃o',aQ h m=some o':=by
     intro h
     induction h with
     |nil=>intro h;cases h
     |cons a r ih =>
      obtain⟨k,y⟩:=a;intro h;simp only[xP,yu]at h;simp only[aQ];split
      ·exact⟨y,rfl⟩
      ·rename_i hk;exact ih (h.resolve_left hk)
    obtain⟨o',ho'⟩:=this hm;rw[h2]at ho';cases ho'
   ·exact h1
  ·rename_i hm;simp only[aQ]at hg;split at hg
   ·rename_i he;obtain rfl:=yg hg;refine⟨by simp[aQ,he],?_⟩;obtain rfl:=yf he;cases hc:aQ h m with
    |none=>rfl
    |some y=>exact absurd (T5 hc) hm
   ·rename_i he;obtain⟨h1,h2⟩:=uA hg;refine⟨?_,h2⟩;simp only[aQ,he];exact h1
theorem bB.framed2{E E':cA}{A:Nat->Prop}{hs ho g:List (Nat×Obj)}{nx nx':Nat}{w w':World}(p:bB P E A hs nx w E' ho nx' w')(H:aW P E A g w)
  (hsub:∀n o,aQ hs n=some o->aQ g n=some o) (hA:∀n,A n->¬(nx<=n/\n<nx')):bB P E A g nx w E' (ho++rS hs g) nx' w':=by
 have hag:kR A E E':=p.agreeA hA;have hg:∀n o,aQ (rS hs g) n=some o->(A n\/(nx<=n/\n<nx'))/\yJ (fun n=>A n\/(nx<=n/\n<nx')) o/\E'.β n=E.β n/\E.β n<w.heap.size/\aQ hs n=none/\aQ g n=some o/\∃oc,w'.heap[E'.β n]?=some oc/\cV P E' n o oc:=by
  intro n o hn;obtain⟨hng,hnone⟩:=uA hn;obtain⟨h1,h2,oc,h3,h4⟩:=H.blk n o hng;have hlt:=H.lt2 hng;have hb:=(hag n h1).1;refine⟨.inl h1,mM (fun _ hx=>Or.inl hx) o h2,hb,hlt,hnone,hng,oc,?_,cV.agree hag h1 h2 h4⟩;rw[hb,p.same _ hlt ?_]
  ·exact h3
  ·intro k o' hk he;have:=H.inj k n _ _ (hsub k o' hk) hng he;subst this;rw[hnone]at hk;cases hk
 have hh:∀n o,aQ ho n=some o->(∃o',aQ hs n=some o'/\E'.β n=E.β n)\/w.heap.size<=E'.β n\/∃m o',aQ hs m=some o'/\E'.β n=E.β m:=by
  intro n o hn;rcases p.img n o hn with⟨m,o',hm,e⟩|hx
  ·exact .inr (.inr ⟨m,o',hm,e⟩)
  ·exact .inr (.inl hx)
 have hdis:∀n o m o',aQ ho n=some o->aQ (rS hs g) m=some o'->E'.β n≠E'.β m:=by
  intro n o m o' hn hm he;obtain⟨_,_,b1,b2,hnone,hgm,_⟩:=hg m o' hm;rcases hh n o hn with⟨o1,h1,h2⟩|h1 |⟨k,o1,h1,h2⟩
  ·have:=H.inj n m _ _ (hsub n o1 h1) hgm (by rw[<-h2,<-b1];exact he);subst this;rw[hnone]at h1;cases h1
  ·rw[he,b1]at h1;omega
  ·have:=H.inj k m _ _ (hsub k o1 h1) hgm (by rw[<-h2,<-b1];exact he);subst this;rw[hnone]at h1;cases h1
 exact
  { le := p.le
    even:=p.even
    agree:=p.agree
    holds:=by
     refine⟨fun n o hn => ?_,fun n m o o' hn hm he => ?_⟩
     ·rcases pA _ _ _ _ hn with hn |⟨_,hn⟩
      ·exact p.holds.blk n o hn
      ·obtain⟨a1,a2,_,_,_,_,a3⟩:=hg n o hn;exact⟨a1,a2,a3⟩
     ·rcases pA _ _ _ _ hn with hn |⟨_,hn⟩<;>rcases pA _ _ _ _ hm with hm |⟨_,hm⟩
      ·exact p.holds.inj n m _ _ hn hm he
      ·exact absurd he (hdis n o m o' hn hm)
      ·exact absurd he.symm (hdis m o' n o hm hn)
      ·obtain⟨_,_,b1,_,_,g1,_⟩:=hg n o hn;obtain⟨_,_,c1,_,_,g2,_⟩:=hg m o' hm;exact H.inj n m _ _ g1 g2 (by rw[<-b1,<-c1];exact he)
    os:=p.os
    tape:=p.tape
    output:=p.output
    size:=p.size
    same:=fun b hb hnot=>p.same b hb fun n o hn=>hnot n o (hsub n o hn)
    img:=fun n o hn=>by
     rcases pA _ _ _ _ hn with hn |⟨_,hn⟩
     ·rcases p.img n o hn with⟨m,o',hm,e⟩|hx
      ·exact .inl ⟨m,o',hsub m o' hm,e⟩
      ·exact .inr hx
     ·obtain⟨_,_,b1,_,_,g1,_⟩:=hg n o hn;exact .inl ⟨n,o,g1,b1⟩ }
end
section
variable{P:Program}{callF:Fn->List Value->St->Option (Value×St)}
theorem mP{ops:List Oper}:∀{l:List Oper}{tm tm':List Value}{S S':St},qQ callF P ops l tm S=some (tm',S')->S.next<=S'.next
 | [],_,_,_,_,h=>by
  simp only[qQ,ya,yc]at h;rw[h.2];exact yh _
 |o::r,tm,tm',S,S',h=>by
  simp only[qQ]at h;split at h
  ·split at h
   ·simp only[yb]at h;exact yya (ye h.1) (mP h.2)
   ·simp at h
  ·exact mP h
def NA(D:Nat):Deferred:={ target:=.collected D,args:=#[] }
def KH(ro:Option Nat)(w:World)(a:Act)(w':World)(a':Act):Prop :=
 ∃Ds:List Nat,a'.defers=Ds.map NA++a.defers/\(ro.isSome=true->Ds=[])/\(∀D∈Ds,w.heap.size<=D/\w'.heap[D]?=some (.deferred (some [])))/\Ds.Nodup
theorem KH.of_eq{ro:Option Nat}{w w':World}{a a':Act}(h:a'.defers=a.defers):KH ro w a w' a' :=
 ⟨[],by simpa using h,fun _=>rfl,by simp,by simp⟩
theorem aW.noDeferred{E:cA}{A:Nat->Prop}{h:List (Nat×Obj)}{w:World}(H:aW P E A h w){D:Nat}{x:Option (List Deferred)}(hD:w.heap[D]?=some (.deferred x)):∀n o,aQ h n=some o->E.β n≠D:=by
 intro n o hn e;obtain⟨_,_,oc,hc,hr⟩:=H.blk n o hn;rw[e,hD]at hc;obtain rfl:=yg hc;cases o with
 |cells c t fz =>
  simp only[cV]at hr;split at hr
  ·obtain⟨cc,fzc,s,e1,_⟩:=hr;cases e1
  ·cases hr.2
 |map es cl=>simp[cV]at hr
 |stringIter s p=>cases hr.2
 |mapIter m s seen c=>cases hr.2
 |loop r=>obtain⟨f,d,e1⟩:=hr;cases e1
 | _=>exact hr
theorem KH.trans{ro:Option Nat}{E₁ E₂:cA}{B:Nat->Prop}{h₁ h₂:List (Nat×Obj)}{nx₁ nx₂:Nat}{w w₁ w₂:World}{a a₁ a₂:Act}(d:KH ro w a w₁ a₁)(d':KH ro w₁ a₁ w₂ a₂)(hsz:w.heap.size<=w₁.heap.size)
  (H:aW P E₁ B h₁ w₁) (q:bB P E₁ B h₁ nx₁ w₁ E₂ h₂ nx₂ w₂):KH ro w a w₂ a₂:=by
 obtain⟨Ds,e1,n1,m1,u1⟩:=d;obtain⟨Ds',e2,n2,m2,u2⟩:=d';have hlt:∀D∈Ds,D<w₁.heap.size:=by
  intro D hD;have:=(m1 D hD).2;rcases Nat.lt_or_ge D w₁.heap.size with h|h
  ·exact h
  ·rw[yye h]at this;cases this
 refine⟨Ds'++Ds,by rw[e2,e1];simp,fun h=>by rw[n1 h,n2 h];rfl,?_,?_⟩
 ·intro D hD;rcases yy.1 hD with hD|hD
  ·exact⟨yya hsz (m2 D hD).1,(m2 D hD).2⟩
  ·refine⟨(m1 D hD).1,?_⟩;rw[q.same D (hlt D hD) (H.noDeferred (m1 D hD).2)];exact(m1 D hD).2
 ·rw[List.nodup_append];refine⟨u2,u1,?_⟩;intro x hx y hy e;subst e;have h1:=(m2 x hx).1;have h2:=hlt x hy;omega
def iP(P:Program)(ro:Option Nat)(E:cA)(A:Nat->Prop)(S:St)(w:World)(a:Act)(tm':List Value)(S':St)(R:Act->World->Prop):Prop :=
 ∀E' a' w',bB P E A S.heap S.next w E' S'.heap S'.next w'->Tm E' (fun n=>A n\/(S.next<=n/\n<S'.next)) tm' a'->KH ro w a w' a'->R a' w'
theorem iP.trans{ro:Option Nat}{E E₁:cA}{A:Nat->Prop}{S S₁ S':St}{w w₁:World}{a a₁:Act}{tm':List Value}{R:Act->World->Prop}(h:iP P ro E A S w a tm' S' R)(p:bB P E A S.heap S.next w E₁ S₁.heap S₁.next w₁)(hd:KH ro w a w₁ a₁)(hle:S₁.next<=S'.next) :
  iP P ro E₁ (fun n=>A n\/(S.next<=n/\n<S₁.next)) S₁ w₁ a₁ tm' S' R:=by
 intro E' a' w' q ht hd';refine h E' a' w' (p.trans q) ⟨ht.tmps,fun x hx=>iH ?_ x (ht.sc x hx)⟩ (KH.trans hd hd' p.size p.holds q);have:=p.le;rintro n ((hn|hn)|hn)
 ·exact .inl hn
 ·exact .inr (by omega)
 ·exact .inr (by omega)
theorem vD.next{E E':cA}{A B:Nat->Prop}(hg:vD P E A)(hag:kR A E E')(hAB:∀n,A n->B n):vD P E' B:=by
 intro g hgs;obtain⟨h1,h2,h3⟩:=hg g hgs;obtain⟨e1,e2,_⟩:=hag _ h3;exact⟨by rw[e1,h1],by rw[e2,h2],hAB _ h3⟩
theorem wL(hcf:iN P callF)(hnm:fD P){ro:Option Nat}{opsA:Array Oper}{Q:Exit->Act->World->Prop}:∀{l:List Oper}{tm tm':List Value}{S S':St}{E:cA}{A:Nat->Prop}{a:Act}{w:World},
  qQ callF P opsA.toList l tm S=some (tm',S')->(∀o∈l,∀x∈o.op.operands,tC P x=true)->Tm E A tm a->vD P E A->S.next % 2=0->aW P E A S.heap w->(∀n,A n->¬(S.next<=n/\n<S'.next)) ->
  iP P ro E A S w a tm' S' (Q .normal)->wpListIn (rd ro) 0 P opsA Q l a w
 | [],tm,tm',S,S',E,A,a,w,h,hops,ht,hg,hev,H,hA,hQ=>by
  simp only[qQ,ya,yc]at h;obtain⟨rfl,rfl⟩:=h;exact hQ E a w (bB.refl H) ⟨ht.tmps,fun x hx=>oC (ht.sc x hx)⟩ (KH.of_eq rfl)
 |o::r,tm,tm',S,S',E,A,a,w,h,hops,ht,hg,hev,H,hA,hQ=>by
  simp only[qQ]at h;refine wpListIn_step fun K hK => ?_;rw[CR ht];split at h
  ·rename_i hgd;rw[if_pos hgd];split at h
   ·rename_i v S₁ hs;simp only[yb]at h;have hle:=ye h.1;have hle':=mP h.2;have hA₁:∀n,A n->¬(S.next<=n/\n<S₁.next):=fun n hn hx=>hA n hn (by omega);refine wJ hcf hnm ht hg hev H (hops o (by simp)) hA₁ hs (sS hs) ro K Q ?_;intro E₁ w₁ p hsc;refine hK _ _ (wL hcf hnm h.2 (fun o' ho'=>hops o' (by simp[ho'])) (ht.put (p.agreeA hA₁) (fun n hn=>.inl hn) hsc) (hg.next (p.agreeA hA₁) fun n hn=>.inl hn) (by rw[p.even,hev]) p.holds ?_ (hQ.trans p ?_ hle'))
    ·rintro n (hn|hn) hx
     ·exact hA n hn (by omega)
     ·omega
    ·exact KH.of_eq (by unfold Act.put;split<;>rfl)
   ·simp at h
  ·rename_i hgd;rw[if_neg hgd];have hp:Tm E A (rJ tm o.dst undef) (a.put o.dst undef):=by
    have:=ht.put (E':=E) (B:=A) (dst:=o.dst) (v:=undef) (fun n _=>⟨rfl,rfl,rfl⟩) (fun n hn=>hn) (oW _);rwa[kJ]at this
   refine⟨fun _ _=>trivial,hK _ _ (wL hcf hnm h (fun o' ho'=>hops o' (by simp[ho'])) hp hg hev H hA ?_)⟩;intro E' a' w' p ht' hd';refine hQ E' a' w' p ht' ?_;have he:(a.put o.dst undef).defers=a.defers:=by unfold Act.put;split<;>rfl
   obtain⟨Ds,e1,e2⟩:=hd';exact⟨Ds,by rw[e1,he],e2⟩
theorem KJ{ops:List Oper}{tm tm':List Value}{S S':St}(h:vQ callF P ops tm S=some (tm',S')):S.next<=S'.next:=by
 unfold vQ at h;split at h
 ·rename_i F hF;simp only[yb,ya,yc]at h;obtain⟨_,_,rfl⟩:=h;obtain⟨_,_,_,_,_,_,_,_,_,_,_,_,h,_⟩:=oZ hF;exact h
 ·simp at h
theorem eN:∀{f:Nat}{c:Code}{tm tm':List Value}{S S':St}{e:Exit},evC callF P f c tm S=some (e,tm',S')->S.next<=S'.next
 |0,_,_,_,_,_,_,h=>by simp[evC]at h
 |f+1,c,tm,tm',S,S',e,h=>by
  cases c with
  |region rid ops d =>
   cases d with
   |false =>
    simp only[evC]at h;split at h
    ·rename_i h';simp only[ya,yc]at h;obtain⟨_,_,rfl⟩:=h;exact mP h'
    ·simp at h
   |true =>
    simp only[evC]at h;split at h
    ·rename_i h';simp only[ya,yc]at h;obtain⟨_,_,rfl⟩:=h;exact KJ h'
    ·simp at h
  |seq x y =>
   simp only[evC]at h;split at h
   ·rename_i h';exact yya (eN h') (eN h)
   ·exact eN h
  |cond x y z =>
   simp only[evC]at h;split at h
   ·exact eN h
   ·exact eN h
   ·simp at h
  |block id b =>
   simp only[evC]at h;split at h
   ·rename_i h';split at h<;>(simp only[ya,yc]at h;obtain⟨_,_,rfl⟩:=h;exact eN h')
   ·exact eN h
  |loop b =>
   simp only[evC]at h;split at h
   ·rename_i h';exact yya (eN h') (eN h)
   ·exact eN h
  |scope b =>
   simp only[evC]at h;exact eN h
  |rangeFunc g ps a9 b =>
   simp only[evC]at h;repeat' split at h
   all_goals first
    |(simp at h;done)
    | (rename_i hle _ _ _ _ _ _ _
       simp only[ya,yc]at h;obtain⟨_,_,rfl⟩:=h;have:=ye hle;simp only;omega)
  | _ =>
   simp only[evC]at h;first
    |(simp at h;done)
    |(simp only[ya,yc]at h;obtain⟨_,_,rfl⟩:=h;exact yh _)
theorem jA:∀{f:Nat}{c:Code}{tm tm':List Value}{S S':St}{l:Nat},evC callF P f c tm S≠some (.goto l,tm',S')
 |0,_,_,_,_,_,_=>by simp[evC]
 |f+1,c,tm,tm',S,S',l=>by
  intro h;cases c with
  |region rid ops d =>
   cases d<;>(simp only[evC]at h;split at h<;>simp at h)
  |seq x y =>
   simp only[evC]at h;split at h
   ·exact jA h
   ·exact jA h
  |cond x y z =>
   simp only[evC]at h;split at h
   ·exact jA h
   ·exact jA h
   ·simp at h
  |block id b =>
   simp only[evC]at h;split at h
   ·split at h<;>simp at h
   ·exact jA h
  |loop b =>
   simp only[evC]at h;split at h
   ·exact jA h
   ·exact jA h
  |scope b =>
   simp only[evC]at h;exact jA h
  |rangeFunc g ps a9 b =>
   simp only[evC]at h;repeat' split at h
   all_goals first
    |(simp at h;done)
    | (rename_i e he
       simp only[ya,yc]at h;obtain⟨rfl,_⟩:=h;unfold MT at he;split at he<;>simp at he)
  | _=>simp[evC]at h
section scope
variable{b:Frame}{a:Act}{k:List Item}{cs:List Frame}{w:World}{Q:Exit->Act->World->Prop}{F:Fence}{n:Nat}
theorem kL{c:Code}:step P (lone (b.atR a (.code (.scope c)::k)) cs w)=.next (lone (b.atR a (.code c::.inScope c::k)) cs w) :=
 step_lone_go (by simp[stepG,stepG.exec,Frame.atR])
theorem GZ{c:Code}:step P (lone (b.atR a (.inScope c::k)) cs w)=.next (lone (b.atR a k) cs w) :=
 step_lone_go (by simp[stepG,stepG.exec,Frame.atR])
theorem yC{c:Code}(h:c.wpIn F n P (Exit.noGoto Q) a w):(Code.scope c).wpIn F n P Q a w:=by
 intro b k cs hro hb hr;have h0:(lone (b.atR a (.code (.scope c)::k)) cs w).fenced P F:=fenced_calm hb hr rfl;obtain⟨e,a₁,w₁,hq,harr⟩:=h b (.inScope c::k) cs hro hb hr;cases e with
 |normal=>exact⟨.normal,a₁,w₁,hq,.head h0 kL (StepsIn.trans harr (.one (fenced_calm hb hr rfl) GZ))⟩
 |exit id =>
  have hx:exitTo id (.inScope c::k)=exitTo id k:=by simp[exitTo]
  exact⟨.exit id,a₁,w₁,hq,fun k' hk=>.head h0 kL (harr.1 k' (by rw[hx];exact hk)),
   fun hr' hk=>let ⟨k₁,h1,h2⟩:=harr.2 hr' (by rw[hx];exact hk);⟨k₁,h1,.head h0 kL h2⟩⟩
 |goto l=>exact hq.elim
 |ret=>exact⟨_,a₁,w₁,hq,.of_steps (.one h0 kL) harr⟩
 |panic ch=>exact⟨_,a₁,w₁,hq,.of_steps (.one h0 kL) harr⟩
 |outgrown=>exact⟨_,a₁,w₁,hq,.of_steps (.one h0 kL) harr⟩
end scope
theorem aW.grow{E:cA}{A:Nat->Prop}{h:List (Nat×Obj)}{w w':World}(H:aW P E A h w)(hw:∀k,k<w.heap.size->w'.heap[k]?=w.heap[k]?):aW P E A h w':=by
 refine⟨fun n o hn => ?_,H.inj⟩;obtain⟨h1,h2,oc,h3,h4⟩:=H.blk n o hn;have hlt:E.β n<w.heap.size:=by
  rcases Nat.lt_or_ge (E.β n) w.heap.size with h'|h'
  ·exact h'
  ·rw[yye h']at h3;cases h3
 exact⟨h1,h2,oc,by rw[hw _ hlt];exact h3,h4⟩
theorem aW.lt{E:cA}{A:Nat->Prop}{h:List (Nat×Obj)}{w:World}(H:aW P E A h w){n:Nat}{o:Obj}(hn:aQ h n=some o):E.β n<w.heap.size:=by
 obtain⟨_,_,oc,h3,_⟩:=H.blk n o hn;rcases Nat.lt_or_ge (E.β n) w.heap.size with h'|h'
 ·exact h'
 ·rw[yye h']at h3;cases h3
theorem bB.unnamed{E:cA}{A:Nat->Prop}{h:List (Nat×Obj)}{nx:Nat}{w:World}(H:aW P E A h w)(o:Obj):bB P E A h nx w E h nx (w.alloc o) where
 le:=yh _
 even:=rfl
 agree _ _:=⟨rfl,rfl,rfl⟩
 holds:=(H.grow fun k hk=>RowKit.Below.heap_alloc w o k hk).mono fun _ hn=>.inl hn
 os:=rfl
 tape:=rfl
 output:=rfl
 size:=by simp
 same b hb _:=RowKit.Below.heap_alloc w o b hb
 img n o' hn:=.inl ⟨n,o',hn,rfl⟩
theorem bB.turn{E E':cA}{A:Nat->Prop}{h h':List (Nat×Obj)}{nx nx' l:Nat}{w w':World}{o:Obj}(p:bB P E A h nx w E' h' nx' w')(hl:w.heap.size<=l)(hn:∀n x,aQ h' n=some x->E'.β n≠l) :
  bB P E A h nx w E' h' nx' (w'.putObj l o) where
 le:=p.le
 even:=p.even
 agree:=p.agree
 holds:=⟨fun n x hx=>by
  obtain⟨h1,h2,oc,h3,h4⟩:=p.holds.blk n x hx;exact⟨h1,h2,oc,by rw[World.putObj_heap_other (hn n x hx)];exact h3,h4⟩,p.holds.inj⟩
 os:=p.os
 tape:=p.tape
 output:=p.output
 size:=by simp[World.putObj];exact p.size
 same b hb hnot:=by rw[World.putObj_heap_other (by omega)];exact p.same b hb hnot
 img:=p.img
theorem Tm.agree{E E':cA}{A B:Nat->Prop}{tm:List Value}{a a':Act}(ht:Tm E A tm a)(hag:kR A E E')(hAB:∀n,A n->B n)(ha:a'.tmps=a.tmps):Tm E' B tm a':=by
 refine⟨?_,fun x hx=>iH hAB x (ht.sc x hx)⟩;rw[ha,ht.tmps,yp fun x hx=>fH hag x (ht.sc x hx)]
end
end Go.Dam
