/- An own evaluator of closed runs of a program, proved sound against the model: one part of it. -/
import Derived.Test.YtgkhemnmcgicnaaGreatDoorG04
import Derived.RangeFuncLeaves
import Derived.Below
import Derived.Maps.RangeRun
namespace Go.Dam
set_option maxHeartbeats 2000000
section
variable{P:Program}{callF:Fn->List Value->St->Option (Value×St)}
theorem KL(hcf:iN P callF)(hnm:fD P){f:Nat}{g:Operand}{ps:Array Tmp}{a9 b:Code}{tm tm':List Value}{S S':St}{e:Exit}(h:evC callF P (f+1) (.rangeFunc g ps a9 b) tm S=some (e,tm',S'))
  (hok:dV P (.rangeFunc g ps a9 b)=true) {E:cA} {A:Nat->Prop} {a:Act} {w:World} {Q:Exit->Act->World->Prop} (ht:Tm E A tm a) (hg:vD P E A) (hev:S.next % 2=0) (H:aW P E A S.heap w)
  (hA:∀n,A n->¬(S.next<=n/\n<S'.next)) (hQ:iP P none E A S w a tm' S' (Q e)):(Code.rangeFunc g ps a9 b).wpIn (rd none) 0 P Q a w:=by
 simp only[dV]at hok;obtain⟨h1,h2⟩:=AZ ht hg hok;simp only[evC]at h;split at h;case h_2=>simp at h
 rename_i gf first captured hfv
 rw[hfv,gW,F1]at h1;rw[hfv,pZ]at h2;split at h;case isFalse=>simp at h
 rename_i hc;simp only[yd]at hc;obtain⟨hc1,hc2⟩:=hc;have e1:first=#[]:=by apply yl;simpa using hc1
 subst e1;split at h;case h_2=>simp at h
 rename_i v2 S2 hcall;split at h;case isFalse=>simp at h
 rename_i hle;have hle:=ye hle;split at h;case h_2=>simp at h
 rename_i r hr;split at h;case isTrue=>simp at h
 rename_i hbusy;split at h;case h_2=>simp at h
 rename_i e' hleave;simp only[ya,yc]at h;obtain⟨rfl,rfl,rfl⟩:=h;simp only at hA hQ;obtain⟨fn0,hfn0,hbody0⟩:∃fn,P.funcs[gf]?=some fn/\fn.body.isSome=true:=by
  unfold xQ at hc2;split at hc2
  ·rename_i fn hfn;exact⟨fn,hfn,hc2⟩
  ·cases hc2
 refine wpIn_rangeFunc ?_;intro fn _;have p0:=bB.unnamed (nx:=S.next) H (.deferred (some []));have hs0:(w.alloc (.deferred (some []))).heap.size=w.heap.size+1:=by simp
 have pn : bB P E (fun n => A n \/ (S.next <= n /\ n < S.next)) S.heap S.next (w.alloc (.deferred (some []))) (E.bind S.next (w.alloc (.deferred (some []))).heap.size 0 0)
   ((S.next,.loop ⟨.ready,none,0,tm.toArray,ps,a9,b,0⟩)::S.heap) (S.next+2)
   ((w.alloc (.deferred (some []))).alloc (.loop { state:=.ready,pending:=none,fn,tmps:=a.tmps,params:=ps,assign:=a9,body:=b,defers:=w.heap.size })):=by
  refine bB.new p0.holds ?_ ⟨by omega,by omega⟩ ?_ ?_ rfl rfl rfl rfl
  ·rintro n (hn|hn) hx
   ·exact hA n hn (by omega)
   ·omega
  ·intro x hx;exact iH (A:=A) (fun n hn=>Or.inl hn) x (ht.sc x (by simpa using hx))
  ·refine⟨fn,w.heap.size,?_⟩;have hag:kR A E (E.bind S.next (w.alloc (.deferred (some []))).heap.size 0 0):=by
    intro n hn;have:n≠S.next:=by rintro rfl;exact hA _ hn (by omega)
    simp[cA.bind,this]
   simp only;rw[ht.tmps,yp fun x hx=>(fH hag x (ht.sc x hx)).symm];simp
 have p1:=p0.trans pn;obtain⟨E1,hE1⟩:∃E1,E.bind S.next (w.alloc (.deferred (some []))).heap.size 0 0=E1:=⟨_,rfl⟩;obtain⟨W1,hW1⟩:∃W1,(w.alloc (.deferred (some []))).alloc (.loop { state:=.ready,pending:=none,fn,tmps:=a.tmps,params:=ps,assign:=a9,body:=b,defers:=w.heap.size })=W1:=⟨_,rfl⟩;have hβ:E1.β S.next=w.heap.size+1:=by rw[<-hE1];simp[cA.bind]
 have hD1:W1.heap[w.heap.size]?=some (.deferred (some [])):=by
  rw[<-hW1,RowKit.Below.heap_alloc _ _ _ (by simp)];exact World.alloc_heap_new w _
 have hD1':w.heap.size<W1.heap.size:=by rw[<-hW1];simp;omega
 rw[hE1,hW1]at p1;have hA2:∀n,(A n\/(S.next<=n/\n<S.next+2))->¬(S.next+2<=n/\n<S2.next):=by
  rintro n (hn|hn) hx
  ·exact hA n hn (by omega)
  ·omega
 have hA1:∀n,A n->¬(S.next<=n/\n<S.next+2):=fun n hn hx=>hA n hn (by omega);have hag1:kR A E E1:=p1.agreeA hA1;have hcalls:=hcf (.func gf) _ _ _ _ hcall E1 _ W1 (hg.next hag1 fun n hn=>.inl hn) (by simp only;omega) (by
  intro x hx;rcases yk.1 hx with rfl|hx
  ·rw[pZ];exact⟨.inr ⟨yh _,by omega⟩,by simp,by simp⟩
  ·exact iH (B:=fun n=>A n\/(S.next<=n/\n<S.next+2)) (fun n hn=>Or.inl hn) x (h2.2.2 x (by simpa using hx))) p1.holds hA2
 have hargs:((Value.func (.yield S.next) #[] #[]::captured.toList).map (aN E1)).toArray=#[.func (.yield (w.heap.size+1)) #[] #[]]++captured.map (aN E):=by
  apply yl;simp only[yyn,gW,DB,hβ,Array.toList_append,yyj];rw[yp fun x hx=>fH hag1 x (h2.2.2 x (by simpa using hx))];simp
 rw[hargs]at hcalls;have hen:(Instr.enterLoop fn a.tmps ps a9 b none).run P w=.ok (w.heap.size+1,[NA w.heap.size]) W1:=by
  rw[<-hW1];exact run_enterLoop_outer _ _ _ _ _
 have hres:(resolve a.eval (rangeCall g (w.heap.size+1)) 0).run P W1=.ok { target:=.fn (.func gf) (captured.map (aN E)),args:=#[.func (.yield (w.heap.size+1)) #[] #[]] } W1:=by
  unfold resolve rangeCall;simp only[h1];simp[Deferred.ofValue,Act.eval]
 have hinv:(invoke (.fn (.func gf) (captured.map (aN E))) #[.func (.yield (w.heap.size+1)) #[] #[]]).run P W1=.ok (.enter gf (#[.func (.yield (w.heap.size+1)) #[] #[]]++captured.map (aN E))) W1 :=
  jU hfn0 hbody0 (hnm gf fn0 hfn0 hbody0) W1
 refine⟨_,_,W1,_,W1,gf,_,W1,hen,hres,fun _ _=>trivial,hinv,AX none,(GE hcalls).mono ?_⟩;rintro en w2 ⟨E2,rfl,q,_⟩;have pT:=p1.trans q;obtain⟨_,_,oc,hoc,f',d',hoc'⟩:=q.holds.blk S.next _ hr;have hβ2:E2.β S.next=w.heap.size+1:=by rw[(q.agree S.next (by simp only;omega)).1,hβ]
 rw[hβ2,hoc']at hoc;have hst:r.state≠.busy:=by intro hx;rw[hx]at hbusy;exact hbusy rfl
 refine⟨_,_,run_endLoop hoc hst,?_⟩;have hn:∀n x,aQ (J8 S2.heap S.next) n=some x->E2.β n≠w.heap.size+1:=by
  intro n x hx he;obtain⟨k1,k2⟩:=xV _ _ _ _ hx;exact k1 (q.holds.inj n S.next _ _ k2 hr (by rw[he,hβ2]))
 have pF:=(pT.drop fun n o hx=>(xV _ _ _ _ hx).2).turn (l:=w.heap.size+1) (o:=.loop { { r with fn:=f',defers:=d',tmps:=r.tmps.map (aN E2) } with state:=.exhausted }) (by omega) hn;have hq:=hQ E2 { a with defers:=[NA w.heap.size]++a.defers } _ pF (ht.agree (pT.agreeA hA) (fun n hn=>.inl hn) rfl) ⟨[w.heap.size],rfl,by simp,by
  intro D hD;obtain rfl:=List.mem_singleton.1 hD;refine⟨yh _,?_⟩;rw[World.putObj_heap_other (by omega),q.same _ hD1' (p1.holds.noDeferred hD1)];exact hD1,by simp⟩
 unfold MT at hleave;split at hleave
 ·rename_i hp;obtain rfl:=yg hleave;simp only[hp]at hq⊢;exact hq
 ·rename_i hp;obtain rfl:=yg hleave;simp only[hp]at hq⊢;exact wpIn_ret hq
 ·rename_i j hp;obtain rfl:=yg hleave;simp only[hp]at hq⊢;exact wpIn_exit hq
 ·cases hleave
end
section
variable{P:Program}{callF:Fn->List Value->St->Option (Value×St)}
def aKC(P:Program)(ev:Code->List Value->St->Option (Exit×List Value×St)):Prop :=
 ∀c tm S e tm' S',ev c tm S=some (e,tm',S')->dV P c=true->∀(ro:Option Nat),(ro.isSome=true->FZ c=true)->∀(E:cA)(A:Nat->Prop)(a:Act)(w:World)(Q:Exit->Act->World->Prop),Tm E A tm a->vD P E A->S.next % 2=0->aW P E A S.heap w ->
  (∀n,A n->¬(S.next<=n/\n<S'.next))->iP P ro E A S w a tm' S' (Q e)->c.wpIn (rd ro) 0 P Q a w
theorem oL(hm:P.follows .mixedOrders=true)(hcf:iN P callF)(hnm:fD P):∀(f:Nat),(aKC P (evC callF P f)) /\
  (∀b tm S e tm' S',evC callF P f (.loop b) tm S=some (e,tm',S')->dV P b=true->∀(ro:Option Nat),(ro.isSome=true->FZ b=true)->∀(E:cA)(A:Nat->Prop)(a:Act)(w:World)(Q:Exit->Act->World->Prop),Tm E A tm a->vD P E A->S.next % 2=0->aW P E A S.heap w ->
   (∀n,A n->¬(S.next<=n/\n<S'.next))->iP P ro E A S w a tm' S' (Q e)->Code.roundsIn (rd ro) 0 P b Q f a w)
 |0=>⟨fun _ _ _ _ _ _ h=>by simp[evC]at h,fun _ _ _ _ _ _ h=>by simp[evC]at h⟩
 |f+1=>by
  obtain⟨IS,IR⟩:=oL hm hcf hnm f
  have two : ∀ (ro : Option Nat) (x : Code) (next : Act -> World -> Prop) (tm : List Value) (S : St) (e : Exit) (tm' : List Value) (S' : St) (E : cA) (A : Nat -> Prop) (a : Act) (w : World) (Q : Exit -> Act -> World -> Prop) (rest : List Value -> St -> Option (Exit × List Value × St)),
    dV P x=true->(ro.isSome=true->FZ x=true)->(match evC callF P f x tm S with|some (.normal,tm₁,S₁)=>rest tm₁ S₁ | r=>r)=some (e,tm',S')->(∀tm₁ S₁,rest tm₁ S₁=some (e,tm',S')->S₁.next<=S'.next) ->
    (∀tm₁ S₁ E₁ A₁ a₁ w₁,rest tm₁ S₁=some (e,tm',S')->Tm E₁ A₁ tm₁ a₁->vD P E₁ A₁->S₁.next % 2=0->aW P E₁ A₁ S₁.heap w₁->(∀n,A₁ n->¬(S₁.next<=n/\n<S'.next))->iP P ro E₁ A₁ S₁ w₁ a₁ tm' S' (Q e)->next a₁ w₁) ->
    Tm E A tm a->vD P E A->S.next % 2=0->aW P E A S.heap w->(∀n,A n->¬(S.next<=n/\n<S'.next))->iP P ro E A S w a tm' S' (Q e)->x.wpIn (rd ro) 0 P (Exit.then next Q) a w:=by
   intro ro x next tm S e tm' S' E A a w Q rest hx hro h hmono hrest ht hg hev H hA hQ
   split at h
   ·rename_i tm₁ S₁ h1;have hle:=eN h1;have hle':=hmono _ _ h;have hA₁:∀n,A n->¬(S.next<=n/\n<S₁.next):=fun n hn hx=>hA n hn (by omega);refine IS x tm S .normal tm₁ S₁ h1 hx ro hro E A a w _ ht hg hev H hA₁ ?_;intro E₁ a₁ w₁ p ht₁ hd₁;refine hrest tm₁ S₁ E₁ _ a₁ w₁ h ht₁ (hg.next (p.agreeA hA₁) fun n hn=>.inl hn) (by rw[p.even,hev]) p.holds ?_ (hQ.trans p hd₁ hle');rintro n (hn|hn) hx'
    ·exact hA n hn (by omega)
    ·omega
   ·rename_i hne;refine IS x tm S e tm' S' h hx ro hro E A a w _ ht hg hev H hA ?_;intro E₁ a₁ w₁ p ht₁ hd₁;have hq:=hQ E₁ a₁ w₁ p ht₁ hd₁;cases e with
    |normal=>exact absurd h (by intro h;exact hne _ _ h)
    | _=>exact hq
  refine⟨?_,?_⟩
  ·intro c tm S e tm' S' h hok ro hro E A a w Q ht hg hev H hA hQ;cases c with
   |skip =>
    simp only[evC,ya,yc]at h;obtain⟨rfl,rfl,rfl⟩:=h;exact wpIn_skip (hQ E a w (bB.refl H) ⟨ht.tmps,fun x hx=>oC (ht.sc x hx)⟩ (KH.of_eq rfl))
   |label l =>
    simp only[evC,ya,yc]at h;obtain⟨rfl,rfl,rfl⟩:=h;exact wpIn_label (hQ E a w (bB.refl H) ⟨ht.tmps,fun x hx=>oC (ht.sc x hx)⟩ (KH.of_eq rfl))
   |exit id =>
    simp only[evC,ya,yc]at h;obtain⟨rfl,rfl,rfl⟩:=h;exact wpIn_exit (hQ E a w (bB.refl H) ⟨ht.tmps,fun x hx=>oC (ht.sc x hx)⟩ (KH.of_eq rfl))
   |ret =>
    simp only[evC,ya,yc]at h;obtain⟨rfl,rfl,rfl⟩:=h;exact wpIn_ret (hQ E a w (bB.refl H) ⟨ht.tmps,fun x hx=>oC (ht.sc x hx)⟩ (KH.of_eq rfl))
   |region rid ops d =>
    simp only[dV,yd,yu,yyb]at hok;cases d with
    |false =>
     simp only[evC]at h;split at h
     ·rename_i h';simp only[ya,yc]at h;obtain⟨rfl,rfl,rfl⟩:=h;refine wpIn_region_list (wL hcf hnm h' (fun o ho x hx => ?_) ht hg hev H hA hQ);obtain⟨i,hi⟩:=List.mem_iff_getElem?.1 ho;exact zR hok.1 i o x hi hx
     ·simp at h
    |true =>
     simp only[evC]at h;split at h
     ·rename_i h';simp only[ya,yc]at h;obtain⟨rfl,rfl,rfl⟩:=h;exact GY hm hcf hnm hok.1 (hok.2.resolve_left (by simp)) h' ht hg hev H hA fun E' a' w' p ht' hd'=>hQ E' a' w' p ht' (KH.of_eq hd')
     ·simp at h
   |seq x y =>
    simp only[dV,yd]at hok;simp only[evC]at h;simp only[FZ,yd]at hro;refine wpIn_seq (two ro x (y.wpIn (rd ro) 0 P Q) tm S e tm' S' E A a w Q (fun tm₁ S₁=>evC callF P f y tm₁ S₁) hok.1 (fun hr=>(hro hr).1) h (fun _ _ h=>eN h) ?_ ht hg hev H hA hQ);intro tm₁ S₁ E₁ A₁ a₁ w₁ h1 ht₁ hg₁ hev₁ H₁ hA₁ hQ₁;exact IS y tm₁ S₁ e tm' S' h1 hok.2 ro (fun hr=>(hro hr).2) E₁ A₁ a₁ w₁ Q ht₁ hg₁ hev₁ H₁ hA₁ hQ₁
   |cond x y z =>
    simp only[dV,yd]at hok;simp only[evC]at h;simp only[FZ,yd]at hro;have hx:=(AZ ht hg hok.1).1;split at h
    ·rename_i hv;rw[hv,gX]at hx;exact wpIn_cond_true hx (IS y tm S e tm' S' h hok.2.1 ro (fun hr=>(hro hr).1) E A a w Q ht hg hev H hA hQ)
    ·rename_i hv;rw[hv,gX]at hx;exact wpIn_cond_false hx (IS z tm S e tm' S' h hok.2.2 ro (fun hr=>(hro hr).2) E A a w Q ht hg hev H hA hQ)
    ·simp at h
   |block id b =>
    simp only[dV]at hok;simp only[evC]at h;split at h
    ·rename_i j tm₁ S₁ h1;split at h
     ·rename_i hj;simp only[ya,yc]at h;obtain⟨rfl,rfl,rfl⟩:=h;refine wpIn_block (IS b tm S _ _ _ h1 hok ro hro E A a w _ ht hg hev H hA ?_);intro E₁ a₁ w₁ p ht₁ hd₁;simp only[Exit.inBlock];rw[if_pos (yf hj)];exact hQ E₁ a₁ w₁ p ht₁ hd₁
     ·rename_i hj;simp only[ya,yc]at h;obtain⟨rfl,rfl,rfl⟩:=h;refine wpIn_block (IS b tm S _ _ _ h1 hok ro hro E A a w _ ht hg hev H hA ?_);intro E₁ a₁ w₁ p ht₁ hd₁;simp only[Exit.inBlock];rw[if_neg (fun e=>hj (by rw[e];simp))];exact hQ E₁ a₁ w₁ p ht₁ hd₁
    ·rename_i hne;refine wpIn_block (IS b tm S _ _ _ h hok ro hro E A a w _ ht hg hev H hA ?_);intro E₁ a₁ w₁ p ht₁ hd₁;have hq:=hQ E₁ a₁ w₁ p ht₁ hd₁;cases e with
     |exit j=>exact absurd h (by intro h;exact hne _ _ _ h)
     | _=>exact hq
   |loop b =>
    simp only[dV]at hok;have h0:=h;simp only[evC]at h;refine wpIn_loop_rounds (f+1) ?_;rw[roundsIn_succ];refine two ro b (Code.roundsIn (rd ro) 0 P b Q f) tm S e tm' S' E A a w Q (fun tm₁ S₁=>evC callF P f (.loop b) tm₁ S₁) hok hro h (fun _ _ h=>eN h) ?_ ht hg hev H hA hQ;intro tm₁ S₁ E₁ A₁ a₁ w₁ h1 ht₁ hg₁ hev₁ H₁ hA₁ hQ₁;exact IR b tm₁ S₁ e tm' S' h1 hok ro hro E₁ A₁ a₁ w₁ Q ht₁ hg₁ hev₁ H₁ hA₁ hQ₁
   |scope b =>
    simp only[dV]at hok;simp only[FZ]at hro;simp only[evC]at h;refine yC (IS b tm S e tm' S' h hok ro hro E A a w _ ht hg hev H hA ?_);intro E₁ a₁ w₁ p ht₁ hd₁;have hq:=hQ E₁ a₁ w₁ p ht₁ hd₁;cases e with
    |goto l=>exact absurd h (jA)
    | _=>exact hq
   |rangeFunc g ps a9 b =>
    cases ro with
    |some l=>have:=hro rfl;cases this
    |none =>
     exact KL hcf hnm h hok ht hg hev H hA hQ
   | _=>simp[evC]at h
  ·intro b tm S e tm' S' h hok ro hro E A a w Q ht hg hev H hA hQ;simp only[evC]at h;rw[roundsIn_succ];refine two ro b (Code.roundsIn (rd ro) 0 P b Q f) tm S e tm' S' E A a w Q (fun tm₁ S₁=>evC callF P f (.loop b) tm₁ S₁) hok hro h (fun _ _ h=>eN h) ?_ ht hg hev H hA hQ;intro tm₁ S₁ E₁ A₁ a₁ w₁ h1 ht₁ hg₁ hev₁ H₁ hA₁ hQ₁;exact IR b tm₁ S₁ e tm' S' h1 hok ro hro E₁ A₁ a₁ w₁ Q ht₁ hg₁ hev₁ H₁ hA₁ hQ₁
end
section
variable{P:Program}
theorem RA(x:Addr):asAddr (.pointer (some x))=pure x:=rfl
theorem qZ{E:cA}{A:Nat->Prop}{h:List (Nat×Obj)}{w:World}{tm:List Value}{a:Act}(H:aW P E A h w)(ht:Tm E A tm a):∀{rs:List ResultVar}{vs:List Value},j3 P h tm rs=some vs ->
  (rs.mapM (m:=Sem) fun | .tmp t=>pure (a.tmps.getD t undef) | .cell ad t=>do loadVar t (<-asAddr (a.tmps.getD ad undef))).run P w=.ok (vs.map (aN E)) w/\(∀v∈vs,Sc A v)
 | [],vs,hb=>by
  simp only[j3,ya]at hb;subst hb;simp
 | .tmp t::r,vs,hb=>by
  simp only[j3]at hb;split at hb
  ·rename_i l hl;simp only[ya]at hb;subst hb;obtain⟨h1,h2⟩:=qZ H ht hl;have hv:a.tmps.getD t undef=aN E (xM tm t)/\Sc A (xM tm t):=by
    simp only[AY,ht.tmps];cases hx:tm[t]? with
    |none=>simp[hx,kJ,oW]
    |some v=>simp[hx];exact ht.sc v (yyd hx)
   refine⟨?_,?_⟩
   ·simp only[List.mapM_cons,Sem.run_bind,Sem.run_pure,Result.andThen_ok,h1,hv.1,yyn]
   ·intro v hv';rcases yk.1 hv' with rfl|hv'
    ·exact hv.2
    ·exact h2 v hv'
  ·simp at hb
 | .cell ad t::r,vs,hb=>by
  simp only[j3]at hb;split at hb
  ·rename_i v l hv hl;simp only[ya]at hb;subst hb;obtain⟨h1,h2⟩:=qZ H ht hl;have hav:a.tmps.getD ad undef=aN E (xM tm ad):=by
    simp only[AY,ht.tmps];cases hx:tm[ad]? with
    |none=>simp[hx,kJ]
    |some v=>simp[hx]
   obtain⟨l1,l2⟩:=DD H hv;obtain⟨p,hp⟩:∃p,xM tm ad=.pointer (some p):=by
    unfold PU at hv;split at hv
    ·rename_i e;exact⟨_,e⟩
    ·simp at hv
   rw[hp,cT]at l1;simp only[Instr.loadAt,Instr.sureAddr,Sem.run_bind,Sem.run_pure,Result.andThen_ok]at l1;refine⟨?_,?_⟩
   ·simp only[List.mapM_cons,Sem.run_bind,Sem.run_pure,Result.andThen_ok,hav,hp,cT,RA,l1,h1,yyn]
   ·intro v' hv';rcases yk.1 hv' with rfl|hv'
    ·exact l2
    ·exact h2 v' hv'
  ·simp at hb
def jV(vs:List Value):Value :=
 match vs with
 | [v]=>v
 |vs=>.tuple vs.toArray
theorem yR{E:cA}{A:Nat->Prop}{h:List (Nat×Obj)}{w:World}{tm:List Value}{a:Act}{fn:Func}{vs:List Value}(H:aW P E A h w)(ht:Tm E A tm a)(hb:j3 P h tm fn.results.toList=some vs) :
  (results fn a.tmps).run P w=.ok (aN E (jV vs)) w/\Sc A (jV vs):=by
 obtain⟨h1,h2⟩:=qZ H ht hb;constructor
 ·unfold results;rw[Array.mapM_eq_mapM_toList];simp only[Sem.run_bind,Sem.run_map];generalize hR:Sem.run P (List.mapM _ fn.results.toList) w=R;have hR':R=.ok (vs.map (aN E)) w:=hR.symm.trans h1;subst hR';simp only[Result.andThen_ok,Sem.run_pure];rcases vs with _ |⟨v,_ |⟨u,r⟩⟩
  ·simp[jV,aN]
  ·simp[jV]
  ·simp[jV,aN]
 ·rcases vs with _ |⟨v,_ |⟨u,r⟩⟩
  ·simp[jV,Sc]
  ·exact h2 v (by simp)
  ·simp only[jV,Sc];intro x hx;exact h2 x (by simpa using hx)
theorem BC{fs:Nat}:∀{n:Nat},mB P n fs=true->∀f,f<n->Nat.testBit fs f=true->∀(fn:Func)(c:Code),P.funcs[f]?=some fn->fn.body=some c->dV P c=true
 |0,_,_,h,_,_,_,_,_=>by omega
 |n+1,h,f,hf,hb,fn,c,hfn,hc=>by
  simp only[mB,yd,yu,yyb]at h;by_cases hfn':f=n
  ·subst hfn';rcases h.1 with h1|h1
   ·rw[hb]at h1;cases h1
   ·rw[hfn]at h1;simp only[hc]at h1;exact h1
  ·exact BC h.2 f (by omega) hb fn c hfn hc
theorem uB{fn:Func}{tmps:Array Value}{R:Ending->World->Prop}{E E':cA}{A:Nat->Prop}{h h':List (Nat×Obj)}{nx nx':Nat}{w:World}(hfin:∀w'',bB P E A h nx w E' h' nx' w''->∃v,(results fn tmps).run P w''=.ok v w''/\R (.returned v) w'') :
  ∀(Ds:List Nat)(w':World),bB P E A h nx w E' h' nx' w'->(∀D∈Ds,w.heap.size<=D/\w'.heap[D]?=some (.deferred (some [])))->Ds.Nodup->LeavesInM (rd none) 0 P fn tmps R (Ds.map NA) .returning w'
 | [],w',p,_,_=>hfin w' p
 |D::Ds,w',p,hD,hnd=>by
  obtain⟨h1,h2⟩:=hD D (by simp);rw[List.nodup_cons]at hnd;refine⟨by simp,.inl ⟨D,_,rfl,run_takeDeferred h2,uB hfin Ds _ (p.turn h1 (p.holds.noDeferred h2)) ?_ hnd.2⟩⟩;intro D' hD';obtain⟨k1,k2⟩:=hD D' (by simp[hD']);refine⟨k1,?_⟩;rw[World.putObj_heap_other (by rintro rfl;exact hnd.1 hD')];exact k2
theorem bB.loop{E:cA}{A:Nat->Prop}{h:List (Nat×Obj)}{nx:Nat}{w:World}{l:Nat}{r r':Loop}(H:aW P E A h w)(hr:aQ h l=some (.loop r))(ht:r'.tmps=r.tmps)(hA:∀n,A n->¬(nx<=n/\n<nx))(f:FuncId)(d:Nat) :
  bB P E A h nx w E (u9 h l (.loop r')) nx (w.putObj (E.β l) (.loop { r' with fn:=f,defers:=d,tmps:=r'.tmps.map (aN E) })):=by
 obtain⟨h1,h2,_⟩:=H.blk l _ hr;have hlt:=H.lt hr;refine bB.put (m:=l) (b:=E.β l) (o':=.loop r') H (yh _) rfl (fun _ _=>⟨rfl,rfl,rfl⟩) (fun _ _=>rfl) hA (.inl h1) rfl ?_ ?_ ⟨f,d,rfl⟩ (World.putObj_heap_same hlt) (fun k hk _=>World.putObj_heap_other hk) (by simp[World.putObj]) rfl rfl rfl (.inl ⟨l,_,hr,rfl⟩)
 ·intro k x hk;rcases tF _ _ _ _ _ hk with⟨rfl,rfl⟩ |⟨hne,hg⟩
  ·exact .inl ⟨rfl,rfl⟩
  ·exact .inr ⟨hne,hg,fun e=>hne (H.inj k l _ _ hg hr e)⟩
 ·intro x hx;rw[ht]at hx;exact iH (A:=A) (fun n hn=>Or.inl hn) x (h2 x hx)
theorem BD(E:cA):∀(ps:List Tmp)(args tm:List Value),ps.length=args.length ->
  (ps.zip (args.map (aN E))).foldl (fun(t:Array Value)(x:Tmp×Value)=>t.setIfInBounds x.1 x.2) (tm.map (aN E)).toArray=((pP ps args tm).map (aN E)).toArray
 | [],[],tm,_=>rfl
 | [],_::_,_,h=>by simp at h
 | _::_,[],_,h=>by simp at h
 |p::ps,x::xs,tm,h=>by
  simp only[yyn,List.zip_cons_cons,List.foldl_cons,pP];rw[<-BD E ps xs (kX tm p x) (by simpa using h)];rw[qY];simp
theorem LM{A:Nat->Prop}:∀(ps:List Tmp)(args tm:List Value),(∀x∈args,Sc A x)->(∀x∈tm,Sc A x)->∀x∈pP ps args tm,Sc A x
 | [],args,tm,_,h=>by simpa [pP]using h
 | _::_,[],tm,_,h=>by simpa [pP]using h
 |p::ps,x::xs,tm,ha,h=>by
  simp only[pP];exact LM ps xs _ (fun y hy=>ha y (by simp[hy])) (fun y hy=>(zQ hy).elim (fun e=>by rw[e];exact ha x (by simp)) (h y))
theorem KM{callF:Fn->List Value->St->Option (Value×St)}(hm:P.follows .mixedOrders=true)(hcf:iN P callF)(hnm:fD P){fuel l:Nat}{args:List Value}{S S':St}{v:Value}(h:MU callF P fuel l args S=some (v,S'))
  {E:cA} {A:Nat->Prop} {w:World} (hg:vD P E A) (hev:S.next % 2=0) (hargs:∀x∈args,Sc A x) (H:aW P E A S.heap w) (hA:∀n,A n->¬(S.next<=n/\n<S'.next)) :
  YieldAt Fence.wide 0 P (E.β l) (args.map (aN E)).toArray w fun e w'=>∃E',e=.returned (aN E' v)/\bB P E A S.heap S.next w E' S'.heap S'.next w'/\Sc (fun n=>A n\/(S.next<=n/\n<S'.next)) v:=by
 unfold MU at h;split at h;case h_2=>simp at h
 rename_i r hr;split at h;case isFalse=>simp at h
 rename_i hc;simp only[yd]at hc;obtain⟨⟨⟨c1,c2⟩,c3,c4⟩,c5,c6⟩:=hc;have c2:=yf c2;split at h;case h_2=>simp at h
 rename_i tm1 S1 hs1;split at h;case h_2=>simp at h
 rename_i r1 hr1;split at h;case isFalse=>simp at h
 rename_i hready;split at h;case h_2=>simp at h
 rename_i e tm3 S3 hs3;split at h;case h_2=>simp at h
 rename_i r3 j hr3 hj;simp only[ya,yc]at h;obtain⟨rfl,rfl⟩:=h;simp only at hA⊢;have m1:=eN hs1;have m3:=eN hs3;simp only at m3;obtain⟨hAl,hscr,oc,hoc,f',d',rfl⟩:=H.blk l _ hr;have IS:=(oL hm hcf hnm fuel).1;refine⟨f',_,r.assign,r.body,run_yield hoc (by simp[c2]),?_⟩;have htm:((r.params.zip (args.map (aN E)).toArray).foldl (fun(t:Array Value)(x:Tmp×Value)=>t.setIfInBounds x.1 x.2) (r.tmps.map (aN E)))=((pP r.params.toList args r.tmps.toList).map (aN E)).toArray:=by
  rw[<-BD E _ _ _ (by simpa using c2.symm),<-Array.foldl_toList]
  congr 1
  ·apply yl;simp
  ·simp
 have hgoal : RoundIn Fence.wide 0 P (E.β l) f' ((pP r.params.toList args r.tmps.toList).map (aN E)).toArray r.assign r.body w fun e w' => ∃ E', e = .returned (aN E' (.bool j.isNone)) /\
   bB P E A S.heap S.next w E' (u9 S3.heap l (.loop { r3 with state:=if j.isNone then .ready else .done,pending:=j })) S3.next w'/\Sc (fun n=>A n\/(S.next<=n/\n<S3.next)) (.bool j.isNone):=by
  refine roundIn_of_wpIn trivial ?_;have ht0:Tm E A (pP r.params.toList args r.tmps.toList) { tmps:=((pP r.params.toList args r.tmps.toList).map (aN E)).toArray,defers:=[] } :=
   ⟨rfl,LM _ _ _ hargs fun x hx=>hscr x (by simpa using hx)⟩
  have hA1:∀n,A n->¬(S.next<=n/\n<S1.next):=fun n hn hx=>hA n hn (by omega);refine IS r.assign _ S .normal tm1 S1 hs1 c5 (some (E.β l)) (fun _=>c3) E A _ w _ ht0 hg hev H hA1 ?_;intro E1 a1 w1 p1 ht1 hd1;obtain⟨hAl1,_,oc1,hoc1,f1,d1,rfl⟩:=p1.holds.blk l _ hr1;have hb1:E1.β l=E.β l:=(p1.agree l (hA1 l hAl)).1;rw[hb1]at hoc1;have hst:r1.state=.ready:=by
   unfold MS at hready;split at hready
   ·assumption
   ·cases hready
  refine⟨_,run_beginRound hoc1 hst,?_⟩;have hAA:∀n,(A n\/(S.next<=n/\n<S1.next))->¬(S1.next<=n/\n<S1.next):=fun n _ hx=>by omega
  have pb:=bB.loop (nx:=S1.next) (r':={ r1 with state:=.busy }) p1.holds hr1 rfl hAA f1 d1;rw[hb1]at pb;have p12:=p1.trans pb;have hA3:∀n,(A n\/(S.next<=n/\n<S1.next))->¬(S1.next<=n/\n<S3.next):=by
   rintro n (hn|hn) hx
   ·exact hA n hn (by omega)
   ·omega
  refine IS r.body tm1 ⟨u9 S1.heap l (.loop { r1 with state:=.busy }),S1.next⟩ e tm3 S3 hs3 c6 (some (E.β l)) (fun _=>c4) E1 _ a1 _ _ ht1 (hg.next (p1.agreeA hA1) fun n hn=>.inl hn) (by rw[<-hev];exact p1.even) p12.holds hA3 ?_;intro E3 a3 w3 p3 ht3 hd3;have p123:=p12.trans p3;obtain⟨_,_,oc3,hoc3,f3,d3,rfl⟩:=p123.holds.blk l _ hr3;have hb3:E3.β l=E.β l:=(p123.agree l (hA l hAl)).1;have hBB:∀n,(A n\/(S.next<=n/\n<S3.next))->¬(S3.next<=n/\n<S3.next):=fun n _ hx=>by omega
  have pe:=bB.loop (nx:=S3.next) (r':={ r3 with state:=if j.isNone then .ready else .done,pending:=j }) p123.holds hr3 rfl hBB f3 d3;have pF:=p123.trans pe;rw[hb3]at hoc3 pF
  have hres : ∀ jj, jj = j -> ∃ v w', (Instr.endRound (E.β l) jj).run P w3 = .ok v w' /\ ∃ E', Ending.returned v = .returned (aN E' (.bool j.isNone)) /\
    bB P E A S.heap S.next w E' (u9 S3.heap l (.loop { r3 with state:=if j.isNone then .ready else .done,pending:=j })) S3.next w'/\Sc (fun n=>A n\/(S.next<=n/\n<S3.next)) (.bool j.isNone):=by
   rintro jj rfl;exact⟨_,_,run_endRound jj hoc3,E3,by rw[gX],pF,rT _ _⟩
  cases e with
  |normal=>exact hres none (by simpa [F0]using hj)
  |ret=>exact hres (some .ret) (by simpa [F0]using hj)
  |exit id=>exact hres (some (.exit id)) (by simpa [F0]using hj)
  | _=>simp[F0]at hj
 rw[<-htm]at hgoal;exact hgoal
def G0(P:Program)(orc:FuncId->List Value->St->Option (Value×St)):Prop :=
 ∀f args S v S',orc f args S=some (v,S')->∀(E:cA)(A:Nat->Prop)(w:World),vD P E A->S.next % 2=0->(∀x∈args,Sc A x)->aW P E A S.heap w ->
  (∀n,A n->¬(S.next<=n/\n<S'.next)) ->
  Calls P f (args.map (aN E)).toArray w fun e w'=>∃E',e=.returned (aN E' v)/\bB P E A S.heap S.next w E' S'.heap S'.next w'/\Sc (fun n=>A n\/(S.next<=n/\n<S'.next)) v
theorem p8(hm:P.follows .mixedOrders=true)(hnm:fD P){orc:FuncId->List Value->St->Option (Value×St)}(horc:G0 P orc){fs:Nat}(hok:mB P P.funcs.size fs=true)(fuel:Nat):∀d,iN P (j5 orc P fs fuel d)
 |0=>fun _ _ _ _ _ h=>by simp[j5]at h
 |d+1=>by
  intro F args S v S' h E A w hg hev hargs H hA;have ih:=p8 hm hnm horc hok fuel d;cases F with
  |method m=>simp[j5]at h
  |methodOf t m=>simp[j5]at h
  |via t p f b=>simp[j5]at h
  |yield l =>
   simp only[j5]at h;exact KM hm ih hnm h hg hev hargs H hA
  |func f =>
  simp only[aBS];simp only[j5]at h;split at h
  ·rename_i hfs;split at h
   ·simp at h
   ·rename_i fn hfn;split at h
    ·simp at h
    ·rename_i c hc;have hokc:dV P c=true:=BC hok f (yz.1 hfn).1 hfs fn c hfn hc;refine(callsIn_wide (n:=0)).1 (callsIn_of_wp_marks hfn hc trivial ?_);have ht:Tm E A (args++List.replicate (fn.ntmps-args.length) undef) { tmps:=(args.map (aN E)).toArray++Array.replicate (fn.ntmps-(args.map (aN E)).toArray.size) undef,defers:=[] }:=by
      refine⟨?_,?_⟩
      ·simp[kJ]
      ·intro x hx;rcases yy.1 hx with hx|hx
       ·exact hargs x hx
       ·rw[(List.mem_replicate.1 hx).2];exact oW _
     have key : ∀ (e : Exit) (tm : List Value) (S₁ : St), evC (j5 orc P fs fuel d) P fuel c (args ++ List.replicate (fn.ntmps - args.length) undef) S = some (e, tm, S₁) -> (e = .normal \/ e = .ret) ->
       (match j3 P S₁.heap tm fn.results.toList with
        |some vs=>if(plain (jV vs) && AK args)=true then some (jV vs,(⟨tU S.next S₁.heap,S₁.next⟩:St))else some (jV vs,S₁)
        |none=>none)=some (v,S') ->
       c.wpIn (rd none) 0 P (bodyPostM (rd none) 0 P fn fun e w'=>∃E',e=.returned (aN E' v)/\bB P E A S.heap S.next w E' S'.heap S'.next w'/\Sc (fun n=>A n\/(S.next<=n/\n<S'.next)) v) { tmps:=(args.map (aN E)).toArray++Array.replicate (fn.ntmps-(args.map (aN E)).toArray.size) undef,defers:=[] } w:=by
      intro e tm S₁ h1 he h2;split at h2
      ·rename_i vs hvs;have hS':S'.next=S₁.next/\v=jV vs/\(∀n o,aQ S'.heap n=some o->aQ S₁.heap n=some o):=by
        split at h2
        ·simp only[ya,yc]at h2;obtain⟨rfl,rfl⟩:=h2;exact⟨rfl,rfl,fun n o hn=>(MW _ _ _ _ hn).1⟩
        ·simp only[ya,yc]at h2;obtain⟨rfl,rfl⟩:=h2;exact⟨rfl,rfl,fun _ _ hn=>hn⟩
       obtain⟨e1,rfl,e3⟩:=hS';refine(oL hm ih hnm fuel).1 c _ S e tm S₁ h1 hokc none (fun hx=>by cases hx) E A _ w _ ht hg hev H (by rw[<-e1];exact hA) ?_;intro E' a' w' p ht' hd;obtain⟨Ds,hd1,_,hd2,hd3⟩:=hd;simp only[List.append_nil]at hd1;have this:LeavesInM (rd none) 0 P fn a'.tmps (fun e w'=>∃E',e=.returned (aN E' (jV vs))/\bB P E A S.heap S.next w E' S'.heap S'.next w'/\Sc (fun n=>A n\/(S.next<=n/\n<S'.next)) (jV vs)) a'.defers .returning w':=by
        rw[hd1];refine uB (fun w'' p'' => ?_) Ds w' p hd2 hd3;obtain⟨r1,r2⟩:=yR (fn:=fn) p''.holds ht' hvs;refine⟨_,r1,E',rfl,?_,?_⟩
        ·rw[e1];exact p''.drop e3
        ·rw[e1];exact r2
       rcases he with rfl|rfl
       ·exact this
       ·exact this
      ·simp at h2
     split at h
     ·rename_i tm S₁ h1;exact key _ tm S₁ h1 (.inl rfl) h
     ·rename_i tm S₁ h1;exact key _ tm S₁ h1 (.inr rfl) h
     ·simp at h
  ·exact horc f args S v S' h E A w hg hev hargs H hA
end
open Go.RowKit
def NB:Obj->Obj->Bool
 | .cells c e fz,.cells c' e' fz'=>MP c.toList c'.toList && Nat.beq e e' && (Nat.beq fz.1 fz'.1 && Nat.beq fz.2 fz'.2)
 | _,_=>false
def BE(h':List (Nat×Obj)):List (Nat×Obj)->Bool
 | []=>true
 |(n,o)::r=>(match aQ h' n with|some o'=>NB o o'|none=>false) && BE h' r
def NC(size:Nat):List (Nat×Obj)->Bool
 | []=>true
 |(n,o)::r=>Nat.beq (n % 2) 0 && Nat.blt n (2*size) && (match o with | .cells c _ _=>eB c.toList | _=>false) && NC size r
theorem ND{o o':Obj}(h:NB o o'=true):o=o':=by
 unfold NB at h;split at h
 ·rename_i c e fz c' e' fz';simp only[yd]at h;obtain⟨⟨h1,h2⟩,h3,h4⟩:=h;have:=tH h1
  congr 1
  ·exact yl this
  ·exact yf h2
  ·exact Prod.ext (yf h3) (yf h4)
 ·simp at h
theorem yS{h':List (Nat×Obj)}:∀{h:List (Nat×Obj)},BE h' h=true->∀n o,aQ h n=some o->aQ h' n=some o
 | [],_,n,o,hg=>by simp[aQ]at hg
 |(m,x)::r,hs,n,o,hg=>by
  simp only[BE,yd]at hs;simp only[aQ]at hg;split at hg
  ·rename_i hm;obtain rfl:=yf hm;obtain rfl:=yg hg;have:=hs.1;split at this
   ·rename_i o' ho';rw[ho',ND this]
   ·cases this
  ·exact yS hs.2 n o hg
theorem pB{size:Nat}:∀{h:List (Nat×Obj)},NC size h=true->∀n o,aQ h n=some o->n % 2=0/\n<2*size/\∃c e fz,o=.cells c e fz/\eB c.toList=true
 | [],_,n,o,hg=>by simp[aQ]at hg
 |(m,x)::r,hs,n,o,hg=>by
  simp only[NC,yd]at hs;obtain⟨⟨⟨h1,h2⟩,h3⟩,h4⟩:=hs;simp only[aQ]at hg;split at hg
  ·rename_i hm;obtain rfl:=yf hm;obtain rfl:=yg hg;refine⟨yf h1,(xY _ _).1 h2,?_⟩;split at h3
   ·exact⟨_,_,_,rfl,h3⟩
   ·cases h3
  ·exact pB h4 n o hg
def nJ:cA:={ β:=fun n=>n / 2,σ:=fun _=>0,κ:=fun _=>0 }
theorem pR{x:Value}(h:iB x=true):plain x=true:=by
 cases x<;>first|exact h|simp[iB]at h
theorem T6{P:Program}{orc:FuncId->List Value->St->Option (Value×St)}(horc:G0 P orc){fs fuel d:Nat}{f:FuncId}{args:List Value}{h:List (Nat×Obj)}{nx:Nat}{v:Value}{S':St}(hm:P.follows .mixedOrders=true)(hnm:fD P)(hok:mB P P.funcs.size fs=true)
  (hrows:NC P.globals.size h=true) (hnx:nx % 2=0) (hnx2:2*P.globals.size<=nx) (hargs:∀x∈args,plain x=true) (hv:plain v=true) (hev:j5 orc P fs fuel d (.func f) args ⟨h,nx⟩=some (v,S')) (hsame:BE S'.heap h=true)
  {w:World} (hw:∀n o,aQ h n=some o->w.heap[n / 2]?=some o):Calls P f args.toArray w fun e w'=>e=.returned v/\Below w.heap.size w w':=by
 have hH:aW P nJ (fun n=>n<2*P.globals.size/\n % 2=0) h w:=by
  refine⟨fun n o hn => ?_,fun n m o o' hn hm' e => ?_⟩
  ·obtain⟨h1,h2,c,e,fz,rfl,h3⟩:=pB hrows n o hn;refine⟨⟨h2,h1⟩,fun x hx=>vU _ (pR (fC h3 x (by simpa using hx))),_,hw n _ hn,?_⟩;have hr:jZ n=false:=by unfold jZ;rw[h1];rfl
   simp only[cV,hr,ym,if_false];refine⟨rfl,?_⟩
   congr 1
   have:c.map (aN nJ)=c.map id:=yn fun x hx=>kK _ (pR (fC h3 x (by simpa using hx)));rw[this];simp
  ·obtain⟨h1,_⟩:=pB hrows n o hn;obtain⟨h2,_⟩:=pB hrows m o' hm';simp only[nJ]at e;omega
 have hg:vD P nJ (fun n=>n<2*P.globals.size/\n % 2=0):=by
  intro g hg;refine⟨?_,rfl,?_,?_⟩
  ·simp only[nJ];omega
  ·omega
  ·omega
 have:=p8 hm hnm horc hok fuel d (.func f) args ⟨h,nx⟩ v S' hev nJ _ w hg hnx (fun x hx=>vU _ (hargs x hx)) hH (fun n hn hx=>by have:=hx.1;simp only at this;omega);have he:args.map (aN nJ)=args:=by
  have:args.map (aN nJ)=args.map id:=yp fun x hx=>kK _ (hargs x hx);rw[this];simp
 rw[he]at this;refine this.mono ?_;rintro e w' ⟨E',rfl,p,_⟩;refine⟨by rw[kK _ hv],p.os,p.tape,p.output,p.size,fun b hb => ?_⟩;by_cases hex:∃n o,aQ h n=some o/\nJ.β n=b
 ·obtain⟨n,o,hn,e⟩:=hex;have hn':=yS hsame n o hn;obtain⟨h1,h2,c,t,fz,rfl,h3⟩:=pB hrows n o hn;obtain⟨_,_,oc,hc,hr⟩:=p.holds.blk n _ hn';have hrw:jZ n=false:=by unfold jZ;rw[h1];rfl
  simp only[cV,hrw,ym,if_false]at hr;obtain⟨_,rfl⟩:=hr;have hb':E'.β n=b:=by rw[<-e];exact(p.agree n (by simp only;omega)).1
  have hcc:c.map (aN E')=c:=by
   have:c.map (aN E')=c.map id:=yn fun x hx=>kK _ (pR (fC h3 x (by simpa using hx)));rw[this];simp
  rw[hb',hcc]at hc;have hwn:=hw n _ hn;have e':n / 2=b:=e;rw[e']at hwn;rw[hc,hwn]
 ·exact p.same b hb fun n o hn e=>hex ⟨n,o,hn,e⟩
def XF:FuncId->List Value->St->Option (Value×St):=fun _ _ _=>none
theorem G1{P:Program}:G0 P XF:=fun _ _ _ _ _ h=>by cases h
def RB(P:Program):Bool:=P.funcs.toList.all M4
theorem iD{P:Program}(h:RB P=true):fD P:=by
 intro g fn hg _;exact List.all_eq_true.1 h fn (by have:=yyh hg;simpa using this)
section
variable{P:Program}
end
section
variable{P:Program}{E:cA}{A:Nat->Prop}{w:World}
end
section
variable{P:Program}{callF:Fn->List Value->St->Option (Value×St)}
end
section
variable{P:Program}{callF:Fn->List Value->St->Option (Value×St)}
def rU(callF:Fn->List Value->St->Option (Value×St))(P:Program)(f:Nat):Nat->Code->List Value->St->Option (Code×List Value×St)
 |0,c,tm,S=>some (c,tm,S)
 |k+1,.seq a b,tm,S=>match evC callF P f a tm S with
  |some (.normal,tm',S')=>rU callF P f k b tm' S'
  | _=>none
 | _+1,_,_,_=>none
theorem GL{f:Nat}:∀{k:Nat}{c c':Code}{tm tm':List Value}{S S':St},rU callF P f k c tm S=some (c',tm',S')->S.next<=S'.next
 |0,_,_,_,_,_,_,h=>by
  simp only[rU,ya,yc]at h;rw[h.2.2];exact yh _
 |k+1,c,c',tm,tm',S,S',h=>by
  cases c with
  |seq a b =>
   simp only[rU]at h;split at h
   ·rename_i h1;exact yya (eN h1) (GL h)
   ·cases h
  | _=>simp[rU]at h
theorem DV(hm:P.follows .mixedOrders=true)(hcf:iN P callF)(hnm:fD P){f:Nat}{Q:Exit->Act->World->Prop}:∀{k:Nat}{c c':Code}{tm tm':List Value}{S S':St},rU callF P f k c tm S=some (c',tm',S')->dV P c=true ->
  ∀{E:cA}{A:Nat->Prop}{a:Act}{w:World},Tm E A tm a->vD P E A->S.next % 2=0->aW P E A S.heap w->(∀n,A n->n<S.next)->iP P none E A S w a tm' S' (c'.wpIn (rd none) 0 P Q)->c.wpIn (rd none) 0 P Q a w
 |0,c,c',tm,tm',S,S',h,hok,E,A,a,w,ht,hg,hev,H,hA,hQ=>by
  simp only[rU,ya,yc]at h;obtain⟨rfl,rfl,rfl⟩:=h;exact hQ E a w (bB.refl H) ⟨ht.tmps,fun x hx=>oC (ht.sc x hx)⟩ (KH.of_eq rfl)
 |k+1,c,c',tm,tm',S,S',h,hok,E,A,a,w,ht,hg,hev,H,hA,hQ=>by
  cases c with
  |seq x y =>
   simp only[dV,yd]at hok;simp only[rU]at h;split at h
   ·rename_i tm1 S1 h1;have hA':∀n,A n->¬(S.next<=n/\n<S1.next):=fun n hn hx=>by have:=hA n hn;omega
    have m2:=GL h;refine wpIn_seq ((oL hm hcf hnm f).1 x tm S .normal tm1 S1 h1 hok.1 none (fun hx=>by cases hx) E A a w _ ht hg hev H hA' ?_);intro E1 a1 w1 p ht1 hd1;refine DV hm hcf hnm h hok.2 ht1 (hg.next (p.agreeA hA') fun n hn=>.inl hn) (by rw[p.even,hev]) p.holds ?_ (hQ.trans p hd1 m2);have:=p.le;rintro n (hn|hn)
    ·have:=hA n hn;omega
    ·omega
   ·cases h
  | _=>simp[rU]at h
theorem QS{C:Type}{g:FuncId}{fn:Func}{c:Code}{args:List Value}{S:St}{E:cA}{A:Nat->Prop}{w:World}{tmR:C->List Value}{SR:C->St}{vs:C->List Value}
  (hfn:P.funcs[g]?=some fn) (hc:fn.body=some c) (hargs:∀x∈args,Sc A x) (hvs:∀k,j3 P (SR k).heap (tmR k) fn.results.toList=some (vs k))
  (hbody:∀(a:Act),Tm E A (args++List.replicate (fn.ntmps-args.length) undef) a->a.defers=[]->∀Q:Exit->Act->World->Prop,(∀k,iP P none E A S w a (tmR k) (SR k) (fun a' w'=>Q .normal a' w'/\Q .ret a' w'))->c.wpIn (rd none) 0 P Q a w) :
  Calls P g (args.map (aN E)).toArray w fun e w'=>∃k E',e=.returned (aN E' (jV (vs k)))/\bB P E A S.heap S.next w E' (SR k).heap (SR k).next w'/\Sc (fun n=>A n\/(S.next<=n/\n<(SR k).next)) (jV (vs k)):=by
 refine(callsIn_wide (n:=0)).1 (callsIn_of_wp_marks hfn hc trivial ?_);have ht:Tm E A (args++List.replicate (fn.ntmps-args.length) undef) { tmps:=(args.map (aN E)).toArray++Array.replicate (fn.ntmps-(args.map (aN E)).toArray.size) undef,defers:=[] }:=by
  refine⟨by simp[kJ],?_⟩;intro x hx;rcases yy.1 hx with hx|hx
  ·exact hargs x hx
  ·rw[(List.mem_replicate.1 hx).2];exact oW _
 refine hbody _ ht rfl _ fun k => ?_;intro E' a' w' p ht' hd;obtain⟨Ds,hd1,_,hd2,hd3⟩:=hd;simp only[List.append_nil]at hd1;have this:LeavesInM (rd none) 0 P fn a'.tmps (fun e w'=>∃k E',e=.returned (aN E' (jV (vs k)))/\bB P E A S.heap S.next w E' (SR k).heap (SR k).next w'/\Sc (fun n=>A n\/(S.next<=n/\n<(SR k).next)) (jV (vs k))) a'.defers .returning w':=by
  rw[hd1];refine uB (fun w'' p'' => ?_) Ds w' p hd2 hd3;obtain⟨r1,r2⟩:=yR (fn:=fn) p''.holds ht' (hvs k);exact⟨_,r1,k,E',rfl,p'',r2⟩
 exact⟨this,this⟩
end
section
variable{P:Program}{callF:Fn->List Value->St->Option (Value×St)}
theorem xX(hcf:iN P callF)(hnm:fD P){opsA:Array Oper}{Q:Exit->Act->World->Prop}{l2:List Oper}:∀{l:List Oper}{tm tm':List Value}{S S':St}{E:cA}{A:Nat->Prop}{a:Act}{w:World},
  qQ callF P opsA.toList l tm S=some (tm',S')->(∀o∈l,∀x∈o.op.operands,tC P x=true)->Tm E A tm a->vD P E A->S.next % 2=0->aW P E A S.heap w->(∀n,A n->n<S.next) ->
  iP P none E A S w a tm' S' (wpListIn (rd none) 0 P opsA Q l2)->wpListIn (rd none) 0 P opsA Q (l++l2) a w
 | [],tm,tm',S,S',E,A,a,w,h,hops,ht,hg,hev,H,hA,hQ=>by
  simp only[qQ,ya,yc]at h;obtain⟨rfl,rfl⟩:=h;exact hQ E a w (bB.refl H) ⟨ht.tmps,fun x hx=>oC (ht.sc x hx)⟩ (KH.of_eq rfl)
 |o::r,tm,tm',S,S',E,A,a,w,h,hops,ht,hg,hev,H,hA,hQ=>by
  simp only[qQ]at h;rw[List.cons_append];refine wpListIn_step fun K hK => ?_;rw[CR ht];split at h
  ·rename_i hgd;rw[if_pos hgd];split at h
   ·rename_i v S₁ hs;simp only[yb]at h;have hle:=ye h.1;have hle':=mP h.2;have hA₁:∀n,A n->¬(S.next<=n/\n<S₁.next):=fun n hn hx=>by have:=hA n hn;omega
    refine wJ hcf hnm ht hg hev H (hops o (by simp)) hA₁ hs (sS hs) none K Q ?_;intro E₁ w₁ p hsc;refine hK _ _ (xX hcf hnm h.2 (fun o' ho'=>hops o' (by simp[ho'])) (ht.put (p.agreeA hA₁) (fun n hn=>.inl hn) hsc) (hg.next (p.agreeA hA₁) fun n hn=>.inl hn) (by rw[p.even,hev]) p.holds ?_ (hQ.trans p ?_ hle'))
    ·rintro n (hn|hn)
     ·have:=hA n hn;omega
     ·omega
    ·exact KH.of_eq (by unfold Act.put;split<;>rfl)
   ·simp at h
  ·rename_i hgd;rw[if_neg hgd];have hp:Tm E A (rJ tm o.dst undef) (a.put o.dst undef):=by
    have:=ht.put (E':=E) (B:=A) (dst:=o.dst) (v:=undef) (fun n _=>⟨rfl,rfl,rfl⟩) (fun n hn=>hn) (oW _);rwa[kJ]at this
   refine⟨fun _ _=>trivial,hK _ _ (xX hcf hnm h (fun o' ho'=>hops o' (by simp[ho'])) hp hg hev H hA ?_)⟩;intro E' a' w' p ht' hd';refine hQ E' a' w' p ht' ?_;have he:(a.put o.dst undef).defers=a.defers:=by unfold Act.put;split<;>rfl
   obtain⟨Ds,e1,e2⟩:=hd';exact⟨Ds,by rw[e1,he],e2⟩
theorem YU(hnm:fD P){C:Type}{o:Oper}{c:Call}{g:FuncId}(ho:o.op=.call c)(hc:c.callee=.value (.func g))(hb:xQ P g=true)(hok:∀x∈c.args,tC P x=true){E:cA}{A:Nat->Prop}{tm:List Value}{a:Act}{w:World}{S:St}(ht:Tm E A tm a)(hg:vD P E A)
  {v:C->Value} {SR:C->St} (hcalls:Calls P g ((c.args.toList.map (aE tm)).map (aN E)).toArray w fun e w'=>∃(k:C)(E':cA),e=.returned (aN E' (v k))/\bB P E A S.heap S.next w E' (SR k).heap (SR k).next w'/\Sc (fun n=>A n\/(S.next<=n/\n<(SR k).next)) (v k))
  {ro:Option Nat} {K:Act->World->Prop} {Q:Exit->Act->World->Prop} (hK:∀(k:C)(E':cA)(w':World),bB P E A S.heap S.next w E' (SR k).heap (SR k).next w'->Sc (fun n=>A n\/(S.next<=n/\n<(SR k).next)) (v k)->K (a.put o.dst (aN E' (v k))) w'):o.wpIn (rd ro) 0 P a w K Q:=by
 obtain⟨fn,hfn,hbody⟩:∃fn,P.funcs[g]?=some fn/\fn.body.isSome=true:=by
  unfold xQ at hb;split at hb
  ·rename_i fn hfn;exact⟨fn,hfn,hb⟩
  ·cases hb
 have hf:a.eval (.func g)=.func (.func g) #[] #[]:=rfl;have hres:resolve a.eval c o.type=pure { target:=.fn (.func g) #[],args:=#[]++((c.args.toList.map (aE tm)).map (aN E)).toArray } :=
  yL hc hf fun x hx=>(AZ ht hg (hok x hx)).1
 have hex:execOp a.eval o=callFunc g ((c.args.toList.map (aE tm)).map (aN E)).toArray:=by
  simp only[execOp,ho,hres];simp[invoke]
 refine qV (by rw[ho];simp) ?_;rw[hex,jU hfn hbody (hnm g fn hfn hbody)];refine⟨AX ro,(GE hcalls).mono ?_⟩;rintro e w' ⟨k,E',rfl,h1,h2⟩;exact hK k E' w' h1 h2
theorem YV(hcf:iN P callF)(hnm:fD P){C:Type}{i:Nat}{opsA:Array Oper}{l1 l2:List Oper}{o:Oper}{c:Call}{g:FuncId}(hl:opsA.toList=l1++o::l2)(hokl:∀o∈opsA.toList,∀x∈o.op.operands,tC P x=true)(ho:o.op=.call c)(hog:o.guard=none)(hc:c.callee=.value (.func g))(hb:xQ P g=true)
  {tm tm1:List Value} {S S1:St} (h1:qQ callF P opsA.toList l1 tm S=some (tm1,S1)) {v:C->Value} {SR:C->St} {tmR:C->List Value} {SE:C->St} (h2:∀k,qQ callF P opsA.toList l2 (rJ tm1 o.dst (v k)) (SR k)=some (tmR k,SE k))
  (hcalls:∀(E:cA)(A:Nat->Prop)(w:World),vD P E A->S1.next % 2=0->(∀x∈c.args.toList.map (aE tm1),Sc A x)->aW P E A S1.heap w->(∀n,A n->n<S1.next)->Calls P g ((c.args.toList.map (aE tm1)).map (aN E)).toArray w fun e w'=>∃(k:C)(E':cA),e=.returned (aN E' (v k))/\bB P E A S1.heap S1.next w E' (SR k).heap (SR k).next w'/\Sc (fun n=>A n\/(S1.next<=n/\n<(SR k).next)) (v k))
  {E:cA} {A:Nat->Prop} {a:Act} {w:World} {Q:Exit->Act->World->Prop} (ht:Tm E A tm a) (hg:vD P E A) (hev:S.next % 2=0) (H:aW P E A S.heap w) (hA:∀n,A n->n<S.next) (hQ:∀k,iP P none E A S w a (tmR k) (SE k) (Q .normal)):(Code.region i opsA false).wpIn (rd none) 0 P Q a w:=by
 refine wpIn_region_list ?_;rw[hl];have hm1:=mP h1;refine xX hcf hnm h1 (fun o' ho'=>hokl o' (by rw[hl];simp[ho'])) ht hg hev H hA ?_;intro E1 a1 w1 p1 ht1 hd1;have b1:∀n,A n->¬(S.next<=n/\n<S1.next):=fun n hn hx=>by have:=hA n hn;omega
 have hA1:∀n,(A n\/(S.next<=n/\n<S1.next))->n<S1.next:=by
  rintro n (hn|hn)
  ·have:=hA n hn;omega
  ·omega
 have hg1:=hg.next (p1.agreeA b1) (B:=fun n=>A n\/(S.next<=n/\n<S1.next)) fun n hn=>.inl hn;have hokc:∀x∈c.args,tC P x=true:=fun x hx=>hokl o (by rw[hl];simp) x (by rw[ho];simp[Op.operands,Call.operands,hc,hx]);refine wpListIn_step fun K hK => ?_;rw[if_pos (by simp[Region.wanted,hog])];refine YU hnm (S:=S1) ho hc hb hokc ht1 hg1 (hcalls E1 _ w1 hg1 (by rw[p1.even,hev]) ?_ p1.holds hA1) ?_
 ·intro x hx;obtain⟨y,hy,rfl⟩:=yw.1 hx;exact(AZ ht1 hg1 (hokc y (by simpa using hy))).2
 ·intro k E2 w2 p2 hsc;have hm2:=mP (h2 k);have b2:∀n,(A n\/(S.next<=n/\n<S1.next))->¬(S1.next<=n/\n<(SR k).next):=fun n hn hx=>by have:=hA1 n hn;omega
  have hpd:(a1.put o.dst (aN E2 (v k))).defers=a1.defers:=by unfold Act.put;split<;>rfl
  have hfin:=xX hcf hnm (l2:=[]) (Q:=Q) (h2 k) (fun o' ho'=>hokl o' (by rw[hl];simp[ho'])) (ht1.put (dst:=o.dst) (p2.agreeA b2) (fun n hn=>.inl hn) hsc) (hg1.next (p2.agreeA b2) fun n hn=>.inl hn) (by rw[p2.even,p1.even,hev]) p2.holds (by
   have:=p2.le;rintro n (hn|hn)
   ·have:=hA1 n hn;omega
   ·omega) ((((hQ k).trans p1 hd1 (yya p2.le hm2)).trans p2 (KH.of_eq hpd) hm2))
  rw[List.append_nil]at hfin;exact hK _ _ hfin
end
section
variable{P:Program}
def W4(P:Program)(t:FuncId×List Value×Value):Prop :=
 (∀x∈t.2.1,plain x=true)/\plain t.2.2=true/\∀w:World,Calls P t.1 t.2.1.toArray w fun e w'=>e=.returned t.2.2/\RowKit.Below w.heap.size w w'
structure GM where
 f:FuncId
 args:List Value
 nx:Nat
 v:Value
 heap:List (Nat×Obj)
 nx':Nat
def QT(P:Program)(t:GM):Prop :=
 (∀x∈t.args,plain x=true)/\(∀n o,aQ t.heap n=some o->t.nx<=n/\n<t.nx') /\
 ∀(E:cA)(A:Nat->Prop)(w:World),vD P E A->t.nx % 2=0->(∀n,A n->¬(t.nx<=n/\n<t.nx')) ->
  Calls P t.f t.args.toArray w fun e w'=>∃E',e=.returned (aN E' t.v)/\bB P E A [] t.nx w E' t.heap t.nx' w'/\Sc (fun n=>A n\/(t.nx<=n/\n<t.nx')) t.v
def W8(f:FuncId)(args:List Value):List (FuncId×List Value×Value)->Option Value
 | []=>none
 |(g,xs,v)::r=>if Nat.beq g f && AN xs args then some v else W8 f args r
def XA(f:FuncId)(args:List Value)(nx:Nat):List GM->Option GM
 | []=>none
 |t::r=>if Nat.beq t.f f && Nat.beq t.nx nx && AN t.args args then some t else XA f args nx r
def M6(l0:List (FuncId×List Value×Value))(l1:List GM):FuncId->List Value->St->Option (Value×St):=fun f args S =>
 match W8 f args l0 with
 |some v=>some (v,S)
 |none=>match XA f args S.next l1 with
  |some t=>some (t.v,⟨t.heap++S.heap,t.nx'⟩)
  |none=>none
theorem GN{f:FuncId}{args:List Value}{v:Value}:∀{l:List (FuncId×List Value×Value)},W8 f args l=some v->(f,args,v)∈l
 | [],h=>by cases h
 |(g,xs,u)::r,h=>by
  simp only[W8]at h;split at h
  ·rename_i hc;simp only[yd]at hc;rw[<-yf hc.1,<-qW hc.2,<-yg h];simp
  ·exact yo _ (GN h)
theorem GP{f:FuncId}{args:List Value}{nx:Nat}{t:GM}:∀{l:List GM},XA f args nx l=some t->t∈l/\t.f=f/\t.nx=nx/\t.args=args
 | [],h=>by cases h
 |u::r,h=>by
  simp only[XA]at h;split at h
  ·rename_i hc;simp only[yd]at hc;obtain rfl:=yg h;exact⟨by simp,yf hc.1.1,yf hc.1.2,qW hc.2⟩
  ·obtain⟨h1,h2⟩:=GP h;exact⟨yo _ h1,h2⟩
theorem bB.framed{E E':cA}{A:Nat->Prop}{h g:List (Nat×Obj)}{nx nx':Nat}{w w':World}(p:bB P E A [] nx w E' h nx' w')(H:aW P E A g w)(hA:∀n,A n->¬(nx<=n/\n<nx')):bB P E A g nx w E' (h++g) nx' w' where
 le:=p.le
 even:=p.even
 agree:=p.agree
 holds:=by
  have hag:kR A E E':=p.agreeA hA;have hg:∀n o,aQ g n=some o->(A n\/(nx<=n/\n<nx'))/\yJ (fun n=>A n\/(nx<=n/\n<nx')) o/\E'.β n=E.β n/\E.β n<w.heap.size/\∃oc,w'.heap[E'.β n]?=some oc/\cV P E' n o oc:=by
   intro n o hn;obtain⟨h1,h2,oc,h3,h4⟩:=H.blk n o hn;have hlt:=H.lt hn;have hb:=(hag n h1).1;refine⟨.inl h1,mM (fun _ hx=>Or.inl hx) o h2,hb,hlt,oc,?_,cV.agree hag h1 h2 h4⟩;rw[hb,p.same _ hlt (fun _ _ hx=>by cases hx)];exact h3
  have hh:∀n o,aQ h n=some o->w.heap.size<=E'.β n:=by
   intro n o hn;rcases p.img n o hn with⟨m,o',hm,_⟩|hx
   ·cases hm
   ·exact hx
  refine⟨fun n o hn => ?_,fun n m o o' hn hm he => ?_⟩
  ·rcases pA _ _ _ _ hn with hn |⟨_,hn⟩
   ·exact p.holds.blk n o hn
   ·obtain⟨a1,a2,_,_,a3⟩:=hg n o hn;exact⟨a1,a2,a3⟩
  ·rcases pA _ _ _ _ hn with hn |⟨_,hn⟩<;>rcases pA _ _ _ _ hm with hm |⟨_,hm⟩
   ·exact p.holds.inj n m _ _ hn hm he
   ·obtain⟨_,_,b1,b2,_⟩:=hg m o' hm;have:=hh n o hn;omega
   ·obtain⟨_,_,b1,b2,_⟩:=hg n o hn;have:=hh m o' hm;omega
   ·obtain⟨_,_,b1,_,_⟩:=hg n o hn;obtain⟨_,_,c1,_,_⟩:=hg m o' hm;exact H.inj n m _ _ hn hm (by rw[<-b1,<-c1];exact he)
 os:=p.os
 tape:=p.tape
 output:=p.output
 size:=p.size
 same b hb _:=p.same b hb fun _ _ hx=>by cases hx
 img n o hn:=by
  rcases pA _ _ _ _ hn with hn |⟨_,hn⟩
  ·rcases p.img n o hn with⟨m,o',hm,_⟩|hx
   ·cases hm
   ·exact .inr hx
  ·exact .inl ⟨n,o,hn,(p.agree n (hA n (H.blk n o hn).1)).1⟩
theorem bB.of_below{E:cA}{A:Nat->Prop}{g:List (Nat×Obj)}{nx:Nat}{w w':World}(hb:RowKit.Below w.heap.size w w')(H:aW P E A g w):bB P E A g nx w E g nx w' where
 le:=yh _
 even:=rfl
 agree _ _:=⟨rfl,rfl,rfl⟩
 holds:=(H.grow fun k hk=>hb.block k hk).mono fun _ hn=>.inl hn
 os:=hb.os
 tape:=hb.tape
 output:=hb.output
 size:=hb.size
 same b hlt _:=hb.block b hlt
 img n o hn:=.inl ⟨n,o,hn,rfl⟩
theorem TW{l0:List (FuncId×List Value×Value)}{l1:List GM}(h0:∀t∈l0,W4 P t)(h1:∀t∈l1,QT P t):G0 P (M6 l0 l1):=by
 intro f args S v S' h E A w hg hev hargs H hA;have hren:(∀x∈args,plain x=true)->(args.map (aN E)).toArray=args.toArray:=by
  intro hp;have:args.map (aN E)=args.map id:=yp fun x hx=>kK _ (hp x hx);rw[this];simp
 unfold M6 at h;split at h
 ·rename_i v0 hf;simp only[ya,yc]at h;obtain⟨rfl,rfl⟩:=h;obtain⟨k1,k2,k3⟩:=h0 _ (GN hf);rw[hren k1];refine(k3 w).mono ?_;rintro e w' ⟨rfl,hb⟩;exact⟨E,by rw[kK _ k2],bB.of_below hb H,oC (vU A k2)⟩
 ·split at h
  ·rename_i t hf;simp only[ya,yc]at h;obtain⟨rfl,rfl⟩:=h;obtain⟨m1,rfl,m3,rfl⟩:=GP hf;obtain⟨k1,k2,k3⟩:=h1 t m1;rw[hren k1];rw[<-m3]at hev hA⊢;refine(k3 E A w hg hev hA).mono ?_;rintro e w' ⟨E',rfl,p,hs⟩;exact⟨E',rfl,p.framed H hA,hs⟩
  ·cases h
end
section
variable{P:Program}{callF:Fn->List Value->St->Option (Value×St)}
def oY(callF:Fn->List Value->St->Option (Value×St))(P:Program)(f:Nat)(b:Code):Nat->List Value->St->Option (List Value×St)
 |0,tm,S=>some (tm,S)
 |k+1,tm,S=>match evC callF P f b tm S with
  |some (.normal,tm',S')=>oY callF P f b k tm' S'
  | _=>none
theorem sR{f:Nat}{b:Code}:∀{k:Nat}{tm tm':List Value}{S S':St},oY callF P f b k tm S=some (tm',S')->S.next<=S'.next
 |0,_,_,_,_,h=>by
  simp only[oY,ya,yc]at h;rw[h.2];exact yh _
 |k+1,tm,tm',S,S',h=>by
  simp only[oY]at h;split at h
  ·rename_i h1;exact yya (eN h1) (sR h)
  ·cases h
theorem wF(hm:P.follows .mixedOrders=true)(hcf:iN P callF)(hnm:fD P){f:Nat}{b:Code}(hok:dV P b=true){Q:Exit->Act->World->Prop}{n:Nat}:∀{k:Nat}{tm tm':List Value}{S S':St},oY callF P f b k tm S=some (tm',S') ->
  ∀{E:cA}{A:Nat->Prop}{a:Act}{w:World},Tm E A tm a->vD P E A->S.next % 2=0->aW P E A S.heap w->(∀n,A n->n<S.next)->iP P none E A S w a tm' S' (Code.roundsIn (rd none) 0 P b Q n)->Code.roundsIn (rd none) 0 P b Q (k+n) a w
 |0,tm,tm',S,S',h,E,A,a,w,ht,hg,hev,H,hA,hQ=>by
  simp only[oY,ya,yc]at h;obtain⟨rfl,rfl⟩:=h;rw[yym];exact hQ E a w (bB.refl H) ⟨ht.tmps,fun x hx=>oC (ht.sc x hx)⟩ (KH.of_eq rfl)
 |k+1,tm,tm',S,S',h,E,A,a,w,ht,hg,hev,H,hA,hQ=>by
  simp only[oY]at h;split at h
  ·rename_i tm1 S1 h1;have m2:=sR h;have hA':∀n,A n->¬(S.next<=n/\n<S1.next):=fun n hn hx=>by have:=hA n hn;omega
   rw[show k+1+n=(k+n)+1 by omega,roundsIn_succ];refine(oL hm hcf hnm f).1 b tm S .normal tm1 S1 h1 hok none (fun hx=>by cases hx) E A a w _ ht hg hev H hA' ?_;intro E1 a1 w1 p ht1 hd1;refine wF hm hcf hnm hok h ht1 (hg.next (p.agreeA hA') fun n hn=>.inl hn) (by rw[p.even,hev]) p.holds ?_ (hQ.trans p hd1 m2);have:=p.le;rintro n (hn|hn)
   ·have:=hA n hn;omega
   ·omega
  ·cases h
structure Lit where
 tm:List Value
 heap:List (Nat×Obj)
 next:Nat
def Lit.st(l:Lit):St:=⟨l.heap,l.next⟩
def LD(l:Lit):List Value×St->Bool
 |(tm,S)=>TL l.tm tm && Nat.beq l.next S.next && vR S.heap l.heap
theorem zN{l:Lit}{x:List Value×St}(h:LD l x=true):x.1=l.tm/\x.2.next=l.next/\∀n o,aQ l.heap n=some o->aQ x.2.heap n=some o:=by
 obtain⟨tm,S⟩:=x;simp only[LD,yd]at h;exact⟨(CQ h.1.1).symm,(yf h.1.2).symm,rX h.2⟩
def wG(callF:Fn->List Value->St->Option (Value×St))(P:Program)(f:Nat)(b:Code)(k:Nat)(l l':Lit):Bool :=
 match oY callF P f b k l.tm l.st with
 |some x=>LD l' x
 |none=>false
theorem QU(hm:P.follows .mixedOrders=true)(hcf:iN P callF)(hnm:fD P){f k n:Nat}{b:Code}{l l':Lit}(h:wG callF P f b k l l'=true)(hok:dV P b=true){Q:Exit->Act->World->Prop}
  {E:cA} {A:Nat->Prop} {a:Act} {w:World} (ht:Tm E A l.tm a) (hg:vD P E A) (hev:l.next % 2=0) (H:aW P E A l.heap w) (hA:∀n,A n->n<l.next) (hQ:iP P none E A l.st w a l'.tm l'.st (Code.roundsIn (rd none) 0 P b Q n)):Code.roundsIn (rd none) 0 P b Q (k+n) a w:=by
 unfold wG at h;split at h
 ·rename_i x hx;obtain⟨tm,S⟩:=x;obtain⟨h1,h2,h3⟩:=zN h;simp only at h1 h2 h3;subst h1;refine wF hm hcf hnm hok hx ht hg hev H hA ?_;intro E' a' w' p ht' hd;refine hQ E' a' w' ?_ (by simpa [Lit.st,h2]using ht') hd;have p2:=p.drop h3;rw[h2]at p2;exact p2
 ·cases h
end
section
variable{P:Program}
structure Told where
 f:FuncId
 args:List Value
 heap:List (Nat×Obj)
 nx:Nat
 v:Value
 out:List (Nat×Obj)
 nx':Nat
def LE(P:Program)(t:Told):Prop :=
 ∀(E:cA)(A:Nat->Prop)(w:World),vD P E A->t.nx % 2=0->(∀x∈t.args,Sc A x)->aW P E A t.heap w->(∀n,A n->¬(t.nx<=n/\n<t.nx')) ->
  Calls P t.f (t.args.map (aN E)).toArray w fun e w'=>∃E',e=.returned (aN E' t.v)/\bB P E A t.heap t.nx w E' t.out t.nx' w'/\Sc (fun n=>A n\/(t.nx<=n/\n<t.nx')) t.v
def XB(f:FuncId)(args:List Value)(S:St):List Told->Option Told
 | []=>none
 |t::r=>if Nat.beq t.f f && Nat.beq t.nx S.next && TL t.args args && vR S.heap t.heap then some t else XB f args S r
def kB(l0:List (FuncId×List Value×Value))(l1:List GM)(l2:List Told):FuncId->List Value->St->Option (Value×St):=fun f args S =>
 match M6 l0 l1 f args S with
 |some r=>some r
 |none=>match XB f args S l2 with
  |some t=>some (t.v,⟨t.out++rS t.heap S.heap,t.nx'⟩)
  |none=>none
theorem GQ{f:FuncId}{args:List Value}{S:St}{t:Told}:∀{l:List Told},XB f args S l=some t->t∈l/\t.f=f/\t.nx=S.next/\t.args=args/\vR S.heap t.heap=true
 | [],h=>by cases h
 |u::r,h=>by
  simp only[XB]at h;split at h
  ·rename_i hc;simp only[yd]at hc;obtain rfl:=yg h;exact⟨by simp,yf hc.1.1.1,yf hc.1.1.2,CQ hc.1.2,hc.2⟩
  ·obtain⟨h1,h2⟩:=GQ h;exact⟨yo _ h1,h2⟩
theorem gZ{l0:List (FuncId×List Value×Value)}{l1:List GM}{l2:List Told}(h0:∀t∈l0,W4 P t)(h1:∀t∈l1,QT P t)(h2:∀t∈l2,LE P t):G0 P (kB l0 l1 l2):=by
 intro f args S v S' h E A w hg hev hargs H hA;unfold kB at h;split at h
 ·rename_i r hr;obtain rfl:=yg h;exact TW h0 h1 f args S v S' hr E A w hg hev hargs H hA
 ·split at h
  ·rename_i t hf;simp only[ya,yc]at h;obtain⟨rfl,rfl⟩:=h;obtain⟨m1,rfl,m3,rfl,m5⟩:=GQ hf;have k2:=h2 t m1;have hsub:=rX m5;rw[<-m3]at hev hA⊢;refine(k2 E A w hg hev hargs (H.sub hsub) hA).mono ?_;rintro e w' ⟨E',rfl,p,hs⟩;exact⟨E',rfl,p.framed2 H hsub hA,hs⟩
  ·cases h
theorem aBT(hm:P.follows .mixedOrders=true)(hnm:fD P){orc:FuncId->List Value->St->Option (Value×St)}(horc:G0 P orc){fs fuel d:Nat}(hok:mB P P.funcs.size fs=true){t:Told}
  (hrun:(match j5 orc P fs fuel d (.func t.f) t.args ⟨t.heap,t.nx⟩with|some (v,S')=>veq t.v v && Nat.beq t.nx' S'.next && vR S'.heap t.out|none=>false)=true):LE P t:=by
 intro E A w hg hev hargs H hA;split at hrun
 ·rename_i v S' he;simp only[yd]at hrun;obtain⟨⟨r1,r2⟩,r3⟩:=hrun;obtain rfl:=qX r1;have r2:=yf r2;have hw:=rX r3;have:=p8 hm hnm horc hok fuel d (.func t.f) t.args ⟨t.heap,t.nx⟩ t.v S' he E A w hg hev hargs H (by rw[<-r2];exact hA);refine Calls.mono this ?_;rintro e w' ⟨E',rfl,p,hs⟩;refine⟨E',rfl,?_,?_⟩
  ·have:=p.drop hw;rw[<-r2]at this;exact this
  ·rw[r2];exact hs
 ·cases hrun
end
section
variable{P:Program}{callF:Fn->List Value->St->Option (Value×St)}
def GR:Nat->Code->Code
 |0,c=>c
 |n+1,.seq _ b=>GR n b
 | _+1,c=>c
def aKA:Code->Code
 | .seq a _=>a
 |c=>c
def aLH:Code->Array Oper
 | .region _ o _=>o
 | _=>#[]
theorem TX{f:Nat}(k:Nat):∀(c c':Code)(tm tm':List Value)(S S':St),rU callF P f k c tm S=some (c',tm',S')->c'=GR k c:=by
 induction k with
 |zero =>
  intro c c' tm tm' S S' h;simp only[rU,ya,yc]at h;exact h.1.symm
 |succ k ih =>
  intro c c' tm tm' S S' h;cases c with
  |seq a b =>
   simp only[rU]at h;split at h
   ·exact ih _ _ _ _ _ _ h
   ·cases h
  | _=>simp[rU]at h
theorem iP.lit{ro:Option Nat}{E:cA}{A:Nat->Prop}{S0:St}{w:World}{a:Act}{l:Lit}{tm:List Value}{S:St}{R:Act->World->Prop}(h:LD l (tm,S)=true)(hQ:iP P ro E A S0 w a l.tm l.st R):iP P ro E A S0 w a tm S R:=by
 obtain⟨h1,h2,h3⟩:=zN h;simp only at h1 h2 h3;subst h1;intro E' a' w' p ht hd;refine hQ E' a' w' ?_ (by simpa [Lit.st,h2]using ht) hd;have p2:=p.drop h3;rw[h2]at p2;exact p2
def XC(callF:Fn->List Value->St->Option (Value×St))(P:Program)(f k:Nat)(c:Code)(tm:List Value)(S:St)(l:Lit):Bool :=
 match rU callF P f k c tm S with
 |some (_,tm',S')=>LD l (tm',S')
 |none=>false
theorem DW(hm:P.follows .mixedOrders=true)(hcf:iN P callF)(hnm:fD P){f k:Nat}{c:Code}{tm:List Value}{S:St}{l:Lit}(h:XC callF P f k c tm S l=true)(hok:dV P c=true){Q:Exit->Act->World->Prop}
  {E:cA} {A:Nat->Prop} {a:Act} {w:World} (ht:Tm E A tm a) (hg:vD P E A) (hev:S.next % 2=0) (H:aW P E A S.heap w) (hA:∀n,A n->n<S.next) (hQ:iP P none E A S w a l.tm l.st ((GR k c).wpIn (rd none) 0 P Q)):c.wpIn (rd none) 0 P Q a w:=by
 unfold XC at h;split at h
 ·rename_i c' tm' S' he;have:=TX _ _ _ _ _ _ _ he;subst this;exact DV hm hcf hnm he hok ht hg hev H hA (iP.lit h hQ)
 ·cases h
def GS(callF:Fn->List Value->St->Option (Value×St))(P:Program)(f:Nat)(c:Code)(tm:List Value)(S:St)(l:Lit):Bool :=
 match evC callF P f c tm S with
 |some (.ret,tm',S')=>LD l (tm',S')
 | _=>false
theorem QV(hm:P.follows .mixedOrders=true)(hcf:iN P callF)(hnm:fD P){f:Nat}{c:Code}{tm:List Value}{S:St}{l:Lit}(h:GS callF P f c tm S l=true)(hok:dV P c=true){Q:Exit->Act->World->Prop}
  {E:cA} {A:Nat->Prop} {a:Act} {w:World} (ht:Tm E A tm a) (hg:vD P E A) (hev:S.next % 2=0) (H:aW P E A S.heap w) (hA:∀n,A n->n<S.next) (hQ:iP P none E A S w a l.tm l.st (Q .ret)):c.wpIn (rd none) 0 P Q a w:=by
 unfold GS at h;split at h
 ·rename_i tm' S' he;exact(oL hm hcf hnm f).1 c tm S .ret tm' S' he hok none (fun hx=>by cases hx) E A a w Q ht hg hev H (fun n hn hx=>by have:=hA n hn;omega) (iP.lit h hQ)
 ·cases h
theorem M7(hm:P.follows .mixedOrders=true)(hcf:iN P callF)(hnm:fD P){f:Nat}{b:Code}{tm:List Value}{S:St}{l:Lit}(h:GS callF P f (.loop b) tm S l=true)(hok:dV P b=true){Q:Exit->Act->World->Prop}
  {E:cA} {A:Nat->Prop} {a:Act} {w:World} (ht:Tm E A tm a) (hg:vD P E A) (hev:S.next % 2=0) (H:aW P E A S.heap w) (hA:∀n,A n->n<S.next) (hQ:iP P none E A S w a l.tm l.st (Q .ret)):Code.roundsIn (rd none) 0 P b Q f a w:=by
 unfold GS at h;split at h
 ·rename_i tm' S' he;exact(oL hm hcf hnm f).2 b tm S .ret tm' S' he hok none (fun hx=>by cases hx) E A a w Q ht hg hev H (fun n hn hx=>by have:=hA n hn;omega) (iP.lit h hQ)
 ·cases h
theorem QW{f k:Nat}{b:Code}{l l':Lit}(h:wG callF P f b k l l'=true):l.next<=l'.next:=by
 unfold wG at h;split at h
 ·rename_i x hx;obtain⟨tm,S⟩:=x;obtain⟨_,h2,_⟩:=zN h;simp only at h2;rw[<-h2];exact sR hx
 ·cases h
inductive wH(callF:Fn->List Value->St->Option (Value×St))(P:Program)(f:Nat)(b:Code):Nat->Lit->Lit->Prop
 |last {l l':Lit} (h:GS callF P f (.loop b) l.tm l.st l'=true) (hle:l.next<=l'.next):wH callF P f b f l l'
 |more {n:Nat} {l l1 l':Lit} (k:Nat) (h:wG callF P f b k l l1=true) (hev:l1.next % 2=0) (r:wH callF P f b n l1 l'):wH callF P f b (k+n) l l'
theorem wH.le{f n:Nat}{b:Code}{l l':Lit}(p:wH callF P f b n l l'):l.next<=l'.next:=by
 induction p with
 |last h hle=>exact hle
 |more k h _ r ih=>exact yya (QW h) ih
theorem wH.sound(hm:P.follows .mixedOrders=true)(hcf:iN P callF)(hnm:fD P){f n:Nat}{b:Code}(hok:dV P b=true){Q:Exit->Act->World->Prop}{l l':Lit}(p:wH callF P f b n l l') :
  ∀{E:cA}{A:Nat->Prop}{a:Act}{w:World},Tm E A l.tm a->vD P E A->l.next % 2=0->aW P E A l.heap w->(∀n,A n->n<l.next)->iP P none E A l.st w a l'.tm l'.st (Q .ret)->Code.roundsIn (rd none) 0 P b Q n a w:=by
 induction p with
 |last h _ =>
  intro E A a w ht hg hev H hA hQ;exact M7 hm hcf hnm h hok ht hg hev H hA hQ
 | @more n l l1 l' k h hev1 r ih =>
  intro E A a w ht hg hev H hA hQ;refine QU hm hcf hnm h hok ht hg hev H hA ?_;intro E1 a1 w1 p1 ht1 hd1;have hle1:=QW h;have b1:∀n,A n->¬(l.st.next<=n/\n<l1.st.next):=fun n hn hx=>by have:=hA n hn;have:l.st.next=l.next:=rfl;omega
  refine ih ht1 (hg.next (p1.agreeA b1) fun n hn=>.inl hn) hev1 p1.holds ?_ (hQ.trans p1 hd1 r.le);rintro n (hn|hn)
  ·have:=hA n hn;omega
  ·exact hn.2
end
section
variable{P:Program}{callF:Fn->List Value->St->Option (Value×St)}
end
end Go.Dam

