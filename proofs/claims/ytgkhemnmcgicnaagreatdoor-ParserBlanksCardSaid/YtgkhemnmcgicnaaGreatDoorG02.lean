/- An own evaluator of closed runs of a program, proved sound against the model: one part of it. -/
import Derived.Test.YtgkhemnmcgicnaaGreatDoorG01
import Derived.Laws.Build
import Derived.Laws.Append
import Derived.Laws.MakeOwn
import Derived.Laws.BytesArg
import Derived.Lib.UnsafeStr
import Derived.Lib.MakeNoZero
namespace Go.Dam
def KA(E:cA)(x:Nat×Value):Nat×Value:=(x.1,aN E x.2)
section
variable{P:Program}{E:cA}{A:Nat->Prop}{h h':List (Nat×Obj)}{nx:Nat}{w w':World}
theorem QF{t:TypeId}{ps:Array (Nat×Value)}{z v:Value}(hz:tD P t=some z)(hp:eB z.cells.toList=true)(hb:bH P (Instr.build t ps)=some v)(hsc:∀p∈ps,Sc A p.2) :
  bH P (Instr.build t (ps.map (KA E)))=some (aN E v)/\Sc A v:=by
 have hpl:(ps.map (KA E)).toList=ps.toList.map fun x=>(x.1,aN E x.2):=by simp[KA]
 have hzc:∀x∈z.cells,Sc A x:=fun x hx=>qF A (fC hp x (by simpa using hx))
 have key : ∀ (place : Nat -> Option (Nat × Nat)) (cells : Array Value), Instr.fill place z.cells ps.toList = some cells ->
   Instr.fill place z.cells (ps.map (KA E)).toList=some (cells.map (aN E))/\∀x∈cells,Sc A x:=by
  intro place cells hc;have h1:=F5 E place ps.toList z.cells;rw[sN E hp,hc]at h1;rw[hpl];exact⟨by simpa using h1,M1 place ps.toList z.cells cells hzc (fun p hp=>hsc p (by simpa using hp)) hc⟩
 unfold Instr.build at hb⊢;simp only[bE,CE,hz,yj,dK]at hb⊢;cases hu:P.underlying t with
 |none=>simp[hu]at hb
 |some d =>
  simp only[hu,yj]at hb⊢;cases d with
  |struct fields =>
   simp only[bE]at hb⊢;cases hm:bH P (fields.mapM fun f=>do pure (f.offset,<-Go.sizeOf f.type))with
   |none=>rw[hm]at hb;cases hb
   |some places =>
    simp only[hm,yj]at hb⊢;cases hf:Instr.fill (places[·]?) z.cells ps.toList with
    |none=>simp[hf,dJ]at hb
    |some cells =>
     obtain⟨k1,k2⟩:=key _ cells hf;simp only[hf,eC,ya]at hb;subst hb;rw[k1,nA];exact⟨rfl,(qR A cells).2 k2⟩
  |array n elem =>
   simp only[bE,sM]at hb⊢;cases hm:gG P elem with
   |none=>simp[hm]at hb
   |some s =>
    simp only[hm,yj]at hb⊢;cases hf:Instr.fill (fun i=>some (i*s,s)) z.cells ps.toList with
    |none=>simp[hf,dJ]at hb
    |some cells =>
     obtain⟨k1,k2⟩:=key _ cells hf;simp only[hf,eC,ya]at hb;subst hb;rw[k1,nA];exact⟨rfl,(qR A cells).2 k2⟩
  | _=>simp[dJ]at hb
theorem KB{x v:Value}{i:Nat}(hb:bH P (Instr.extract x i)=some v)(hsc:Sc A x) :
  bH P (Instr.extract (aN E x) i)=some (aN E v)/\Sc A v:=by
 cases x with
 |tuple vs =>
  rw[gV];unfold Instr.extract at hb⊢;simp only[Array.getElem?_map];cases hv:vs[i]? with
  |none=>simp[hv,dJ]at hb
  |some y =>
   simp only[hv,eC,ya]at hb;subst hb;exact⟨rfl,(j7 A vs).1 hsc y (yyh hv)⟩
 | _=>simp[Instr.extract,dJ]at hb
theorem F6{t:TypeId}{cs:Array Value}{off:Nat}{v:Value}(hb:bH P (part t cs off)=some v)(hsc:∀x∈cs,Sc A x) :
  bH P (part t (cs.map (aN E)) off)=some (aN E v)/\Sc A v:=by
 unfold part at hb⊢;simp only[bE,MZ]at hb⊢;cases hg:YK P t with
 |none=>simp[hg]at hb
 |some b =>
  simp only[hg,yj]at hb⊢;cases b with
  |true =>
   simp only[if_true,bE,sM]at hb⊢;cases hs:gG P t with
   |none=>simp[hs]at hb
   |some s =>
    simp only[hs,yj,eC,ya]at hb⊢;subst hb;rw[nA];refine⟨by simp[Array.map_extract],(qR A _).2 fun x hx => ?_⟩;have hx:=Array.mem_toList_iff.2 hx;rw[Array.toList_extract]at hx;exact hsc x (Array.mem_toList_iff.1 (List.mem_of_mem_drop (List.mem_of_mem_take hx)))
  |false =>
   simp only[ym,if_false]at hb⊢;cases hv:cs[off]? with
   |none=>simp[hv,dJ]at hb
   |some y =>
    simp only[hv,eC,ya]at hb;subst hb;simp only[Array.getElem?_map,hv,yr,eC];exact⟨trivial,hsc y (yyh hv)⟩
theorem QG{t:TypeId}{x v:Value}{i:Nat}(hb:bH P (Instr.field t x i)=some v)(hsc:Sc A x) :
  bH P (Instr.field t (aN E x) i)=some (aN E v)/\Sc A v:=by
 unfold Instr.field at hb⊢;simp only[bE,dK]at hb⊢;cases hu:P.underlying t with
 |none=>simp[hu]at hb
 |some d =>
  simp only[hu,yj]at hb⊢;cases d with
  |struct fields =>
   simp only at hb⊢;cases hf:fields[i]? with
   |none=>simp[hf,dJ]at hb
   |some f =>
    simp only[hf,bE]at hb⊢;cases x with
    |agg cs =>
     rw[nA];simp only[asAgg,eC,yj]at hb⊢;exact F6 hb ((qR A cs).1 hsc)
    | _=>simp[asAgg,dJ]at hb
  | _=>simp[dJ]at hb
theorem qT{α:Type}(k:IntKind)(x y:Int)(c:BoundsCode):bH P (boundsPanic (α:=α) k x y c)=none:=by
 unfold boundsPanic;dsimp only;rw[tY];split
 ·rfl
 ·simp only[bE,eC,yj,runtimePanic];rfl
theorem QH{t:TypeId}{x i v:Value}(hb:bH P (Instr.index t x i)=some v)(hsc:Sc A x) :
  bH P (Instr.index t (aN E x) (aN E i))=some (aN E v)/\Sc A v:=by
 unfold Instr.index at hb⊢;cases i with
 |int k n =>
  rw[fZ];simp only[asIntOf,bE,eC,yj,dK]at hb⊢;cases hu:P.underlying t with
  |none=>simp[hu]at hb
  |some d =>
   simp only[hu,yj]at hb⊢;cases x with
   |agg cs =>
    rw[nA];cases d with
    |array len elem =>
     simp only[tY,bE,sM]at hb⊢;split at hb
     ·rename_i hc;rw[if_pos hc];cases hs:gG P elem with
      |none=>simp[hs]at hb
      |some s =>
       simp only[hs,yj]at hb⊢;exact F6 hb ((qR A cs).1 hsc)
     ·rw[qT]at hb;simp at hb
    | _=>simp[dJ]at hb
   |string s =>
    rw[eJ];cases d with
    |string =>
     simp only at hb⊢;split at hb
     ·rename_i b hb';simp only[eC,ya]at hb;subst hb;rw[fZ];exact⟨rfl,qS _ _ _⟩
     ·rw[qT]at hb;simp at hb
    | _=>simp[dJ]at hb
   | _=>cases d<;>simp[dJ]at hb
 |pointer a=>cases a<;>simp[asIntOf,bE,dJ,zJ]at hb
 | _=>simp[asIntOf,bE,dJ]at hb
theorem j8{v:Value}{n:Nat}(hn:AJ v=some n):∃k,v=.int k n/\aN E v=.int k n:=by
 cases v with
 |int k m =>
  simp only[AJ]at hn;split at hn
  ·simp at hn;subst hn;rename_i h0;rw[fZ,Int.toNat_of_nonneg h0];exact⟨k,rfl,rfl⟩
  ·simp at hn
 | _=>simp[AJ]at hn
theorem EV{t:TypeId}{x v:Value}{f:Nat}(hb:zB P t x f=some v)(hsc:Sc A x)(w:World) :
  (Instr.fieldAt t (aN E x) f).run P w=.ok (aN E v) w/\Sc A v:=by
 unfold zB at hb;split at hb
 ·rename_i fs n off hu;split at hb
  ·rename_i fd hf;split at hb
   ·rename_i s hs;split at hb
    ·simp at hb
    ·rename_i h0;simp at hb;subst hb;have h0:¬s=0:=by simpa using h0
     rw[cT,cT];refine⟨?_,by rw[oG]at hsc⊢;exact hsc⟩;simp only[Instr.fieldAt,Sem.run_bind,run_underlying hu,Result.andThen_ok,hf,Instr.sureAddr,Sem.run_pure,fieldPlace,fJ hs,h0,if_false,cA.addr,jE,yx]
   ·simp at hb
  ·simp at hb
 ·simp at hb
theorem EW{t:TypeId}{x i v:Value}(hb:zC P t x i=some v)(hsc:Sc A x)(w:World) :
  (Instr.indexAt t (aN E x) (aN E i)).run P w=.ok (aN E v) w/\Sc A v:=by
 unfold zC at hb;split at hb
 ·rename_i e n off len cap k hu hk;split at hb
  ·rename_i s hs;simp only[yb,ya]at hb;obtain⟨hlt,rfl⟩:=hb;have hlt:k<len:=ye hlt;obtain⟨kk,_,hi⟩:=j8 (E:=E) hk;rw[bQ,cT,hi];refine⟨?_,by rw[dX]at hsc;rw[oG];exact hsc⟩;have hc:(0:Int)<=(k:Int)/\(k:Int)<(len:Int):=⟨by omega,by omega⟩;simp only[Instr.indexAt,asIntOf,Sem.run_bind,Sem.run_pure,Result.andThen_ok,run_underlying hu,hc,and_self,if_true,fJ hs,cA.addr,jE,Int.toNat_natCast,yx]
  ·simp at hb
 ·rename_i m e n off k hu hk;split at hb
  ·rename_i s hs;simp only[yb,ya]at hb;obtain⟨hlt,rfl⟩:=hb;have hlt:k<m:=ye hlt;obtain⟨kk,_,hi⟩:=j8 (E:=E) hk;rw[cT,cT,hi];refine⟨?_,by rw[oG]at hsc⊢;exact hsc⟩;have hc:(0:Int)<=(k:Int)/\(k:Int)<(m:Int):=⟨by omega,by omega⟩;simp only[Instr.indexAt,asIntOf,Sem.run_bind,Sem.run_pure,Result.andThen_ok,run_underlying hu,Instr.sureAddr,hc,and_self,if_true,fJ hs,cA.addr,jE,Int.toNat_natCast,yx]
  ·simp at hb
 ·simp at hb
theorem qU{v:Option Value}{d m k:Nat}(hb:rR v d m=some k):(v=none/\k=d)\/(∃x kk,v=some x/\x=.int kk k/\aN E x=.int kk k/\k<=m):=by
 unfold rR at hb;split at hb
 ·simp at hb;exact .inl ⟨rfl,hb.symm⟩
 ·rename_i x;split at hb
  ·rename_i k' hk;simp only[yb,ya]at hb;obtain⟨hle,rfl⟩:=hb;obtain⟨kk,h1,h2⟩:=j8 (E:=E) hk;exact .inr ⟨x,kk,rfl,h1,h2,ye hle⟩
  ·simp at hb
theorem j9{k:IntKind}{n m:Nat}{c:BoundsCode}(hle:n<=m)(w:World):(Instr.sliceBound (.int k n) m c).run P w=.ok n w:=by
 have hc:(0:Int)<=(n:Int)/\(n:Int)<=(m:Int):=⟨by omega,by omega⟩;simp only[Instr.sliceBound,asIntOf,Sem.run_bind,Sem.run_pure,Result.andThen_ok,hc,and_self,if_true,Int.toNat_natCast]
theorem pQ{isS:Bool}{len cap cap' l h':Nat}{lo hi:Option Value}(hh:rR hi len cap'=some h')(hl:rR lo 0 h'=some l)(hcap:h'<=cap)(w:World) :
  (Instr.sliceBounds isS len cap (lo.map (aN E)) (hi.map (aN E)) none).run P w=.ok (l,h',cap) w:=by
 unfold Instr.sliceBounds;rcases qU (E:=E) hh with⟨rfl,rfl⟩ |⟨x,kk,rfl,_,hx,_⟩<;>rcases qU (E:=E) hl with⟨rfl,rfl⟩ |⟨y,ky,rfl,_,hy,hle'⟩
 ·simp only[Option.map_none,Sem.run_bind,Sem.run_pure,Result.andThen_ok]
 ·simp only[Option.map_none,yr,Sem.run_bind,Sem.run_pure,Result.andThen_ok,hy,Option.isSome_none,ym,if_false,j9 hle']
 ·simp only[Option.map_none,yr,Sem.run_bind,Sem.run_pure,Result.andThen_ok,hx,j9 hcap]
 ·simp only[yr,Sem.run_bind,Sem.run_pure,Result.andThen_ok,hx,hy,Option.isSome_none,ym,if_false,j9 hcap,j9 hle']
end
section
variable{P:Program}{E:cA}{A:Nat->Prop}{h h':List (Nat×Obj)}{nx:Nat}{w w':World}
theorem QJ(H:aW P E A h w){t:TypeId}{x v:Value}{lo hi:Option Value}(hb:TF P h t x lo hi=some v)(hsc:Sc A x) :
  (Instr.sliceAt t (aN E x) (lo.map (aN E)) (hi.map (aN E)) none).run P w=.ok (aN E v) w/\Sc A v:=by
 unfold TF at hb;split at hb
 ·rename_i e n off len cap hu;split at hb
  ·simp at hb
  ·rename_i s hs;rw[bQ];split at hb
   ·rename_i hrow;split at hb
    ·simp at hb
    ·rename_i h' hh;split at hb
     ·simp at hb
     ·rename_i l hl;split at hb
      ·rename_i c e' fz hg;simp only[yb,ya,yd,yu]at hb;obtain⟨⟨⟨⟨⟨h1,h2⟩,h3⟩,h4⟩,h5⟩,rfl⟩:=hb;have h1:=ye h1;have h2:off=cap*s:=by simpa using h2
       have h3:0<s:=ye h3;have h5:e'=e:=by simpa using h5
       subst h5;obtain⟨_,_,oc,_,hr⟩:=H.blk n _ hg;simp only[cV,hrow,if_true]at hr;obtain⟨cc,fzc,s',_,e2,_,_,e5,_⟩:=hr;rw[hs]at e2;obtain rfl:=yg e2;have hk:cap+h'<=E.κ n:=by
        have:(cap+h')*s<=E.κ n*s:=by rw[Nat.add_mul];omega
        exact Nat.le_of_mul_le_mul_right this h3
       have hr:=pQ (P:=P) (E:=E) (isS:=true) hh hl (cap:=E.κ n-cap) (by omega) w;rw[bQ,dX];refine⟨?_,by rw[dX]at hsc;exact hsc⟩;simp only[Instr.sliceAt,Instr.slice,Sem.run_bind,run_underlying hu,Result.andThen_ok,hrow,if_true,hr,fJ hs,Sem.run_pure,cA.addr,yr,jE];have hl0:l=0\/l<h':=h4.imp (by simp) (fun h=>ye h)
       congr 2
       ·rcases hl0 with rfl|hl0
        ·simp
        ·rw[if_neg (by omega),yx]
       ·omega
      ·simp at hb
   ·rename_i hrow;split at hb
    ·simp at hb
    ·rename_i h' hh;split at hb
     ·simp at hb
     ·rename_i l hl;simp only[ya]at hb;subst hb;have hle:h'<=cap\/hi=none:=by
       rcases qU (E:=E) hh with⟨rfl,_⟩ |⟨_,_,_,_,_,h⟩
       ·exact .inr rfl
       ·exact .inl h
      have hr:(Instr.sliceBounds true len cap (lo.map (aN E)) (hi.map (aN E)) none).run P w=.ok (l,h',cap) w:=by
       rcases hle with hle|rfl
       ·exact pQ hh hl hle w
       ·have:rR none len len=some h':=by simpa [rR]using hh
        unfold Instr.sliceBounds;rcases qU (E:=E) hl with⟨rfl,rfl⟩ |⟨y,ky,rfl,_,hy,hle'⟩
        ·simp[rR]at hh;subst hh;simp only[Option.map_none,Sem.run_bind,Sem.run_pure,Result.andThen_ok]
        ·simp[rR]at hh;subst hh;simp only[Option.map_none,yr,Sem.run_bind,Sem.run_pure,Result.andThen_ok,hy,Option.isSome_none,ym,if_false,j9 hle']
      rw[bQ,dX];have hblk:(if Nat.beq cap l=true then(⟨n,off,none⟩:Addr)else⟨n,off+l*s,none⟩).block=n:=by split<;>rfl
      rw[hblk,if_neg hrow,if_neg hrow];refine⟨?_,(dX A _ _ _).1 hsc⟩;simp only[Instr.sliceAt,Instr.slice,Sem.run_bind,run_underlying hu,Result.andThen_ok,hr,fJ hs,Sem.run_pure,cA.addr,yr,jE]
      congr 2
      by_cases hc:cap=l
      ·subst hc;simp
      ·simp[hc,yx]
 ·rename_i k e n off hu;split at hb
  ·simp at hb
  ·rename_i s hs;rw[cT];split at hb
   ·simp at hb
   ·rename_i hrow;split at hb
    ·simp at hb
    ·rename_i h' hh;split at hb
     ·simp at hb
     ·rename_i l hl;simp only[ya]at hb;subst hb;have hle:h'<=k:=by
       rcases qU (E:=E) hh with⟨_,h⟩ |⟨_,_,_,_,_,h⟩<;>omega
      have hr:=pQ (P:=P) (E:=E) (isS:=false) hh hl hle w;rw[bQ,dX];have hblk:(if Nat.beq k l=true then(⟨n,off,none⟩:Addr)else⟨n,off+l*s,none⟩).block=n:=by split<;>rfl
      rw[hblk,if_neg hrow];refine⟨?_,(oG A _).1 hsc⟩;simp only[Instr.sliceAt,Sem.run_bind,run_underlying hu,Result.andThen_ok,Instr.sureAddr,hr,fJ hs,Sem.run_pure,cA.addr,jE]
      congr 3
      by_cases hc:k=l
      ·subst hc;simp
      ·simp[hc,yx]
 ·simp at hb
theorem F7{t:TypeId}{x y:Value}{b:Bool}(hb:aBH P t x y=some b)(w:World) :
  (Op.equal t (aN E x) (aN E y)).run P w=.ok b w:=by
 unfold aBH at hb;show(Op.equalIn (9999+1) t (aN E x) (aN E y)).run P w=_;unfold Op.equalIn;split at hb
 ·rename_i e hu;simp only[Sem.run_bind,run_underlying hu,Result.andThen_ok];split at hb
  ·rename_i b';simp at hb;subst hb;cases b' with
   |none=>rw[gH];rfl
   |some a=>rw[gH,cT];rfl
  ·simp at hb;subst hb;rw[cT,gH];rfl
  ·rename_i m i n j;split at hb
   ·rename_i s hs;split at hb
    ·simp at hb
    ·rename_i h0;simp only[yb,ya]at hb;obtain⟨hmn,rfl⟩:=hb;have hmn:m=n:=by simpa using hmn
     subst hmn;rw[cT,cT];have h0:s≠0:=by simpa using h0
     simp only[Sem.run_bind,fJ hs,Result.andThen_ok,h0,ne_eq,not_false_eq_true,if_true,cA.addr,sameAddr,beq_self_eq_true,Sem.run_pure]
     congr 1
     by_cases hij:i=j
     ·subst hij;simp
     ·have h1:¬(⟨E.β m,E.σ m+i,none⟩:Addr)=⟨E.β m,E.σ m+j,none⟩:=by simp;exact hij
      rw[beq_eq_false_iff_ne.2 h1];cases hb:Nat.beq i j with
      |true=>exact absurd (yf hb) hij
      |false=>rfl
   ·simp at hb
  ·simp at hb
 ·rename_i e hu;simp only[Sem.run_bind,run_underlying hu,Result.andThen_ok];split at hb
  ·rename_i _ _ b' _ _;simp at hb;subst hb;cases b' with
   |none=>rw[cF,cF];rfl
   |some a=>rw[cF,bQ];rfl
  ·simp at hb;subst hb;rw[bQ,cF];rfl
  ·simp at hb
 ·rename_i e hu;simp only[Sem.run_bind,run_underlying hu,Result.andThen_ok];split at hb
  ·rename_i b';simp at hb;subst hb;cases b' with
   |none=>rw[gJ];rfl
   |some a=>rw[gJ,mC];rfl
  ·simp at hb;subst hb;rw[gJ,mC];rfl
  ·simp at hb
 ·rename_i e hu;simp only[Sem.run_bind,run_underlying hu,Result.andThen_ok];split at hb
  ·simp at hb;subst hb;rw[j6];rfl
  ·simp at hb;subst hb;rw[j6,gW];rfl
  ·simp at hb;subst hb;rw[j6,gW];rfl
  ·simp at hb
 ·rename_i ms hu;simp only[Sem.run_bind,run_underlying hu,Result.andThen_ok];split at hb
  ·simp at hb;subst hb;rw[jK,pY];rfl
  ·rename_i tx k n ty k' n';split at hb
   ·rename_i i kk hi hk;simp only[yb,ya,yd,decide_eq_true_eq]at hb;obtain⟨⟨h1,h2,h3⟩,rfl⟩:=hb;have h1:tx=ty:=yf h1;subst h1;subst h3;rw[jK,jK,fZ,fZ];have hti:(typeInfo tx).run P w=.ok i w:=by simp[typeInfo,hi]
    have hin:(Op.equalIn 9999 tx (.int k n) (.int k n')).run P w=.ok (n==n') w:=by
     show(Op.equalIn (9998+1) tx _ _).run P w=_;unfold Op.equalIn;simp only[Sem.run_bind,run_underlying hk,Result.andThen_ok];simp
    simp only[ne_eq,not_true_eq_false,if_false,Sem.run_bind,hti,Result.andThen_ok,h2,Bool.not_true,ym];exact hin
   ·simp at hb
  ·simp at hb
 ·simp at hb
theorem F8{x:Value}{n:Nat}(hb:YL x=some n)(w:World):(Builtin.lenOf (aN E x)).run P w=.ok n w:=by
 cases x with
 |slice a l c =>
  simp[YL]at hb;subst hb;cases a with
  |none=>rw[cF];rfl
  |some a=>rw[bQ];rfl
 |string s=>simp[YL]at hb;subst hb;rw[eJ];rfl
 | _=>simp[YL]at hb
theorem nD(H:aW P E A h w){s n:Nat}{x:Value}{cs:List Value}(hb:zD h s n x=some cs) :
  (Builtin.firstCells s n (aN E x)).run P w=.ok (cs.map (aN E)).toArray w/\∀v∈cs,Sc A v:=by
 unfold zD at hb;split at hb
 ·simp at hb;subst hb;rw[cF];exact⟨rfl,by simp⟩
 ·rename_i m off len cap;rw[bQ];split at hb
  ·rename_i h0;simp at hb;subst hb;have h0:n*s=0:=by simpa using h0
   refine⟨?_,by simp⟩;simp only[Builtin.firstCells,h0];rfl
  ·split at hb
   ·rename_i c hc;simp only[yb,ya]at hb;obtain⟨hle,rfl⟩:=hb;obtain⟨h1,h2⟩:=oX H hc (ye hle);exact⟨by simpa only[Builtin.firstCells,cA.addr]using h1,h2⟩
   ·simp at hb
 ·rename_i b;simp only[ya]at hb;subst hb;rw[eJ];refine⟨?_,?_⟩
  ·simp only[Builtin.firstCells,Sem.run_pure]
   congr 1
   apply yl;rw[List.map_map,show(aN E ∘ fun x:UInt8=>Value.int IntKind.u8 ↑x.toNat)=fun x:UInt8=>Value.int IntKind.u8 ↑x.toNat from funext fun x=>fZ _ _ _];simp[ByteArray.data_extract]
  ·intro v hv;obtain⟨x,_,rfl⟩:=yw.1 hv;exact qS _ _ _
 ·simp at hb
end
section
variable{P:Program}{E:cA}{A:Nat->Prop}{h h':List (Nat×Obj)}{nx:Nat}{w w':World}
theorem vV{sT xT e ty:TypeId}{xd:TypeDesc}{ti:TypeInfo}{z x:Value}{base:Option Addr}{len capC n:Nat}{old new:Array Value}
  (hs:P.underlying sT=some (.slice e)) (hx:P.underlying xT=some xd) (hxd:vK xd=false) (hi:P.info? e=some ti) (hz:ti.zero=some z)
  (hn:∀w:World,(Builtin.lenOf x).run P w=.ok n w) (hold:∀w':World,w'.heap=w.heap->(Builtin.firstCells ti.size len (.slice base len capC)).run P w'=.ok old w') (hnew:∀w':World,w'.heap=w.heap->(Builtin.firstCells ti.size n x).run P w'=.ok new w')
  (hneed:¬len+n<=capC) (hmax:len+n<=qE) (hbytes:ti.bytes<=65536) :
  ∃(k:Nat),len+n<=k /\
   (Builtin.append_ #[sT,xT] ty #[.slice base len capC,x]).run P w=.ok (.slice (some ⟨w.heap.size,0,none⟩) (len+n) k)
    ({ w with drawn:=w.drawn+1 }.alloc (.cells (old++new++Builtin.zeroCells z.cells (k-(len+n))) e)):=by
 have hle:=nextslicecap_le (need:=len+n) (old:=capC) (by omega);have hcap:¬Builtin.nextslicecap (len+n) capC*ti.bytes > 2 ^ 48:=by
  have h1:Builtin.nextslicecap (len+n) capC*ti.bytes<=(2*qE)*65536:=Nat.mul_le_mul (by omega) hbytes;have h2:(2*qE)*65536<=2 ^ 48:=by decide
  omega
 have hcap':¬281474976710656<Builtin.nextslicecap (len+n) capC*ti.bytes:=by simpa using hcap
 have hmaxI:¬(9223372036854775807<((len:Int)+(n:Int))):=by have:qE=1048576:=rfl;omega
 refine⟨len+n+(w.tape w.drawn (.appendCap (len+n) capC e)) % (2 ^ 63-(len+n)),by omega,?_⟩;have ho:=hold w.drew rfl;have hw:=hnew w.drew rfl;have hm2:IntKind.i64.max=9223372036854775807:=by decide
 simp[Builtin.append_,run_underlying hs,run_underlying hx,Go.sizeOf,typeInfo,zeroValue,hi,hz,hn,hneed,hcap',hm2,hmaxI,Question.forced,Question.cut,newRow];rw[if_neg (by cases xd<;>simp_all[vK])];rw[ho,Result.andThen_ok,if_pos (by cases xd<;>simp_all[vK]),hw,Result.andThen_ok];simp
theorem vW{sT xT e ty:TypeId}{xd:TypeDesc}{ti:TypeInfo}{x:Value}{a:Addr}{len capC n:Nat}{new:Array Value}
  (hs:P.underlying sT=some (.slice e)) (hx:P.underlying xT=some xd) (hxd:vK xd=false) (hi:P.info? e=some ti)
  (hn:∀w:World,(Builtin.lenOf x).run P w=.ok n w) (hnew:(Builtin.firstCells ti.size n x).run P w=.ok new w)
  (hneed:len+n<=capC) (hst:(storeCells (a.add (len*ti.size)) new.toList).run P w=.ok () w') :
  (Builtin.append_ #[sT,xT] ty #[.slice (some a) len capC,x]).run P w=.ok (.slice (some a) (len+n) capC) w':=by
 simp[Builtin.append_,run_underlying hs,run_underlying hx,Go.sizeOf,typeInfo,hi,hn,hneed];rw[if_neg (by cases xd<;>simp_all[vK]),if_pos (by cases xd<;>simp_all[vK]),hnew,Result.andThen_ok];simp[hst]
theorem DG{sT xT e ty:TypeId}{xd:TypeDesc}{ti:TypeInfo}{x:Value}{base:Option Addr}{len capC:Nat}
  (hs:P.underlying sT=some (.slice e)) (hx:P.underlying xT=some xd) (hxd:vK xd=false) (hi:P.info? e=some ti)
  (hn:∀w:World,(Builtin.lenOf x).run P w=.ok 0 w) (hnew:(Builtin.firstCells ti.size 0 x).run P w=.ok #[] w)
  (hneed:len<=capC) :
  (Builtin.append_ #[sT,xT] ty #[.slice base len capC,x]).run P w=.ok (.slice base len capC) w:=by
 simp[Builtin.append_,run_underlying hs,run_underlying hx,Go.sizeOf,typeInfo,hi,hn,hneed];rw[if_neg (by cases xd<;>simp_all[vK]),if_pos (by cases xd<;>simp_all[vK]),hnew,Result.andThen_ok];cases base<;>simp[storeCells]
theorem DH{h:List (Nat×Obj)}{s:Nat}{x:Value}{cs:List Value}(hb:zD h s 0 x=some cs):cs=[]:=by
 unfold zD at hb;split at hb
 ·simpa using hb.symm
 ·rw[if_pos (by simp)]at hb;simpa using hb.symm
 ·simpa using hb.symm
 ·simp at hb
theorem oC{B:Nat->Prop}{v:Value}(h:Sc A v):Sc (fun n=>A n\/B n) v:=iH (fun _ h=>.inl h) v h
theorem TP{m s k e fzh:Nat}{z:Array Value}{c:List Value}{n:Nat}(hm:jZ m=true)(hA:¬A m)(hs:gG P e=some s)(hz:z.size=s)(hsc:∀x∈c,Sc A x)
  (hc:c.length=n*s) (hk:n<=k) (b:Nat) :
  cV P (E.bind m b 0 k) m (.cells c.toArray e (0,fzh)) (.cells ((c.map (aN E)).toArray++Builtin.zeroCells z (k-n)) e):=by
 simp only[cV,hm,if_true];have hmul:n*s<=k*s:=Nat.mul_le_mul_right _ hk;have hzl:(Builtin.zeroCells z (k-n)).size=k*s-n*s:=by simp[Builtin.zeroCells,hz,Nat.sub_mul]
 refine⟨_,(0,0),s,rfl,hs,?_,?_,?_,?_,?_⟩
 ·intro i v hv;have hv:c[i]?=some v:=by simpa using hv
  have hi:i<c.length:=(yi.1 hv).1;simp only[cA.bind,if_true,yym];rw[Array.getElem?_append_left (by simpa using hi)];have:((c.map (aN E)).toArray)[i]?=some (aN E v):=by simp[hv]
  rw[this,<-fH (A:=A) (E:=E) (E':=E.bind m b 0 k) (fun n hn=>cA.bind_other E m _ _ _ n (fun e=>hA (e▸hn))) v (hsc v (yyd hv))];rfl
 ·simp[cA.bind,hzl,hc];omega
 ·simp[cA.bind,hc];exact hmul
 ·simp
 ·simp
theorem CG{e fzh s k n:Nat}{z:Array Value}{c:List Value}{h₀:List (Nat×Obj)}(H:aW P E A h w)(hev:nx % 2=0)(hA:∀n,A n->¬(nx<=n/\n<nx+2))
  (hs:gG P e=some s) (hz:z.size=s) (hsc:∀x∈c,Sc A x) (hc:c.length=n*s) (hk:n<=k) (h0:∀k x,aQ h₀ k=some x->aQ h k=some x) :
  bB P E A h nx w (E.bind (nx+1) w.heap.size 0 k) ((nx+1,.cells c.toArray e (0,fzh))::h₀) (nx+2) ({ w with drawn:=w.drawn+1 }.alloc (.cells ((c.map (aN E)).toArray++Builtin.zeroCells z (k-n)) e)) /\
  aN (E.bind (nx+1) w.heap.size 0 k) (.slice (some ⟨nx+1,0,none⟩) n 0)=.slice (some ⟨w.heap.size,0,none⟩) n k:=by
 refine⟨bB.drop (h':=(nx+1,.cells c.toArray e (0,fzh))::h) ?_ ?_,?_⟩
 ·refine bB.new H hA ⟨by omega,by omega⟩ (by intro x hx;exact hsc x (by simpa using hx)) (TP (n:=n) (s:=s) (z:=z) (mY hev) (fun h=>hA _ h ⟨by omega,by omega⟩) hs hz hsc hc hk _) ?_ rfl rfl rfl;simp[World.alloc]
 ·intro j x hj;by_cases he:nx+1=j
  ·subst he;simpa [aQ]using hj
  ·simp only[aQ]at hj⊢;rw[if_neg (by simpa using he)]at hj⊢;exact h0 j x hj
 ·rw[bQ];simp[cA.addr,cA.bind,mY hev]
theorem TQ{ti:TypeInfo}{m:Nat}(h:WS ti m=true):∃z,ti.zero=some z/\z.cells.size=ti.size/\0<ti.size/\m<=qE/\ti.bytes<=65536:=by
 unfold WS at h;split at h
 ·rename_i z hz;simp only[yd]at h;obtain⟨⟨⟨h1,h2⟩,h3⟩,h4⟩:=h;exact⟨z,hz,by simpa using h1,ye h2,ye h3,ye h4⟩
 ·simp at h
theorem KC{S S':St}(H:aW P E A S.heap w)(hev:S.next % 2=0){args:Array TypeId}{ty:TypeId}{s x v:Value}(hb:MJ P S args s x=some (v,S'))
  (hA:∀n,A n->¬(S.next<=n/\n<S'.next)) (hss:Sc A s) :
  ∃E' w',(Builtin.append_ args ty #[aN E s,aN E x]).run P w=.ok (aN E' v) w'/\bB P E A S.heap S.next w E' S'.heap S'.next w'/\Sc (fun n=>A n\/(S.next<=n/\n<S'.next)) v:=by
 unfold MJ at hb;split at hb
 ·rename_i sT xT hargs;obtain rfl:args=#[sT,xT]:=by apply yl;simpa using hargs
  split at hb
  ·rename_i e xd n hs hx hn;split at hb
   ·simp at hb
   ·rename_i hxd;have hxd:vK xd=false:=by simpa using hxd
    have hsu:=mX hs;split at hb
    ·rename_i ti base len cap hi;dsimp only at hb;split at hb
     ·simp at hb
     ·rename_i hg;have hg:WS ti (len+n)=true:=by simpa using hg
      obtain⟨z,hz,g4,g1,g2,g3⟩:=TQ hg;have hsz:gG P e=some ti.size:=by simp[gG,hi]
      split at hb
      ·simp at hb
      ·rename_i new hnew;split at hb
       ·simp at hb
       ·rename_i hlen;have hlen:new.length=n*ti.size:=by simpa using hlen
        have hnr:∀w':World,w'.heap=w.heap->(Builtin.firstCells ti.size n (aN E x)).run P w'=.ok (new.map (aN E)).toArray w':=fun w' hw=>(nD (H.world hw) hnew).1;have hnsc:=(nD H hnew).2;have hnl:∀w:World,(Builtin.lenOf (aN E x)).run P w=.ok n w:=fun w=>F8 hn w;split at hb
        ·
         simp only[yb,yd]at hb;obtain⟨⟨b1,b2⟩,hb⟩:=hb;obtain rfl:len=0:=by simpa using b1
         obtain rfl:cap=0:=by simpa using b2
         rw[cF];split at hb
         ·rename_i h0;obtain rfl:n=0:=by simpa using h0
          simp only[ya,yc]at hb;obtain⟨rfl,rfl⟩:=hb;refine⟨E,w,?_,bB.refl H,vT _ _ _⟩;rw[cF];refine DG hsu hx hxd hi hnl ?_ (yh _);have:=DH hnew;subst this;exact hnr w rfl
         ·rename_i h0;have h0:n≠0:=by simpa using h0
          split at hb
          ·rename_i hone;simp only[l6,ya,yc]at hb;obtain⟨rfl,rfl⟩:=hb;obtain⟨k,hk,hrun⟩:=vV (P:=P) (w:=w) (ty:=ty) (base:=none) (len:=0) (capC:=0) (old:=#[]) hsu hx hxd hi hz hnl (fun _ _=>rfl) hnr (by omega) g2 g3;obtain⟨p1,p2⟩:=CG (e:=e) (fzh:=0) (n:=n) H hev hA hsz g4 hnsc hlen (k:=k) (by omega) (h₀:=S.heap) (fun _ _ h=>h);rw[Array.empty_append,yym]at hrun;exact⟨_,_,by rw[hrun,p2],p1,by rw[dX];exact .inr ⟨by dsimp only;omega,by dsimp only;omega⟩⟩
          ·simp at hb
        ·rename_i b off;rw[bQ];have hAb:A b:=(dX A _ _ _).1 hss;split at hb
         ·rename_i hrow;simp only[hrow,if_true];split at hb
          ·rename_i c e' fz hg;split at hb
           ·simp at hb
           ·rename_i hchk;simp only[Bool.not_eq_true,Bool.not_eq_false',yd]at hchk;obtain⟨⟨q1,q2⟩,q3⟩:=hchk;have q1:=ye q1;obtain rfl:e'=e:=by simpa using q2
            have q3:off=cap*ti.size:=by simpa using q3
            obtain⟨_,hcsc,oc,hoc,hr⟩:=H.blk b _ hg;have hrel:=hr;simp only[cV,hrow,if_true]at hr;obtain⟨cc,fzc,s',rfl,r2,r3,r4,r5,r6,r7⟩:=hr;rw[hsz]at r2;obtain rfl:=yg r2;have hlk:cap+len<=E.κ b:=by
             have:(cap+len)*ti.size<=E.κ b*ti.size:=by rw[Nat.add_mul];omega
             exact Nat.le_of_mul_le_mul_right this g1
            split at hb
            ·rename_i h0;obtain rfl:n=0:=by simpa using h0
             simp only[ya,yc]at hb;obtain⟨rfl,rfl⟩:=hb;refine⟨E,w,?_,bB.refl H,oC hss⟩;rw[bQ];simp only[hrow,if_true];refine DG hsu hx hxd hi hnl ?_ (by omega);have:=DH hnew;subst this;exact hnr w rfl
            ·rename_i h0;split at hb
             ·rename_i hin;have hin:=ye hin;split at hb
              ·rename_i h' hst;simp only[ya,yc]at hb;obtain⟨rfl,rfl⟩:=hb;obtain⟨w',hw1,hw2⟩:=jR (P:=P) H hst hnsc S.next;have hneed:len+n<=E.κ b-cap:=by
                have:(cap+(len+n))*ti.size<=E.κ b*ti.size:=by rw[Nat.add_mul];omega
                have:=Nat.le_of_mul_le_mul_right this g1;omega
               refine⟨E,w',?_,hw2,?_⟩
               ·rw[bQ];simp only[hrow,if_true];refine vW hsu hx hxd hi hnl (hnr w rfl) hneed ?_;simp only[cA.addr,jE];rw[yx];simpa using hw1
               ·rw[dX];exact .inl hAb
              ·simp at hb
             ·rename_i hin;have hin:¬off+(len+n)*ti.size<=c.size:=fun h=>hin (Nat.ble_eq_true_of_le h);simp only[yb,yd]at hb;obtain⟨⟨⟨hone,hfz⟩,hfz1⟩,hb⟩:=hb;have hfz:=ye hfz;have hfz1:fz.1=0:=by simpa using hfz1
              simp only[l6,ya,yc]at hb;obtain⟨rfl,rfl⟩:=hb;have hcl:cellsOf S.heap b=some c.toList:=by simp[cellsOf,hg]
              obtain⟨k1,k2⟩:=oX (P:=P) H hcl (off:=off) (k:=len*ti.size) (by simpa using q1);have hkl:((c.toList.drop off).take (len*ti.size)).length=len*ti.size:=by simp;omega
              generalize hkeep:(c.toList.drop off).take (len*ti.size)=keep at *;have hall:∀x∈keep++new,Sc A x:=fun x hx=>(yy.1 hx).elim (k2 x) (hnsc x);have hallen:(keep++new).length=(len+n)*ti.size:=by simp[hkl,hlen,Nat.add_mul]
              have hsub:∀k x,aQ (J8 S.heap b) k=some x->aQ S.heap k=some x:=fun k x hk=>(xV _ _ _ _ hk).2;by_cases hneed:len+n<=E.κ b-cap
              ·
               have hfit:off+(len+n)*ti.size<=E.κ b*ti.size:=by
                have:(cap+(len+n))*ti.size<=E.κ b*ti.size:=Nat.mul_le_mul_right _ (by omega);rw[Nat.add_mul]at this;omega
               have hmul:(len+n)*ti.size=len*ti.size+n*ti.size:=Nat.add_mul _ _ _
               have hst := mN (P := P) (E.β b) (E.σ b + off + len * ti.size) e' fzc (new.map (aN E)) 0 cc w hoc (fun j hj1 hj2 => by
                 have:=r6 (j-E.σ b) (by omega) (by simp at hj2;omega);rw[show E.σ b+(j-E.σ b)=j by omega]at this;exact this) (by simp;omega) (fun v hv=>by
                 obtain⟨x,hx,rfl⟩:=yw.1 hv;rw[<-DF,WY];exact F4 hone x hx)
               have hget:∀i,(cc.toList.take (E.σ b+off+len*ti.size+0)++new.map (aN E)++cc.toList.drop (E.σ b+off+len*ti.size+0+(new.map (aN E)).length))[i]?=if i<E.σ b+off+len*ti.size then cc.toList[i]? else if i<E.σ b+off+len*ti.size+new.length then(new.map (aN E))[i-(E.σ b+off+len*ti.size)]? else cc.toList[i]?:=by
                intro i;have:=WZ cc.toList (new.map (aN E)) (E.σ b+off+len*ti.size) i (by simp;omega);simpa using this
               have hncl:(cc.toList.take (E.σ b+off+len*ti.size+0)++new.map (aN E)++cc.toList.drop (E.σ b+off+len*ti.size+0+(new.map (aN E)).length)).length=cc.size:=by simp;omega
               generalize cc.toList.take (E.σ b+off+len*ti.size+0)++new.map (aN E)++cc.toList.drop (E.σ b+off+len*ti.size+0+(new.map (aN E)).length)=nc at *;have hm1:¬A (S.next+1):=fun h=>hA _ h ⟨by omega,by dsimp only;omega⟩;have hagr:kR A E (E.bind (S.next+1) (E.β b) (E.σ b+off) (E.κ b-cap)):=fun n hn=>cA.bind_other E _ _ _ _ n (fun e=>hm1 (e▸hn));refine⟨E.bind (S.next+1) (E.β b) (E.σ b+off) (E.κ b-cap),w.setRow (E.β b) nc.toArray,?_,?_,by rw[dX];exact .inr ⟨by dsimp only;omega,by dsimp only;omega⟩⟩
               ·have hr:=vW (ty:=ty) hsu hx hxd hi hnl (hnr w rfl) hneed (a:=E.addr ⟨b,off,none⟩) (w':=w.setRow (E.β b) nc.toArray) (by
                 simp only[cA.addr,jE];simpa using hst)
                rw[hr,bQ];simp[cA.addr,cA.bind,mY hev]
               ·refine bB.put (m:=S.next+1) (b:=E.β b) (o':=.cells (keep++new).toArray e' (0,fz.2-off)) (oc':=.cells nc.toArray e' fzc) H (by dsimp only;omega) (by dsimp only;omega) (fun k hk=>cA.bind_other E _ _ _ _ k (by dsimp only at hk;omega)) (fun k hk=>(cA.bind_other E _ _ _ _ k hk).1) hA
                 (.inr ⟨by omega,by dsimp only;omega⟩) (by simp[cA.bind]) ?_ (fun x hx=>oC (hall x (by simpa using hx))) ?_ (setRow_heap w _ cc _ e' fzc hoc) (fun k hk _=>setRow_other w _ k _ hk) (by simp) rfl rfl rfl (.inl ⟨b,_,hg,rfl⟩)
                ·intro k x hk;simp only[aQ]at hk;by_cases he:S.next+1=k
                 ·subst he;rw[if_pos (by simp)]at hk;exact .inl ⟨rfl,(yg hk).symm⟩
                 ·rw[if_neg (by simpa using he)]at hk;obtain⟨d1,d2⟩:=xV _ _ _ _ hk;exact .inr ⟨fun e=>he e.symm,d2,fun e=>d1 (H.inj k b _ _ d2 hg e)⟩
                ·simp only[cV,mY hev,if_true];refine⟨nc.toArray,fzc,ti.size,rfl,hsz,?_,?_,?_,?_,?_⟩
                 ·intro i v hv;have hv:(keep++new)[i]?=some v:=by simpa using hv
                  have hren:aN (E.bind (S.next+1) (E.β b) (E.σ b+off) (E.κ b-cap)) v=aN E v:=fH hagr v (hall v (yyd hv));rw[hren];simp only[cA.bind,if_true];have hg2:=hget (E.σ b+off+i);by_cases hi1:i<len*ti.size
                  ·rw[if_pos (by omega)]at hg2;rw[yyf (by omega),<-hkeep,List.getElem?_take,if_pos hi1,List.getElem?_drop]at hv;have:=r3 (off+i) v (by simpa using hv);rw[<-yx]at this;simp only[Array.getElem?_toList]at hg2;simpa using hg2.trans this
                  ·rw[if_neg (by omega)]at hg2;rw[yyc (by omega)]at hv;have hi2:=(yi.1 hv).1;rw[if_pos (by omega),yyl,show E.σ b+off+i-(E.σ b+off+len*ti.size)=i-keep.length by omega,hv]at hg2;simpa using hg2
                 ·have:(E.κ b-cap)*ti.size=E.κ b*ti.size-cap*ti.size:=Nat.sub_mul _ _ _;simp only[cA.bind,if_true,List.size_toArray,hncl];omega
                 ·have:(E.κ b-cap)*ti.size=E.κ b*ti.size-cap*ti.size:=Nat.sub_mul _ _ _;simp only[cA.bind,if_true,List.size_toArray,hallen];omega
                 ·intro o' ho1 ho2;have:(E.κ b-cap)*ti.size=E.κ b*ti.size-cap*ti.size:=Nat.sub_mul _ _ _;simp only[cA.bind,if_true]at ho2⊢;have:=r6 (off+o') (by omega) (by omega);rw[<-yx]at this;exact this
                 ·intro _;simp only[cA.bind,if_true];rcases r7 hfz1 with h|h
                  ·exact .inl h
                  ·exact .inr (by omega)
              ·have hold:∀w':World,w'.heap=w.heap->(Builtin.firstCells ti.size len (.slice (some (E.addr ⟨b,off,none⟩)) len (E.κ b-cap))).run P w'=.ok (keep.map (aN E)).toArray w':=by
                intro w' hw;simp only[Builtin.firstCells,cA.addr];obtain⟨k1',_⟩:=oX (P:=P) (H.world hw) hcl (off:=off) (k:=len*ti.size) (by simpa using q1);rw[hkeep]at k1';exact k1'
               obtain⟨k,hk,hrun⟩:=vV (P:=P) (w:=w) (ty:=ty) hsu hx hxd hi hz hnl hold hnr hneed g2 g3;obtain⟨p1,p2⟩:=CG (e:=e') (fzh:=fz.2-off) (n:=len+n) H hev hA hsz g4 hall hallen (k:=k) hk (h₀:=J8 S.heap b) hsub;have hcat:(keep.map (aN E)).toArray++(new.map (aN E)).toArray=((keep++new).map (aN E)).toArray:=by simp
               rw[hcat]at hrun;exact⟨_,_,hrun.trans (by rw[p2]),p1,by rw[dX];exact .inr ⟨by dsimp only;omega,by dsimp only;omega⟩⟩
          ·simp at hb
         ·rename_i hrow;simp only[hrow];split at hb
          ·rename_i hin;have hin:=ye hin;split at hb
           ·rename_i h' hst;simp only[ya,yc]at hb;obtain⟨rfl,rfl⟩:=hb;obtain⟨w',hw1,hw2⟩:=jR (P:=P) H hst hnsc S.next;refine⟨E,w',?_,hw2,?_⟩
            ·rw[bQ];simp only[hrow];refine vW hsu hx hxd hi hnl (hnr w rfl) hin ?_;simp only[cA.addr,jE];rw[yx];simpa using hw1
            ·rw[dX];exact .inl hAb
           ·simp at hb
          ·rename_i hin;have hin:¬len+n<=cap:=fun h=>hin (Nat.ble_eq_true_of_le h);split at hb
           ·rename_i old hold;simp only[yb,yd]at hb;obtain⟨⟨hone,hol⟩,hb⟩:=hb;have hol:old.length=len*ti.size:=by simpa using hol
            simp only[l6,ya,yc]at hb;obtain⟨rfl,rfl⟩:=hb;have hosc:=(nD H hold).2;have hall:∀x∈old++new,Sc A x:=fun x hx=>(yy.1 hx).elim (hosc x) (hnsc x);have hallen:(old++new).length=(len+n)*ti.size:=by simp[hol,hlen,Nat.add_mul]
            have hold':∀w':World,w'.heap=w.heap->(Builtin.firstCells ti.size len (.slice (some (E.addr ⟨b,off,none⟩)) len cap)).run P w'=.ok (old.map (aN E)).toArray w':=by
             intro w' hw;have:=(nD (P:=P) (H.world hw) hold).1;rw[bQ]at this;simpa [hrow]using this
            obtain⟨k,hk,hrun⟩:=vV (P:=P) (w:=w) (ty:=ty) hsu hx hxd hi hz hnl hold' hnr hin g2 g3;obtain⟨p1,p2⟩:=CG (e:=e) (fzh:=0) (n:=len+n) H hev hA hsz g4 hall hallen (k:=k) hk (h₀:=S.heap) (fun _ _ h=>h);have hcat:(old.map (aN E)).toArray++(new.map (aN E)).toArray=((old++new).map (aN E)).toArray:=by simp
            rw[hcat]at hrun;exact⟨_,_,hrun.trans (by rw[p2]),p1,by rw[dX];exact .inr ⟨by dsimp only;omega,by dsimp only;omega⟩⟩
           ·simp at hb
        ·simp at hb
    ·simp at hb
  ·simp at hb
 ·simp at hb
end
section
variable{P:Program}{E:cA}{A:Nat->Prop}{h h':List (Nat×Obj)}{nx:Nat}{w w':World}
theorem QK(l:List Value)(hl:0<l.length):∀n i,(tE n l)[i]?=if i<n*l.length then l[i % l.length]? else none
 |0,i=>by simp[tE]
 |n+1,i=>by
  simp only[tE];by_cases h1:i<l.length
  ·rw[yyf h1,if_pos (by rw[Nat.add_mul];omega),Nat.mod_eq_of_lt h1]
  ·rw[yyc (by omega),QK l hl n];by_cases h2:i-l.length<n*l.length
   ·rw[if_pos h2,if_pos (by rw[Nat.add_mul];omega)]
    congr 1
    rw[Nat.mod_eq_sub_mod (by omega:i ≥ l.length)]
   ·rw[if_neg h2,if_neg (by rw[Nat.add_mul];omega)]
theorem QL(z:Array Value)(n:Nat)(hz:0<z.size):(Array.range (n*z.size)).map (fun i=>z[i % z.size]!)=(tE n z.toList).toArray:=by
 apply yl;apply List.ext_getElem?;intro i;have hm:i % z.size<z.size:=Nat.mod_lt _ hz;rw[QK z.toList (by simpa using hz)];simp only[yyj,Array.toList_range,yyl,Array.length_toList];by_cases hi:i<n*z.size
 ·rw[if_pos hi];simp[hi,hm]
 ·rw[if_neg hi];simp[hi]
theorem vX(off:Nat):∀(l:List Value)(k:Nat)(cs:Array Value)(i:Nat),off+k+l.length<=cs.size ->
  ((l.zipIdx k).foldl (fun cs (x:Value×Nat)=>cs.setIfInBounds (off+x.2) x.1) cs)[i]?=if off+k<=i/\i<off+k+l.length then l[i-(off+k)]? else cs[i]?
 | [],k,cs,i,h=>by simp;intro h1 h2;omega
 |v::l,k,cs,i,h=>by
  simp only[List.zipIdx_cons,List.foldl_cons];simp only[List.length_cons]at h;rw[vX off l (k+1) _ i (by simp;omega)];by_cases h1:off+(k+1)<=i/\i<off+(k+1)+l.length
  ·rw[if_pos h1,if_pos (by simp only[List.length_cons];omega),show i-(off+k)=(i-(off+(k+1)))+1 by omega];rfl
  ·rw[if_neg h1,Array.getElem?_setIfInBounds];by_cases h2:off+k=i
   ·subst h2;rw[if_pos rfl,if_pos (by omega),if_pos (by simp only[List.length_cons];omega)];simp
   ·rw[if_neg h2,if_neg (by simp only[List.length_cons];omega)]
theorem TR(off:Nat)(c cs:Array Value)(h:off+c.size<=cs.size):c.zipIdx.foldl (fun cs (c,j)=>cs.setIfInBounds (off+j) c) cs=(pX cs.toList off c.toList).toArray:=by
 apply yl;apply List.ext_getElem?;intro i;have h1:=vX off c.toList 0 cs i (by simpa using h);rw[AS cs.toList off c.toList (by simpa using h)];rw[<-Array.foldl_toList,Array.toList_zipIdx];simp only[Nat.add_zero,Array.length_toList]at h1⊢;rw[Array.getElem?_toList,h1];by_cases g1:i<off
 ·rw[if_neg (by omega),if_pos g1];simp
 ·rw[if_neg g1];by_cases g2:i<off+c.size
  ·rw[if_pos ⟨by omega,g2⟩,if_pos g2]
  ·rw[if_neg (by omega),if_neg g2];simp
theorem F9(s:Nat):∀(ps:List (Nat×Value))(c r:List Value),PV s c ps=some r->Instr.fill (fun i=>some (i*s,s)) c.toArray ps=some r.toArray/\r.length=c.length
 | [],c,r,h=>by simp[PV]at h;subst h;exact⟨rfl,rfl⟩
 |(i,v)::ps,c,r,h=>by
  simp only[PV,yb,yd]at h;obtain⟨⟨h1,h2⟩,h3⟩:=h;have h1:v.cells.size=s:=by simpa using h1
  have h2:=ye h2;obtain⟨k1,k2⟩:=F9 s ps _ r h3;simp only[Instr.fill];rw[if_neg (by simp;omega),TR _ _ _ (by simp;omega)];refine⟨by simpa using k1,k2.trans (DE _ _ _ (by simp;omega))⟩
theorem CH{S S':St}{tm:List Value}(H:aW P E A S.heap w)(hev:S.next % 2=0){t:TypeId}{n:Nat}{ps:Array (Nat×Operand)}{v:Value}(hb:mV P tm S t n ps=some (v,S'))
  (hA:∀n,A n->¬(S.next<=n/\n<S'.next)) (hsc:∀p∈mL tm ps,Sc A p.2) :
  ∃E' w',(Instr.buildSlice t n ((mL tm ps).map (KA E))).run P w=.ok (aN E' v) w'/\bB P E A S.heap S.next w E' S'.heap S'.next w'/\Sc (fun n=>A n\/(S.next<=n/\n<S'.next)) v:=by
 unfold mV at hb;split at hb
 ·rename_i e he;split at hb
  ·rename_i s z hs hz;simp only[yb,yd]at hb;obtain⟨⟨⟨⟨h1,h2⟩,h3⟩,h4⟩,hb⟩:=hb;have h1:z.cells.size=s:=by simpa using h1
   have h2:=ye h2;have h3:0<s:=ye h3;split at hb
   ·rename_i cs hf;simp only[eR,ya,yc]at hb;obtain⟨rfl,rfl⟩:=hb;obtain⟨f1,f2⟩:=F9 s _ _ _ hf;have hplain:eB (tE n z.cells.toList)=true:=by
     have:∀n,eB (tE n z.cells.toList)=true:=by
      intro n
      induction n with
      |zero=>rfl
      |succ n ih =>
       have happ:∀a b:List Value,eB a=true->eB b=true->eB (a++b)=true:=by
        intro a b ha hb
        induction a with
        |nil=>exact hb
        |cons x a iha=>simp[eB]at ha⊢;exact⟨ha.1,iha ha.2⟩
       exact happ _ _ h4 ih
     exact this n
    have hzr:=F5 E (fun i=>some (i*s,s)) (mL tm ps).toList (tE n z.cells.toList).toArray;rw[sN E (by simpa using hplain),f1]at hzr;have hcsc:∀x∈cs.toArray,Sc A x:=M1 (A:=A) _ _ _ _ (fun x hx=>qF A (fC hplain x (by simpa using hx))) (fun p hp=>hsc p (by simpa using hp)) f1;obtain⟨E',w',n1,n2⟩:=nB (P:=P) H hev hA cs.toArray e hcsc;refine⟨E',w',?_,n2,by rw[dX];exact .inr ⟨yh _,by dsimp only;omega⟩⟩;have hpl:((mL tm ps).map (KA E)).toList=(mL tm ps).toList.map fun x=>(x.1,aN E x.2):=by simp[KA]
    have hzz:∀w:World,(zeroValue e).run P w=.ok z w:=fun w=>CD hz w;have hbig:¬(n*s > 2 ^ 24):=by omega
    rw[bQ];have hcells:Instr.fill (fun i=>some (i*s,s)) ((Array.range (n*s)).map (fun i=>(if n*s=0 then #[]else z.cells)[i % (if n*s=0 then #[]else z.cells:Array Value).size]!)) ((mL tm ps).map (KA E)).toList=some (cs.toArray.map (aN E)):=by
     by_cases h0:n*s=0
     ·have hn0:n=0:=by rcases Nat.mul_eq_zero.1 h0 with h|h;exact h;omega
      subst hn0;rw[hpl];have h00:(Array.range (0*s)).map (fun i=>(if 0*s=0 then #[]else z.cells)[i % (if 0*s=0 then #[]else z.cells:Array Value).size]!)=#[]:=by
       apply yl;simp
      rw[h00];simpa [tE]using hzr
     ·rw[if_neg h0,<-h1,QL z.cells n (by omega),h1,hpl];simpa using hzr
    simp only[Instr.buildSlice,Sem.run_bind,run_underlying (mX he),Result.andThen_ok,fJ hs,hbig,if_false,Sem.run_pure,Sem.run_ite,hzz];by_cases h0:n*s=0
    ·rw[if_pos h0]at hcells⊢;simp only[Result.andThen_ok,hcells,Sem.run_bind,n1,Sem.run_pure,tZ hev,ym,if_false]
    ·rw[if_neg h0]at hcells⊢;simp only[Result.andThen_ok,hcells,Sem.run_bind,n1,Sem.run_pure,tZ hev,ym,if_false]
   ·simp at hb
  ·simp at hb
 ·simp at hb
end
section
variable{P:Program}{E:cA}{A:Nat->Prop}{h h':List (Nat×Obj)}{nx:Nat}{w w':World}
theorem EX{S S':St}(H:aW P E A S.heap w)(hev:S.next % 2=0){t:TypeId}{l c v:Value}(hb:zE P S t l c=some (v,S'))
  (hA:∀n,A n->¬(S.next<=n/\n<S'.next)) :
  ∃E' w',(Instr.makeSlice t (aN E l) (aN E c)).run P w=.ok (aN E' v) w'/\bB P E A S.heap S.next w E' S'.heap S'.next w'/\Sc (fun n=>A n\/(S.next<=n/\n<S'.next)) v:=by
 unfold zE at hb;split at hb
 ·rename_i e he;split at hb
  ·rename_i ti l' c' hi hl hc;split at hb
   ·rename_i z hz;simp only[yb,yd]at hb;obtain⟨⟨⟨⟨⟨⟨⟨h1,h2⟩,h3⟩,h4⟩,h5⟩,h6⟩,h7⟩,hb⟩:=hb;have h1:=ye h1;have h2:=ye h2;have h3:=ye h3;have h4:=ye h4;have h5:z.cells.size=ti.size:=by simpa using h5
    have h6:0<ti.size:=ye h6;simp only[eR,ya,yc]at hb;obtain⟨rfl,rfl⟩:=hb;obtain⟨kl,_,hl⟩:=j8 (E:=E) hl;obtain⟨kc,_,hc⟩:=j8 (E:=E) hc;have hbytes:(ti.bytes:Int)*(c':Int)<=281474976710656:=by
     have:ti.bytes*c'<=65536*1048576:=Nat.mul_le_mul h3 h2;have h:((ti.bytes*c':Nat):Int)<=281474976710656:=by omega
     rwa[Int.natCast_mul]at h
    have hr:=run_makeSlice (P:=P) w t e ti z (mX he) hi hz kl kc l' c' (by omega) (by omega) (by simpa using h4) hbytes (by omega);have hcl:∀x∈(tE c' z.cells.toList).toArray,iB x=true:=by
     intro x hx;have hx:x∈tE c' z.cells.toList:=by simpa using hx
     have key:∀n,x∈tE n z.cells.toList->x∈z.cells.toList:=by
      intro n
      induction n with
      |zero=>simp[tE]
      |succ n ih=>intro h;rcases yy.1 h with h|h;exact h;exact ih h
     exact fC h7 x (key _ hx)
    obtain⟨E',w',n1,n2⟩:=nB (P:=P) H hev hA (tE c' z.cells.toList).toArray e (fun x hx=>qF A (hcl x hx));have hmc:madeCells z.cells (c'*ti.size)=(tE c' z.cells.toList).toArray:=by
     rw[<-h5,<-QL z.cells c' (by omega)];rfl
    have hmap:(tE c' z.cells.toList).toArray.map (aN E)=(tE c' z.cells.toList).toArray:=by
     have:=yn (xs:=(tE c' z.cells.toList).toArray) (f:=aN E) (g:=id) (fun x hx=>tX E (hcl x hx));simpa using this
    rw[hmap]at n1;simp only[newRow,Sem.run_bind,run_newObj,Result.andThen_ok,Sem.run_pure,Result.ok.injEq]at n1;obtain⟨n1,n3⟩:=n1;refine⟨E',w',?_,n2,by rw[dX];exact .inr ⟨yh _,by dsimp only;omega⟩⟩;simp only[Int.toNat_natCast]at hr;rw[hl,hc,hr,hmc,bQ,<-n1];simp only[tZ hev,ym,if_false];rw[<-n3];rfl
   ·simp at hb
  ·simp at hb
 ·simp at hb
theorem TS{S S':St}(H:aW P E A S.heap w){args:Array TypeId}{ty:TypeId}{d s v:Value}(hb:WT P S args d s=some (v,S')) :
  ∃w',(Builtin.copy_ args ty #[aN E d,aN E s]).run P w=.ok (aN E v) w'/\bB P E A S.heap S.next w E S'.heap S'.next w'/\Sc A v:=by
 unfold WT at hb;split at hb
 ·rename_i dT rest hargs;have hd0:args[0]?=some dT:=by
   have:args.toList[0]?=some dT:=by rw[hargs];rfl
   simpa using this
  split at hb
  ·rename_i e base dl cap sl he hl;split at hb
   ·simp at hb
   ·rename_i s' hs;dsimp only at hb;split at hb
    ·simp at hb
    ·rename_i cs hf;have hmin:(if Nat.ble sl dl=true then sl else dl)=Nat.min sl dl:=by
      by_cases h:sl<=dl
      ·rw[if_pos (Nat.ble_eq_true_of_le h)];exact(Nat.min_eq_left h).symm
      ·rw[if_neg (by simpa using h)];exact(Nat.min_eq_right (by omega)).symm
     rw[hmin]at hf hb;obtain⟨f1,f2⟩:=nD H hf;have hln:=F8 (P:=P) (E:=E) hl;split at hb
     ·simp only[yb,ya,yc]at hb;obtain⟨h0,rfl,rfl⟩:=hb;have h0:Nat.min sl dl=0:=by simpa using h0
      rw[h0]at f1;refine⟨w,?_,bB.refl H,qS _ _ _⟩;rw[cF,fZ];simp only[Builtin.copy_,hd0,List.getElem?_toArray,List.getElem?_cons_zero,List.getElem?_cons_succ,Sem.run_bind,run_underlying (mX he),Result.andThen_ok,hln,fJ hs,f1,Sem.run_pure,goInt,h0];rfl
     ·rename_i b off;split at hb
      ·rename_i h' hst;simp only[ya,yc]at hb;obtain⟨rfl,rfl⟩:=hb;obtain⟨w',g1,g2⟩:=jR (P:=P) H hst f2 S.next;refine⟨w',?_,g2,qS _ _ _⟩;rw[bQ,fZ];simp only[Builtin.copy_,hd0,List.getElem?_toArray,List.getElem?_cons_zero,List.getElem?_cons_succ,Sem.run_bind,run_underlying (mX he),Result.andThen_ok,hln,fJ hs,f1,Sem.run_pure,goInt,cA.addr,g1]
      ·simp at hb
     ·simp at hb
  ·simp at hb
 ·simp at hb
theorem jS:∀{l:List Value}{b:List UInt8},kH l=some b->l=b.map fun x=>.int .u8 x.toNat
 | [],b,h=>by simp[kH]at h;subst h;rfl
 |v::r,b,h=>by
  unfold kH at h;split at h
  ·simp at *
  ·rename_i n r' heq;simp at heq;obtain⟨rfl,rfl⟩:=heq;split at h
   ·rename_i l hl;simp only[yb,ya]at h;obtain⟨⟨h0,h1⟩,rfl⟩:=h;have:=jS hl;simp only[yyn,<-this]
    congr 2
    have:n.toNat<256:=by omega
    simp[Nat.toUInt8,UInt8.toNat_ofNat',Nat.mod_eq_of_lt this,Int.toNat_of_nonneg h0]
   ·simp at h
  ·simp at h
theorem YQ(E:cA)(b:List UInt8):(b.map fun x=>Value.int .u8 x.toNat).map (aN E)=b.map fun x=>Value.int .u8 x.toNat:=by
 rw[List.map_map];exact yp fun x _=>fZ _ _ _
theorem GA(H:aW P E A h w){x v:Value}(hb:xN h x=some v) :
  (Conv.bytesToString (aN E x)).run P w=.ok (aN E v) w/\Sc A v:=by
 unfold xN at hb;split at hb
 ·simp at hb;subst hb;rw[cF,eJ];exact⟨rfl,oH _ _⟩
 ·rename_i n off len cap;split at hb
  ·rename_i c hc;split at hb
   ·rename_i hle;split at hb
    ·rename_i l hl;simp only[ya]at hb;subst hb;rw[bQ,eJ];refine⟨?_,oH _ _⟩;obtain⟨g1,_⟩:=oX (P:=P) H hc (off:=off) (k:=len) (ye hle);rw[jS hl,YQ]at g1;have:=run_bytesToString (P:=P) w ⟨E.β n,E.σ n+off,none⟩ len (if jZ n=true then E.κ n-cap else cap) (l.map fun x=>(x.toNat:Int)) (by rw[g1,List.map_map];rfl);simp only[cA.addr];rw[this,foldl_push_bytes]
     congr 2
     apply ByteArray.ext;simp[ByteArray.empty,ByteArray.emptyWithCapacity];show []++_=l;rw[List.nil_append]
     conv=>rhs;rw[<-List.map_id l]
     exact yp fun x _=>by simp
    ·simp at hb
   ·simp at hb
  ·simp at hb
 ·simp at hb
theorem DJ(w:World)(a:Addr)(n:Nat)(hn:n≠0){cc:Array Value}{e:TypeId}{fz:Nat×Nat}(hg:w.heap[a.block]?=some (.cells cc e fz)) :
  (w.freeze a n).heap[a.block]?=some (.cells cc e (if fz.1==fz.2 then(a.off,a.off+n)else(min fz.1 a.off,max fz.2 (a.off+n))))/\(∀k,k≠a.block->(w.freeze a n).heap[k]?=w.heap[k]?)/\(w.freeze a n).heap.size=w.heap.size:=by
 obtain⟨lo,hi⟩:=fz;unfold World.freeze;rw[if_neg hn];refine⟨?_,?_,?_⟩
 ·simp[Array.getElem?_modify,hg]
 ·intro k hk;simp[Array.getElem?_modify,Ne.symm hk]
 ·simp
def sP(s:ByteArray)(k:Nat):Array Value:=(s.data.map fun b:UInt8=>Value.int .u8 b.toNat)++Array.replicate (k-s.size) (Value.int .u8 0)
theorem KD{S:St}(H:aW P E A S.heap w)(hev:S.next % 2=0)(hA:∀n,A n->¬(S.next<=n/\n<S.next+2)){e:TypeId}{s:ByteArray}(hs:gG P e=some 1) :
  ∃E' w',(Conv.stringToBytes e s).run P w=.ok (aN E' (lA S e s).1) w'/\bB P E A S.heap S.next w E' (lA S e s).2.heap (lA S e s).2.next w'/\Sc (fun n=>A n\/(S.next<=n/\n<S.next+2)) (lA S e s).1:=by
 have hk:s.size<=s.size+(w.tape w.drawn (.appendCap s.size 0 e)) % (2 ^ 63-s.size):=by omega
 generalize hkk:s.size+(w.tape w.drawn (.appendCap s.size 0 e)) % (2 ^ 63-s.size)=k at hk
 have hb : ∀ w' : World, w'.heap = w.heap.push (.cells (sP s k) e) ->
   (markStringish ⟨w.heap.size,0,none⟩).run P w'=.ok () (w'.freeze ⟨w.heap.size,k,none⟩ 1):=by
  intro w' hw;have hsz:(sP s k).size=k:=by
   have:s.data.size=s.size:=rfl;simp[sP];omega
  have:w'.shape? w.heap.size=some (e,k):=by
   simp only[World.shape?,hw,Array.getElem?_push,if_true];rw[hsz]
  simp only[markStringish,Sem.run_bind,run_shape,this,Result.andThen_ok,run_freeze]
 have hrun:(Conv.stringToBytes e s).run P w=.ok (.slice (some ⟨w.heap.size,0,none⟩) s.size k) (({ w with drawn:=w.drawn+1 }.alloc (.cells (sP s k) e)).freeze ⟨w.heap.size,k,none⟩ 1):=by
  simp only[Conv.stringToBytes,Sem.run_bind,run_choose,Question.forced,ym,if_false,Question.cut,Result.andThen_ok,newRow,run_newObj,Sem.run_pure,hkk];rw[hb _ rfl];rfl
 have hlt:(({ w with drawn:=w.drawn+1 }.alloc (.cells (sP s k) e))).heap[w.heap.size]?=some (.cells (sP s k) e (0,0)):=by simp[World.alloc]
 obtain⟨f1,f2,f3⟩:=DJ (({ w with drawn:=w.drawn+1 }.alloc (.cells (sP s k) e))) ⟨w.heap.size,k,none⟩ 1 (by omega) hlt;have hm1:¬A (S.next+1):=fun h=>hA _ h ⟨by omega,by omega⟩;refine⟨E.bind (S.next+1) w.heap.size 0 k,({ w with drawn:=w.drawn+1 }.alloc (.cells (sP s k) e)).freeze ⟨w.heap.size,k,none⟩ 1,?_,?_,?_⟩
 ·rw[hrun];simp only[lA,l6,bQ];simp[cA.addr,cA.bind,mY hev]
 ·have hos:∀(w:World)(a:Addr)(n:Nat),(w.freeze a n).os=w.os/\(w.freeze a n).tape=w.tape/\(w.freeze a n).output=w.output:=by
   intro w a n;unfold World.freeze;split<;>exact⟨rfl,rfl,rfl⟩
  obtain⟨o1,o2,o3⟩:=hos (({ w with drawn:=w.drawn+1 }.alloc (.cells (sP s k) e))) ⟨w.heap.size,k,none⟩ 1;simp only[lA,l6];refine bB.put (m:=S.next+1) (b:=w.heap.size) (o':=.cells (s.data.toList.map fun b=>Value.int .u8 b.toNat).toArray e (1,0)) H (by omega) (by omega) (fun k hk=>cA.bind_other E _ _ _ _ k (by omega)) (fun k hk=>(cA.bind_other E _ _ _ _ k hk).1) hA
   (.inr ⟨by omega,by omega⟩) (by simp[cA.bind]) ?_ ?_ ?_ f1 ?_ ?_ (o1.trans rfl) (o2.trans rfl) (o3.trans rfl) (.inr (yh _))
  ·intro j x hj;simp only[aQ]at hj;by_cases he:S.next+1=j
   ·subst he;rw[if_pos (by simp)]at hj;exact .inl ⟨rfl,(yg hj).symm⟩
   ·rw[if_neg (by simpa using he)]at hj;refine .inr ⟨fun e=>he e.symm,hj,?_⟩;obtain⟨_,_,oc',hoc,_⟩:=H.blk j x hj;intro e';rw[e',yye (yh _)]at hoc;cases hoc
  ·intro x hx;have hx:x∈s.data.toList.map fun b=>Value.int .u8 b.toNat:=by simpa using hx
   obtain⟨y,_,rfl⟩:=yw.1 hx;exact qS _ _ _
  ·have hdl:s.data.size=s.size:=rfl;simp only[cV,mY hev,if_true];unfold sP;refine⟨_,_,1,rfl,hs,?_,?_,?_,?_,?_⟩
   ·intro i v hv;have hi:=(yz.1 hv).1;simp only[List.size_toArray,List.length_map,Array.length_toList]at hi;simp only[cA.bind,if_true,yym];rw[Array.getElem?_append_left (by simpa using hi)];have hv':(s.data.toList.map fun b=>Value.int .u8 b.toNat)[i]?=some v:=by simpa using hv
    have hmem:=yyd hv';obtain⟨y,_,rfl⟩:=yw.1 hmem;rw[fZ];simpa using hv
   ·simp[cA.bind,hdl];omega
   ·simp[cA.bind,hdl];omega
   ·intro off h1 h2;simp only[cA.bind,if_true,Nat.mul_one,yym,beq_self_eq_true]at h2⊢;omega
   ·simp
  ·intro j hj hjl;rw[f2 j hj];simp only[World.alloc,Array.getElem?_push];rw[if_neg hj]
  ·rw[f3];simp[World.alloc]
 ·simp only[lA,l6,dX];exact .inr ⟨by omega,by omega⟩
end
section
variable{P:Program}{E:cA}{A:Nat->Prop}{h h':List (Nat×Obj)}{nx:Nat}{w w':World}
theorem TT{e:TypeId}(hc:P.cellsOf e=1)(count off n:Nat)(hn:off+n<=count):liesAt P P.depth e count off e n=true:=by
 have hd:P.depth=(2*(P.types.size+Made.depth)+1)+1:=rfl;rw[hd];simp only[liesAt,yu];left;rw[hd];simp[rowAt,hc,hn,sameLayout,Nat.mod_one]
theorem zK{S S':St}(H:aW P E A S.heap w){args:Array TypeId}{ty:TypeId}{x l v:Value}(hb:sL P S args x l=some (v,S')) :
  ∃w',(Builtin.unsafeString_ args ty #[aN E x,aN E l]).run P w=.ok (aN E v) w'/\bB P E A S.heap S.next w E S'.heap S'.next w'/\Sc A v:=by
 unfold sL at hb;split at hb
 ·rename_i pt it hargs;obtain rfl:args=#[pt,it]:=by apply yl;simpa using hargs
  split at hb
  ·rename_i u hu;have hmax:IntKind.i64.max=9223372036854775807:=rfl;have hz:∀(p:Option Addr)(k:IntKind),(Builtin.unsafeString_ #[pt,it] ty #[.pointer p,.int k 0]).run P w=.ok (.string .empty) w:=by
    intro p k;cases p with
    |none=>rfl
    |some a=>rfl
   have hrun : ∀ (a : Addr) (k : IntKind) (n : Nat) (s : ByteArray), n <= 1048576 -> n ≠ 0 -> (variablesAt a u n).run P w = .ok true w -> (loadBytes a .empty n).run P w = .ok s w ->
     (Builtin.unsafeString_ #[pt,it] ty #[.pointer (some a),.int k n]).run P w=.ok (.string s) (w.freeze a n):=by
    intro a k n s hn h0 hva hlb;have h1:¬(n:Int)<0:=by omega
    have h2:¬(n:Int) > IntKind.i64.max:=by rw[hmax];omega
    have h3:¬(n:Int)=0:=by omega
    have hp0:(#[pt,it]:Array TypeId)[0]?=some pt:=rfl;change Sem.run P (asInt (.int k n) >>= ?f) w=_;simp only[asInt,asIntOf,Sem.run_bind,Sem.run_pure,Result.andThen_ok,h1,h2,h3,if_false,hp0,elemOf,run_underlying hu,Int.toNat_natCast,hva,if_true,hlb,run_freeze]
   split at hb
   ·rename_i hl;simp only[ya,yc]at hb;obtain⟨rfl,rfl⟩:=hb;obtain⟨k,_,hl⟩:=j8 (E:=E) hl;refine⟨w,?_,bB.refl H,oH _ _⟩;rw[gH,hl,eJ];exact hz none k
   ·rename_i n off len hl;obtain⟨k,_,hl⟩:=j8 (E:=E) hl;rw[cT,hl];split at hb
    ·rename_i h0;obtain rfl:len=0:=by simpa using h0
     simp only[ya,yc]at hb;obtain⟨rfl,rfl⟩:=hb;refine⟨w,?_,bB.refl H,oH _ _⟩;rw[eJ];exact hz _ k
    ·rename_i h0;have h0:len≠0:=by simpa using h0
     split at hb
     ·rename_i c e hi hg;simp only[yb,yd]at hb;obtain⟨⟨⟨⟨hrow,h1⟩,h2⟩,h3⟩,hb⟩:=hb;have h1:=ye h1;have h3:=ye h3;obtain rfl:e=u:=by simpa using h2
      split at hb
      ·rename_i b hbb hs1;simp only[ya,yc]at hb;obtain⟨rfl,rfl⟩:=hb;obtain⟨hAn,hcsc,oc,hoc,hr⟩:=H.blk n _ hg;simp only[cV,hrow,if_true]at hr;obtain⟨cc,fzc,s',rfl,r2,r3,r4,r5,r6,r7⟩:=hr;rw[hs1]at r2;obtain rfl:=yg r2;have hcl:cellsOf S.heap n=some c.toList:=by simp[cellsOf,hg]
       have hco:P.cellsOf e=1:=by
        unfold gG at hs1;unfold Program.cellsOf;rw[hs1];rfl
       have hbl:b.length=len:=by
        have:=congrArg List.length (jS hbb);simp at this;omega
       have hcell:∀j x,b[j]?=some x->w.cell? ((⟨E.β n,E.σ n+off,none⟩:Addr).add j)=some (.int .u8 x.toNat):=by
        intro j x hj;have hlt:=(yi.1 hj).1;have hx:((c.toList.drop off).take len)[j]?=some (.int .u8 x.toNat):=by rw[jS hbb,yyl,hj];rfl
        rw[List.getElem?_take,if_pos (by omega),List.getElem?_drop]at hx;have:=(H.cellAt hcl hx).1;rw[jE,yx,this,fZ]
       have hlb:=Lib.run_loadBytes (P:=P) w b ⟨E.β n,E.σ n+off,none⟩ .empty hcell;have hva:(variablesAt ⟨E.β n,E.σ n+off,none⟩ e len).run P w=.ok true w:=by
        have hsh:w.shape? (E.β n)=some (e,cc.size):=by simp[World.shape?,hoc]
        simp only[variablesAt,Sem.run_bind,run_program,Result.andThen_ok,run_shape,hsh,Sem.run_pure];rw[TT hco _ _ _ (by rw[hco,Nat.div_one];omega)]
       obtain⟨f1,f2,f3⟩:=DJ w ⟨E.β n,E.σ n+off,none⟩ len h0 hoc;have hos:∀(w:World)(a:Addr)(n:Nat),(w.freeze a n).os=w.os/\(w.freeze a n).tape=w.tape/\(w.freeze a n).output=w.output:=by
        intro w a n;unfold World.freeze;split<;>exact⟨rfl,rfl,rfl⟩
       obtain⟨o1,o2,o3⟩:=hos w ⟨E.β n,E.σ n+off,none⟩ len;refine⟨w.freeze ⟨E.β n,E.σ n+off,none⟩ len,?_,?_,oH _ _⟩
       ·rw[eJ];rw[hbl]at hlb;have hbe:(⟨ByteArray.empty.data++b.toArray⟩:ByteArray)=⟨b.toArray⟩:=by
         apply ByteArray.ext;apply yl;simp[ByteArray.empty,ByteArray.emptyWithCapacity];rfl
        rw[hbe]at hlb;exact hrun _ k len _ h3 h0 hva hlb
       ·refine bB.put (m:=n) (b:=E.β n) (o':=.cells c e (0,max hi (off+len))) H (yh _) rfl (fun _ _=>⟨rfl,rfl,rfl⟩) (fun _ _=>rfl) (fun k _ hk=>by dsimp only at hk;omega) (.inl hAn) rfl ?_ (fun x hx=>oC (hcsc x hx)) ?_ f1 (fun k hk _=>f2 k hk) (by rw[f3];exact yh _) o1 o2 o3 (.inl ⟨n,_,hg,rfl⟩)
        ·intro k x hk;rcases tF _ _ _ _ _ hk with⟨rfl,rfl⟩ |⟨hne,hgk⟩
         ·exact .inl ⟨rfl,rfl⟩
         ·exact .inr ⟨hne,hgk,fun he=>hne (H.inj k n _ _ hgk hg he)⟩
        ·simp only[cV,hrow,if_true];refine⟨cc,_,1,rfl,hs1,r3,r4,r5,?_,?_⟩
         ·intro o ho1 ho2;have hr6:=r6 o (by omega) ho2;have hr7:=r7 trivial
          (try dsimp only at hr6 hr7⊢)
          by_cases hq:(fzc.1==fzc.2)=true
          ·rw[if_pos hq];simp only;omega
          ·rw[if_neg hq];have hq:fzc.1≠fzc.2:=by simpa using hq
           simp only;rcases hr7 with hr7|hr7
           ·exact absurd hr7 hq
           ·omega
         ·intro _;have hr7:=r7 trivial
          (try dsimp only at hr7⊢)
          by_cases hq:(fzc.1==fzc.2)=true
          ·rw[if_pos hq];simp only;right;omega
          ·rw[if_neg hq];have hq:fzc.1≠fzc.2:=by simpa using hq
           simp only;rcases hr7 with hr7|hr7
           ·exact absurd hr7 hq
           ·right;omega
      ·simp at hb
     ·simp at hb
   ·simp at hb
  ·simp at hb
 ·simp at hb
theorem CJ{S S':St}(H:aW P E A S.heap w)(hev:S.next % 2=0){t:TypeId}{ps:Array TypeId}{x v:Value}(hb:vM P S t x=some (v,S'))
  (hA:∀n,A n->¬(S.next<=n/\n<S'.next)) :
  ∃E' w',(Extern.BytealgMakeNoZero.makeNoZero ps #[t] #[aN E x]).run P w=.ok (aN E' v) w'/\bB P E A S.heap S.next w E' S'.heap S'.next w'/\Sc (fun n=>A n\/(S.next<=n/\n<S'.next)) v:=by
 unfold vM at hb;split at hb
 ·rename_i m e he;split at hb
  ·rename_i n hn hs1;simp only[yb]at hb;obtain⟨h1,hb⟩:=hb;have h1:=ye h1;simp only[l6,ya,yc]at hb;obtain⟨rfl,rfl⟩:=hb;obtain⟨k,hk,_⟩:=j8 (E:=E) hn;simp only[Value.int.injEq]at hk;obtain⟨rfl,rfl⟩:=hk;rw[fZ];obtain⟨cs,hr,hge,_⟩:=Lib.run_makeNoZero (P:=P) w ps t e (mX he) n (by omega);refine⟨E.bind (S.next+1) w.heap.size 0 cs.size,w.drew.drew.alloc (.cells cs e),?_,?_,by rw[dX];exact .inr ⟨by dsimp only;omega,by dsimp only;omega⟩⟩
   ·rw[hr];simp[bQ,cA.addr,cA.bind,mY hev]
   ·refine bB.new H hA ⟨by omega,by omega⟩ (by intro x hx;simp at hx) ?_ rfl rfl rfl rfl;simp only[cV,mY hev,if_true];refine⟨_,(0,0),1,rfl,hs1,by simp,by simp[cA.bind],by simp,by simp,by simp⟩
  ·simp at hb
 ·simp at hb
end
end Go.Dam
