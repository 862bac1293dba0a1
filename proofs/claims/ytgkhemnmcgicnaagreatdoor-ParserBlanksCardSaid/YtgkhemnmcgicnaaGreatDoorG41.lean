/- Towards the law ParserBlanks, true for every text and all blanks (no condition): one part of the proof. -/
import Derived.Test.YtgkhemnmcgicnaaGreatDoorG01
import Derived.Test.YtgkhemnmcgicnaaGreatDoorG40
import Derived.Test.YtgkhemnmcgicnaaGreatDoorG39
import Derived.Test.YtgkhemnmcgicnaaGreatDoorG35
import Derived.Deep.WholeRow
namespace Go.Proofs.YtgkhemnmcgicnaaGreatDoor
set_option maxHeartbeats 16000000
set_option maxRecDepth 100000
open Go.RowKit
theorem U9(b:Int)(Bm:Nat)(w:World) :
  Calls Tryz.prog 160 #[Z b,.pointer (some ⟨Bm,0,none⟩)] w fun r w'=>r=.returned (.func (.func 161) #[] #[.pointer (some ⟨Bm,0,none⟩),.pointer (some ⟨w.heap.size,0,none⟩)])/\w'=w.alloc (.cells #[Z b] 3):=by
 go_enter Tryz.func160,Tryz.ntmps160;go_wp2;go_ret;exact⟨rfl,rfl⟩
def o0:ByteArray:=⟨#[109,101,116,114,101]⟩
def o1:ByteArray:=⟨#[108,101,110,103,116,104]⟩
def o2:ByteArray:=⟨#[107,101,121]⟩
def o3:ByteArray:=⟨#[114,101,112,101,97,116]⟩
def o4:ByteArray:=⟨#[116,105,109,101,115]⟩
def o5:ByteArray:=⟨#[101,110,100,105,110,103,115]⟩
def o6:ByteArray:=⟨#[106,117,109,112]⟩
def o7:ByteArray:=⟨#[115,101,103,110,111]⟩
def o8:ByteArray:=⟨#[99,111,100,97]⟩
def o9:ByteArray:=⟨#[102,105,110,101]⟩
def o10:ByteArray:=⟨#[116,111,99,111,100,97]⟩
def o11:ByteArray:=⟨#[115,119,105,110,103]⟩
def o12:ByteArray:=⟨#[98,114,101,97,107]⟩
def o13:ByteArray:=⟨#[109,97,114,107]⟩
def VA(Bp Bm b:Nat):Obj:=.cells #[.string o0,.func (.func 162) #[] #[.pointer (some ⟨Bp,0,none⟩),.pointer (some ⟨Bm,0,none⟩)],.string o1,.func (.func 164) #[] #[.pointer (some ⟨Bp,0,none⟩),.pointer (some ⟨Bm,0,none⟩)],
 .string o2,.func (.func 165) #[] #[.pointer (some ⟨Bp,0,none⟩),.pointer (some ⟨Bm,0,none⟩)],.string o3,.func (.func 166) #[] #[.pointer (some ⟨Bm,0,none⟩)],.string o4,.func (.func 167) #[] #[.pointer (some ⟨Bp,0,none⟩),.pointer (some ⟨Bm,0,none⟩)],
 .string o5,.func (.func 168) #[] #[.pointer (some ⟨Bp,0,none⟩),.pointer (some ⟨Bm,0,none⟩)],.string o6,.func (.func 169) #[] #[.pointer (some ⟨Bp,0,none⟩),.pointer (some ⟨Bm,0,none⟩)],
 .string o7,.func (.func 161) #[] #[.pointer (some ⟨Bm,0,none⟩),.pointer (some ⟨b,0,none⟩)],.string o8,.func (.func 161) #[] #[.pointer (some ⟨Bm,0,none⟩),.pointer (some ⟨b+1,0,none⟩)],
 .string o9,.func (.func 161) #[] #[.pointer (some ⟨Bm,0,none⟩),.pointer (some ⟨b+2,0,none⟩)],.string o10,.func (.func 161) #[] #[.pointer (some ⟨Bm,0,none⟩),.pointer (some ⟨b+3,0,none⟩)],
 .string o11,.func (.func 171) #[] #[.pointer (some ⟨Bp,0,none⟩),.pointer (some ⟨Bm,0,none⟩)],.string o12,.func (.func 172) #[] #[.pointer (some ⟨Bp,0,none⟩),.pointer (some ⟨Bm,0,none⟩)],.string o13,.func (.func 174) #[] #[.pointer (some ⟨Bp,0,none⟩),.pointer (some ⟨Bm,0,none⟩)]] 212 (0,0)
theorem iW(w:World)(o:Obj){n:Nat}(h:n=w.heap.size):(w.alloc o).heap[n]?=some o:=by subst h;exact qd w o
theorem aV{w:World}(o:Obj){n:Nat}{p:Obj}(h:w.heap[n]?=some p):(w.alloc o).heap[n]?=some p:=(Lib.alloc_old w o _ (qe.1 h).1).trans h
theorem N7(Y X:Nat)(w:World) :
  Calls Tryz.prog 135 #[.pointer (some ⟨Y,0,none⟩),.pointer (some ⟨X,0,none⟩)] w fun r w'=>∃O Bp Bm b,r=.returned (.slice (some ⟨O,0,none⟩) 14 14)/\w'.heap[O]?=some (VA Bp Bm b) /\
   w'.heap[Bp]?=some (.cells #[.pointer (some ⟨Y,0,none⟩)] 69 (0,0))/\w'.heap[Bm]?=some (.cells #[.pointer (some ⟨X,0,none⟩)] 210 (0,0))/\(w'.heap[b]?=some (.cells #[Z 1] 3 (0,0))/\w'.heap[b+1]?=some (.cells #[Z 2] 3 (0,0))/\w'.heap[b+2]?=some (.cells #[Z 4] 3 (0,0))/\w'.heap[b+3]?=some (.cells #[Z 8] 3 (0,0))) /\
   (Bp=w.heap.size/\Bm=w.heap.size+1/\b=w.heap.size+2/\O=w.heap.size+6)/\Below w.heap.size w w':=by
 have hl:=U9;go_enter Tryz.func135,Tryz.ntmps135;go_wp2_with(go_at_call 160;refine(hl _ _ _).mono ?_;rintro r w' ⟨rfl,rfl⟩);go_ret;refine⟨w.heap.size+1+1+1+1+1+1,w.heap.size,w.heap.size+1,w.heap.size+1+1,rfl,?_,?_,?_,⟨?_,?_,?_,?_⟩,⟨rfl,rfl,by omega,by omega⟩,?_⟩
 ·exact iW _ _ (by simp)
 ·exact aV _ (aV _ (aV _ (aV _ (aV _ (aV _ (iW _ _ rfl))))))
 ·exact aV _ (aV _ (aV _ (aV _ (aV _ (iW _ _ (by simp))))))
 ·exact aV _ (aV _ (aV _ (aV _ (iW _ _ (by simp)))))
 ·exact aV _ (aV _ (aV _ (iW _ _ (by simp))))
 ·exact aV _ (aV _ (iW _ _ (by simp)))
 ·exact aV _ (iW _ _ (by simp))
 ·exact((((((((qb w.heap.size w).alloc (qa _) _).alloc (by simp) _).alloc (by simp;omega) _).alloc (by simp;omega) _).alloc (by simp;omega) _).alloc (by simp;omega) _).alloc (by simp;omega) _)
section
variable{T:List aX}{Y M:Nat}{free:Fr}{P2 P3 E:Nat}{cs:Array Value}{st st':aD}{w w':World}{W0:World}{f:ByteArray->kM×Int}
theorem BW(H:xB T Y M free P2 P3 E cs st w){Q i:Nat}(hi:i<5)(hQ:w.heap[Q]?=some (.cells #[Z (IntKind.i64.wrap (2 ^ i))] 3 (0,0))){a:Int}(ha:cs[16]?=some (Z a))(h0:0<=a)(h1:a<2 ^ i) :
  Calls Tryz.prog 161 #[.pointer (some ⟨P3,0,none⟩),.pointer (some ⟨Q,0,none⟩)] w fun r w'=>r=.returned (.tuple #[])/\xB T Y M free P2 P3 E (cs.setIfInBounds 16 (Z (a+2 ^ i))) st w'/\aC [Y,M,E] w w':=by
 have hor:=WP hi h0 h1;have bd:=(qb w.heap.size w).drew;have H1:=H.step bd;have q0:w.drew.cell? ⟨Q,0,none⟩=some (Z (IntKind.i64.wrap (2 ^ i))):=by rw[Lib.cell_of_heap (w:=w.drew) hQ];rfl
 obtain⟨d0,d1,d2,d3⟩:=H1.facts;have e4:=d2 16 _ ha;have e5:=d3 16;generalize (2:Int) ^ i=b at hor q0 hQ⊢;have H2:=H1.put 16 (Z (a+b));have HH:=aJ H2;clear H H1 H2 d2 d3 ha hQ h0 h1 hi;go_enter Tryz.func161,Tryz.ntmps161
 go_region_law (fail)
 all_goals go_end0
 all_goals exact⟨rfl,HH.out,(aC.of_below (bs:=[Y,M,E]) bd).setCell (p:=⟨E,16,none⟩) (.inl (by simp)) (Z (a+b))⟩
def aJJ(cs:Array Value)(m:kM):Array Value:=((((((((cs).setIfInBounds 2 (Z m.c)).setIfInBounds 3 (Z m.u)).setIfInBounds 4 (Z m.g0)).setIfInBounds 5 (Z m.g1)).setIfInBounds 6 (Z m.g2)).setIfInBounds 7 (Z m.g3)).setIfInBounds 8 (Z m.g4)).setIfInBounds 9 (Z m.g5)
theorem aDK (hf : jQ f) (B : mF W0 [Y, M] w) (H : xB T Y M free P2 P3 E cs st w) (hcs : cs.size = 22) : Calls Tryz.prog 162 #[.pointer (some ⟨P2, 0, none⟩), .pointer (some ⟨P3, 0, none⟩)] w fun r w' => r = .returned (.tuple #[]) /\
  xB T Y M free P2 P3 E (aJJ cs (vB ⟨aP,bJ f⟩ T st).1) (vB ⟨aP,bJ f⟩ T st).2 w'/\aC [Y,M,E] w w':=by
 have bd:=(qb w.heap.size w).drew;have x7:=aFC hf (H.ps.step bd) (B.step bd);generalize vB ⟨aP,bJ f⟩ T st=q at x7⊢;obtain⟨m,s1⟩:=q;obtain⟨mc,mu,g0,g1,g2,g3,g4,g5⟩:=m;simp only[kM.cells]at x7⊢;obtain⟨d0,d1,dd2,dd3⟩:=H.facts;obtain⟨u0,hu0⟩:=pK hcs 2 (by decide);obtain⟨u1,hu1⟩:=pK hcs 3 (by decide);obtain⟨u2,hu2⟩:=pK hcs 4 (by decide);obtain⟨u3,hu3⟩:=pK hcs 5 (by decide);obtain⟨u4,hu4⟩:=pK hcs 6 (by decide);obtain⟨u5,hu5⟩:=pK hcs 7 (by decide);obtain⟨u6,hu6⟩:=pK hcs 8 (by decide);obtain⟨u7,hu7⟩:=pK hcs 9 (by decide);clear hcs dd2 dd3 B hf;go_enter Tryz.func162,Tryz.ntmps162
 go_region_law ((first
  |(go_simp;go_at_call 163;(with_reducible refine x7.mono ?_);rintro r w2 ⟨rfl,hS2,b2⟩;have b3:=(aC.of_below (bs:=[Y,M]) bd).trans b2;have H2:=H.call hS2 b3;obtain⟨e0,e1,e2,e3⟩:=H2.facts;have y0:=e2 2 _ hu0;have z0:=e3 2;have y1:=e2 3 _ hu1;have z1:=e3 3;have y2:=e2 4 _ hu2;have z2:=e3 4;have y3:=e2 5 _ hu3;have z3:=e3 5;have y4:=e2 6 _ hu4;have z4:=e3 6;have y5:=e2 7 _ hu5;have z5:=e3 7;have y6:=e2 8 _ hu6;have z6:=e3 8;have y7:=e2 9 _ hu7;have z7:=e3 9;clear e2 e3)))
 all_goals go_end0
 all_goals
  have H3:=((((((((H2.put 2 (Z mc)).put 3 (Z mu)).put 4 (Z g0)).put 5 (Z g1)).put 6 (Z g2)).put 7 (Z g3)).put 8 (Z g4)).put 9 (Z g5));have A3:=(((((((((b3.more (cs:=[Y,M,E]) (by simp)).setCell (p:=⟨E,2,none⟩) (.inl (by simp)) (Z mc)).setCell (p:=⟨E,3,none⟩) (.inl (by simp)) (Z mu)).setCell (p:=⟨E,4,none⟩) (.inl (by simp)) (Z g0)).setCell (p:=⟨E,5,none⟩) (.inl (by simp)) (Z g1)).setCell (p:=⟨E,6,none⟩) (.inl (by simp)) (Z g2)).setCell (p:=⟨E,7,none⟩) (.inl (by simp)) (Z g3)).setCell (p:=⟨E,8,none⟩) (.inl (by simp)) (Z g4)).setCell (p:=⟨E,9,none⟩) (.inl (by simp)) (Z g5));exact⟨rfl,H3,A3⟩
end
section
variable{P:Program}{ops:Array Oper}{S:World->Prop}{op:Oper}{a:Act}
theorem C1(hw:Region.wanted op (yielded ops a.tmps)=true)(ty:TypeId)(x:Operand)(ho:op.op=.load ty x)
  (p:Addr) (hx:a.eval x=.pointer (some p)) (cs:Array Value) (d:TypeDesc) (hS:∀w,S w->∀(j:Nat)(v:Value),cs[j]?=some v->w.cell? (p.add j)=some v)
  (hu:P.underlying ty=some d) (hd:(match d with | .struct _ | .array _ _=>true | _=>false)=true) (hi:(P.info? ty).map (·.size)=some cs.size):YieldsIf P ops S op (.agg cs) a :=
 .inl ⟨hw,fun w hw'=>by
  unfold execOp;simp only[ho,hx,Instr.loadAt,Instr.sureAddr,qqn,Sem.run_pure,Result.andThen_ok,wM w p ty cs d (hS w hw') hu hd hi]⟩
theorem wY (hw : Region.wanted op (yielded ops a.tmps) = true) (t : TypeId) (parts : Array (Nat × Operand)) (ho : op.op = .build t parts) {l : List (Nat × Value)} (hl : (parts.map fun (i, x) => (i, a.eval x)).toList = l)
  {cs:Array Value} (hf:P.built t l=some cs):YieldsIf P ops S op (.agg cs) a :=
 .inl ⟨hw,fun w _=>by
  subst hl;unfold execOp;simp only[ho,qqn,run_build w t _ cs hf,Result.andThen_ok];rfl⟩
end
theorem NY(g o j:Nat):(⟨g,o,none⟩:Addr).add j=⟨g,o+j,none⟩:=by unfold Addr.add;split<;>simp_all
def aU(m:bC)(tv cv:Value):Array Value:=#[Z m.i0,Z m.i1,Z m.m.c,Z m.m.u,Z m.m.g0,Z m.m.g1,Z m.m.g2,Z m.m.g3,Z m.m.g4,Z m.m.g5,Z m.len,Z m.fif,.bool m.rs,Z m.re,Z m.en,Z m.ju,Z m.la,Z m.sw,Z m.br,.string m.reh,tv,cv]
def eD:Array Value:=#[Z 0,Z 0,Z 0,Z 0,Z 0,Z 0,Z 0,Z 0,Z 0,Z 0,Z 0,Z 0,.bool false,Z 0,Z 0,Z 0,Z 0,Z 0,Z 0,.string ByteArray.empty,.slice none 0 0,.slice none 0 0]
def EA:Obj:=.cells eD 94 (0,0)
theorem Tryz.sizeMeas:(Tryz.prog.info? 94).map (·.size)=some 22:=by kernel_rfl
def yU(i0 i1:Int)(m:kM)(k:Int):bC:=⟨i0,i1,m,0,k,false,0,0,0,0,0,0,ByteArray.empty,[],[]⟩
theorem UV(i0 i1:Int)(m:kM)(k:Int):Tryz.prog.built 94 [(0,.agg #[Z i0,Z i1]),(1,.agg m.cells),(3,Z k)]=some (aU (yU i0 i1 m k) (.slice none 0 0) (.slice none 0 0)):=by kernel_rfl
theorem aH9{w:World}{B:Nat}{b:bC}{tv cv:Value}{p:Prop}(h:w.heap[B]?=some (.cells (aU b tv cv) 94 (0,0))/\p)(j:Nat)(v:Value)(hv:b.m.cells[j]?=some v):w.cell? ((⟨B,2,none⟩:Addr).add j)=some v:=by
 rw[NY,Lib.cell_of_heap h.1]
 match j,hv with
 |0,hv=>exact hv
 |1,hv=>exact hv
 |2,hv=>exact hv
 |3,hv=>exact hv
 |4,hv=>exact hv
 |5,hv=>exact hv
 |6,hv=>exact hv
 |7,hv=>exact hv
 |j+8,hv=>simp[kM.cells]at hv
theorem aJA{w:World}{B:Nat}{b:bC}{tv cv:Value}(h:w.heap[B]?=some (.cells (aU b tv cv) 94 (0,0))):w.cell? ⟨B,11,none⟩=some (Z b.fif):=by rw[Lib.cell_of_heap h];rfl
theorem aC.setRow{bs:List Nat}{b w:World}(h:aC bs b w){X:Nat}(hX:b.heap.size<=X)(l:Array Value):aC bs b (w.setRow X l) :=
 ⟨h.os,h.tape,h.output,qx h.size (by simp[World.setRow]),fun k hk hb=>(setRow_other w X k l (by omega)).trans (h.block k hk hb)⟩
def RW(t:Int×Int×Bool):Array Value:=#[Z t.1,Z t.2.1,.bool t.2.2]
def UW(B:Nat):List jF->List Value->World->Prop
 | [],cs,_=>cs=[]
 |c::l,cs,w=>∃cv vv cs',cs=cv::vv::cs'/\qL B cv vv c w/\UW B l cs' w
structure sA(B:Nat)(tv cv:Value)(m:bC)(w:World):Prop where
 ot:w.ownsRow B 175 3 tv m.tem.length (bT RW m.tem)
 ex:∃cs,w.ownsRow B 98 2 cv m.cells.length cs/\UW B m.cells cs w
structure sB(w0:World)(T:List aX)(Y M:Nat)(fr:Fr)(R E O Bp Bm b:Nat)(m:bC)(s:aD)(w:World):Prop where
 op:xB T Y M fr Bp Bm E (aU m (.slice none 0 0) (.slice none 0 0)) s w
 hR:w.heap[R]?=some EA
 hO:w.heap[O]?=some (VA Bp Bm b)
 h1:w.heap[b]?=some (.cells #[Z 1] 3 (0,0))
 h2:w.heap[b+1]?=some (.cells #[Z 2] 3 (0,0))
 h4:w.heap[b+2]?=some (.cells #[Z 4] 3 (0,0))
 h8:w.heap[b+3]?=some (.cells #[Z 8] 3 (0,0))
 aw:aC [Y,M] w0 w
 lY:Y<w0.heap.size
 lM:M<w0.heap.size
 lR:w0.heap.size<=R
 lE:R<E
 lP:E<Bp
 eM:Bm=Bp+1
 eb:b=Bp+2
 eO:O=Bp+6
section
variable{w0:World}{T:List aX}{Y M:Nat}{fr:Fr}{R E O Bp Bm b:Nat}{m m':bC}{s s':aD}{w w':World}
theorem sB.call(h:sB w0 T Y M fr R E O Bp Bm b m s w)(hS:PS T Y M fr s' w')(a:aC [Y,M] w w'):sB w0 T Y M fr R E O Bp Bm b m s' w':=by
 have n:∀k,w0.heap.size<=k->k∉[Y,M]:=fun k hk=>by have:=h.lY;have:=h.lM;simp;omega
 have:=h.lR;have:=h.lE;have:=h.lP;have:=h.eM;have:=h.eb;have:=h.eO;exact⟨h.op.call hS a,a.at h.hR (n _ (by omega)),a.at h.hO (n _ (by omega)),a.at h.h1 (n _ (by omega)),a.at h.h2 (n _ (by omega)),a.at h.h4 (n _ (by omega)),a.at h.h8 (n _ (by omega)),h.aw.trans a,h.lY,h.lM,h.lR,h.lE,h.lP,h.eM,h.eb,h.eO⟩
theorem sB.step(h:sB w0 T Y M fr R E O Bp Bm b m s w)(bl:Below w.heap.size w w'):sB w0 T Y M fr R E O Bp Bm b m s w':=h.call (h.op.ps.step bl) (aC.of_below bl)
theorem sB.read(h:sB w0 T Y M fr R E O Bp Bm b m s w)(H:xB T Y M fr Bp Bm E (aU m' (.slice none 0 0) (.slice none 0 0)) s' w')(a:aC [Y,M,E] w w'):sB w0 T Y M fr R E O Bp Bm b m' s' w':=by
 have:=h.lR;have:=h.lE;have:=h.lP;have:=h.eM;have:=h.eb;have:=h.eO;have n:∀k,w0.heap.size<=k->k≠E->k∉[Y,M,E]:=fun k hk hE=>by have:=h.lY;have:=h.lM;simp;omega
 refine⟨H,a.at h.hR (n _ (by omega) (by omega)),a.at h.hO (n _ (by omega) (by omega)),a.at h.h1 (n _ (by omega) (by omega)),a.at h.h2 (n _ (by omega) (by omega)),a.at h.h4 (n _ (by omega) (by omega)),a.at h.h8 (n _ (by omega) (by omega)),?_,h.lY,h.lM,h.lR,h.lE,h.lP,h.eM,h.eb,h.eO⟩;exact⟨a.os.trans h.aw.os,a.tape.trans h.aw.tape,a.output.trans h.aw.output,qx h.aw.size a.size,fun k hk hb=>(a.block k (qqa hk h.aw.size) (by
  simp at hb⊢;exact⟨hb.1,hb.2,by omega⟩)).trans (h.aw.block k hk hb)⟩
end
theorem Tryz.sizeOpt:(Tryz.prog.info? 212).map (·.size)=some 2:=by kernel_rfl
theorem UX(m:bC)(mm:kM)(tv cv:Value):aJJ (aU m tv cv) mm=aU { m with m:=mm } tv cv:=by
 unfold aJJ aU;simp only[List.setIfInBounds_toArray,List.set_cons_succ,List.set_cons_zero]
def lH(j:Nat)(a:Int):Prop:=0<=a/\(j<=7->a=0)/\(j=8->a<2)/\(j=9->a<4)/\(j=10->a<8)
def UY(B:XP)(T:List aX)(j:Nat)(m:bC)(s:aD):bC×aD:=match (fT B T)[j]? with
 |some o=>US T o m s
 |none=>(m,s)
theorem aKX{B:XP}{T:List aX}{j:Nat}{m:bC}{s:aD}{o:ByteArray×(bC->aD->bC×aD)}(ho:(fT B T)[j]?=some o)(hb:isS T o.1 s=false):UY B T j m s=(m,s):=by
 unfold UY;rw[ho];exact if_neg (by rw[hb];decide)
theorem aJB{B:XP}{T:List aX}{j:Nat}{m:bC}{s:aD}{o:ByteArray×(bC->aD->bC×aD)}(ho:(fT B T)[j]?=some o)(hb:isS T o.1 s=true):UY B T j m s=o.2 m (s.next 1):=by
 unfold UY;rw[ho];exact if_pos hb
theorem ZF(B:XP)(T:List aX)(j:Nat)(hj:j<14)(m:bC)(s:aD):nQ T ((fT B T).drop j) m s=nQ T ((fT B T).drop (j+1)) (UY B T j m s).1 (UY B T j m s).2:=by
 have hl:(fT B T).length=14:=rfl;rw[List.drop_eq_getElem_cons (by rw[hl];exact hj),nQ];unfold UY;rw[qr (by rw[hl];exact hj)]
section
variable{W0 w0:World}{T:List aX}{Y M:Nat}{fr:Fr}{R E O Bp Bm b:Nat}{m m':bC}{s s':aD}{w w':World}{f:ByteArray->kM×Int}
theorem aLQ (hf : jQ f) (BB : mF W0 [Y, M] w) (HH : sB w0 T Y M fr R E O Bp Bm b m s w) (hla : lH 0 m.la) : Calls Tryz.prog 162 #[.pointer (some ⟨Bp, 0, none⟩), .pointer (some ⟨Bm, 0, none⟩)] w fun r w' => r = .returned (.tuple #[]) /\
  ∃m' s',((fT ⟨aP,bJ f⟩ T)[0]?).map (fun o=>o.2 m s)=some (m',s')/\lH 1 m'.la/\sB w0 T Y M fr R E O Bp Bm b m' s' w'/\aC [Y,M,E] w w':=by
 refine(aDK hf (W0:=W0) BB HH.op rfl).mono ?_;rintro r w1 ⟨rfl,H1,a1⟩;rw[UX]at H1;exact⟨rfl,_,_,rfl,⟨hla.1,fun h=>hla.2.1 (by omega),fun h=>by have:=hla.2.1;omega,fun h=>by have:=hla.2.2;omega,fun h=>by have:=hla.2.2;omega⟩,HH.read H1 a1,a1⟩
theorem aLR (_hf : jQ f) (_BB : mF W0 [Y, M] w) (HH : sB w0 T Y M fr R E O Bp Bm b m s w) (hla : lH 1 m.la) : Calls Tryz.prog 164 #[.pointer (some ⟨Bp, 0, none⟩), .pointer (some ⟨Bm, 0, none⟩)] w fun r w' => r = .returned (.tuple #[]) /\
  ∃m' s',((fT ⟨aP,bJ f⟩ T)[1]?).map (fun o=>o.2 m s)=some (m',s')/\lH 2 m'.la/\sB w0 T Y M fr R E O Bp Bm b m' s' w'/\aC [Y,M,E] w w':=by
 refine(aDC HH.op rfl).mono ?_;rintro r w1 ⟨rfl,H1,a1⟩;exact⟨rfl,_,_,rfl,⟨hla.1,fun h=>hla.2.1 (by omega),fun h=>by have:=hla.2.1;omega,fun h=>by have:=hla.2.2;omega,fun h=>by have:=hla.2.2;omega⟩,HH.read H1 a1,a1⟩
theorem aLS (_hf : jQ f) (_BB : mF W0 [Y, M] w) (HH : sB w0 T Y M fr R E O Bp Bm b m s w) (hla : lH 2 m.la) : Calls Tryz.prog 165 #[.pointer (some ⟨Bp, 0, none⟩), .pointer (some ⟨Bm, 0, none⟩)] w fun r w' => r = .returned (.tuple #[]) /\
  ∃m' s',((fT ⟨aP,bJ f⟩ T)[2]?).map (fun o=>o.2 m s)=some (m',s')/\lH 3 m'.la/\sB w0 T Y M fr R E O Bp Bm b m' s' w'/\aC [Y,M,E] w w':=by
 refine(aDD HH.op rfl).mono ?_;rintro r w1 ⟨rfl,H1,a1⟩;exact⟨rfl,_,_,rfl,⟨hla.1,fun h=>hla.2.1 (by omega),fun h=>by have:=hla.2.1;omega,fun h=>by have:=hla.2.2;omega,fun h=>by have:=hla.2.2;omega⟩,HH.read H1 a1,a1⟩
theorem aLT (_hf : jQ f) (_BB : mF W0 [Y, M] w) (HH : sB w0 T Y M fr R E O Bp Bm b m s w) (hla : lH 3 m.la) : Calls Tryz.prog 166 #[.pointer (some ⟨Bm, 0, none⟩)] w fun r w' => r = .returned (.tuple #[]) /\
  ∃m' s',((fT ⟨aP,bJ f⟩ T)[3]?).map (fun o=>o.2 m s)=some (m',s')/\lH 4 m'.la/\sB w0 T Y M fr R E O Bp Bm b m' s' w'/\aC [Y,M,E] w w':=by
 refine(aDJ HH.op rfl).mono ?_;rintro r w1 ⟨rfl,H1,a1⟩;exact⟨rfl,_,_,rfl,⟨hla.1,fun h=>hla.2.1 (by omega),fun h=>by have:=hla.2.1;omega,fun h=>by have:=hla.2.2;omega,fun h=>by have:=hla.2.2;omega⟩,HH.read H1 a1,a1⟩
theorem aLU (_hf : jQ f) (_BB : mF W0 [Y, M] w) (HH : sB w0 T Y M fr R E O Bp Bm b m s w) (hla : lH 4 m.la) : Calls Tryz.prog 167 #[.pointer (some ⟨Bp, 0, none⟩), .pointer (some ⟨Bm, 0, none⟩)] w fun r w' => r = .returned (.tuple #[]) /\
  ∃m' s',((fT ⟨aP,bJ f⟩ T)[4]?).map (fun o=>o.2 m s)=some (m',s')/\lH 5 m'.la/\sB w0 T Y M fr R E O Bp Bm b m' s' w'/\aC [Y,M,E] w w':=by
 refine(aDE HH.op rfl).mono ?_;rintro r w1 ⟨rfl,H1,a1⟩;exact⟨rfl,_,_,rfl,⟨hla.1,fun h=>hla.2.1 (by omega),fun h=>by have:=hla.2.1;omega,fun h=>by have:=hla.2.2;omega,fun h=>by have:=hla.2.2;omega⟩,HH.read H1 a1,a1⟩
theorem aLV (_hf : jQ f) (_BB : mF W0 [Y, M] w) (HH : sB w0 T Y M fr R E O Bp Bm b m s w) (hla : lH 5 m.la) : Calls Tryz.prog 168 #[.pointer (some ⟨Bp, 0, none⟩), .pointer (some ⟨Bm, 0, none⟩)] w fun r w' => r = .returned (.tuple #[]) /\
  ∃m' s',((fT ⟨aP,bJ f⟩ T)[5]?).map (fun o=>o.2 m s)=some (m',s')/\lH 6 m'.la/\sB w0 T Y M fr R E O Bp Bm b m' s' w'/\aC [Y,M,E] w w':=by
 refine(aDF HH.op rfl).mono ?_;rintro r w1 ⟨rfl,H1,a1⟩;exact⟨rfl,_,_,rfl,⟨hla.1,fun h=>hla.2.1 (by omega),fun h=>by have:=hla.2.1;omega,fun h=>by have:=hla.2.2;omega,fun h=>by have:=hla.2.2;omega⟩,HH.read H1 a1,a1⟩
theorem aLW (_hf : jQ f) (_BB : mF W0 [Y, M] w) (HH : sB w0 T Y M fr R E O Bp Bm b m s w) (hla : lH 6 m.la) : Calls Tryz.prog 169 #[.pointer (some ⟨Bp, 0, none⟩), .pointer (some ⟨Bm, 0, none⟩)] w fun r w' => r = .returned (.tuple #[]) /\
  ∃m' s',((fT ⟨aP,bJ f⟩ T)[6]?).map (fun o=>o.2 m s)=some (m',s')/\lH 7 m'.la/\sB w0 T Y M fr R E O Bp Bm b m' s' w'/\aC [Y,M,E] w w':=by
 refine(aE5 HH.op rfl).mono ?_;rintro r w1 ⟨rfl,H1,a1⟩;exact⟨rfl,_,_,rfl,⟨hla.1,fun h=>hla.2.1 (by omega),fun h=>by have:=hla.2.1;omega,fun h=>by have:=hla.2.2;omega,fun h=>by have:=hla.2.2;omega⟩,HH.read H1 a1,a1⟩
theorem aLX (_hf : jQ f) (_BB : mF W0 [Y, M] w) (HH : sB w0 T Y M fr R E O Bp Bm b m s w) (hla : lH 7 m.la) : Calls Tryz.prog 161 #[.pointer (some ⟨Bm, 0, none⟩), .pointer (some ⟨b, 0, none⟩)] w fun r w' => r = .returned (.tuple #[]) /\
  ∃m' s',((fT ⟨aP,bJ f⟩ T)[7]?).map (fun o=>o.2 m s)=some (m',s')/\lH 8 m'.la/\sB w0 T Y M fr R E O Bp Bm b m' s' w'/\aC [Y,M,E] w w':=by
 obtain⟨l0,l7,l8,l9,l10⟩:=hla;have lt:m.la<2 ^ 0:=by simp only[Int.reducePow];omega
 have hQ:w.heap[b]?=some (.cells #[Z (IntKind.i64.wrap (2 ^ 0))] 3 (0,0)):=HH.h1;refine(BW HH.op (i:=0) (by decide) hQ (a:=m.la) rfl l0 lt).mono ?_;rintro r w1 ⟨rfl,H1,a1⟩;exact⟨rfl,_,_,rfl,⟨by simp only;omega,fun h=>by omega,fun h=>by simp only[Int.reducePow]at *;omega,fun h=>by simp only[Int.reducePow]at *;omega,fun h=>by simp only[Int.reducePow]at *;omega⟩,HH.read H1 a1,a1⟩
theorem aLY (_hf : jQ f) (_BB : mF W0 [Y, M] w) (HH : sB w0 T Y M fr R E O Bp Bm b m s w) (hla : lH 8 m.la) : Calls Tryz.prog 161 #[.pointer (some ⟨Bm, 0, none⟩), .pointer (some ⟨b + 1, 0, none⟩)] w fun r w' => r = .returned (.tuple #[]) /\
  ∃m' s',((fT ⟨aP,bJ f⟩ T)[8]?).map (fun o=>o.2 m s)=some (m',s')/\lH 9 m'.la/\sB w0 T Y M fr R E O Bp Bm b m' s' w'/\aC [Y,M,E] w w':=by
 obtain⟨l0,l7,l8,l9,l10⟩:=hla;have lt:m.la<2 ^ 1:=by simp only[Int.reducePow];omega
 have hQ:w.heap[b+1]?=some (.cells #[Z (IntKind.i64.wrap (2 ^ 1))] 3 (0,0)):=HH.h2;refine(BW HH.op (i:=1) (by decide) hQ (a:=m.la) rfl l0 lt).mono ?_;rintro r w1 ⟨rfl,H1,a1⟩;exact⟨rfl,_,_,rfl,⟨by simp only;omega,fun h=>by omega,fun h=>by simp only[Int.reducePow]at *;omega,fun h=>by simp only[Int.reducePow]at *;omega,fun h=>by simp only[Int.reducePow]at *;omega⟩,HH.read H1 a1,a1⟩
theorem aLZ (_hf : jQ f) (_BB : mF W0 [Y, M] w) (HH : sB w0 T Y M fr R E O Bp Bm b m s w) (hla : lH 9 m.la) : Calls Tryz.prog 161 #[.pointer (some ⟨Bm, 0, none⟩), .pointer (some ⟨b + 2, 0, none⟩)] w fun r w' => r = .returned (.tuple #[]) /\
  ∃m' s',((fT ⟨aP,bJ f⟩ T)[9]?).map (fun o=>o.2 m s)=some (m',s')/\lH 10 m'.la/\sB w0 T Y M fr R E O Bp Bm b m' s' w'/\aC [Y,M,E] w w':=by
 obtain⟨l0,l7,l8,l9,l10⟩:=hla;have lt:m.la<2 ^ 2:=by simp only[Int.reducePow];omega
 have hQ:w.heap[b+2]?=some (.cells #[Z (IntKind.i64.wrap (2 ^ 2))] 3 (0,0)):=HH.h4;refine(BW HH.op (i:=2) (by decide) hQ (a:=m.la) rfl l0 lt).mono ?_;rintro r w1 ⟨rfl,H1,a1⟩;exact⟨rfl,_,_,rfl,⟨by simp only;omega,fun h=>by omega,fun h=>by simp only[Int.reducePow]at *;omega,fun h=>by simp only[Int.reducePow]at *;omega,fun h=>by simp only[Int.reducePow]at *;omega⟩,HH.read H1 a1,a1⟩
theorem aKY (_hf : jQ f) (_BB : mF W0 [Y, M] w) (HH : sB w0 T Y M fr R E O Bp Bm b m s w) (hla : lH 10 m.la) : Calls Tryz.prog 161 #[.pointer (some ⟨Bm, 0, none⟩), .pointer (some ⟨b + 3, 0, none⟩)] w fun r w' => r = .returned (.tuple #[]) /\
  ∃m' s',((fT ⟨aP,bJ f⟩ T)[10]?).map (fun o=>o.2 m s)=some (m',s')/\lH 11 m'.la/\sB w0 T Y M fr R E O Bp Bm b m' s' w'/\aC [Y,M,E] w w':=by
 obtain⟨l0,l7,l8,l9,l10⟩:=hla;have lt:m.la<2 ^ 3:=by simp only[Int.reducePow];omega
 have hQ:w.heap[b+3]?=some (.cells #[Z (IntKind.i64.wrap (2 ^ 3))] 3 (0,0)):=HH.h8;refine(BW HH.op (i:=3) (by decide) hQ (a:=m.la) rfl l0 lt).mono ?_;rintro r w1 ⟨rfl,H1,a1⟩;exact⟨rfl,_,_,rfl,⟨by simp only;omega,fun h=>by omega,fun h=>by simp only[Int.reducePow]at *;omega,fun h=>by simp only[Int.reducePow]at *;omega,fun h=>by simp only[Int.reducePow]at *;omega⟩,HH.read H1 a1,a1⟩
theorem aKZ (_hf : jQ f) (_BB : mF W0 [Y, M] w) (HH : sB w0 T Y M fr R E O Bp Bm b m s w) (hla : lH 11 m.la) : Calls Tryz.prog 171 #[.pointer (some ⟨Bp, 0, none⟩), .pointer (some ⟨Bm, 0, none⟩)] w fun r w' => r = .returned (.tuple #[]) /\
  ∃m' s',((fT ⟨aP,bJ f⟩ T)[11]?).map (fun o=>o.2 m s)=some (m',s')/\lH 12 m'.la/\sB w0 T Y M fr R E O Bp Bm b m' s' w'/\aC [Y,M,E] w w':=by
 refine(aDG HH.op rfl).mono ?_;rintro r w1 ⟨rfl,H1,a1⟩;exact⟨rfl,_,_,rfl,⟨hla.1,fun h=>hla.2.1 (by omega),fun h=>by have:=hla.2.1;omega,fun h=>by have:=hla.2.2;omega,fun h=>by have:=hla.2.2;omega⟩,HH.read H1 a1,a1⟩
theorem aK0 (_hf : jQ f) (_BB : mF W0 [Y, M] w) (HH : sB w0 T Y M fr R E O Bp Bm b m s w) (hla : lH 12 m.la) : Calls Tryz.prog 172 #[.pointer (some ⟨Bp, 0, none⟩), .pointer (some ⟨Bm, 0, none⟩)] w fun r w' => r = .returned (.tuple #[]) /\
  ∃m' s',((fT ⟨aP,bJ f⟩ T)[12]?).map (fun o=>o.2 m s)=some (m',s')/\lH 13 m'.la/\sB w0 T Y M fr R E O Bp Bm b m' s' w'/\aC [Y,M,E] w w':=by
 refine(aE6 HH.op rfl).mono ?_;rintro r w1 ⟨rfl,H1,a1⟩;exact⟨rfl,_,_,rfl,⟨hla.1,fun h=>hla.2.1 (by omega),fun h=>by have:=hla.2.1;omega,fun h=>by have:=hla.2.2;omega,fun h=>by have:=hla.2.2;omega⟩,HH.read H1 a1,a1⟩
theorem aK1 (_hf : jQ f) (_BB : mF W0 [Y, M] w) (HH : sB w0 T Y M fr R E O Bp Bm b m s w) (hla : lH 13 m.la) : Calls Tryz.prog 174 #[.pointer (some ⟨Bp, 0, none⟩), .pointer (some ⟨Bm, 0, none⟩)] w fun r w' => r = .returned (.tuple #[]) /\
  ∃m' s',((fT ⟨aP,bJ f⟩ T)[13]?).map (fun o=>o.2 m s)=some (m',s')/\lH 14 m'.la/\sB w0 T Y M fr R E O Bp Bm b m' s' w'/\aC [Y,M,E] w w':=by
 refine(aDH HH.op rfl).mono ?_;rintro r w1 ⟨rfl,H1,a1⟩;exact⟨rfl,_,_,rfl,⟨hla.1,fun h=>hla.2.1 (by omega),fun h=>by have:=hla.2.1;omega,fun h=>by have:=hla.2.2;omega,fun h=>by have:=hla.2.2;omega⟩,HH.read H1 a1,a1⟩
end
def aCF:Nat->ByteArray
 |0=>⟨#[109,101,116,114,101]⟩
 |1=>⟨#[108,101,110,103,116,104]⟩
 |2=>⟨#[107,101,121]⟩
 |3=>⟨#[114,101,112,101,97,116]⟩
 |4=>⟨#[116,105,109,101,115]⟩
 |5=>⟨#[101,110,100,105,110,103,115]⟩
 |6=>⟨#[106,117,109,112]⟩
 |7=>⟨#[115,101,103,110,111]⟩
 |8=>⟨#[99,111,100,97]⟩
 |9=>⟨#[102,105,110,101]⟩
 |10=>⟨#[116,111,99,111,100,97]⟩
 |11=>⟨#[115,119,105,110,103]⟩
 |12=>⟨#[98,114,101,97,107]⟩
 | _=>⟨#[109,97,114,107]⟩
def oFn:Nat->Nat
 |0=>162
 |1=>164
 |2=>165
 |3=>166
 |4=>167
 |5=>168
 |6=>169
 |7=>161
 |8=>161
 |9=>161
 |10=>161
 |11=>171
 |12=>172
 | _=>174
def aJC(Bp Bm b:Nat):Nat->Array Value
 |0=>#[.pointer (some ⟨Bp,0,none⟩),.pointer (some ⟨Bm,0,none⟩)]
 |1=>#[.pointer (some ⟨Bp,0,none⟩),.pointer (some ⟨Bm,0,none⟩)]
 |2=>#[.pointer (some ⟨Bp,0,none⟩),.pointer (some ⟨Bm,0,none⟩)]
 |3=>#[.pointer (some ⟨Bm,0,none⟩)]
 |4=>#[.pointer (some ⟨Bp,0,none⟩),.pointer (some ⟨Bm,0,none⟩)]
 |5=>#[.pointer (some ⟨Bp,0,none⟩),.pointer (some ⟨Bm,0,none⟩)]
 |6=>#[.pointer (some ⟨Bp,0,none⟩),.pointer (some ⟨Bm,0,none⟩)]
 |7=>#[.pointer (some ⟨Bm,0,none⟩),.pointer (some ⟨b,0,none⟩)]
 |8=>#[.pointer (some ⟨Bm,0,none⟩),.pointer (some ⟨b+1,0,none⟩)]
 |9=>#[.pointer (some ⟨Bm,0,none⟩),.pointer (some ⟨b+2,0,none⟩)]
 |10=>#[.pointer (some ⟨Bm,0,none⟩),.pointer (some ⟨b+3,0,none⟩)]
 |11=>#[.pointer (some ⟨Bp,0,none⟩),.pointer (some ⟨Bm,0,none⟩)]
 |12=>#[.pointer (some ⟨Bp,0,none⟩),.pointer (some ⟨Bm,0,none⟩)]
 | _=>#[.pointer (some ⟨Bp,0,none⟩),.pointer (some ⟨Bm,0,none⟩)]
theorem aK2{w:World}{O Bp Bm b j:Nat}(hO:w.heap[O]?=some (VA Bp Bm b))(hj:j<14)(m:Nat)(u:Value)(hu:(#[.string (aCF j),.func (.func (oFn j)) #[] (aJC Bp Bm b j)]:Array Value)[m]?=some u):w.cell? ⟨O,j*2+m,none⟩=some u:=by
 rw[Lib.cell_of_heap hO];rcases(by omega:j=0\/j=1\/j=2\/j=3\/j=4\/j=5\/j=6\/j=7\/j=8\/j=9\/j=10\/j=11\/j=12\/j=13)with rfl|rfl|rfl|rfl|rfl|rfl|rfl|rfl|rfl|rfl|rfl|rfl|rfl|rfl;all_goals
  match m,hu with
  |0,hu=>exact hu
  |1,hu=>exact hu
theorem aL0(B:XP)(T:List aX){j:Nat}(hj:j<14):∃rd,(fT B T)[j]?=some (aCF j,rd):=by
 rcases(by omega:j=0\/j=1\/j=2\/j=3\/j=4\/j=5\/j=6\/j=7\/j=8\/j=9\/j=10\/j=11\/j=12\/j=13)with rfl|rfl|rfl|rfl|rfl|rfl|rfl|rfl|rfl|rfl|rfl|rfl|rfl|rfl;all_goals exact⟨_,rfl⟩
theorem aL1 {W0 w0 : World} {T : List aX} {Y M : Nat} {fr : Fr} {R E O Bp Bm b : Nat} {m : bC} {s : aD} {w : World} {f : ByteArray -> kM × Int} {j : Nat} (hj : j < 14) (hf : jQ f) (BB : mF W0 [Y, M] w) (HH : sB w0 T Y M fr R E O Bp Bm b m s w) (hla : lH j m.la) : Calls Tryz.prog (oFn j) (aJC Bp Bm b j) w fun r w' => r = .returned (.tuple #[]) /\
  ∃m' s',((fT ⟨aP,bJ f⟩ T)[j]?).map (fun o=>o.2 m s)=some (m',s')/\lH (j+1) m'.la/\sB w0 T Y M fr R E O Bp Bm b m' s' w'/\aC [Y,M,E] w w':=by
 rcases(by omega:j=0\/j=1\/j=2\/j=3\/j=4\/j=5\/j=6\/j=7\/j=8\/j=9\/j=10\/j=11\/j=12\/j=13)with rfl|rfl|rfl|rfl|rfl|rfl|rfl|rfl|rfl|rfl|rfl|rfl|rfl|rfl
 ·exact aLQ hf BB HH hla
 ·exact aLR hf BB HH hla
 ·exact aLS hf BB HH hla
 ·exact aLT hf BB HH hla
 ·exact aLU hf BB HH hla
 ·exact aLV hf BB HH hla
 ·exact aLW hf BB HH hla
 ·exact aLX hf BB HH hla
 ·exact aLY hf BB HH hla
 ·exact aLZ hf BB HH hla
 ·exact aKY hf BB HH hla
 ·exact aKZ hf BB HH hla
 ·exact aK0 hf BB HH hla
 ·exact aK1 hf BB HH hla
def CT(t:TypeId):Prop:=VT t\/t=217\/t=48
theorem qL.keepT{B:Nat}{cv vv:Value}{c:jF}{w w':World}(h:qL B cv vv c w)(hb:∀k (o:Array Value) (T:TypeId),w.heap[k]?=some (.cells o T (0,0))->CT T->B<=k->w'.heap[k]?=w.heap[k]?):qL B cv vv c w':=by
 obtain⟨h1,cs,h2,h3⟩:=h;refine⟨aB h1 fun k hk => ?_,cs,aB h2 fun k hk => ?_,h3.keepT fun k o T ho hT=>hb k o T ho (.inl hT)⟩
 ·obtain⟨c,hc⟩:=bA h1 hk;exact hb k c _ hc (.inr (.inl rfl)) (h1.lt k hk).1
 ·obtain⟨c,hc⟩:=bA h2 hk;exact hb k c _ hc (.inr (.inr rfl)) (h2.lt k hk).1
theorem UW.keepT{B:Nat}:∀{l:List jF}{cs:List Value}{w w':World},UW B l cs w->(∀k (o:Array Value) (T:TypeId),w.heap[k]?=some (.cells o T (0,0))->CT T->B<=k->w'.heap[k]?=w.heap[k]?)->UW B l cs w'
 | [],_,_,_,h,_=>h
 | _::_,_,_,_,⟨cv,vv,cs',e,r,t⟩,hb=>⟨cv,vv,cs',e,r.keepT hb,t.keepT hb⟩
theorem UW.lo{B B':Nat}(hB:B<=B'):∀{l:List jF}{cs:List Value}{w:World},UW B' l cs w->UW B l cs w
 | [],_,_,h=>h
 | _::_,_,_,⟨cv,vv,cs',e,r,t⟩=>⟨cv,vv,cs',e,r.lo hB,t.lo hB⟩
theorem UW.snoc{B:Nat}{c:jF}{cv vv:Value}:∀{l:List jF}{cs:List Value}{w:World},UW B l cs w->qL B cv vv c w->UW B (l++[c]) (cs++[cv,vv]) w
 | [],cs,w,h,r=>by
  have h:cs=[]:=h;subst h;exact⟨cv,vv,[],rfl,r,rfl⟩
 |y::ys,cs,w,⟨cv',vv',cs',e,r',t⟩,r=>⟨cv',vv',_,by rw[e];rfl,r',t.snoc r⟩
structure fS(w0:World)(T:List aX)(Y M:Nat)(fr:Fr)(R E:Nat)(m:bC)(tv cv:Value)(ts:List (Int×Int×Bool))(cs:List jF)(s:aD)(w:World):Prop where
 ps:PS T Y M fr s w
 hE:w.heap[E]?=some (.cells (aU m tv cv) 94 (0,0))
 hR:w.heap[R]?=some EA
 ot:w.ownsRow w0.heap.size 175 3 tv ts.length (bT RW ts)
 oc:∃vs,w.ownsRow w0.heap.size 98 2 cv cs.length vs/\UW w0.heap.size cs vs w
 aw:aC [Y,M] w0 w
 lY:Y<w0.heap.size
 lM:M<w0.heap.size
 lR:w0.heap.size<=R
 lE:R<E
section
variable{w0:World}{T:List aX}{Y M:Nat}{fr fr':Fr}{R E:Nat}{m:bC}{tv cv:Value}{ts:List (Int×Int×Bool)}{cs:List jF}{s s':aD}{w w':World}
theorem sB.meas{O Bp Bm b:Nat}(h:sB w0 T Y M fr R E O Bp Bm b m s w):fS w0 T Y M fr R E m (.slice none 0 0) (.slice none 0 0) [] [] s w :=
 ⟨h.op.ps,h.op.hE,h.hR,qw _ _ _ _,⟨[],qw _ _ _ _,rfl⟩,h.aw,h.lY,h.lM,h.lR,h.lE⟩
theorem fS.call(h:fS w0 T Y M fr R E m tv cv ts cs s w)(hS:PS T Y M fr' s' w')(a:aC [Y,M] w w'):fS w0 T Y M fr' R E m tv cv ts cs s' w':=by
 have n:∀k,w0.heap.size<=k->k∉[Y,M]:=fun k hk=>by have:=h.lY;have:=h.lM;simp;omega
 have:=h.lR;have:=h.lE;obtain⟨vs,o,c⟩:=h.oc;exact⟨hS,a.at h.hE (n _ (by omega)),a.at h.hR (n _ (by omega)),aB h.ot fun k hk=>a.block k (h.ot.lt k hk).2 (n k (h.ot.lt k hk).1),
  ⟨vs,aB o fun k hk=>a.block k (o.lt k hk).2 (n k (o.lt k hk).1),c.keepT fun k o T ho _ hk=>a.block k (aA ho) (n k hk)⟩,h.aw.trans a,h.lY,h.lM,h.lR,h.lE⟩
theorem fS.step(h:fS w0 T Y M fr R E m tv cv ts cs s w)(b:Below w.heap.size w w'):fS w0 T Y M fr R E m tv cv ts cs s w':=h.call (h.ps.step b) (aC.of_below b)
theorem fS.alloc(h:fS w0 T Y M fr R E m tv cv ts cs s w)(o:Obj):fS w0 T Y M fr R E m tv cv ts cs s (w.alloc o):=h.step ((qb _ w).alloc (qa _) o)
theorem fS.at(h:fS w0 T Y M fr R E m tv cv ts cs s w){k:Nat}{o:Obj}(hk:w.heap[k]?=some o)(lk:w0.heap.size<=k)(a:aC [Y,M] w w'):w'.heap[k]?=some o :=
 a.at hk (by have:=h.lY;have:=h.lM;simp;omega)
theorem fS.at'(h:fS w0 T Y M fr R E m tv cv ts cs s w){u:World}{k:Nat}{o:Obj}(hk:u.heap[k]?=some o)(lk:w0.heap.size<=k)(a:aC [Y,M] u w'):w'.heap[k]?=some o :=
 a.at hk (by have:=h.lY;have:=h.lM;simp;omega)
theorem fS.new(h:fS w0 T Y M fr R E m tv cv ts cs s w):tv.ownBlock≠some w.heap.size:=fun e=>absurd (h.ot.lt _ e).2 (Nat.lt_irrefl _)
theorem fS.else(h:fS w0 T Y M fr R E m tv cv ts cs s w)(X:Nat)(lX:E<X){x:Array Value}{t:TypeId}(hX:w.heap[X]?=some (.cells x t (0,0)))(hn:tv.ownBlock≠some X)(ht:t≠59/\t≠98/\t≠31/\t≠100/\t≠80/\t≠77/\t≠147/\t≠217/\t≠48)(so:∀k,k≠X->w'.heap[k]?=w.heap[k]?)(a:aC [Y,M] w0 w'):fS w0 T Y M fr R E m tv cv ts cs s w':=by
 have:=h.lY;have:=h.lM;have:=h.lR;have:=h.lE;obtain⟨vs,o,c⟩:=h.oc;refine⟨h.ps.put (R:=X) (by omega) (by omega) hX ht.1 so,(so _ (by omega)).trans h.hE,(so _ (by omega)).trans h.hR,aB h.ot fun k hk=>so k ?_,⟨vs,aB o fun k hk=>so k ?_,c.keepT fun k o T ho hT hk=>so k ?_⟩,a,h.lY,h.lM,h.lR,h.lE⟩
 ·rintro rfl;exact hn hk
 ·rintro rfl;obtain⟨c',hc'⟩:=bA o hk;exact aS hX hc' ht.2.1
 ·rintro rfl;exact aS hX ho (by rintro rfl;rcases hT with(e|e|e|e|e)|e|e<;>simp[e]at ht)
theorem fS.facts(h:fS w0 T Y M fr R E m tv cv ts cs s w):w.cell? ⟨E,20,none⟩=some tv/\w.cell? ⟨E,21,none⟩=some cv/\∀i,w.frozen? ⟨E,i,none⟩=false :=
 ⟨by rw[Lib.cell_of_heap h.hE];rfl,by rw[Lib.cell_of_heap h.hE];rfl,Lib.frozen_of_heap h.hE⟩
theorem fS.done(h:fS w0 T Y M fr R E m tv cv ts cs s w)(so:∀k,k≠R->w'.heap[k]?=w.heap[k]?):sA w0.heap.size tv cv { m with tem:=ts,cells:=cs } w'/\PS T Y M fr s w':=by
 have:=h.lY;have:=h.lM;have:=h.lR;obtain⟨vs,o,c⟩:=h.oc;refine⟨⟨aB h.ot fun k hk=>so k ?_,vs,aB o fun k hk=>so k ?_,c.keepT fun k o T ho hT hk=>so k ?_⟩,h.ps.put (R:=R) (by omega) (by omega) h.hR (by decide) so⟩
 ·rintro rfl;obtain⟨c',hc'⟩:=bA h.ot hk;exact aS h.hR hc' (by decide)
 ·rintro rfl;obtain⟨c',hc'⟩:=bA o hk;exact aS h.hR hc' (by decide)
 ·rintro rfl;exact aS h.hR ho (by rintro rfl;rcases hT with(e|e|e|e|e)|e|e<;>simp at e)
theorem fS.pushT(h:fS w0 T Y M fr R E m tv cv ts cs s w)(hg:w.grownBy w' tv.ownBlock){tv':Value}{t:Int×Int×Bool}(ho:w'.ownsRow w0.heap.size 175 3 tv' (ts.length+1) (bT RW ts++(RW t).toList)) :
  w'.heap[E]?=some (.cells (aU m tv cv) 94 (0,0))/\fS w0 T Y M fr R E m tv' cv (ts++[t]) cs s (w'.setCell ⟨E,20,none⟩ tv'):=by
 have lY:=h.lY;have lM:=h.lM;have lR:=h.lR;have lE:=h.lE;obtain⟨vs,o,c⟩:=h.oc;have tB:∀k,tv.ownBlock=some k->∃c',w.heap[k]?=some (.cells c' 175 (0,0)):=fun k hk=>bA h.ot hk;have ne:∀(k:Nat)(x:Array Value)(t:TypeId),w.heap[k]?=some (.cells x t (0,0))->t≠175->k<w.heap.size/\tv.ownBlock≠some k:=fun k x t hk ht=>⟨aA hk,fun e=>by
  obtain⟨c',hc'⟩:=tB k e;exact aS hk hc' ht⟩
 have kp:∀(k:Nat)(x:Array Value)(t:TypeId),w.heap[k]?=some (.cells x t (0,0))->t≠175->w'.heap[k]?=w.heap[k]?:=fun k x t hk ht=>hg.block k (ne k x t hk ht).1 (fun e=>(ne k x t hk ht).2 e.symm);have so:=aH w' E 20 tv';have hE':=(kp _ _ _ h.hE (by decide)).trans h.hE;have nE:∀k,tv'.ownBlock=some k->k≠E:=fun k hk e=>by
  obtain⟨c',hc'⟩:=bA ho hk;subst e;exact aS hE' hc' (by decide)
 refine⟨hE',⟨?_,?_,(so _ (by omega)).trans ((kp _ _ _ h.hR (by decide)).trans h.hR),?_,⟨vs,aB o fun k hk => ?_,c.keepT fun k x t hx hT hk => ?_⟩,?_,lY,lM,lR,lE⟩⟩
 ·refine(h.ps.grown hg fun k hk => ?_).put (R:=E) (by omega) (by omega) hE' (by decide) so;obtain⟨c',hc'⟩:=tB k hk;exact⟨by have:=(h.ot.lt k hk).1;omega,by have:=(h.ot.lt k hk).1;omega,c',_,hc',by decide⟩
 ·rw[Lib.heap_setCell_same (i:=20) hE' tv'];rfl
 ·have:=aB ho fun k hk=>so k (nE k hk);rw[eV,qf];exact this
 ·obtain⟨c',hc'⟩:=bA o hk;exact(so k (by rintro rfl;exact aS hc' h.hE (by decide))).trans (kp _ _ _ hc' (by decide))
 ·have h9:t≠175/\t≠94:=by constructor<;>(rintro rfl;simp[CT,VT]at hT)
  exact(so k (by rintro rfl;exact aS hx h.hE h9.2)).trans (kp _ _ _ hx h9.1)
 ·exact(h.aw.grown hg fun k hk=>(h.ot.lt k hk).1).setCell (p:=⟨E,20,none⟩) (.inr (by show w0.heap.size<=E;omega)) tv'
theorem fS.pushC(h:fS w0 T Y M fr R E m tv cv ts cs s w)(hg:w.grownBy w' cv.ownBlock){cv' a b:Value}{c1:jF}{vs:List Value}(ho1:w.ownsRow w0.heap.size 98 2 cv cs.length vs)(hc1:UW w0.heap.size cs vs w)(hn:qL w0.heap.size a b c1 w)(ho:w'.ownsRow w0.heap.size 98 2 cv' (cs.length+1) (vs++[a,b])) :
  w'.heap[E]?=some (.cells (aU m tv cv) 94 (0,0))/\fS w0 T Y M fr R E m tv cv' ts (cs++[c1]) s (w'.setCell ⟨E,21,none⟩ cv'):=by
 have lY:=h.lY;have lM:=h.lM;have lR:=h.lR;have lE:=h.lE;have tB:∀k,cv.ownBlock=some k->∃c',w.heap[k]?=some (.cells c' 98 (0,0)):=fun k hk=>bA ho1 hk;have ne:∀(k:Nat)(x:Array Value)(t:TypeId),w.heap[k]?=some (.cells x t (0,0))->t≠98->k<w.heap.size/\cv.ownBlock≠some k:=fun k x t hk ht=>⟨aA hk,fun e=>by
  obtain⟨c',hc'⟩:=tB k e;exact aS hk hc' ht⟩
 have kp:∀(k:Nat)(x:Array Value)(t:TypeId),w.heap[k]?=some (.cells x t (0,0))->t≠98->w'.heap[k]?=w.heap[k]?:=fun k x t hk ht=>hg.block k (ne k x t hk ht).1 (fun e=>(ne k x t hk ht).2 e.symm);have so:=aH w' E 21 cv';have hE':=(kp _ _ _ h.hE (by decide)).trans h.hE;have nE:∀k,cv'.ownBlock=some k->k≠E:=fun k hk e=>by
  obtain⟨c',hc'⟩:=bA ho hk;subst e;exact aS hE' hc' (by decide)
 have kT:∀(k:Nat)(x:Array Value)(t:TypeId),w.heap[k]?=some (.cells x t (0,0))->CT t->w0.heap.size<=k->(w'.setCell ⟨E,21,none⟩ cv').heap[k]?=w.heap[k]?:=fun k x t hx hT _=>by
  have h9:t≠98/\t≠94:=by constructor<;>(rintro rfl;simp[CT,VT]at hT)
  exact(so k (by rintro rfl;exact aS hx h.hE h9.2)).trans (kp _ _ _ hx h9.1)
 refine⟨hE',⟨?_,?_,(so _ (by omega)).trans ((kp _ _ _ h.hR (by decide)).trans h.hR),aB h.ot fun k hk => ?_,⟨vs++[a,b],?_,(hc1.keepT kT).snoc (hn.keepT kT)⟩,?_,lY,lM,lR,lE⟩⟩
 ·refine(h.ps.grown hg fun k hk => ?_).put (R:=E) (by omega) (by omega) hE' (by decide) so;obtain⟨c',hc'⟩:=tB k hk;exact⟨by have:=(ho1.lt k hk).1;omega,by have:=(ho1.lt k hk).1;omega,c',_,hc',by decide⟩
 ·rw[Lib.heap_setCell_same (i:=21) hE' cv'];rfl
 ·obtain⟨c',hc'⟩:=bA h.ot hk;exact(so k (by rintro rfl;exact aS hc' h.hE (by decide))).trans (kp _ _ _ hc' (by decide))
 ·have:=aB ho fun k hk=>so k (nE k hk);rw[qf];exact this
 ·exact(h.aw.grown hg fun k hk=>(ho1.lt k hk).1).setCell (p:=⟨E,21,none⟩) (.inr (by show w0.heap.size<=E;omega)) cv'
end
theorem Tryz.infotem:(Tryz.prog.info? 175).map (fun i=>(i.zero.map fun z=>z.cells.size,i.size,i.bytes))=some (some 3,3,24):=by kernel_rfl
theorem Tryz.infocell:(Tryz.prog.info? 98).map (fun i=>(i.zero.map fun z=>z.cells.size,i.size,i.bytes))=some (some 2,2,48):=by kernel_rfl
theorem XQ{s:ByteArray}{f:Value}(h:f.oneCell'=true):(#[.string s,f]:Array Value).all (·.oneCell')=true:=by cases f<;>simp_all[Value.oneCell']
theorem aJD{j:Nat}(hj:j<14)(a:Array Value)(w:World):Sem.run Tryz.prog (callFunc (oFn j) a) w=.ok (.enter (oFn j) a) w:=by
 rcases(by omega:j=0\/j=1\/j=2\/j=3\/j=4\/j=5\/j=6\/j=7\/j=8\/j=9\/j=10\/j=11\/j=12\/j=13)with rfl|rfl|rfl|rfl|rfl|rfl|rfl|rfl|rfl|rfl|rfl|rfl|rfl|rfl;all_goals unfold oFn
 all_goals first|go_simp|skip
section
variable{O:yB}{B:XP}{T:List aX}
theorem aCG{k:Nat}{s:aD}(h:isS T ⟨#[116,101,109,112,111]⟩ s=false):jN T k s=([],s):=by
 cases k with
 |zero=>rfl
 |succ k=>rw[jN,if_neg (by rw[h];decide)]
theorem ZH{k:Nat}{s:aD}(h:isS T ⟨#[116,101,109,112,111]⟩ s=true):jN T (k+1) s =
  (((bD T 0 4398046511104 (s.next 1)).1,(bD T 1 60000000 (bD T 0 4398046511104 (s.next 1)).2).1,isS T ⟨#[114,97,109,112]⟩ (bD T 1 60000000 (bD T 0 4398046511104 (s.next 1)).2).2)::(jN T k (aY T ⟨#[114,97,109,112]⟩ (bD T 1 60000000 (bD T 0 4398046511104 (s.next 1)).2).2)).1,
   (jN T k (aY T ⟨#[114,97,109,112]⟩ (bD T 1 60000000 (bD T 0 4398046511104 (s.next 1)).2).2)).2):=by
 rw[jN,if_pos h]
theorem aCH{k:Nat}{I:eQ}{s:aD}(h:isS T ⟨#[47]⟩ s=false):kW O B T k I s=(([],I),s):=by
 cases k with
 |zero=>rfl
 |succ k=>rw[kW,if_neg (by rw[h];decide)]
theorem ZJ{k:Nat}{I I2:eQ}{s s2:aD}{c:jF}(h:isS T ⟨#[47]⟩ s=true)(h2:jY O B T I (s.next 1)=((c,I2),s2)):kW O B T (k+1) I s=((c::(kW O B T k I2 s2).1.1,(kW O B T k I2 s2).1.2),(kW O B T k I2 s2).2):=by
 rw[kW,if_pos h];simp only;rw[h2]
end
section
variable{w0:World}{T:List aX}{Y M:Nat}{fr fr':Fr}{R E:Nat}{m:bC}{tv cv:Value}{ts:List (Int×Int×Bool)}{cs:List jF}{s s':aD}{w w':World}
theorem fS.number(h:fS w0 T Y M fr R E m tv cv ts cs s w)(lo hi:Int):Calls Tryz.prog 114 #[.pointer (some ⟨Y,0,none⟩),Z lo,Z hi] w fun r w'=>r=.returned (Z (bD T lo hi s).1)/\fS w0 T Y M fr R E m tv cv ts cs (bD T lo hi s).2 w'/\aC [Y,M] w w' :=
 (jJ h.ps lo hi).mono (by rintro r w' ⟨hr,hS,a⟩;exact⟨hr,h.call hS a,a⟩)
theorem fS.accept(h:fS w0 T Y M fr R E m tv cv ts cs s w)(u:ByteArray):Calls Tryz.prog 53 #[.pointer (some ⟨Y,0,none⟩),.string u] w fun r w'=>r=.returned (.bool (isS T u s))/\fS w0 T Y M fr R E m tv cv ts cs (aY T u s) w'/\aC [Y,M] w w' :=
 (d9 h.ps u).mono (by rintro r w' ⟨hr,hS,a⟩;exact⟨hr,h.call hS a,a⟩)
theorem fS.expect(h:fS w0 T Y M fr R E m tv cv ts cs s w)(u:ByteArray):Calls Tryz.prog 54 #[.pointer (some ⟨Y,0,none⟩),.string u] w fun r w'=>r=.returned (.tuple #[])/\fS w0 T Y M fr R E m tv cv ts cs (bY T u s) w'/\aC [Y,M] w w' :=
 (iX h.ps u).mono (by rintro r w' ⟨hr,hS,a⟩;exact⟨hr,h.call hS a,a⟩)
theorem fS.cell {W0 : World} {I : eQ} {mo : ByteArray -> Option kM} (hI : dH I) (B : mF W0 [Y, M] w0) (h : fS w0 T Y M (gS I) R E m tv cv ts cs s w) : Calls Tryz.prog 136 #[.pointer (some ⟨Y, 0, none⟩)] w fun r w' => ∃ a b, r = .returned (.agg #[a, b]) /\
  qL w0.heap.size a b (jY aK ⟨aP,mo⟩ T I s).1.1 w'/\fS w0 T Y M (gS (jY aK ⟨aP,mo⟩ T I s).1.2) R E m tv cv ts cs (jY aK ⟨aP,mo⟩ T I s).2 w'/\aC [Y,M] w w' :=
 (aG7 hI h.ps (B.away h.aw)).mono (by rintro r w' ⟨a,b,hr,hc,hS,aw⟩;exact⟨a,b,hr,hc.lo h.aw.size,h.call hS aw,aw⟩)
theorem uF(T:List aX)(s:aD):need T s<=T.length:=by
 cases s with
 |ok p=>exact Nat.sub_le _ _
 |bad e l c=>exact ql _
theorem aCJ{O:yB}{B:XP}{b m:bC}{I I1 I2 I3:eQ}{st s1 s2 s3 s4 s5:aD}{v0 v1:Int}{ts:List (Int×Int×Bool)}{c:jF}{cs:List jF}(h1:gR T I st=(((v0,v1),I1),s1))(h2:nQ T (fT B T) (yU v0 v1 b.m b.fif) s1=(m,s2))(h3:jN T T.length s2=(ts,s3))(h4:jY O B T I1 (bY T ⟨#[123]⟩ s3)=((c,I2),s4))(h5:kW O B T T.length I2 s4=((cs,I3),s5)) :
  lF O B T b I st=(({ m with tem:=ts,cells:=c::cs },I3),bY T ⟨#[125]⟩ s5):=by
 unfold lF;unfold yU at h2;rw[h1];simp only;rw[h2];simp only;rw[h3];simp only;rw[h4];simp only;rw[h5]
end
section
variable{O:yB}{B:XP}{T:List aX}
theorem zX:∀(k:Nat)(s:aD),dM s (jB B T k s).2
 |0,s=>dM.refl s
 |k+1,s=>by
  rw[jB];split
  ·exact(((dS s 1).trans (eE T 0 _ _).back).trans (xH _)).trans (zX k _)
  ·exact dM.refl s
theorem HU:∀(k:Nat)(I:eQ)(s:aD),dM s (kF O T k I s).2
 |0,_,s=>dM.refl s
 |k+1,I,s=>by
  rw[kF];split
  ·exact((dS s 1).trans (i6 O T _ _ 0 0 I _)).trans (HU k _ _)
  ·exact dM.refl s
theorem CX(I:eQ)(s:aD):dM s (jY O B T I s).2:=by
 unfold jY;simp only;split
 ·exact(zX _ s).trans (i6 O T _ _ 0 0 I _)
 ·exact((zX _ s).trans (i6 O T _ _ 0 0 I _)).trans (HU _ _ _)
theorem H4:∀(k:Nat)(I:eQ)(s:aD),dM s (kW O B T k I s).2
 |0,_,s=>dM.refl s
 |k+1,I,s=>by
  rw[kW];split
  ·exact((dS s 1).trans (CX I _)).trans (H4 k _ _)
  ·exact dM.refl s
theorem H5:∀(k:Nat)(s:aD),dM s (jN T k s).2
 |0,s=>dM.refl s
 |k+1,s=>by
  rw[jN];split
  ·exact((((dS s 1).trans (eE T 0 _ _).back).trans (eE T 1 _ _).back).trans (B4 T _ _)).trans (H5 k _)
  ·exact dM.refl s
theorem H8(n:Int)(s:aD):dM s (sZ T n s).2:=by
 unfold sZ;split
 ·exact(dS s 1).trans (eE T 0 n _).back
 ·exact(eE T 0 n s).back
theorem aCB(s:aD):dM s (vB B T s).2:=by
 unfold vB;split
 ·split
  ·exact(fL _ _ _).back
  ·exact dS _ _
 ·exact(fL _ _ _).back
theorem LW(L:List ByteArray)(s:aD):dM s (bV T L s).2:=by
 unfold bV;split
 ·exact(fL _ _ _).back
 ·split
  ·exact(fL _ _ _).back
  ·exact dS _ _
theorem JA(s:aD):dM s (fU T s).2:=by
 unfold fU;split
 ·exact dS _ _
 ·exact(fL _ _ _).back
theorem uD(s:aD):i7 s (bG T s).2:=fun _ h=>BP h
theorem LX:∀(L:List (ByteArray×(bC->aD->bC×aD)))(m:bC)(s:aD),(∀o∈L,∀m s,dM s (o.2 m s).2)->dM s (nQ T L m s).2
 | [],_,s,_=>dM.refl s
 |o::L,m,s,h=>by
  rw[nQ];refine dM.trans ?_ (LX L _ _ fun o ho=>h o (qqz _ ho));unfold US;split
  ·exact(dS s 1).trans (h o (List.mem_cons_self ..) m _)
  ·exact dM.refl s
theorem UQ(m:bC)(s:aD):dM s (nQ T (fT B T) m s).2:=by
 refine LX _ m s ?_;unfold fT;intro o ho m s;simp only[qqt,List.not_mem_nil,or_false]at ho;rcases ho with rfl|rfl|rfl|rfl|rfl|rfl|rfl|rfl|rfl|rfl|rfl|rfl|rfl|rfl
 ·exact aCB s
 ·exact(eE T _ _ s).back
 ·exact H8 _ s
 ·exact dM.refl s
 ·exact(eE T _ _ s).back
 ·exact(eE T _ _ s).back
 ·exact LW _ s
 ·exact dM.refl s
 ·exact dM.refl s
 ·exact dM.refl s
 ·exact dM.refl s
 ·exact(eE T _ _ s).back
 ·exact LW _ s
 ·exact JA s
theorem ZA(b:bC)(I:eQ)(s:aD):dM s (lF O B T b I s).2:=by
 unfold lF;exact((((((oP T I s).trans (UQ _ _)).trans (H5 _ _)).trans (fY T _ _).back).trans (CX _ _)).trans (H4 _ _ _)).trans (fY T _ _).back
theorem D7:∀(k:Nat)(I:eQ)(s:aD),dM s (eA B T k I s).2
 |0,_,s=>dM.refl s
 |k+1,I,s=>by
  rw[eA];split
  ·exact(((dS s 1).trans (oP T I _)).trans (xH _)).trans (D7 k _ _)
  ·exact dM.refl s
theorem ZB(I:eQ)(s:aD):dM s (jG B T I s).2:=by
 unfold jG;simp only;refine dM.trans ?_ (D7 _ _ _);split
 ·exact((((oP T I s).trans (JA _)).trans (dS _ 1)).trans (H8 _ _)).trans (H8 _ _)
 ·exact(oP T I s).trans (JA _)
theorem m6:∀(k:Nat)(v:fG)(least n:Int)(I:eQ)(s:aD),dH I->dH (cL O T k v least n I s).1.2
 |0,_,_,_,_,_,h=>h
 |k+1,v,least,n,I,s,h=>by
  rw[cL];split
  ·exact h
  ·split
   ·exact m6 k _ _ _ _ _ (m6 k _ _ _ _ _ h)
   ·split
    ·exact m6 k _ _ _ _ _ (EC h)
    ·exact h
theorem D8:∀(k:Nat)(I:eQ)(s:aD),dH I->dH (kF O T k I s).1.2
 |0,_,_,h=>h
 |k+1,I,s,h=>by
  rw[kF];split
  ·exact D8 k _ _ (m6 _ _ _ _ _ _ h)
  ·exact h
theorem uE{I:eQ}{s:aD}(h:dH I):dH (jY O B T I s).1.2:=by
 unfold jY;simp only;split
 ·exact m6 _ _ _ _ _ _ h
 ·exact D8 _ _ _ (m6 _ _ _ _ _ _ h)
theorem D9:∀(k:Nat)(I:eQ)(s:aD),dH I->dH (kW O B T k I s).1.2
 |0,_,_,h=>h
 |k+1,I,s,h=>by
  rw[kW];split
  ·exact D9 k _ _ (uE h)
  ·exact h
theorem JB{b:bC}{I:eQ}{s:aD}(h:dH I):dH (lF O B T b I s).1.2:=by
 unfold lF;exact D9 _ _ _ (uE (kP h))
theorem BL:∀(k:Nat)(I:eQ)(s:aD),dH I->dH (eA B T k I s).1.2
 |0,_,_,h=>h
 |k+1,I,s,h=>by
  rw[eA];split
  ·exact BL k _ _ (kP h)
  ·exact h
theorem JC{I:eQ}{s:aD}(h:dH I):dH (jG B T I s).1.2:=by
 unfold jG;exact BL _ _ _ (kP h)
end
end Go.Proofs.YtgkhemnmcgicnaaGreatDoor
