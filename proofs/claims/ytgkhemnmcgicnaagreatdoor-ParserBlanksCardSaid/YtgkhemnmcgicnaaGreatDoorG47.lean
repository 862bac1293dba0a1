/- Towards the law ParserBlanks, true for every text and all blanks (no condition): one part of the proof. -/
import Derived.Test.YtgkhemnmcgicnaaGreatDoorG01
import Derived.Test.YtgkhemnmcgicnaaGreatDoorG45
import Derived.Test.YtgkhemnmcgicnaaGreatDoorG46
import Derived.Test.YtgkhemnmcgicnaaGreatDoorG43
import Derived.Deep.RegionHeld3
import Derived.ChangeKeysEq
import Derived.Deep.AppendLies
namespace Go.Proofs.YtgkhemnmcgicnaaGreatDoor
set_option maxHeartbeats 8000000
set_option maxRecDepth 100000
open Go.RowKit
theorem aKF(v v':Value)(rows:List (Array Value))(w:World)(hbig:rows.length<=9223372036854775807)(h:kY w 3 v rows)(h':kY w 3 v' rows)
  (hf:∀r∈rows,∃a0:Int,∃a1:Int,∃a2:Int,r=#[Z a0,Z a1,Z a2]) :
  Calls Tryz.prog 46 #[v,v'] w fun e w'=>e=.returned (.bool true)/\Below w.heap.size w w':=by
 obtain⟨ao,c,rfl⟩:=h.is;obtain⟨ao',c',rfl⟩:=h'.is;go_enter Tryz.func46,Tryz.ntmps46;go_wp2
 go_loopg [13] rows.length (fun g s13 wr=>∃k:Nat,k<=rows.length/\g=rows.length-k/\s13=Z (k:Nat)/\Below w.heap.size w wr)
 case atStart=>exact⟨0,ql _,rfl,rfl,qb _ _⟩
 case round =>
  obtain⟨k,hk,hg,rfl,hb⟩:=hrel;by_cases hlt:k<rows.length
  ·have hlt':(k:Int)<(rows.length:Int):=by omega
   have hk0:(0:Int)<=(k:Int):=by omega
   obtain⟨g,o,r,rfl,hr,hs,ha,hc⟩:=(h.step hb).at hlt;obtain⟨g',o',r',rfl,hr',hs',ha',hc'⟩:=(h'.step hb).at hlt;rw[hr]at hr';injection hr' with hr';subst hr';obtain⟨a0,a1,a2,rfl⟩:=hf _ (List.mem_of_getElem? hr);clear hf h h' ha ha' hs hs';have x0:wr.cell? ⟨g,o+k*3,none⟩=some (Z a0):=hc 0 _ rfl;have y0:wr.cell? ⟨g',o'+k*3,none⟩=some (Z a0):=hc' 0 _ rfl;have x1:wr.cell? ⟨g,o+k*3+1,none⟩=some (Z a1):=hc 1 _ rfl;have y1:wr.cell? ⟨g',o'+k*3+1,none⟩=some (Z a1):=hc' 1 _ rfl;have x2:wr.cell? ⟨g,o+k*3+2,none⟩=some (Z a2):=hc 2 _ rfl;have y2:wr.cell? ⟨g',o'+k*3+2,none⟩=some (Z a2):=hc' 2 _ rfl;have m1:IntKind.i64.wrap ((k:Int)+1)=(k:Int)+1:=IntWalk.i64_in _ (by omega);clear hc hc';go_wp2
   go_region
   all_goals go_wp2
   all_goals go_roundg (rows.length-(k+1))
   all_goals first
    |omega
    |exact⟨k+1,by omega,rfl,by simp,hb.drew⟩
  ·have:k=rows.length:=by omega
   subst this;go_wp2;go_ret;exact⟨rfl,hb⟩
theorem aKG(v v':Value)(rows:List (Array Value))(w:World)(hbig:rows.length<=9223372036854775807)(h:kY w 7 v rows)(h':kY w 7 v' rows)
  (hf:∀r∈rows,∃a0:Int,∃a1:Int,∃a2:Int,∃a3:Int,∃a4:Int,∃a5:Int,∃a6:Int,r=#[Z a0,Z a1,Z a2,Z a3,Z a4,Z a5,Z a6]) :
  Calls Tryz.prog 50 #[v,v'] w fun e w'=>e=.returned (.bool true)/\Below w.heap.size w w':=by
 obtain⟨ao,c,rfl⟩:=h.is;obtain⟨ao',c',rfl⟩:=h'.is;go_enter Tryz.func50,Tryz.ntmps50;go_wp2
 go_loopg [13] rows.length (fun g s13 wr=>∃k:Nat,k<=rows.length/\g=rows.length-k/\s13=Z (k:Nat)/\Below w.heap.size w wr)
 case atStart=>exact⟨0,ql _,rfl,rfl,qb _ _⟩
 case round =>
  obtain⟨k,hk,hg,rfl,hb⟩:=hrel;by_cases hlt:k<rows.length
  ·have hlt':(k:Int)<(rows.length:Int):=by omega
   have hk0:(0:Int)<=(k:Int):=by omega
   obtain⟨g,o,r,rfl,hr,hs,ha,hc⟩:=(h.step hb).at hlt;obtain⟨g',o',r',rfl,hr',hs',ha',hc'⟩:=(h'.step hb).at hlt;rw[hr]at hr';injection hr' with hr';subst hr';obtain⟨a0,a1,a2,a3,a4,a5,a6,rfl⟩:=hf _ (List.mem_of_getElem? hr);clear hf h h' ha ha' hs hs';have x0:wr.cell? ⟨g,o+k*7,none⟩=some (Z a0):=hc 0 _ rfl;have y0:wr.cell? ⟨g',o'+k*7,none⟩=some (Z a0):=hc' 0 _ rfl;have x1:wr.cell? ⟨g,o+k*7+1,none⟩=some (Z a1):=hc 1 _ rfl;have y1:wr.cell? ⟨g',o'+k*7+1,none⟩=some (Z a1):=hc' 1 _ rfl;have x2:wr.cell? ⟨g,o+k*7+2,none⟩=some (Z a2):=hc 2 _ rfl;have y2:wr.cell? ⟨g',o'+k*7+2,none⟩=some (Z a2):=hc' 2 _ rfl;have x3:wr.cell? ⟨g,o+k*7+3,none⟩=some (Z a3):=hc 3 _ rfl;have y3:wr.cell? ⟨g',o'+k*7+3,none⟩=some (Z a3):=hc' 3 _ rfl;have x4:wr.cell? ⟨g,o+k*7+4,none⟩=some (Z a4):=hc 4 _ rfl;have y4:wr.cell? ⟨g',o'+k*7+4,none⟩=some (Z a4):=hc' 4 _ rfl;have x5:wr.cell? ⟨g,o+k*7+5,none⟩=some (Z a5):=hc 5 _ rfl;have y5:wr.cell? ⟨g',o'+k*7+5,none⟩=some (Z a5):=hc' 5 _ rfl;have x6:wr.cell? ⟨g,o+k*7+6,none⟩=some (Z a6):=hc 6 _ rfl;have y6:wr.cell? ⟨g',o'+k*7+6,none⟩=some (Z a6):=hc' 6 _ rfl;have m1:IntKind.i64.wrap ((k:Int)+1)=(k:Int)+1:=IntWalk.i64_in _ (by omega);clear hc hc';go_wp2
   go_region
   all_goals go_wp2
   all_goals go_roundg (rows.length-(k+1))
   all_goals first
    |omega
    |exact⟨k+1,by omega,rfl,by simp,hb.drew⟩
  ·have:k=rows.length:=by omega
   subst this;go_wp2;go_ret;exact⟨rfl,hb⟩
theorem aKH(v v':Value)(rows:List (Array Value))(w:World)(hbig:rows.length<=9223372036854775807)(h:kY w 2 v rows)(h':kY w 2 v' rows)
  (hf:∀r∈rows,∃a0:Int,∃a1:Int,r=#[Z a0,Z a1]) :
  Calls Tryz.prog 51 #[v,v'] w fun e w'=>e=.returned (.bool true)/\Below w.heap.size w w':=by
 obtain⟨ao,c,rfl⟩:=h.is;obtain⟨ao',c',rfl⟩:=h'.is;go_enter Tryz.func51,Tryz.ntmps51;go_wp2
 go_loopg [13] rows.length (fun g s13 wr=>∃k:Nat,k<=rows.length/\g=rows.length-k/\s13=Z (k:Nat)/\Below w.heap.size w wr)
 case atStart=>exact⟨0,ql _,rfl,rfl,qb _ _⟩
 case round =>
  obtain⟨k,hk,hg,rfl,hb⟩:=hrel;by_cases hlt:k<rows.length
  ·have hlt':(k:Int)<(rows.length:Int):=by omega
   have hk0:(0:Int)<=(k:Int):=by omega
   obtain⟨g,o,r,rfl,hr,hs,ha,hc⟩:=(h.step hb).at hlt;obtain⟨g',o',r',rfl,hr',hs',ha',hc'⟩:=(h'.step hb).at hlt;rw[hr]at hr';injection hr' with hr';subst hr';obtain⟨a0,a1,rfl⟩:=hf _ (List.mem_of_getElem? hr);clear hf h h' ha ha' hs hs';have x0:wr.cell? ⟨g,o+k*2,none⟩=some (Z a0):=hc 0 _ rfl;have y0:wr.cell? ⟨g',o'+k*2,none⟩=some (Z a0):=hc' 0 _ rfl;have x1:wr.cell? ⟨g,o+k*2+1,none⟩=some (Z a1):=hc 1 _ rfl;have y1:wr.cell? ⟨g',o'+k*2+1,none⟩=some (Z a1):=hc' 1 _ rfl;have m1:IntKind.i64.wrap ((k:Int)+1)=(k:Int)+1:=IntWalk.i64_in _ (by omega);clear hc hc';go_wp2
   go_region
   all_goals go_wp2
   all_goals go_roundg (rows.length-(k+1))
   all_goals first
    |omega
    |exact⟨k+1,by omega,rfl,by simp,hb.drew⟩
  ·have:k=rows.length:=by omega
   subst this;go_wp2;go_ret;exact⟨rfl,hb⟩
theorem aKJ(v v':Value)(rows:List (Array Value))(w:World)(hbig:rows.length<=9223372036854775807)(h:kY w 3 v rows)(h':kY w 3 v' rows)
  (hf:∀r∈rows,∃a0:Int,∃a1:Int,∃a2:Bool,r=#[Z a0,Z a1,.bool a2]) :
  Calls Tryz.prog 99 #[v,v'] w fun e w'=>e=.returned (.bool true)/\Below w.heap.size w w':=by
 obtain⟨ao,c,rfl⟩:=h.is;obtain⟨ao',c',rfl⟩:=h'.is;go_enter Tryz.func99,Tryz.ntmps99;go_wp2
 go_loopg [13] rows.length (fun g s13 wr=>∃k:Nat,k<=rows.length/\g=rows.length-k/\s13=Z (k:Nat)/\Below w.heap.size w wr)
 case atStart=>exact⟨0,ql _,rfl,rfl,qb _ _⟩
 case round =>
  obtain⟨k,hk,hg,rfl,hb⟩:=hrel;by_cases hlt:k<rows.length
  ·have hlt':(k:Int)<(rows.length:Int):=by omega
   have hk0:(0:Int)<=(k:Int):=by omega
   obtain⟨g,o,r,rfl,hr,hs,ha,hc⟩:=(h.step hb).at hlt;obtain⟨g',o',r',rfl,hr',hs',ha',hc'⟩:=(h'.step hb).at hlt;rw[hr]at hr';injection hr' with hr';subst hr';obtain⟨a0,a1,a2,rfl⟩:=hf _ (List.mem_of_getElem? hr);clear hf h h' ha ha' hs hs';have x0:wr.cell? ⟨g,o+k*3,none⟩=some (Z a0):=hc 0 _ rfl;have y0:wr.cell? ⟨g',o'+k*3,none⟩=some (Z a0):=hc' 0 _ rfl;have x1:wr.cell? ⟨g,o+k*3+1,none⟩=some (Z a1):=hc 1 _ rfl;have y1:wr.cell? ⟨g',o'+k*3+1,none⟩=some (Z a1):=hc' 1 _ rfl;have x2:wr.cell? ⟨g,o+k*3+2,none⟩=some (.bool a2):=hc 2 _ rfl;have y2:wr.cell? ⟨g',o'+k*3+2,none⟩=some (.bool a2):=hc' 2 _ rfl;have m1:IntKind.i64.wrap ((k:Int)+1)=(k:Int)+1:=IntWalk.i64_in _ (by omega);clear hc hc';go_wp2
   go_region
   all_goals go_wp2
   all_goals go_roundg (rows.length-(k+1))
   all_goals first
    |omega
    |exact⟨k+1,by omega,rfl,by simp,hb.drew⟩
  ·have:k=rows.length:=by omega
   subst this;go_wp2;go_ret;exact⟨rfl,hb⟩
theorem aHT(v v':Value)(rows:List (Array Value))(w:World)(hbig:rows.length<=9223372036854775807)(h:kY w 2 v rows)(h':kY w 2 v' rows)
  (hf:∀r∈rows,∃a0:Int,∃a1:Int,r=#[Z a0,Z a1]) :
  Calls Tryz.prog 140 #[v,v'] w fun e w'=>e=.returned (.bool true)/\Below w.heap.size w w':=by
 obtain⟨ao,c,rfl⟩:=h.is;obtain⟨ao',c',rfl⟩:=h'.is;go_enter Tryz.func140,Tryz.ntmps140;go_wp2
 go_loopg [13] rows.length (fun g s13 wr=>∃k:Nat,k<=rows.length/\g=rows.length-k/\s13=Z (k:Nat)/\Below w.heap.size w wr)
 case atStart=>exact⟨0,ql _,rfl,rfl,qb _ _⟩
 case round =>
  obtain⟨k,hk,hg,rfl,hb⟩:=hrel;by_cases hlt:k<rows.length
  ·have hlt':(k:Int)<(rows.length:Int):=by omega
   have hk0:(0:Int)<=(k:Int):=by omega
   obtain⟨g,o,r,rfl,hr,hs,ha,hc⟩:=(h.step hb).at hlt;obtain⟨g',o',r',rfl,hr',hs',ha',hc'⟩:=(h'.step hb).at hlt;rw[hr]at hr';injection hr' with hr';subst hr';obtain⟨a0,a1,rfl⟩:=hf _ (List.mem_of_getElem? hr);clear hf h h' ha ha' hs hs';have x0:wr.cell? ⟨g,o+k*2,none⟩=some (Z a0):=hc 0 _ rfl;have y0:wr.cell? ⟨g',o'+k*2,none⟩=some (Z a0):=hc' 0 _ rfl;have x1:wr.cell? ⟨g,o+k*2+1,none⟩=some (Z a1):=hc 1 _ rfl;have y1:wr.cell? ⟨g',o'+k*2+1,none⟩=some (Z a1):=hc' 1 _ rfl;have m1:IntKind.i64.wrap ((k:Int)+1)=(k:Int)+1:=IntWalk.i64_in _ (by omega);clear hc hc';go_wp2
   go_region
   all_goals go_wp2
   all_goals go_roundg (rows.length-(k+1))
   all_goals first
    |omega
    |exact⟨k+1,by omega,rfl,by simp,hb.drew⟩
  ·have:k=rows.length:=by omega
   subst this;go_wp2;go_ret;exact⟨rfl,hb⟩
set_option maxHeartbeats 16000000
theorem Tryz.sizePlain:(Tryz.prog.info? 171).map (·.size)=some 20:=by kernel_rfl
def q8(m:bC):Array Value:=#[Z m.i0,Z m.i1,Z m.m.c,Z m.m.u,Z m.m.g0,Z m.m.g1,Z m.m.g2,Z m.m.g3,Z m.m.g4,Z m.m.g5,Z m.len,Z m.fif,.bool m.rs,Z m.re,Z m.en,Z m.ju,Z m.la,Z m.sw,Z m.br,.string m.reh]
def zS(m:bC):List (Nat×Value):=[(0,.agg #[Z m.i0,Z m.i1]),(1,.agg m.m.cells),(2,Z m.len),(3,Z m.fif),(4,.bool m.rs),(5,Z m.re),(6,Z m.en),(7,Z m.ju),(8,Z m.la),(9,Z m.sw),(10,Z m.br),(11,.string m.reh)]
theorem RC(m:bC):Tryz.prog.built 171 (zS m)=some (q8 m):=by kernel_rfl
theorem wN{w:World}{X:Nat}{m:bC}{tv cv:Value}{fr:Nat×Nat}(h:w.heap[X]?=some (.cells (aU m tv cv) 94 fr))(j:Nat){u:Value}(hu:(aU m tv cv)[j]?=some u):w.cell? ⟨X,j,none⟩=some u:=by
 rw[Lib.cell_of_heap h];exact hu
theorem D2(m:bC)(ta ca:Option Addr)(tn tc cn cc:Nat)(w:World) :
  Calls Tryz.prog 98 #[.agg (aU m (.slice ta tn tc) (.slice ca cn cc))] w fun r w'=>r=.returned (.agg (q8 m))/\Below w.heap.size w w':=by
 have hc:∀(o:Obj)(j:Nat)(u:Value),(aU m (.slice ta tn tc) (.slice ca cn cc))[j]?=some u->((w.alloc (.cells (aU m (.slice ta tn tc) (.slice ca cn cc)) 94)).alloc o).cell? ⟨w.heap.size,j,none⟩=some u:=fun o j u hu=>wN (heap_alloc2_old w _ _) j hu;have c0:∀o:Obj,((w.alloc (.cells (aU m (.slice ta tn tc) (.slice ca cn cc)) 94)).alloc o).cell? ⟨w.heap.size,0,none⟩=some (Z m.i0):=fun o=>hc o 0 _ rfl;have c1:∀o:Obj,((w.alloc (.cells (aU m (.slice ta tn tc) (.slice ca cn cc)) 94)).alloc o).cell? ⟨w.heap.size,1,none⟩=some (Z m.i1):=fun o=>hc o 1 _ rfl;have c2:∀o:Obj,((w.alloc (.cells (aU m (.slice ta tn tc) (.slice ca cn cc)) 94)).alloc o).cell? ⟨w.heap.size,2,none⟩=some (Z m.m.c):=fun o=>hc o 2 _ rfl;have c3:∀o:Obj,((w.alloc (.cells (aU m (.slice ta tn tc) (.slice ca cn cc)) 94)).alloc o).cell? ⟨w.heap.size,3,none⟩=some (Z m.m.u):=fun o=>hc o 3 _ rfl;have c4:∀o:Obj,((w.alloc (.cells (aU m (.slice ta tn tc) (.slice ca cn cc)) 94)).alloc o).cell? ⟨w.heap.size,4,none⟩=some (Z m.m.g0):=fun o=>hc o 4 _ rfl;have c5:∀o:Obj,((w.alloc (.cells (aU m (.slice ta tn tc) (.slice ca cn cc)) 94)).alloc o).cell? ⟨w.heap.size,5,none⟩=some (Z m.m.g1):=fun o=>hc o 5 _ rfl;have c6:∀o:Obj,((w.alloc (.cells (aU m (.slice ta tn tc) (.slice ca cn cc)) 94)).alloc o).cell? ⟨w.heap.size,6,none⟩=some (Z m.m.g2):=fun o=>hc o 6 _ rfl;have c7:∀o:Obj,((w.alloc (.cells (aU m (.slice ta tn tc) (.slice ca cn cc)) 94)).alloc o).cell? ⟨w.heap.size,7,none⟩=some (Z m.m.g3):=fun o=>hc o 7 _ rfl;have c8:∀o:Obj,((w.alloc (.cells (aU m (.slice ta tn tc) (.slice ca cn cc)) 94)).alloc o).cell? ⟨w.heap.size,8,none⟩=some (Z m.m.g4):=fun o=>hc o 8 _ rfl;have c9:∀o:Obj,((w.alloc (.cells (aU m (.slice ta tn tc) (.slice ca cn cc)) 94)).alloc o).cell? ⟨w.heap.size,9,none⟩=some (Z m.m.g5):=fun o=>hc o 9 _ rfl;have c10:∀o:Obj,((w.alloc (.cells (aU m (.slice ta tn tc) (.slice ca cn cc)) 94)).alloc o).cell? ⟨w.heap.size,10,none⟩=some (Z m.len):=fun o=>hc o 10 _ rfl;have c11:∀o:Obj,((w.alloc (.cells (aU m (.slice ta tn tc) (.slice ca cn cc)) 94)).alloc o).cell? ⟨w.heap.size,11,none⟩=some (Z m.fif):=fun o=>hc o 11 _ rfl;have c12:∀o:Obj,((w.alloc (.cells (aU m (.slice ta tn tc) (.slice ca cn cc)) 94)).alloc o).cell? ⟨w.heap.size,12,none⟩=some (.bool m.rs):=fun o=>hc o 12 _ rfl;have c13:∀o:Obj,((w.alloc (.cells (aU m (.slice ta tn tc) (.slice ca cn cc)) 94)).alloc o).cell? ⟨w.heap.size,13,none⟩=some (Z m.re):=fun o=>hc o 13 _ rfl;have c14:∀o:Obj,((w.alloc (.cells (aU m (.slice ta tn tc) (.slice ca cn cc)) 94)).alloc o).cell? ⟨w.heap.size,14,none⟩=some (Z m.en):=fun o=>hc o 14 _ rfl;have c15:∀o:Obj,((w.alloc (.cells (aU m (.slice ta tn tc) (.slice ca cn cc)) 94)).alloc o).cell? ⟨w.heap.size,15,none⟩=some (Z m.ju):=fun o=>hc o 15 _ rfl;have c16:∀o:Obj,((w.alloc (.cells (aU m (.slice ta tn tc) (.slice ca cn cc)) 94)).alloc o).cell? ⟨w.heap.size,16,none⟩=some (Z m.la):=fun o=>hc o 16 _ rfl;have c17:∀o:Obj,((w.alloc (.cells (aU m (.slice ta tn tc) (.slice ca cn cc)) 94)).alloc o).cell? ⟨w.heap.size,17,none⟩=some (Z m.sw):=fun o=>hc o 17 _ rfl;have c18:∀o:Obj,((w.alloc (.cells (aU m (.slice ta tn tc) (.slice ca cn cc)) 94)).alloc o).cell? ⟨w.heap.size,18,none⟩=some (Z m.br):=fun o=>hc o 18 _ rfl;have c19:∀o:Obj,((w.alloc (.cells (aU m (.slice ta tn tc) (.slice ca cn cc)) 94)).alloc o).cell? ⟨w.heap.size,19,none⟩=some (.string m.reh):=fun o=>hc o 19 _ rfl;clear hc;have hbp:=RC m;have hone:(q8 m).all (·.oneCell')=true:=by simp[q8,Value.oneCell']
 have hsz:(Tryz.prog.info? 171).map (·.size)=some (q8 m).size:=Tryz.sizePlain;have hl:zS m=[(0,.agg #[Z m.i0,Z m.i1]),(1,.agg #[Z m.m.c,Z m.m.u,Z m.m.g0,Z m.m.g1,Z m.m.g2,Z m.m.g3,Z m.m.g4,Z m.m.g5]),(2,Z m.len),(3,Z m.fif),(4,.bool m.rs),(5,Z m.re),(6,Z m.en),(7,Z m.ju),(8,Z m.la),(9,Z m.sw),(10,Z m.br),(11,.string m.reh)]:=rfl;have hzz:(q8 m).size=20:=rfl;generalize hm:aU m (.slice ta tn tc) (.slice ca cn cc)=mm at *;generalize q8 m=pc at *;generalize zS m=pp at *;obtain⟨i0,i1,⟨mc,mu,g0,g1,g2,g3,g4,g5⟩,len,fif,rs,re,en,ju,la,sw,br,reh,tem,cells⟩:=m;simp only at *;clear hm;go_enter Tryz.func98,Tryz.ntmps98;go_wp2_with(first
  |(refine G2 rfl 171 _ rfl (l:=pp) (by rw[hl];simp[Act.eval]) hbp ?_)
  |(refine dA (by rfl) 171 _ _ (by rfl) pc _ _ (n:=w.heap.size+1) (by simp) rfl rfl hsz (by rw[hzz];rfl) hone ?_))
 refine qg (qp rfl _ _ (w.heap.size+1) 171 pc (0,0) _ rfl (heap_alloc2_new w _ _) Tryz.underlying171 rfl hsz) rfl ?_;exact⟨rfl,((qb _ w).alloc (qa _) _).alloc (by simp) _⟩
theorem YW(a b c d e f:Int)(w:World):(Op.equalIn 9998 88 (.agg #[Z a,Z b,Z c,Z d,Z e,Z f]) (.agg #[Z a,Z b,Z c,Z d,Z e,Z f])).run Tryz.prog w=.ok true w:=by
 obtain⟨i0,hi0,_⟩:=info_parts Tryz.infoInt;rw[show(9998:Nat)=9997+1 from rfl,run_equalIn_array w 9997 _ _ Tryz.underlying88 hi0,show List.range 6=[0,1,2,3,4,5]from rfl];have hc:Tryz.prog.cellsOf 3=1:=by kernel_rfl
 simp only[Op.eqItems,hc];go_simp
theorem aBV(m:bC)(w:World):(Op.equalIn 10000 171 (.agg (q8 m)) (.agg (q8 m))).run Tryz.prog w=.ok true w:=by
 unfold q8;have h88:=YW m.m.g0 m.m.g1 m.m.g2 m.m.g3 m.m.g4 m.m.g5;go_simp
def Two(A B:Nat)(m m':Array Value)(w:World):Prop:=w.heap[A]?=some (.cells m 94 (0,0))/\w.heap[B]?=some (.cells m' 94 (0,0))
theorem Two.step{A B:Nat}{m m':Array Value}{w w':World}(h:Two A B m m' w)(b:Below w.heap.size w w'):Two A B m m' w' :=
 ⟨(b.block A (qe.1 h.1).1).trans h.1,(b.block B (qe.1 h.2).1).trans h.2⟩
theorem T7(x:bC)(ta ca ta' ca':Option Addr)(tn tc cn cc tn' tc' cn' cc':Nat)(w:World)
  (ht:∀w',Below w.heap.size w w'->Calls Tryz.prog 99 #[.slice ta tn tc,.slice ta' tn' tc'] w' fun e w''=>e=.returned (.bool true)/\Below w'.heap.size w' w'')
  (hq:∀w',Below w.heap.size w w'->Calls Tryz.prog 100 #[.slice ca cn cc,.slice ca' cn' cc',.func (.func 101) #[] #[]] w' fun e w''=>e=.returned (.bool true)/\Below w'.heap.size w' w'') :
  Calls Tryz.prog 49 #[.agg (aU x (.slice ta tn tc) (.slice ca cn cc)),.agg (aU x (.slice ta' tn' tc') (.slice ca' cn' cc'))] w fun e w'=>e=.returned (.bool true)/\Below w.heap.size w w':=by
 have hf1:=D2 x ta ca tn tc cn cc;have hf2:=D2 x ta' ca' tn' tc' cn' cc';have hpe:=aBV x;have hT0:Two w.heap.size (w.heap.size+1) (aU x (.slice ta tn tc) (.slice ca cn cc)) (aU x (.slice ta' tn' tc') (.slice ca' cn' cc')) ((w.alloc (.cells (aU x (.slice ta tn tc) (.slice ca cn cc)) 94)).alloc (.cells (aU x (.slice ta' tn' tc') (.slice ca' cn' cc')) 94)):=⟨heap_alloc2_old w _ _,heap_alloc2_new w _ _⟩;have hz1:(Tryz.prog.info? 94).map (·.size)=some (aU x (.slice ta tn tc) (.slice ca cn cc)).size:=Tryz.sizeMeas;have hz2:(Tryz.prog.info? 94).map (·.size)=some (aU x (.slice ta' tn' tc') (.slice ca' cn' cc')).size:=Tryz.sizeMeas;have a20:∀w':World,Two w.heap.size (w.heap.size+1) (aU x (.slice ta tn tc) (.slice ca cn cc)) (aU x (.slice ta' tn' tc') (.slice ca' cn' cc')) w'->w'.cell? ⟨w.heap.size,20,none⟩=some (.slice ta tn tc):=fun w' h=>wN h.1 20 rfl;have b20:∀w':World,Two w.heap.size (w.heap.size+1) (aU x (.slice ta tn tc) (.slice ca cn cc)) (aU x (.slice ta' tn' tc') (.slice ca' cn' cc')) w'->w'.cell? ⟨w.heap.size+1,20,none⟩=some (.slice ta' tn' tc'):=fun w' h=>wN h.2 20 rfl;have a21:∀w':World,Two w.heap.size (w.heap.size+1) (aU x (.slice ta tn tc) (.slice ca cn cc)) (aU x (.slice ta' tn' tc') (.slice ca' cn' cc')) w'->w'.cell? ⟨w.heap.size,21,none⟩=some (.slice ca cn cc):=fun w' h=>wN h.1 21 rfl;have b21:∀w':World,Two w.heap.size (w.heap.size+1) (aU x (.slice ta tn tc) (.slice ca cn cc)) (aU x (.slice ta' tn' tc') (.slice ca' cn' cc')) w'->w'.cell? ⟨w.heap.size+1,21,none⟩=some (.slice ca' cn' cc'):=fun w' h=>wN h.2 21 rfl;generalize aU x (.slice ta tn tc) (.slice ca cn cc)=m at *;generalize aU x (.slice ta' tn' tc') (.slice ca' cn' cc')=m' at *;generalize q8 x=p at *;go_enter Tryz.func49,Tryz.ntmps49;go_wp2;have hb0:=((qb w.heap.size w).alloc (qa _) (.cells m 94)).alloc (by simp) (.cells m' 94);have hTd:Two w.heap.size (w.heap.size+1) m m' ((w.alloc (.cells m 94)).alloc (.cells m' 94)).drew:=hT0;have hbd:=hb0.drew;clear hT0;refine qqo ?_;refine qqi (S:=Two w.heap.size (w.heap.size+1) m m') (by kernel_rfl) hTd (fun hHeld => ?_);refine wpAnyH_take (i:=0) rfl (by kernel_rfl) (by kernel_rfl) (by kernel_rfl) (fun _ _ _ h=>h) (nZ (by rfl) 94 _ rfl w.heap.size rfl m 94 _ (fun _ h=>h.1) Tryz.underlying94 rfl hz1) (by assumption) ?_;try simp only[ap,nm]
 refine wpAnyH_take (i:=2) rfl (by kernel_rfl) (by kernel_rfl) (by kernel_rfl) (fun _ _ _ h=>h) (nZ (by rfl) 94 _ rfl (w.heap.size+1) rfl m' 94 _ (fun _ h=>h.2) Tryz.underlying94 rfl hz2) (by assumption) ?_;try simp only[ap,nm]
 refine yE 1 rfl (fun K hK => ?_);go_simp
 (go_at_call 98;with_reducible refine(hf1 _).mono ?_;rintro e w2 ⟨rfl,b2⟩;have hT2:=hTd.step b2;have hb2:=hbd.trans (b2.mono hbd.size))
 refine hK.out _ _ (hT2) (fun hHeld => ?_);clear hK K;try simp only[ap,nm]
 refine yE 3 rfl (fun K hK => ?_);go_simp
 (go_at_call 98;with_reducible refine(hf2 _).mono ?_;rintro e w3 ⟨rfl,b3⟩;have hT3:=hT2.step b3;have hb3:=hb2.trans (b3.mono hb2.size))
 refine hK.out _ _ (hT3) (fun hHeld => ?_);clear hK K;try simp only[ap,nm]
 refine gQ 4 ?v4 rfl ?hy4 ?_;case hy4=>(intro w hSw;go_simp;with_reducible rfl)
 try simp only[ap,nm]
 refine gQ 5 ?v5 rfl ?hy5 ?_;case hy5=>(intro w hSw;go_simp;with_reducible rfl)
 try simp only[ap,nm]
 refine gQ 6 ?v6 rfl ?hy6 ?_;case hy6=>(intro w hSw;go_simp;with_reducible rfl)
 try simp only[ap,nm]
 refine gQ 7 ?v7 rfl ?hy7 ?_;case hy7=>(intro w hSw;go_simp;with_reducible rfl)
 try simp only[ap,nm]
 refine gQ 8 ?v8 rfl ?hy8 ?_;case hy8=>(intro w hSw;go_simp;with_reducible rfl)
 try simp only[ap,nm]
 refine gQ 9 ?v9 rfl ?hy9 ?_;case hy9=>(intro w hSw;go_simp;with_reducible rfl)
 try simp only[ap,nm]
 refine yE 10 rfl (fun K hK => ?_);go_simp
 (go_at_call 99;with_reducible refine(ht _ hb3).mono ?_;rintro e w5 ⟨rfl,b5⟩;have hT5:=hT3.step b5;have hb5:=hb3.trans (b5.mono hb3.size))
 refine hK.out _ _ (hT5) (fun hHeld => ?_);clear hK K;try simp only[ap,nm]
 refine gQ 11 ?v11 rfl ?hy11 ?_;case hy11=>(intro w hSw;go_simp;with_reducible rfl)
 try simp only[ap,nm]
 refine gQ 12 ?v12 rfl ?hy12 ?_;case hy12=>(intro w hSw;go_simp;with_reducible rfl)
 try simp only[ap,nm]
 refine gQ 13 ?v13 rfl ?hy13 ?_;case hy13=>(intro w hSw;go_simp;with_reducible rfl)
 try simp only[ap,nm]
 refine gQ 14 ?v14 rfl ?hy14 ?_;case hy14=>(intro w hSw;go_simp;with_reducible rfl)
 try simp only[ap,nm]
 refine gQ 15 ?v15 rfl ?hy15 ?_;case hy15=>(intro w hSw;go_simp;with_reducible rfl)
 try simp only[ap,nm]
 refine gQ 16 ?v16 rfl ?hy16 ?_;case hy16=>(intro w hSw;go_simp;with_reducible rfl)
 try simp only[ap,nm]
 refine yE 17 rfl (fun K hK => ?_);go_simp
 (go_at_call 100;with_reducible refine(hq _ hb5).mono ?_;rintro e w4 ⟨rfl,b4⟩;have hT4:=hT5.step b4;have hb4:=hb5.trans (b4.mono hb5.size))
 refine hK.out _ _ (hT4) (fun hHeld => ?_);clear hK K;try simp only[ap,nm]
 refine gQ 18 ?v18 rfl ?hy18 ?_;case hy18=>(intro w hSw;go_simp;with_reducible rfl)
 try simp only[ap,nm]
 refine gQ 19 ?v19 rfl ?hy19 ?_;case hy19=>(intro w hSw;go_simp;with_reducible rfl)
 try simp only[ap,nm]
 refine wpAnyH_done (by kernel_rfl) ?_ _;refine qqx ?_;go_wp2;go_ret;exact⟨rfl,hb4⟩
set_option maxHeartbeats 32000000
theorem nL{w:World}{B:Nat}{e:TypeId}{size:Nat}{v:Value}{n:Nat}{xs:List Value}(h:w.ownsRow B e size v n xs):n<=9223372036854775807:=by
 rcases h.2 with⟨_,h0⟩ |⟨_,cap,_,_,_,_,h1,h2,_⟩
 ·omega
 ·have:maxLen=9223372036854775807:=rfl;omega
theorem yF.max{B:Nat}:∀{xs:List B7}{cs:List Value}{w:World},yF B xs cs w->∀x∈xs,x.heads.length<=9223372036854775807/\x.graces.length<=9223372036854775807/\x.lyr.length<=9223372036854775807
 | _::_,_,_,⟨_,_,_,_,_,r,t⟩,x,h=>by
  rcases qqt.1 h with rfl|h
  ·exact⟨nL r.oh,nL r.og,nL r.ol⟩
  ·exact t.max x h
def Rws{α:Type}(R:α->Array Value->World->Prop)(l:List α)(rows:List (Array Value))(w:World):Prop:=rows.length=l.length/\∀(j:Nat)(r:Array Value)(x:α),rows[j]?=some r->l[j]?=some x->R x r w
theorem BF{α:Type}{R:α->Array Value->World->Prop}{l:List α}{rows:List (Array Value)}{w:World}{x:α}{r:Array Value}(h:R x r w)(t:Rws R l rows w):Rws R (x::l) (r::rows) w:=by
 refine⟨by simp[t.1],fun j r' x' hr hx => ?_⟩;cases j with
 |zero =>
  obtain rfl:r=r':=by simpa using hr
  obtain rfl:x=x':=by simpa using hx
  exact h
 |succ j=>exact t.2 j r' x' (by simpa using hr) (by simpa using hx)
theorem FH{α:Type}{R:α->Array Value->World->Prop}{w:World}:Rws R [] [] w:=⟨rfl,fun j r x h=>by simp at h⟩
def NG(B:Nat)(v:fG)(r:Array Value)(w:World):Prop:=∃ev tv es,r=#[ev,tv]/\J2 B ev tv es v w
def NH(B:Nat)(c:jF)(r:Array Value)(w:World):Prop:=∃cv vv,r=#[cv,vv]/\qL B cv vv c w
def NJ(B:Nat)(m:bC)(r:Array Value)(w:World):Prop:=∃tv cv,r=aU m tv cv/\sA B tv cv m w
def NK(B:Nat)(p:iZ)(r:Array Value)(w:World):Prop:=∃sv,r=kG p sv/\w.ownsRow B 120 3 sv p.staves.length (bT sC p.staves)
theorem PJ.rows{B:Nat}:∀{l:List fG}{cs:List Value}{w:World},PJ B l cs w->∃rows,cs=rows.flatMap (·.toList)/\Rws (NG B) l rows w
 | [],_,_,h=>⟨[],h,FH⟩
 | _::_,_,_,⟨ev,tv,es,cs',e,r,t⟩=>by
  obtain⟨rows,h1,h2⟩:=t.rows;exact⟨#[ev,tv]::rows,by rw[e,h1];rfl,BF ⟨ev,tv,es,rfl,r⟩ h2⟩
theorem UW.rows{B:Nat}:∀{l:List jF}{cs:List Value}{w:World},UW B l cs w->∃rows,cs=rows.flatMap (·.toList)/\Rws (NH B) l rows w
 | [],_,_,h=>⟨[],h,FH⟩
 | _::_,_,_,⟨cv,vv,cs',e,r,t⟩=>by
  obtain⟨rows,h1,h2⟩:=t.rows;exact⟨#[cv,vv]::rows,by rw[e,h1];rfl,BF ⟨cv,vv,rfl,r⟩ h2⟩
theorem MsR.rows{B:Nat}:∀{l:List bC}{cs:List Value}{w:World},MsR B l cs w->∃rows,cs=rows.flatMap (·.toList)/\Rws (NJ B) l rows w
 | [],_,_,h=>⟨[],h,FH⟩
 | _::_,_,_,⟨tv,cv,cs',e,r,t⟩=>by
  obtain⟨rows,h1,h2⟩:=t.rows;exact⟨_::rows,by rw[e,h1];rfl,BF ⟨tv,cv,rfl,r⟩ h2⟩
theorem PsR.rows{B:Nat}:∀{l:List iZ}{cs:List Value}{w:World},PsR B l cs w->∃rows,cs=rows.flatMap (·.toList)/\Rws (NK B) l rows w
 | [],_,_,h=>⟨[],h,FH⟩
 | _::_,_,_,⟨sv,cs',e,r,t⟩=>by
  obtain⟨rows,h1,h2⟩:=t.rows;exact⟨_::rows,by rw[e,h1];rfl,BF ⟨sv,rfl,r⟩ h2⟩
theorem NG.step{B:Nat}{v:fG}{r:Array Value}{w w':World}(h:NG B v r w)(b:Below w.heap.size w w'):NG B v r w':=by
 obtain⟨ev,tv,es,e,h⟩:=h;exact⟨ev,tv,es,e,h.step b⟩
theorem NH.step{B:Nat}{c:jF}{r:Array Value}{w w':World}(h:NH B c r w)(b:Below w.heap.size w w'):NH B c r w':=by
 obtain⟨cv,vv,e,h⟩:=h;exact⟨cv,vv,e,h.keep fun k o T ho _=>b.block k (aA ho)⟩
theorem NJ.step{B:Nat}{m:bC}{r:Array Value}{w w':World}(h:NJ B m r w)(b:Below w.heap.size w w'):NJ B m r w':=by
 obtain⟨tv,cv,e,h⟩:=h;exact⟨tv,cv,e,h.keepT fun k o T ho _ _=>b.block k (aA ho)⟩
theorem NK.step{B:Nat}{p:iZ}{r:Array Value}{w w':World}(h:NK B p r w)(b:Below w.heap.size w w'):NK B p r w':=by
 obtain⟨sv,e,h⟩:=h;exact⟨sv,e,aB h fun k hk=>b.block k (h.lt k hk).2⟩
theorem RD{α:Type}{R:α->Array Value->World->Prop}{B:Nat}{T:TypeId}{s:Nat}{v:Value}{l:List α}{cs:List Value}{rows:List (Array Value)}{w:World}(ho:w.ownsRow B T s v l.length cs)(he:cs=rows.flatMap (·.toList))(hr:Rws R l rows w)(hs:∀x r,R x r w->r.size=s/\r.all (·.oneCell')=true):kY w s v rows:=by
 refine kY.of_own (T:=T) (by rw[hr.1];exact ho) he fun r hm => ?_;obtain⟨j,hj⟩:=List.mem_iff_getElem?.1 hm;have hlt:j<l.length:=by rw[<-hr.1];exact(qy.1 hj).1
 exact hs _ r (hr.2 j r l[j] hj (qr hlt))
theorem NG.form{B:Nat}{v:fG}{r:Array Value}{w:World}(h:NG B v r w):r.size=2/\r.all (·.oneCell')=true:=by
 obtain⟨ev,tv,es,rfl,h⟩:=h;obtain⟨a,c,e1⟩:=aL h.oe;obtain⟨a',c',e2⟩:=aL h.ot;rw[e1,e2];exact⟨rfl,by simp[Value.oneCell']⟩
theorem NH.form{B:Nat}{c:jF}{r:Array Value}{w:World}(h:NH B c r w):r.size=2/\r.all (·.oneCell')=true:=by
 obtain⟨cv,vv,rfl,h⟩:=h;obtain⟨a,c,e1⟩:=aL h.oc;obtain⟨cs,h2,_⟩:=h.ex;obtain⟨a',c',e2⟩:=aL h2;rw[e1,e2];exact⟨rfl,by simp[Value.oneCell']⟩
theorem NJ.form{B:Nat}{m:bC}{r:Array Value}{w:World}(h:NJ B m r w):r.size=22/\r.all (·.oneCell')=true:=by
 obtain⟨tv,cv,rfl,h⟩:=h;obtain⟨a,c,e1⟩:=aL h.ot;obtain⟨cs,h2,_⟩:=h.ex;obtain⟨a',c',e2⟩:=aL h2;rw[e1,e2];exact⟨rfl,by simp[aU,Value.oneCell']⟩
theorem NK.form{B:Nat}{p:iZ}{r:Array Value}{w:World}(h:NK B p r w):r.size=6/\r.all (·.oneCell')=true:=by
 obtain⟨sv,rfl,h⟩:=h;obtain⟨a,c,e1⟩:=aL h;rw[e1];exact⟨rfl,by simp[kG,Value.oneCell']⟩
theorem jL{α:Type}{f:α->Array Value}{B:Nat}{T:TypeId}{s:Nat}{v:Value}{l:List α}{w:World}(ho:w.ownsRow B T s v l.length (bT f l))(hs:∀x,(f x).size=s/\(f x).all (·.oneCell')=true):kY w s v (l.map f) :=
 kY.of_own (T:=T) (by rw[qqc];exact ho) rfl fun r hr=>by
  obtain⟨x,_,rfl⟩:=List.mem_map.1 hr;exact hs x
theorem NL{α:Type}{R:Nat->α->Array Value->World->Prop}{k f:FuncId}{s:Nat}
  (hk:∀(v v':Value)(rows rows':List (Array Value))(w:World),rows'.length=rows.length->rows.length<=9223372036854775807->kY w s v rows->kY w s v' rows' ->
   (∀(j:Nat)(r r':Array Value),rows[j]?=some r->rows'[j]?=some r'->∀w',Below w.heap.size w w'->Calls Tryz.prog f #[.agg r,.agg r'] w' fun e w''=>e=.returned (.bool true)/\Below w'.heap.size w' w'') ->
   Calls Tryz.prog k #[v,v',.func (.func f) #[] #[]] w fun e w'=>e=.returned (.bool true)/\Below w.heap.size w w')
  (hR:∀(B:Nat)(x:α)(r:Array Value)(w w':World),R B x r w->Below w.heap.size w w'->R B x r w') (hF:∀(B:Nat)(x:α)(r:Array Value)(w:World),R B x r w->r.size=s/\r.all (·.oneCell')=true)
  (hf:∀(B B':Nat)(x:α)(r r':Array Value)(w:World),R B x r w->R B' x r' w->Calls Tryz.prog f #[.agg r,.agg r'] w fun e w'=>e=.returned (.bool true)/\Below w.heap.size w w')
  {B B':Nat} {T:TypeId} {v v':Value} {l:List α} {cs cs':List Value} {rows rows':List (Array Value)} {w:World} (ho:w.ownsRow B T s v l.length cs) (ho':w.ownsRow B' T s v' l.length cs')
  (he:cs=rows.flatMap (·.toList)) (he':cs'=rows'.flatMap (·.toList)) {C C':Nat} (hr:Rws (R C) l rows w) (hr':Rws (R C') l rows' w) :
  Calls Tryz.prog k #[v,v',.func (.func f) #[] #[]] w fun e w'=>e=.returned (.bool true)/\Below w.heap.size w w':=by
 refine hk v v' rows rows' w (by rw[hr.1,hr'.1]) (by rw[hr.1];exact nL ho) (RD ho he hr fun x r h=>hF C x r w h) (RD ho' he' hr' fun x r h=>hF C' x r w h) fun j r r' hj hj' w' b => ?_;have hlt:j<l.length:=by rw[<-hr.1];exact(qy.1 hj).1
 have hx:l[j]?=some l[j]:=qr hlt;exact hf C C' l[j] r r' w' (hR _ _ _ _ _ (hr.2 j r _ hj hx) b) (hR _ _ _ _ _ (hr'.2 j r' _ hj' hx) b)
theorem aHU(B B':Nat)(x:fG)(r r':Array Value)(w:World)(h:NG B x r w)(h':NG B' x r' w):Calls Tryz.prog 15 #[.agg r,.agg r'] w fun e w'=>e=.returned (.bool true)/\Below w.heap.size w w':=by
 obtain⟨ev,tv,es,rfl,h⟩:=h;obtain⟨ev',tv',es',rfl,h'⟩:=h';obtain⟨a1,c1,rfl⟩:=aL h.oe;obtain⟨a2,c2,rfl⟩:=aL h.ot;obtain⟨a3,c3,rfl⟩:=aL h'.oe;obtain⟨a4,c4,rfl⟩:=aL h'.ot;exact T9 (nL h.oe) (nL h.ot) h.es.max h h'
theorem aHV(B B':Nat)(x:jF)(r r':Array Value)(w:World)(h:NH B x r w)(h':NH B' x r' w):Calls Tryz.prog 101 #[.agg r,.agg r'] w fun e w'=>e=.returned (.bool true)/\Below w.heap.size w w':=by
 have q1:=fun w' (b:Below w.heap.size w w')=>(And.intro (h.step b) (h'.step b));obtain⟨cv,vv,rfl,h1⟩:=h;obtain⟨cv',vv',rfl,h1'⟩:=h';have fc:∀p:Int×Int,(clC p).size=2/\(clC p).all (·.oneCell')=true:=fun p=>⟨rfl,by simp[clC,Value.oneCell']⟩;have x1:=fun w' (b:Below w.heap.size w w')=>aHT cv cv' _ w' (by rw[qqc];exact nL h1.oc) ((jL h1.oc fc).step b) ((jL h1'.oc fc).step b) fun r hr=>by
  obtain⟨p,_,rfl⟩:=List.mem_map.1 hr;exact⟨_,_,rfl⟩
 have x2:∀w',Below w.heap.size w w'->Calls Tryz.prog 141 #[vv,vv',.func (.func 15) #[] #[]] w' fun e w''=>e=.returned (.bool true)/\Below w'.heap.size w' w'':=fun w' b=>by
  obtain⟨⟨_,_,e1,g⟩,⟨_,_,e2,g'⟩⟩:=q1 w' b;simp only[Array.mk.injEq,List.cons.injEq,and_true]at e1 e2;obtain⟨rfl,rfl⟩:=e1;obtain⟨rfl,rfl⟩:=e2;obtain⟨cs,ho,hv⟩:=g.ex;obtain⟨cs',ho',hv'⟩:=g'.ex;obtain⟨rows,he,hr⟩:=hv.rows;obtain⟨rows',he',hr'⟩:=hv'.rows;exact NL (R:=NG) aHS (fun _ _ _ _ _ h b=>h.step b) (fun _ _ _ _ h=>h.form) aHU ho ho' he he' hr hr'
 obtain⟨a1,c1,rfl⟩:=aL h1.oc;obtain⟨a3,c3,rfl⟩:=aL h1'.oc;obtain⟨_,h2,_⟩:=h1.ex;obtain⟨_,h2',_⟩:=h1'.ex;obtain⟨a2,c2,rfl⟩:=aL h2;obtain⟨a4,c4,rfl⟩:=aL h2';clear q1 h1 h1' h2 h2';have ba:∀a b:Array Value,Below w.heap.size w ((w.alloc (.cells a 98)).alloc (.cells b 98)):=fun a b=>((qb w.heap.size w).alloc (qa _) _).alloc (by simp) _;go_enter Tryz.func101,Tryz.ntmps101;go_wp2_with(go_at_call 140;(with_reducible refine(x1 _ (ba _ _)).mono ?_));intro e w1;(first|(intro he9 b1;subst he9)|rintro ⟨rfl,b1⟩);have z0:=(b1.block w.heap.size (by simp;omega)).trans (heap_alloc2_old w _ _);have z1:=(b1.block (w.heap.size+1) (by simp)).trans (heap_alloc2_new w _ _);have y0:w1.cell? ⟨w.heap.size,1,none⟩=some (.slice a2 x.vs.length c2):=by rw[Lib.cell_of_heap z0];rfl
 have y1:w1.cell? ⟨w.heap.size+1,1,none⟩=some (.slice a4 x.vs.length c4):=by rw[Lib.cell_of_heap z1];rfl
 have bb:=(ba _ _).trans (b1.mono (ba _ _).size);go_wp2_with(go_at_call 141;(with_reducible refine(x2 _ bb).mono ?_));intro e w2;(first|(intro he9 b2;subst he9)|rintro ⟨rfl,b2⟩);go_wp2;go_ret;exact⟨rfl,bb.trans (b2.mono bb.size)⟩
theorem aHW(B B':Nat)(x:bC)(r r':Array Value)(w:World)(h:NJ B x r w)(h':NJ B' x r' w):Calls Tryz.prog 49 #[.agg r,.agg r'] w fun e w'=>e=.returned (.bool true)/\Below w.heap.size w w':=by
 obtain⟨tv,cv,rfl,h1⟩:=h;obtain⟨tv',cv',rfl,h1'⟩:=h';have ft:∀p:Int×Int×Bool,(RW p).size=3/\(RW p).all (·.oneCell')=true:=fun p=>⟨rfl,by simp[RW,Value.oneCell']⟩;have x1:=fun w' (b:Below w.heap.size w w')=>aKJ tv tv' _ w' (by rw[qqc];exact nL h1.ot) ((jL h1.ot ft).step b) ((jL h1'.ot ft).step b) fun r hr=>by
  obtain⟨p,_,rfl⟩:=List.mem_map.1 hr;exact⟨_,_,_,rfl⟩
 have x2:∀w',Below w.heap.size w w'->Calls Tryz.prog 100 #[cv,cv',.func (.func 101) #[] #[]] w' fun e w''=>e=.returned (.bool true)/\Below w'.heap.size w' w'':=fun w' b=>by
  obtain⟨_,cs,ho,hv⟩:=h1.keepT fun k o T ho _ _=>b.block k (aA ho);obtain⟨_,cs',ho',hv'⟩:=h1'.keepT fun k o T ho _ _=>b.block k (aA ho);obtain⟨rows,he,hr⟩:=hv.rows;obtain⟨rows',he',hr'⟩:=hv'.rows;exact NL (R:=NH) aHR (fun _ _ _ _ _ h b=>h.step b) (fun _ _ _ _ h=>h.form) aHV ho ho' he he' hr hr'
 obtain⟨a1,c1,rfl⟩:=aL h1.ot;obtain⟨a3,c3,rfl⟩:=aL h1'.ot;obtain⟨_,h2,_⟩:=h1.ex;obtain⟨_,h2',_⟩:=h1'.ex;obtain⟨a2,c2,rfl⟩:=aL h2;obtain⟨a4,c4,rfl⟩:=aL h2';exact T7 x a1 a2 a3 a4 _ c1 _ c2 _ c3 _ c4 w x1 x2
theorem aHX(B B':Nat)(x:iZ)(r r':Array Value)(w:World)(h:NK B x r w)(h':NK B' x r' w):Calls Tryz.prog 45 #[.agg r,.agg r'] w fun e w'=>e=.returned (.bool true)/\Below w.heap.size w w':=by
 obtain⟨sv,rfl,h1⟩:=h;obtain⟨sv',rfl,h1'⟩:=h';have fs:∀p:wU,(sC p).size=3/\(sC p).all (·.oneCell')=true:=fun p=>⟨rfl,by simp[sC,Value.oneCell']⟩;have x1:=fun w' (b:Below w.heap.size w w')=>aKF sv sv' _ w' (by rw[qqc];exact nL h1) ((jL h1 fs).step b) ((jL h1' fs).step b) fun r hr=>by
  obtain⟨p,_,rfl⟩:=List.mem_map.1 hr;exact⟨_,_,_,rfl⟩
 obtain⟨a1,c1,rfl⟩:=aL h1;obtain⟨a3,c3,rfl⟩:=aL h1';clear h1 h1';obtain⟨p0,p1,pn,pa,pb,pst⟩:=x;simp only[kG]at x1⊢;go_enter Tryz.func45,Tryz.ntmps45;go_wp2_with(go_at_call 46;refine(x1 _ (((qb _ w).alloc (qa _) _).alloc (by simp) _)).mono ?_);intro e w2;first |(intro he b2;subst he)|rintro⟨rfl,b2⟩
 go_wp2;go_ret;exact⟨rfl,(((qb _ w).alloc (qa _) _).alloc (by simp) _).trans (b2.mono (by simp;omega))⟩
theorem KN{B B':Nat}{x:KR}{pv mv xv lv pv' mv' xv' lv':Value}{w:World}(h:B0 B pv mv xv lv x w)(h':B0 B' pv' mv' xv' lv' x w) :
  Calls Tryz.prog 18 #[.agg (lU x.title x.written pv mv xv lv),.agg (lU x.title x.written pv' mv' xv' lv')] w fun e w'=>e=.returned (.bool true)/\Below w.heap.size w w':=by
 have fx:∀p:wV,(ER p).size=7/\(ER p).all (·.oneCell')=true:=fun p=>⟨rfl,by simp[ER,Value.oneCell']⟩;have fi:∀p:Int×Int,(idC p).size=2/\(idC p).all (·.oneCell')=true:=fun p=>⟨rfl,by simp[idC,Value.oneCell']⟩;have q1:∀w',Below w.heap.size w w'->Calls Tryz.prog 47 #[pv,pv',.func (.func 45) #[] #[]] w' fun e w''=>e=.returned (.bool true)/\Below w'.heap.size w' w'':=fun w' b=>by
  obtain⟨⟨c1,p1,p2⟩,-⟩:=h.step b;obtain⟨⟨c1',p1',p2'⟩,-⟩:=h'.step b;obtain⟨rows,he,hr⟩:=p2.rows;obtain⟨rows',he',hr'⟩:=p2'.rows;exact NL (R:=NK) aKD (fun _ _ _ _ _ h b=>h.step b) (fun _ _ _ _ h=>h.form) aHX p1 p1' he he' hr hr'
 have q2:∀w',Below w.heap.size w w'->Calls Tryz.prog 48 #[mv,mv',.func (.func 49) #[] #[]] w' fun e w''=>e=.returned (.bool true)/\Below w'.heap.size w' w'':=fun w' b=>by
  obtain⟨-,⟨c1,p1,p2⟩,-⟩:=h.step b;obtain⟨-,⟨c1',p1',p2'⟩,-⟩:=h'.step b;obtain⟨rows,he,hr⟩:=p2.rows;obtain⟨rows',he',hr'⟩:=p2'.rows;exact NL (R:=NJ) aKE (fun _ _ _ _ _ h b=>h.step b) (fun _ _ _ _ h=>h.form) aHW p1 p1' he he' hr hr'
 obtain⟨⟨_,p1,_⟩,⟨_,m1,_⟩,x1,l1⟩:=h;obtain⟨⟨_,p1',_⟩,⟨_,m1',_⟩,x1',l1'⟩:=h';have q3:=fun w' (b:Below w.heap.size w w')=>aKG xv xv' _ w' (by rw[qqc];exact nL x1) ((jL x1 fx).step b) ((jL x1' fx).step b) fun r hr=>by
  obtain⟨p,_,rfl⟩:=List.mem_map.1 hr;exact⟨_,_,_,_,_,_,_,rfl⟩
 have q4:=fun w' (b:Below w.heap.size w w')=>aKH lv lv' _ w' (by rw[qqc];exact nL l1) ((jL l1 fi).step b) ((jL l1' fi).step b) fun r hr=>by
  obtain⟨p,_,rfl⟩:=List.mem_map.1 hr;exact⟨_,_,rfl⟩
 obtain⟨a1,c1,rfl⟩:=aL p1;obtain⟨a2,c2,rfl⟩:=aL p1';obtain⟨a3,c3,rfl⟩:=aL m1;obtain⟨a4,c4,rfl⟩:=aL m1';obtain⟨a5,c5,rfl⟩:=aL x1;obtain⟨a6,c6,rfl⟩:=aL x1';obtain⟨a7,c7,rfl⟩:=aL l1;obtain⟨a8,c8,rfl⟩:=aL l1';clear p1 p1' m1 m1' x1 x1' l1 l1' fx fi;obtain⟨ti,wt,xp,xm,xx,xl⟩:=x;simp only[lU]at *;have keep:∀(x y:Array Value)(w':World),Below ((w.alloc (.cells x 64)).alloc (.cells y 64)).heap.size ((w.alloc (.cells x 64)).alloc (.cells y 64)) w'->w'.heap[w.heap.size]?=some (.cells x 64 (0,0))/\w'.heap[w.heap.size+1]?=some (.cells y 64 (0,0)):=fun x y w' b =>
  ⟨(b.block w.heap.size (by simp;omega)).trans (heap_alloc2_old w _ _),(b.block (w.heap.size+1) (by simp)).trans (heap_alloc2_new w _ _)⟩
 have hbb:∀x y:Array Value,Below w.heap.size w ((w.alloc (.cells x 64)).alloc (.cells y 64)):=fun x y=>((qb _ w).alloc (qa _) _).alloc (by simp) _;go_enter Tryz.func18,Tryz.ntmps18;go_wp2_with(go_at_call 47;refine(q1 _ (hbb _ _)).mono ?_);intro e w2;first |(intro he b2;subst he)|rintro⟨rfl,b2⟩
 obtain⟨z0,z1⟩:=keep _ _ _ b2;have x3:w2.cell? ⟨w.heap.size,3,none⟩=some (.slice a3 xm.length c3):=by rw[Lib.cell_of_heap z0];rfl
 have y3:w2.cell? ⟨w.heap.size+1,3,none⟩=some (.slice a4 xm.length c4):=by rw[Lib.cell_of_heap z1];rfl
 have bb2:=(hbb _ _).trans (b2.mono (hbb _ _).size);go_wp2_with(go_at_call 48;refine(q2 _ bb2).mono ?_);intro e w3;first |(intro he b3;subst he)|rintro⟨rfl,b3⟩
 obtain⟨z0,z1⟩:=keep _ _ _ (b2.trans (b3.mono b2.size));have bb3:=bb2.trans (b3.mono bb2.size);have x4:w3.cell? ⟨w.heap.size,4,none⟩=some (.slice a5 xx.length c5):=by rw[Lib.cell_of_heap z0];rfl
 have y4:w3.cell? ⟨w.heap.size+1,4,none⟩=some (.slice a6 xx.length c6):=by rw[Lib.cell_of_heap z1];rfl
 go_wp2_with(go_at_call 50;refine(q3 _ bb3).mono ?_);intro e w4;first |(intro he b4;subst he)|rintro⟨rfl,b4⟩
 obtain⟨z0,z1⟩:=keep _ _ _ (b2.trans ((b3.trans (b4.mono b3.size)).mono b2.size));have bb4:=bb3.trans (b4.mono bb3.size);have x5:w4.cell? ⟨w.heap.size,5,none⟩=some (.slice a7 xl.length c7):=by rw[Lib.cell_of_heap z0];rfl
 have y5:w4.cell? ⟨w.heap.size+1,5,none⟩=some (.slice a8 xl.length c8):=by rw[Lib.cell_of_heap z1];rfl
 go_wp2_with(go_at_call 51;refine(q4 _ bb4).mono ?_);intro e w5;first |(intro he b5;subst he)|rintro⟨rfl,b5⟩
 go_wp2;go_ret;exact⟨rfl,bb4.trans (b5.mono bb4.size)⟩
theorem aFW(a b c d e f:Int)(w:World):(Op.equalIn 10000 88 (.agg #[Z a,Z b,Z c,Z d,Z e,Z f]) (.agg #[Z 0,Z 0,Z 0,Z 0,Z 0,Z 0])).run Tryz.prog w =
  .ok (decide (a=0/\b=0/\c=0/\d=0/\e=0/\f=0)) w:=by
 obtain⟨i0,hi0,_⟩:=info_parts Tryz.infoInt;rw[show(10000:Nat)=9999+1 from rfl,run_equalIn_array w 9999 _ _ Tryz.underlying88 hi0,show List.range 6=[0,1,2,3,4,5]from rfl];have hc:Tryz.prog.cellsOf 3=1:=by kernel_rfl
 simp only[Op.eqItems,hc];by_cases h1:a=0
 ·by_cases h2:b=0
  ·by_cases h3:c=0
   ·by_cases h4:d=0
    ·by_cases h5:e=0
     ·by_cases h6:f=0
      ·subst h1 h2 h3 h4 h5 h6;go_simp
      ·subst h1 h2 h3 h4 h5;go_simp;try simp[h6]
     ·subst h1 h2 h3 h4;go_simp;try simp[h5]
    ·subst h1 h2 h3;go_simp;try simp[h4]
   ·subst h1 h2;go_simp;try simp[h3]
  ·subst h1;go_simp;try simp[h2]
 ·go_simp;try simp[h1]
def aCK:List Int->Int->Int->Int->Option (Int×Int)
 | [],_,s,n=>some (s,n)
 |g::r,i,s,n=>if 0<g/\i≠n then none else if 0<g then aCK r (i+1) (s+g) (n+1)else aCK r (i+1) s n
def aJE(c:Int):Option (Int×Int)->Bool
 |none=>false
 |some (s,n)=>(s==c) && decide (2<=n)
theorem UZ(c u a b d e f g:Int)(h:∀x∈[a,b,d,e,f,g],0<=x/\x<=64):∃r:Bool,∀w,Calls Tryz.prog 235 #[.agg #[Z c,Z u,Z a,Z b,Z d,Z e,Z f,Z g]] w fun e w'=>e=.returned (.bool r)/\Below w.heap.size w w':=by
 obtain⟨fin,hfin⟩:∃fin,aCK [a,b,d,e,f,g] 0 0 0=fin:=⟨_,rfl⟩;refine⟨if a=0/\b=0/\d=0/\e=0/\f=0/\g=0 then true else aJE c fin,fun w => ?_⟩;have heq:=aFW a b d e f g;have hb:=(qb w.heap.size w).alloc (qa _) (.cells #[Z c,Z u,Z a,Z b,Z d,Z e,Z f,Z g] 90);by_cases h0:a=0/\b=0/\d=0/\e=0/\f=0/\g=0
 ·rw[if_pos h0];simp only[h0,and_self,decide_true]at heq;obtain⟨rfl,rfl,rfl,rfl,rfl,rfl⟩:=h0;go_enter Tryz.func235,Tryz.ntmps235;go_wp2;go_ret;exact⟨rfl,hb⟩
 ·rw[if_neg h0];simp only[h0,decide_false]at heq;have HB:=aJ hb;have HA:=aJ h;have HF:=aJ hfin;have hR:=qd w (.cells #[Z c,Z u,Z a,Z b,Z d,Z e,Z f,Z g] 90);clear hb h hfin h0;go_enter Tryz.func235,Tryz.ntmps235;go_wp2_with(fail);generalize w.alloc (.cells #[Z c,Z u,Z a,Z b,Z d,Z e,Z f,Z g] 90)=W at hR HB⊢;have k0:W.cell? ⟨w.heap.size,0,none⟩=some (Z c):=by rw[Lib.cell_of_heap hR];rfl
  go_loopg [3,4,5,6,13] 6 (fun gk s3 s4 _ _ s13 wl=>wl=W/\∃(k:Nat)(s n:Int),k<=6/\gk=6-k/\s3=Z s/\s4=Z n/\s13=Z (k:Nat)/\0<=s/\s<=64*k/\0<=n/\n<=k/\aCK ([a,b,d,e,f,g].drop k) k s n=fin)
  case atStart=>exact⟨rfl,0,0,0,by omega,rfl,rfl,rfl,rfl,by omega,by omega,by omega,by omega,HF.out⟩
  case round =>
   obtain⟨rfl,k,s,n,hk,hg,rfl,rfl,rfl,s0,s1,n0,n1,hF⟩:=hrel;by_cases hlt:k<6
   ·have step:∀(x:Int)(r:List Int),[a,b,d,e,f,g].drop k=x::r->(0<=x/\x<=64)/\r=[a,b,d,e,f,g].drop (k+1):=fun x r hx=>by
     refine⟨HA.out x (List.mem_of_mem_drop (by rw[hx];exact List.mem_cons_self)),?_⟩;have:=congrArg (List.drop 1) hx;rw[List.drop_drop]at this;exact this.symm
    have hlt':(k:Int)<6:=by omega
    have hk0:(0:Int)<=(k:Int):=by omega
    obtain⟨x,r,hx,hix⟩:∃(x:Int)(r:List Int),[a,b,d,e,f,g].drop k=x::r/\∀w':World,(Instr.index 88 (.agg #[Z a,Z b,Z d,Z e,Z f,Z g]) (Z (k:Nat))).run Tryz.prog w'=.ok (Z x) w':=by
     obtain rfl|rfl|rfl|rfl|rfl|rfl:k=0\/k=1\/k=2\/k=3\/k=4\/k=5:=by omega
     all_goals exact⟨_,_,rfl,fun w'=>by kernel_rfl⟩
    obtain⟨⟨x0,x1⟩,hr⟩:=step x r hx;rw[hx,aCK]at hF;subst hr;have HN:=aJ (And.intro s0 (And.intro s1 (And.intro n0 n1)));have m1:IntKind.i64.wrap ((k:Int)+1)=(k:Int)+1:=IntWalk.i64_in _ (by omega);have m2:IntKind.i64.wrap (s+x)=s+x:=IntWalk.i64_in _ (by omega);have m3:IntKind.i64.wrap (n+1)=n+1:=IntWalk.i64_in _ (by omega);have q0:¬x<0:=by omega
    have q1:¬64<x:=by omega
    clear s0 s1 n0 n1 step hx;by_cases hp:0<x
    ·by_cases hn:(k:Int)=n
     ·rw[if_neg (fun h=>h.2 hn),if_pos hp]at hF;have HF2:=aJ hF;have HNn:=aJ hn;subst hn;clear hF;go_wp2;go_roundg (6-(k+1));case measure=>omega
      case rel =>
       obtain⟨s0,s1,n0,n1⟩:=HN.out;exact⟨rfl,k+1,_,_,by omega,rfl,rfl,rfl,by simp,by omega,by omega,by omega,by omega,HF2.out⟩
     ·rw[if_pos ⟨hp,hn⟩]at hF;subst hF;have hn':((k:Int)==n)=false:=by simpa using hn
      go_wp2;go_ret;exact⟨rfl,HB.out⟩
    ·rw[if_neg (fun h=>hp h.1),if_neg hp]at hF;have HF2:=aJ hF;clear hF;go_wp2;go_roundg (6-(k+1));case measure=>omega
     case rel =>
      obtain⟨s0,s1,n0,n1⟩:=HN.out;exact⟨rfl,k+1,_,_,by omega,rfl,rfl,rfl,by simp,by omega,by omega,by omega,by omega,HF2.out⟩
   ·obtain rfl:k=6:=by omega
    have hF:some (s,n)=fin:=hF;subst hF;by_cases hs:s=c
    ·subst hs;go_wp2;go_ret;exact⟨by simp[aJE],HB.out⟩
    ·go_wp2;go_ret;exact⟨by simp[aJE,hs],HB.out⟩
theorem aCL(c u a b d e f g:Int)(h:∀x∈[a,b,d,e,f,g],0<=x/\x<=64):∃r:Int,(r=0->1<=c/\c<=64/\1<=u/\u<=64)/\∀w,Calls Tryz.prog 219 #[.agg #[Z c,Z u,Z a,Z b,Z d,Z e,Z f,Z g]] w fun e w'=>e=.returned (Z r)/\Below w.heap.size w w':=by
 obtain⟨gr,hgr⟩:=UZ c u a b d e f g h;clear h;by_cases h1:c<1
 ·refine⟨2,fun h=>absurd h (by decide),fun w => ?_⟩;have hb:=(qb w.heap.size w).alloc (qa _) (.cells #[Z c,Z u,Z a,Z b,Z d,Z e,Z f,Z g] 90);go_enter Tryz.func219,Tryz.ntmps219;go_wp2;go_ret;exact⟨rfl,hb⟩
 by_cases h2:64<c
 ·refine⟨2,fun h=>absurd h (by decide),fun w => ?_⟩;have hb:=(qb w.heap.size w).alloc (qa _) (.cells #[Z c,Z u,Z a,Z b,Z d,Z e,Z f,Z g] 90);go_enter Tryz.func219,Tryz.ntmps219;go_wp2;go_ret;exact⟨rfl,hb⟩
 by_cases h3:u<1
 ·refine⟨17,fun h=>absurd h (by decide),fun w => ?_⟩;have hb:=(qb w.heap.size w).alloc (qa _) (.cells #[Z c,Z u,Z a,Z b,Z d,Z e,Z f,Z g] 90);go_enter Tryz.func219,Tryz.ntmps219;go_wp2;go_ret;exact⟨rfl,hb⟩
 by_cases h4:64<u
 ·refine⟨17,fun h=>absurd h (by decide),fun w => ?_⟩;have hb:=(qb w.heap.size w).alloc (qa _) (.cells #[Z c,Z u,Z a,Z b,Z d,Z e,Z f,Z g] 90);go_enter Tryz.func219,Tryz.ntmps219;go_wp2;go_ret;exact⟨rfl,hb⟩
 have m1:IntKind.i64.wrap (u-1)=u-1:=IntWalk.i64_in _ (by omega);obtain⟨x,hx⟩:∃x,bits BinOp.and IntKind.i64 u (u-1)=x:=⟨_,rfl⟩;by_cases h5:x=0
 ·subst h5;refine⟨if gr=true then 0 else 19,fun _=>by omega,fun w => ?_⟩;have hb:=(qb w.heap.size w).alloc (qa _) (.cells #[Z c,Z u,Z a,Z b,Z d,Z e,Z f,Z g] 90);have hc:=hgr (w.alloc (.cells #[Z c,Z u,Z a,Z b,Z d,Z e,Z f,Z g] 90));clear hgr;cases gr with
  |true =>
   go_enter Tryz.func219,Tryz.ntmps219;go_wp2_with(go_at_call 235;refine hc.mono ?_);intro r w1;first |(intro he b1;subst he)|rintro⟨rfl,b1⟩
   go_wp2;go_ret;exact⟨rfl,hb.trans (b1.mono (by omega))⟩
  |false =>
   go_enter Tryz.func219,Tryz.ntmps219;go_wp2_with(go_at_call 235;refine hc.mono ?_);intro r w1;first |(intro he b1;subst he)|rintro⟨rfl,b1⟩
   go_wp2;go_ret;exact⟨rfl,hb.trans (b1.mono (by omega))⟩
 ·refine⟨17,fun h=>absurd h (by decide),fun w => ?_⟩;have hb:=(qb w.heap.size w).alloc (qa _) (.cells #[Z c,Z u,Z a,Z b,Z d,Z e,Z f,Z g] 90);have h6:(x != 0)=true:=by simpa using h5
  clear hgr;go_enter Tryz.func219,Tryz.ntmps219;go_wp2;go_ret;exact⟨rfl,hb⟩
theorem zY(n:Int)(h0:-9223372036854775808<=n)(h1:n<=9223372036854775807)(w:World)(g:AE w):Calls Tryz.prog 147 #[Z n] w fun e w'=>e=.returned (.string (gN n))/\Below w.heap.size w w':=by
 refine(Tryz.strconv_Itoa n h0 h1 w g.tab).mono ?_;rintro e w' ⟨rfl,k,os,rfl⟩;exact⟨rfl,Lib.below_grow _ _ (qa _) _ _⟩
theorem Tryz.infostr:(Tryz.prog.info? 9).map (fun i=>(i.zero,i.size,i.bytes))=some (some (.string ByteArray.empty),1,16):=by kernel_rfl
def E5(l:List Int):List ByteArray:=(l.filter fun x=>decide (0<x)).map gN
theorem JG(n:Int)(h:0<=n/\n<=64):(gN n).data.toList.length<=2:=by
 have key:(List.range 65).all (fun k=>decide ((gN (k:Nat)).data.toList.length<=2))=true:=by decide +kernel
 have:=qqm.1 key n.toNat (List.mem_range.2 (by omega));rw[show((n.toNat:Nat):Int)=n by omega]at this;simpa using this
theorem ZK{l:List Int}{k:Nat}{x:Int}{r:List Int}(h:l.drop k=x::r):E5 (l.take (k+1))=E5 (l.take k)++(if 0<x then [gN x]else []):=by
 have h1:l[k]?=some x:=by
  have:=congrArg (fun z=>z[0]?) h;simpa [List.getElem?_drop]using this
 unfold E5;rw[List.take_add_one,h1,Option.toList_some,List.filter_append,List.map_append];by_cases hx:0<x<;>simp[hx]
theorem BQ:∀(r:List (List UInt8)),(∀x∈r,x.length<=2)->(Lib.joinTail [43] r).length<=3*r.length
 | [],_=>qa _
 |x::r,h=>by
  have h1:=h x List.mem_cons_self;have h2:=BQ r fun y hy=>h y (qqz _ hy);unfold Lib.joinTail at h2⊢;simp only[List.map_cons,List.flatten_cons,qf,qk,qql]at h2⊢;omega
theorem RX(P:List ByteArray)(hle:∀x∈P,x.data.toList.length<=2)(hl:P.length<=6):(Lib.join (P.map (·.data.toList)) [43]).length<=20:=by
 cases P with
 |nil=>exact ql _
 |cons x r =>
  rw[List.map_cons,Lib.join_cons,qf];have h1:=hle x List.mem_cons_self;have h2:=BQ (r.map (·.data.toList)) fun y hy=>by
   obtain⟨z,hz,rfl⟩:=List.mem_map.1 hy;exact hle z (qqz _ hz)
  rw[qqc]at h2;simp only[qk]at hl;omega
theorem aCM(P:List ByteArray)(hle:∀x∈P,x.data.toList.length<=2)(hl:P.length<=6){B G cap:Nat}{w:World}(ho:w.ownsRow B 9 1 (.slice (some ⟨G,0,none⟩) P.length cap) P.length (P.map Value.string)) :
  Calls Tryz.prog 236 #[.slice (some ⟨G,0,none⟩) P.length cap,.string ⟨#[43]⟩] w fun e w'=>e=.returned (.string ⟨(Lib.join (P.map (·.data.toList)) [43]).toArray⟩)/\Below w.heap.size w w':=by
 have hcap:P.length<=cap:=by
  rcases ho.2 with⟨h,_⟩ |⟨g',cap',cur,e1,_,_,h1,_⟩
  ·cases h
  ·injection e1 with _ _ e3;omega
 refine Tryz.strings_Join G 0 cap P ⟨#[43]⟩ w (fun j x hx => ?_) (ho.lt G rfl).2 (by omega) hcap (qx (RX P hle hl) (by decide));rw[Nat.zero_add];exact(cE ho (i:=j) (by rw[List.getElem?_map,hx];rfl)).1
theorem aCN(c u a b d e f g:Int)(h:∀x∈[a,b,d,e,f,g],0<=x/\x<=64)(hc:0<=c/\c<=64)(hu:0<=u/\u<=64) :
  ∃t:ByteArray,∀w,AE w->Calls Tryz.prog 220 #[.agg #[Z c,Z u,Z a,Z b,Z d,Z e,Z f,Z g]] w fun e w'=>e=.returned (.string t)/\Below w.heap.size w w':=by
 obtain⟨P,hP⟩:∃P,Shut ((if E5 [a,b,d,e,f,g]=[]then [gN c]else E5 [a,b,d,e,f,g])=P):=⟨_,rfl⟩;obtain⟨J,hJ⟩:∃J:ByteArray,Shut ((⟨(Lib.join (P.map (·.data.toList)) [43]).toArray⟩:ByteArray)=J):=⟨_,rfl⟩;refine⟨J++⟨#[47]⟩++gN u,fun w gl => ?_⟩;have hle:∀x∈P,x.data.toList.length<=2:=by
  rw[<-hP.out];intro x hx;split at hx
  ·obtain rfl:=qqq.1 hx;exact JG c hc
  ·obtain⟨y,hy,rfl⟩:=List.mem_map.1 hx;exact JG y (h y (List.mem_filter.1 hy).1)
 have HL:=aJ hle;have HA:=aJ h;have HC:=aJ (And.intro hc hu);have b0:=(qb w.heap.size w).alloc (qa _) (.cells #[Z c,Z u,Z a,Z b,Z d,Z e,Z f,Z g] 90);have hR:=qd w (.cells #[Z c,Z u,Z a,Z b,Z d,Z e,Z f,Z g] 90);have HG:=aJ gl;have hB0:w.heap.size<=(w.alloc (.cells #[Z c,Z u,Z a,Z b,Z d,Z e,Z f,Z g] 90)).heap.size:=b0.size;clear hle h hc hu gl;obtain⟨i0,hi0,hz0,hz1,hz2⟩:=info_parts Tryz.infostr;go_enter Tryz.func220,Tryz.ntmps220;go_wp2_with(fail);generalize w.alloc (.cells #[Z c,Z u,Z a,Z b,Z d,Z e,Z f,Z g] 90)=W at hR b0 hB0⊢
 go_loopg [3,5,8] 6 (fun gk s3 _ s8 wl=>∃(k:Nat)(lv:Value),k<=6/\gk=6-k/\s3=lv/\s8=Z (k:Nat)/\wl.ownsRow w.heap.size 9 1 lv (E5 ([a,b,d,e,f,g].take k)).length ((E5 ([a,b,d,e,f,g].take k)).map Value.string)/\Below w.heap.size w wl/\wl.heap[w.heap.size]?=some (.cells #[Z c,Z u,Z a,Z b,Z d,Z e,Z f,Z g] 90 (0,0)))
 case atStart=>exact⟨0,_,by omega,rfl,rfl,rfl,qw _ _ _ _,b0,hR⟩
 case round =>
  clear b0 hR hB0;obtain⟨k,lv,hk,hg,rfl,rfl,ho,hb,hR⟩:=hrel;by_cases hlt:k<6
  ·have hlt':(k:Int)<6:=by omega
   have hk0:(0:Int)<=(k:Int):=by omega
   obtain⟨x,r,hx,hix⟩:∃(x:Int)(r:List Int),[a,b,d,e,f,g].drop k=x::r/\∀w':World,(Instr.index 88 (.agg #[Z a,Z b,Z d,Z e,Z f,Z g]) (Z (k:Nat))).run Tryz.prog w'=.ok (Z x) w':=by
    obtain rfl|rfl|rfl|rfl|rfl|rfl:k=0\/k=1\/k=2\/k=3\/k=4\/k=5:=by omega
    all_goals exact⟨_,_,rfl,fun w'=>by kernel_rfl⟩
   have hx0:=HA.out x (List.mem_of_mem_drop (by rw[hx];exact List.mem_cons_self));have hst:=ZK hx;have m1:IntKind.i64.wrap ((k:Int)+1)=(k:Int)+1:=IntWalk.i64_in _ (by omega);have hgl:=HG.out.stay hb;obtain⟨l,hl⟩:∃l,Shut (E5 ([a,b,d,e,f,g].take k)=l):=⟨_,rfl⟩;have hln:l.length<=6:=by
    rw[<-hl.out];unfold E5;rw[qqc];exact qx (List.length_filter_le _ _) (by rw[List.length_take];omega)
   rw[hl.out]at ho hst;have HST:=aJ hst;clear hst hx;by_cases hp:0<x
   ·have xi:=zY x (by omega) (by omega) wr hgl;have hs:=HST.out;rw[if_pos hp]at hs;have HS2:=aJ hs;clear hs hgl HST;obtain⟨ao,cp,rfl⟩:=aL ho;have HB:=aJ hb;have lo:=hb.size;clear hb;go_wp2_with(go_at_call 147;(with_reducible refine xi.mono ?_));intro r w1;(first|(intro he9 b1;subst he9)|rintro ⟨rfl,b1⟩);have ho1:=aB ho fun j hj=>b1.block j (ho.lt j hj).2;have hR1:=(b1.block _ (aA hR)).trans hR;have hb1:=HB.out.trans (b1.mono lo);have lo1:=hb1.size;have lR1:=aA hR1;have HB1:=aJ hb1;have neR:Value.ownBlock (.slice ao l.length cp)≠some w.heap.size:=fun e=>by
     obtain⟨c',hc'⟩:=bA ho1 e;exact aS hc' hR1 (by decide)
    clear ho hR b1 hb1 xi HB;go_wp2_with(at_builtin;refine wpList_append_lies _ rfl _ _ 57 rfl w.heap.size 9 i0 _ 1 16 Tryz.underlying57 hi0 hz0 hz1 hz2 rfl (by omega) (.slice ao l.length cp) l.length (l.map Value.string) rfl (ho1.alloc _) ⟨w1.heap.size,0,none⟩ 1 1 [.string (gN x)] rfl rfl (World.news_of_block (cs:=#[.string (gN x)]) (t:=9) (fr:=(0,0)) (qd _ _)) (by simp[Value.oneCell']) (by omega) (by unfold maxLen;omega) (by omega) (by simp;omega) (w1.heap.size+1) (by simp) ?_;intro gg cap w2 hown hgrow hat hgl);have hR2:=(hgrow.block _ (by simp;omega) (fun e=>neR e.symm)).trans (Lib.alloc_old w1 (.cells #[.string (gN x)] 9) _ lR1);have hb2:=(HB1.out.alloc lo1 (.cells #[.string (gN x)] 9)).grown hgrow (by simp;omega) (fun j hj=>(ho1.lt j hj).1);go_roundg (6-(k+1));case measure=>omega
    case rel=>exact⟨k+1,_,by omega,rfl,rfl,by simp,by rw[HS2.out,qf,List.map_append];exact hown,hb2,hR2.trans hR1⟩
   ·have hs:=HST.out;rw[if_neg hp,qqe]at hs;have HS2:=aJ hs;have HB:=aJ (And.intro hb (And.intro ho hR));clear hs hgl HST hb ho hR;go_wp2;go_roundg (6-(k+1));case measure=>omega
    case rel =>
     obtain⟨hb,ho,hR⟩:=HB.out;exact⟨k+1,_,by omega,rfl,rfl,by simp,by rw[HS2.out];exact ho,hb,hR⟩
  ·obtain rfl:k=6:=by omega
   have hl6:[a,b,d,e,f,g].take 6=[a,b,d,e,f,g]:=rfl;rw[hl6]at ho;obtain⟨ao,cp,rfl⟩:=aL ho;have k0:wr.cell? ⟨w.heap.size,0,none⟩=some (Z c):=by rw[Lib.cell_of_heap hR];rfl
   have hLx:(E5 [a,b,d,e,f,g]).length<=6:=by
    unfold E5;rw[qqc];exact List.length_filter_le _ _
   obtain⟨l,hl⟩:∃l,Shut (E5 [a,b,d,e,f,g]=l):=⟨_,rfl⟩;rw[hl.out]at ho hLx⊢;have HP:Shut ((if l=[]then [gN c]else l)=P):=by rw[<-hl.out];exact hP
   clear hlt hl6;go_upto_if 21 with(fail)
   go_cut [3]from 22 to 32 (fun s3 wc=>∃(G cap:Nat),s3=.slice (some ⟨G,0,none⟩) P.length cap/\wc.ownsRow w.heap.size 9 1 (.slice (some ⟨G,0,none⟩) P.length cap) P.length (P.map Value.string)/\P.length<=6/\Below w.heap.size w wc/\wc.heap[w.heap.size]?=some (.cells #[Z c,Z u,Z a,Z b,Z d,Z e,Z f,Z g] 90 (0,0)))
   case first =>
    by_cases hz:l=[]
    ·have hPe:P=[gN c]:=by rw[<-HP.out,if_pos hz]
     subst hz;have xi:=zY c (by have:=HC.out;omega) (by have:=HC.out;omega) wr (HG.out.stay hb);have HB:=aJ (And.intro hb hR);have HPE:=aJ hPe;clear ho hb hR hPe;go_wp2_with(go_at_call 147;(with_reducible refine xi.mono ?_));intro r w1;(first|(intro he9 b1;subst he9)|rintro ⟨rfl,b1⟩);go_wp2
     go_meet
     case rel =>
      obtain⟨hb,hR⟩:=HB.out;have hb1:=hb.trans (b1.mono hb.size);have hR1:=(b1.block _ (aA hR)).trans hR;rw[HPE.out];exact⟨w1.heap.size,1,rfl,⟨rfl,.inr ⟨w1.heap.size,1,#[.string (gN c)],rfl,hb1.size,qd w1 _,qa _,by unfold maxLen;omega,rfl,rfl⟩⟩,by simp,hb1.alloc hb1.size _,aV _ hR1⟩
    ·have hPe:P=l:=by rw[<-HP.out,if_neg hz]
     subst hPe;have hne:¬(P.length=0):=fun h=>hz (List.length_eq_zero_iff.1 h);have hne':¬((P.length:Nat):Int)=0:=by omega
     have HB:=aJ (And.intro hb (And.intro hR (And.intro ho hLx)));obtain⟨G,rfl⟩:∃G,ao=some ⟨G,0,none⟩:=by
      rcases ho.2 with⟨_,h0⟩ |⟨g',cap,cur,e1,_⟩
      ·exact absurd h0 hne
      ·injection e1 with e1 _ _;exact⟨g',e1⟩
     clear ho hb hR hz hLx k0;go_wp2
     go_meet
     case rel =>
      obtain⟨hb,hR,ho,hLx⟩:=HB.out;exact⟨G,cp,rfl,ho,hLx,hb,hR⟩
   case rest =>
    clear ho hb hR hLx k0 hP hl HP;obtain⟨G,cap,rfl,ho,hLx,hb,hR⟩:=hcut;have lR:=aA hR;have lo:=hb.size;have xj:=fun(w':World)(b:Below wc.heap.size wc w')=>(aCM P HL.out hLx (aB ho fun j hj=>b.block j (ho.lt j hj).2):Calls _ _ _ w' _);have xj0:=xj wc.drew (qb _ _).drew;rw[hJ.out]at xj0;have k1:wc.cell? ⟨w.heap.size,1,none⟩=some (Z u):=by rw[Lib.cell_of_heap hR];rfl
    have HB:=aJ (And.intro hb hR);have xi:=fun(w':World)(b:Below wc.heap.size wc w')=>zY u (by have:=HC.out;omega) (by have:=HC.out;omega) w' (HG.out.stay (HB.out.1.trans (b.mono lo)));have hJs:J.size<=20:=by rw[<-hJ.out,<-cG];exact RX P HL.out hLx
    have hus:(gN u).size<=2:=by rw[<-cG];exact JG u HC.out.2
    have hs1:¬9223372036854775807<J.size+1:=by omega
    have hs2:¬9223372036854775807<J.size+1+(gN u).size:=by omega
    clear xj ho hb hR;go_upto_region 10 with(fail)
    go_region_law ((first
     |(go_simp;go_at_call 236;refine xj0.mono ?_;intro r w3;(first|(intro he9 b3;subst he9)|rintro ⟨rfl,b3⟩);have b3':=(qb wc.heap.size wc).drew.trans b3;have k3:w3.cell? ⟨w.heap.size,1,none⟩=some (Z u):=(b3'.cell lR).trans k1)
     |(go_simp;go_at_call 147;refine(xi _ b3').mono ?_;intro r w4;(first|(intro he9 b4;subst he9)|rintro ⟨rfl,b4⟩))))
    all_goals go_wp2
    all_goals go_ret
    all_goals exact⟨rfl,HB.out.1.trans ((b3'.trans (b4.mono b3'.size)).mono lo)⟩
end Go.Proofs.YtgkhemnmcgicnaaGreatDoor
