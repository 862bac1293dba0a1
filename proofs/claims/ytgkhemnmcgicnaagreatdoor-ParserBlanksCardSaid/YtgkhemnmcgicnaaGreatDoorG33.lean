/- Towards the law ParserBlanks, true for every text and all blanks (no condition): one part of the proof. -/
import Derived.Test.YtgkhemnmcgicnaaGreatDoorG01
import Derived.Test.YtgkhemnmcgicnaaGreatDoorG32
import Derived.Test.YtgkhemnmcgicnaaGreatDoorG31
import Derived.Deep.Cut
import Derived.Deep.CutBlock
namespace Go.Proofs.YtgkhemnmcgicnaaGreatDoor
set_option maxHeartbeats 32000000
set_option maxRecDepth 100000
open Go.RowKit
section
variable{W0:World}{T:List aX}{Y M:Nat}{st:aD}{w:World}
theorem PS.lists{free:Fr}(h:PS T Y M free st w){R:Nat}{cs:Array Value}(hY:R≠Y)(hM:R≠M)(hk:w.heap[R]?=some (.cells cs 31 (0,0)))(i:Nat)(u:Value):PS T Y M free st (w.setCell ⟨R,i,none⟩ u) :=
 h.put hY hM hk (by decide) (aH w R i u)
theorem Z2{fr fr':Fr}{o:(Int×Int)×aD}(h:PS T Y M fr st w)
  (hobj:∀w',PS T Y M fr st w'->Calls Tryz.prog 52 #[.pointer (some ⟨Y,0,none⟩)] w' fun r w''=>r=.returned (.agg #[Z o.1.1,Z o.1.2])/\PS T Y M fr' o.2 w''/\aC [Y,M] w' w'')
  (B:mF W0 [Y,M] w):Calls Tryz.prog 20 #[.pointer (some ⟨Y,0,none⟩)] w fun r w'=>∃v,r=.returned v/\EvR w.heap.size (sW aK T 7 o).1 v w'/\PS T Y M fr' (sW aK T 7 o).2 w'/\aC [Y,M] w w':=by
 have lY:=h.lt;have lM:=h.ltM;have hR0:=qd w (.cells (evC 0 0 0 0 0 (.slice none 0 0) (.slice none 0 0) ⟨0,0,0,0,0⟩ (.slice none 0 0)) 31);have b0:=(qb w.heap.size w).alloc (qa _) (.cells (evC 0 0 0 0 0 (.slice none 0 0) (.slice none 0 0) ⟨0,0,0,0,0⟩ (.slice none 0 0)) 31);have x1:=hobj _ (h.step b0);obtain⟨g,b,vl,at9,y,hg,hb,hv,ha,hy,he⟩:=UC (O:=aK) (T:=T) (q:=7) o;rw[he];clear he hobj;obtain⟨⟨i0,i1⟩,s0⟩:=o;simp only at x1 hg⊢;have HG:Shut ((isS T ⟨#[103,114,97,99,101]⟩ s0=true/\g=tA T (dE aK T 7) ⟨#[41]⟩ (bY T ⟨#[40]⟩ (aY T ⟨#[103,114,97,99,101]⟩ s0)))\/(isS T ⟨#[103,114,97,99,101]⟩ s0=false/\aY T ⟨#[103,114,97,99,101]⟩ s0=s0/\g=([],s0))):=by rw[hg];exact NQ s0
 have HB:=aJ (UB (O:=aK) (T:=T) g.2);rw[<-hb]at HB;have HV:=aJ (Y1 (O:=aK) (T:=T) b.1.1 b.2);rw[<-hv]at HV;have HA:=aJ (RH (T:=T) vl.2);rw[<-ha]at HA;clear hg hb hv ha;obtain⟨gs,s1⟩:=g;obtain⟨⟨kd,hs⟩,s2⟩:=b;obtain⟨⟨lg,dt⟩,s3⟩:=vl;obtain⟨A9,s4⟩:=at9;simp only at HG HB HV HA hy⊢;have xly:=fun w' (hh:PS T Y M fr' s4 w')=>aD2 hh;rw[<-hy]at xly;clear hy;obtain⟨ys,s5⟩:=y;simp only at xly⊢;go_enter Tryz.func20,Tryz.ntmps20;go_wp2_with(go_at_call 52;refine x1.mono ?_);intro r w1;first |(intro he hS1 a1;subst he)|rintro⟨rfl,hS1,a1⟩
 have hRY:w.heap.size∉[Y,M]:=by simp;omega
 have hR1:=a1.at hR0 hRY;have lR1:=aA hR1;have a01:=(aC.of_below (bs:=[Y,M]) b0).trans a1;have V:NN [Y,M] w.heap.size w1.heap.size ⟨i0,i1,0,0,0,oA,oA,oA⟩ A0 [] [] [] w (w1.alloc (.cells (evC i0 i1 0 0 0 (.slice none 0 0) (.slice none 0 0) ⟨0,0,0,0,0⟩ (.slice none 0 0)) 31)) :=
  ⟨(Lib.alloc_old w1 _ _ lR1).trans hR1,qd w1 _,kS.nil _ _,a01.alloc _,qa _,lR1,fun k hk=>by simp at hk;omega⟩
 have hS2:=hS1.step ((qb _ w1).alloc (qa _) (.cells (evC i0 i1 0 0 0 (.slice none 0 0) (.slice none 0 0) ⟨0,0,0,0,0⟩ (.slice none 0 0)) 31));have x2:=d9 hS2 ⟨#[103,114,97,99,101]⟩;have hEY:w1.heap.size≠Y:=by omega
 have hEM:w1.heap.size≠M:=by omega
 generalize hEE:w1.heap.size=E at V hEY hEM⊢;clear x1 h hR0 hR1 b0 a1 a01 hRY hS1 lR1;generalize isS T ⟨#[103,114,97,99,101]⟩ s0=bg at x2 HG;generalize aY T ⟨#[103,114,97,99,101]⟩ s0=sg at x2 HG;unfold evC at V hS2 x2;go_upto_if 10 with(go_at_call 53;(with_reducible refine x2.mono ?_);rintro rr w2 ⟨rfl,hS3,a3⟩);have V3:=V.away a3 (fun k hk=>hk);clear V x2 hS2 a3 hEE
 go_cut []from 4 (fun wc=>∃gv,NN [Y,M] w.heap.size E ⟨i0,i1,0,0,0,oA,gv,oA⟩ A0 [] gs [] w wc/\PS T Y M fr' s1 wc)
 case first =>
  rcases HG.out with⟨rfl,hge⟩ |⟨rfl,rfl,hge⟩
  ·have xe:=iX hS3 ⟨#[40]⟩;have xs:=fun w' (hh:PS T Y M fr' (bY T ⟨#[40]⟩ sg) w') (BB:mF W0 [Y,M] w')=>JS hh BB;rw[<-hge]at xs;generalize bY T ⟨#[40]⟩ sg=s6 at xe xs;simp only at xs;clear hge;go_wp2_with(go_at_call 54;(with_reducible refine xe.mono ?_));intro rr w4;first |(intro he1 hS4 a4;subst he1)|rintro⟨rfl,hS4,a4⟩
   have V4:=V3.away a4 (fun k hk=>hk);have xs4:=xs _ hS4 (B.away V4.aw);clear xe xs V3 hS3 a4;go_wp2_with(go_at_call 55;(with_reducible refine xs4.mono ?_));rintro rr w5 ⟨gv,rfl,hown,hS5,a5⟩;have V5:=V4.away a5 (fun k hk=>hk);have og:=oD (B:=w.heap.size) hown V4.aw.size;obtain⟨ga,gc,rfl⟩:=aL hown;have c6:=V5.cells.2.2.2.2.1;have f6:=V5.cells.2.2.2.2.2.2 6;have V6:=V5.put 6 (.slice ga gs.length gc) (F':=⟨i0,i1,0,0,0,oA,.slice ga gs.length gc,oA⟩) (A':=A0) (hs':=[]) (gs':=gs) (ys':=[]) rfl ⟨V5.rows.oh,og,V5.rows.ol⟩;have hS6:=hS5.lists hEY hEM V5.hE 6 (.slice ga gs.length gc);clear xs4 V4 V5 hS4 hS5 a5 hown og;go_wp2
   go_meet
   case rel=>exact⟨_,V6,hS6⟩
  ·injection hge with e1 e2;subst e1 e2;go_wp2
   go_meet
   case rel=>exact⟨_,V3,hS3⟩
 case rest =>
  obtain⟨gv,V4,hS4⟩:=hcut;clear V3 hS3 HG
  go_upto_block 0 with(fail)
  go_cut []from 4 (fun wc=>∃hv,NN [Y,M] w.heap.size E ⟨i0,i1,kd,0,0,hv,gv,oA⟩ A0 hs gs [] w wc/\PS T Y M fr' s2 wc)
  case first =>
   have xR:=fun w' (hh:PS T Y M fr' s1 w')=>d9 hh ⟨#[82]⟩;have xr:=fun w' (hh:PS T Y M fr' s1 w')=>d9 hh ⟨#[114]⟩;have xS:=fun w' (hh:PS T Y M fr' s1 w')=>d9 hh ⟨#[115]⟩;have xl:=fun w' (hh:PS T Y M fr' s1 w')=>d9 hh ⟨#[60]⟩;have xh:=fun w' (hh:PS T Y M fr' s1 w') (BB:mF W0 [Y,M] w')=>VK hh BB;generalize isS T ⟨#[82]⟩ s1=b1 at xR HB;generalize isS T ⟨#[114]⟩ s1=b2 at xr HB;generalize isS T ⟨#[115]⟩ s1=b3 at xS HB;generalize isS T ⟨#[60]⟩ s1=b4 at xl HB;generalize aY T ⟨#[82]⟩ s1=q1 at xR HB;generalize aY T ⟨#[114]⟩ s1=q2 at xr HB;generalize aY T ⟨#[115]⟩ s1=q3 at xS HB;generalize aY T ⟨#[60]⟩ s1=q4 at xl HB;have x3:=xR _ hS4;clear xR;rcases HB.out with⟨rfl,hbe⟩ |⟨rfl,rfl,⟨rfl,hbe⟩ |⟨rfl,rfl,⟨rfl,hbe⟩ |⟨rfl,rfl,⟨rfl,hbe⟩ |⟨rfl,rfl,hbe⟩⟩⟩⟩
   ·simp only[qu]at hbe;obtain⟨⟨rfl,rfl⟩,rfl⟩:=hbe;clear xr xS xl xh;go_wp2_with(go_at_call 53;(with_reducible refine x3.mono ?_));intro rr w5;first |(intro he1 hS5 a5;subst he1)|rintro⟨rfl,hS5,a5⟩
    have V5:=V4.away a5 (fun k hk=>hk);have c2:=V5.cells.1;have f2:=V5.cells.2.2.2.2.2.2 2;have V6:=V5.put 2 (Z 3) (F':=⟨i0,i1,3,0,0,oA,gv,oA⟩) (A':=A0) rfl V5.rows;have hS6:=hS5.lists hEY hEM V5.hE 2 (Z 3);clear V4 V5 x3 hS5 a5;go_wp2
    go_meet
    case rel=>exact⟨_,V6,hS6⟩
   ·simp only[qu]at hbe;obtain⟨⟨rfl,rfl⟩,rfl⟩:=hbe;clear xS xl xh;go_wp2_with(go_at_call 53;(with_reducible refine x3.mono ?_));intro rr w5;first |(intro he1 hS5 a5;subst he1)|rintro⟨rfl,hS5,a5⟩
    have V5:=V4.away a5 (fun k hk=>hk);have x4:=xr _ hS5;clear V4 x3 xr hS5 a5;go_wp2_with(go_at_call 53;(with_reducible refine x4.mono ?_));intro rr w6;first |(intro he1 hS6 a6;subst he1)|rintro⟨rfl,hS6,a6⟩
    have V6:=V5.away a6 (fun k hk=>hk);have c2:=V6.cells.1;have f2:=V6.cells.2.2.2.2.2.2 2;have V7:=V6.put 2 (Z 2) (F':=⟨i0,i1,2,0,0,oA,gv,oA⟩) (A':=A0) rfl V6.rows;have hS7:=hS6.lists hEY hEM V6.hE 2 (Z 2);clear V5 V6 x4 hS6 a6;go_wp2
    go_meet
    case rel=>exact⟨_,V7,hS7⟩
   ·simp only[qu]at hbe;obtain⟨⟨rfl,rfl⟩,rfl⟩:=hbe;clear xl xh;go_wp2_with(go_at_call 53;(with_reducible refine x3.mono ?_));intro rr w5;first |(intro he1 hS5 a5;subst he1)|rintro⟨rfl,hS5,a5⟩
    have V5:=V4.away a5 (fun k hk=>hk);have x4:=xr _ hS5;clear V4 x3 xr hS5 a5;go_wp2_with(go_at_call 53;(with_reducible refine x4.mono ?_));intro rr w6;first |(intro he1 hS6 a6;subst he1)|rintro⟨rfl,hS6,a6⟩
    have V6:=V5.away a6 (fun k hk=>hk);have x5:=xS _ hS6;clear V5 x4 xS hS6 a6;go_wp2_with(go_at_call 53;(with_reducible refine x5.mono ?_));intro rr w7;first |(intro he1 hS7 a7;subst he1)|rintro⟨rfl,hS7,a7⟩
    have V7:=V6.away a7 (fun k hk=>hk);have c2:=V7.cells.1;have f2:=V7.cells.2.2.2.2.2.2 2;have V8:=V7.put 2 (Z 4) (F':=⟨i0,i1,4,0,0,oA,gv,oA⟩) (A':=A0) rfl V7.rows;have hS8:=hS7.lists hEY hEM V7.hE 2 (Z 4);clear V6 V7 x5 hS7 a7;go_wp2
    go_meet
    case rel=>exact⟨_,V8,hS8⟩
   ·have xs:=fun w' (hh:PS T Y M fr' q4 w') (BB:mF W0 [Y,M] w')=>KZ hh BB;generalize tA T (dQ aK T) ⟨#[62]⟩ q4=sv at xs hbe;simp only[qu]at hbe;obtain⟨⟨rfl,rfl⟩,rfl⟩:=hbe;obtain⟨hs,s2⟩:=sv;simp only at xs⊢;clear xh;go_wp2_with(go_at_call 53;(with_reducible refine x3.mono ?_));intro rr w5;first |(intro he1 hS5 a5;subst he1)|rintro⟨rfl,hS5,a5⟩
    have V5:=V4.away a5 (fun k hk=>hk);have x4:=xr _ hS5;clear V4 x3 xr hS5 a5;go_wp2_with(go_at_call 53;(with_reducible refine x4.mono ?_));intro rr w6;first |(intro he1 hS6 a6;subst he1)|rintro⟨rfl,hS6,a6⟩
    have V6:=V5.away a6 (fun k hk=>hk);have x5:=xS _ hS6;clear V5 x4 xS hS6 a6;go_wp2_with(go_at_call 53;(with_reducible refine x5.mono ?_));intro rr w7;first |(intro he1 hS7 a7;subst he1)|rintro⟨rfl,hS7,a7⟩
    have V7:=V6.away a7 (fun k hk=>hk);have x6:=xl _ hS7;clear V6 x5 xl hS7 a7;go_wp2_with(go_at_call 53;(with_reducible refine x6.mono ?_));intro rr w8;first |(intro he1 hS8 a8;subst he1)|rintro⟨rfl,hS8,a8⟩
    have V8:=V7.away a8 (fun k hk=>hk);have xs8:=xs _ hS8 (B.away V8.aw);clear V7 x6 xs hS8 a8;go_wp2_with(go_at_call 57;(with_reducible refine xs8.mono ?_));rintro rr w9 ⟨hv,rfl,hown,hS9,a9⟩;have V9:=V8.away a9 (fun k hk=>hk);have oh:=oD (B:=w.heap.size) hown V8.aw.size;obtain⟨ha,hc,rfl⟩:=aL hown;have c2:=V9.cells.1;have f2:=V9.cells.2.2.2.2.2.2 2;have c5:=V9.cells.2.2.2.1;have f5:=V9.cells.2.2.2.2.2.2 5;have V10:=V9.put 2 (Z 1) (F':=⟨i0,i1,1,0,0,oA,gv,oA⟩) (A':=A0) rfl V9.rows;have hS10:=hS9.lists hEY hEM V9.hE 2 (Z 1);have oh10:=aB oh fun k hk=>aH w9 E 2 (Z 1) k (fun e=>kE oh V9.hE (by intro cs fr hc;injection hc with _ h2 _;exact absurd h2 (by decide)) (by rw[hk,e]));have V11:=V10.put 5 (.slice ha hs.length hc) (F':=⟨i0,i1,1,0,0,.slice ha hs.length hc,gv,oA⟩) (A':=A0) (hs':=hs) (gs':=gs) (ys':=[]) rfl ⟨oh10,V10.rows.og,V10.rows.ol⟩;have hS11:=hS10.lists hEY hEM V10.hE 5 (.slice ha hs.length hc);clear V8 V9 V10 xs8 hS9 hS10 a9 hown oh oh10;go_wp2
    go_meet
    case rel=>exact⟨_,V11,hS11⟩
   ·generalize dQ aK T q4=hd at xh hbe;simp only[qu]at hbe;obtain⟨⟨rfl,rfl⟩,rfl⟩:=hbe;obtain⟨⟨⟨p0,p1,p2⟩,td,sh⟩,s2⟩:=hd;simp only[UD]at xh⊢;go_wp2_with(go_at_call 53;(with_reducible refine x3.mono ?_));intro rr w5;first |(intro he1 hS5 a5;subst he1)|rintro⟨rfl,hS5,a5⟩
    have V5:=V4.away a5 (fun k hk=>hk);have x4:=xr _ hS5;clear V4 x3 xr hS5 a5;go_wp2_with(go_at_call 53;(with_reducible refine x4.mono ?_));intro rr w6;first |(intro he1 hS6 a6;subst he1)|rintro⟨rfl,hS6,a6⟩
    have V6:=V5.away a6 (fun k hk=>hk);have x5:=xS _ hS6;clear V5 x4 xS hS6 a6;go_wp2_with(go_at_call 53;(with_reducible refine x5.mono ?_));intro rr w7;first |(intro he1 hS7 a7;subst he1)|rintro⟨rfl,hS7,a7⟩
    have V7:=V6.away a7 (fun k hk=>hk);have x6:=xl _ hS7;clear V6 x5 xl hS7 a7;go_wp2_with(go_at_call 53;(with_reducible refine x6.mono ?_));intro rr w8;first |(intro he1 hS8 a8;subst he1)|rintro⟨rfl,hS8,a8⟩
    have V8:=V7.away a8 (fun k hk=>hk);have xh8:=xh _ hS8 (B.away V8.aw);clear V7 x6 xh hS8 a8;go_wp2_with(go_at_call 58;(with_reducible refine xh8.mono ?_));intro rr w8b;first |(intro he1 hS8 a8;subst he1)|rintro⟨rfl,hS8,a8⟩
    have V8b:=V8.away a8 (fun k hk=>hk);have oh9:(w8b.alloc (.cells #[Z p0,Z p1,Z p2,.bool td,Z sh] 80)).ownsRow w.heap.size 80 5 (.slice (some ⟨w8b.heap.size,0,none⟩) 1 1) 1 #[Z p0,Z p1,Z p2,.bool td,Z sh].toList:=World.ownsRow_lit (size:=5) w8b #[Z p0,Z p1,Z p2,.bool td,Z sh] 1 V8b.aw.size (by decide) rfl;have V9:=V8b.step ((qb _ w8b).alloc (qa _) (.cells #[Z p0,Z p1,Z p2,.bool td,Z sh] 80));have hS9:=hS8.step ((qb _ w8b).alloc (qa _) (.cells #[Z p0,Z p1,Z p2,.bool td,Z sh] 80));clear V8 xh8 a8 V8b hS8;generalize hw9:w8b.alloc (.cells #[Z p0,Z p1,Z p2,.bool td,Z sh] 80)=w9 at V9 hS9 oh9;have V10:=V9.put 2 (Z 1) (F':=⟨i0,i1,1,0,0,oA,gv,oA⟩) (A':=A0) rfl V9.rows;have hS10:=hS9.lists hEY hEM V9.hE 2 (Z 1);have oh10:=aB oh9 fun k hk=>aH w9 E 2 (Z 1) k (fun e=>kE oh9 V9.hE (by intro cs fr hc;injection hc with _ h2 _;exact absurd h2 (by decide)) (by rw[hk,e]));have V11:=V10.put 5 (.slice (some ⟨w8b.heap.size,0,none⟩) 1 1) (F':=⟨i0,i1,1,0,0,.slice (some ⟨w8b.heap.size,0,none⟩) 1 1,gv,oA⟩) (A':=A0) (hs':=[⟨⟨p0,p1,p2⟩,td,sh⟩]) (gs':=gs) (ys':=[]) rfl ⟨oh10,V10.rows.og,V10.rows.ol⟩;have hS11:=hS10.lists hEY hEM V10.hE 5 (.slice (some ⟨w8b.heap.size,0,none⟩) 1 1);have c2:=V9.cells.1;have f2:=V9.cells.2.2.2.2.2.2 2;have c5:=V9.cells.2.2.2.1;have f5:=V9.cells.2.2.2.2.2.2 5;clear V9 V10 hS9 hS10 oh9 oh10;subst hw9;go_wp2
    go_meet
    case rel=>exact⟨_,V11,hS11⟩
  case rest =>
   obtain⟨hv,V5,hS5⟩:=hcut;clear V4 hS4 HB;have c2:=V5.cells.1;go_upto_if 56 with(fail);clear c2
   go_cut []from 4 (fun wc=>NN [Y,M] w.heap.size E ⟨i0,i1,kd,lg,dt,hv,gv,oA⟩ A0 hs gs [] w wc/\PS T Y M fr' s3 wc)
   case first =>
    rcases HV.out with⟨rfl,hve⟩ |⟨hk3,hve⟩
    ·simp only[qu]at hve;obtain⟨⟨rfl,rfl⟩,rfl⟩:=hve;go_wp2
     go_meet
     case rel=>exact⟨V5,hS5⟩
    ·have hb3:(kd != 3)=true:=by simp[hk3]
     have xe:=iX hS5 ⟨#[58]⟩;have xv:=fun w' (hh:PS T Y M fr' (bY T ⟨#[58]⟩ s2) w') (BB:mF W0 [Y,M] w')=>aGH hh BB;rw[<-hve]at xv;generalize bY T ⟨#[58]⟩ s2=s6 at xe xv;simp only[qM]at xv;clear hve;rw[hb3];clear hb3;go_wp2_with(go_at_call 54;(with_reducible refine xe.mono ?_));intro rr w6;first |(intro he1 hS6 a6;subst he1)|rintro⟨rfl,hS6,a6⟩
     have V6:=V5.away a6 (fun k hk=>hk);have xv6:=xv _ hS6 (B.away V6.aw);clear V5 xe xv hS5 hS6 a6;go_wp2_with(go_at_call 59;(with_reducible refine xv6.mono ?_));intro rr w7;first |(intro he1 hS7 a7;subst he1)|rintro⟨rfl,hS7,a7⟩
     have V7:=V6.away a7 (fun k hk=>hk);have c3:=V7.cells.2.1;have c4:=V7.cells.2.2.1;have f3:=V7.cells.2.2.2.2.2.2 3;have f4:=V7.cells.2.2.2.2.2.2 4;have V8:=V7.put 3 (Z lg) (F':=⟨i0,i1,kd,lg,0,hv,gv,oA⟩) (A':=A0) rfl V7.rows;have hS8:=hS7.lists hEY hEM V7.hE 3 (Z lg);have V9:=V8.put 4 (Z dt) (F':=⟨i0,i1,kd,lg,dt,hv,gv,oA⟩) (A':=A0) rfl V8.rows;have hS9:=hS8.lists hEY hEM V8.hE 4 (Z dt);clear V6 V7 V8 xv6 hS7 hS8 a7;go_wp2
     go_meet
     case rel=>exact⟨V9,hS9⟩
   case rest =>
    obtain⟨V6,hS6⟩:=hcut;clear V5 hS5 HV;have x7:=d9 hS6 ⟨#[91]⟩;generalize isS T ⟨#[91]⟩ s3=bw at x7 HA;generalize aY T ⟨#[91]⟩ s3=sw at x7 HA;go_upto_if 67 with(go_at_call 53;(with_reducible refine x7.mono ?_);rintro rr w7 ⟨rfl,hS7,a7⟩);have V7:=V6.away a7 (fun k hk=>hk);clear V6 x7 hS6 a7
    go_cut []from 4 (fun wc=>NN [Y,M] w.heap.size E ⟨i0,i1,kd,lg,dt,hv,gv,oA⟩ A9 hs gs [] w wc/\PS T Y M fr' s4 wc)
    case first =>
     rcases HA.out with⟨rfl,hae⟩ |⟨rfl,rfl,hae⟩
     ·have x8:=MG (E:=E) hS7 V7.hE hEY hEM;rw[<-hae]at x8;simp only at x8;clear hae;go_wp2_with(go_at_call 60;(with_reducible refine x8.mono ?_));intro rr w8;first |(intro he1 hS8 hE8 a8;subst he1)|rintro⟨rfl,hS8,hE8,a8⟩
      have V8:=V7.other (F':=⟨i0,i1,kd,lg,dt,hv,gv,oA⟩) (A':=A9) (hs':=hs) (gs':=gs) (ys':=[]) a8 (fun k hk=>by simp at hk⊢;omega) hE8 (V7.rows.step fun k o T' ho hT hk=>a8.block k (aA ho) (fun hm=>by
       simp only[qqt,List.not_mem_nil,or_false]at hm;rcases hm with rfl|rfl|rfl
       ·omega
       ·omega
       ·have:=ho.symm.trans V7.hE;injection this with this;injection this with _ h2 _;rcases hT with hT|hT|hT<;>rw[hT]at h2<;>exact absurd h2 (by decide)))
      clear V7 x8 hS7 hE8 a8;go_wp2
      go_meet
      case rel=>exact⟨V8,hS8⟩
     ·injection hae with e1 e2;subst e1 e2;go_wp2
      go_meet
      case rel=>exact⟨V7,hS7⟩
    case rest =>
     obtain⟨V8,hS8⟩:=hcut;clear V7 hS7 HA;have x9:=xly _ hS8;clear xly;go_wp2_with(go_at_call 61;(with_reducible refine x9.mono ?_));rintro rr w9 ⟨lv,rfl,hown,hS9,a9⟩;have V9:=V8.away a9 (fun k hk=>hk);have ol:=oD (B:=w.heap.size) hown V8.aw.size;obtain⟨la,lc,rfl⟩:=aL hown;have c10:=V9.cells.2.2.2.2.2.1;have f10:=V9.cells.2.2.2.2.2.2 10;have V10:=V9.put 10 (.slice la ys.length lc) (F':=⟨i0,i1,kd,lg,dt,hv,gv,.slice la ys.length lc⟩) (A':=A9) (hs':=hs) (gs':=gs) (ys':=ys) rfl ⟨V9.rows.oh,V9.rows.og,ol⟩;have hS10:=hS9.lists hEY hEM V9.hE 10 (.slice la ys.length lc);obtain⟨ha,hc,rfl⟩:=aL V10.rows.oh;obtain⟨ga,gc,rfl⟩:=aL V10.rows.og;clear V8 V9 x9 hS8 hS9 a9 hown ol;generalize hW9:w9.setCell ⟨E,10,none⟩ (.slice la ys.length lc)=W9 at V10 hS10;have hRR:W9.heap[w.heap.size]?=some (.cells #[Z 0,Z 0,Z 0,Z 0,Z 0,.slice none 0 0,.slice none 0 0,Z 0,Z 0,Z 0,.slice none 0 0,Z 0,Z 0] 31 (0,0)):=V10.hR;have hEE:W9.heap[E]?=some (.cells #[Z i0,Z i1,Z kd,Z lg,Z dt,.slice ha hs.length hc,.slice ga gs.length gc,Z A9.ar,Z A9.orn,Z A9.dy,.slice la ys.length lc,Z A9.st,Z A9.be] 31 (0,0)):=V10.hE;obtain⟨e0,e1,e2,e3,e4,e5,e6,e7,e8,e9,e10,e11,e12,-⟩:=aG0 hEE;obtain⟨r0,r1,r2,r3,r4,r5,r6,r7,r8,r9,r10,r11,r12,z0,z1,z2,z3,z4,z5,z6,z7,z8,z9,z10,z11,z12⟩:=aG0 hRR;have nRE:E≠w.heap.size:=by have:=V10.ne;omega
     have fR:=RF (Z i0) (Z i1) (Z kd) (Z lg) (Z dt) (.slice ha hs.length hc) (.slice ga gs.length gc) (Z A9.ar) (Z A9.orn) (Z A9.dy) (.slice la ys.length lc) (Z A9.st) (Z A9.be) hRR;have fO:=NP (w:=W9) (X:=w.heap.size) (Z i0) (Z i1) (Z kd) (Z lg) (Z dt) (.slice ha hs.length hc) (.slice ga gs.length gc) (Z A9.ar) (Z A9.orn) (Z A9.dy) (.slice la ys.length lc) (Z A9.st) (Z A9.be);have fA:=RG (X:=w.heap.size) (Z i0) (Z i1) (Z kd) (Z lg) (Z dt) (.slice ha hs.length hc) (.slice ga gs.length gc) (Z A9.ar) (Z A9.orn) (Z A9.dy) (.slice la ys.length lc) (Z A9.st) (Z A9.be) V10.aw (qa _);have hP:=hS10.put (R:=w.heap.size) (w':=zT W9 w.heap.size (Z i0) (Z i1) (Z kd) (Z lg) (Z dt) (.slice ha hs.length hc) (.slice ga gs.length gc) (Z A9.ar) (Z A9.orn) (Z A9.dy) (.slice la ys.length lc) (Z A9.st) (Z A9.be)) (by omega) (by omega) hRR (by decide) fO;have hrw:=V10.rows.step (w':=zT W9 w.heap.size (Z i0) (Z i1) (Z kd) (Z lg) (Z dt) (.slice ha hs.length hc) (.slice ga gs.length gc) (Z A9.ar) (Z A9.orn) (Z A9.dy) (.slice la ys.length lc) (Z A9.st) (Z A9.be)) (fun k o T' ho hT _=>fO k (fun e=>by
      have:=ho.symm.trans (e▸hRR);injection this with this;injection this with _ h2 _;rcases hT with hT|hT|hT<;>rw[hT]at h2<;>exact absurd h2 (by decide)))
     clear V10 hS10 fO hRR hEE B;unfold zT at fR fA hP hrw;have HF:=aJ (And.intro fR (And.intro fA (And.intro hP hrw)));clear fR fA hP hrw;go_wp2;obtain⟨fR,fA,hP,hrw⟩:=HF.out;clear HF;generalize (((((((((((((W9.setCell ⟨w.heap.size,0,none⟩ (Z i0)).setCell ⟨w.heap.size,1,none⟩ (Z i1)).setCell ⟨w.heap.size,2,none⟩ (Z kd)).setCell ⟨w.heap.size,3,none⟩ (Z lg)).setCell ⟨w.heap.size,4,none⟩ (Z dt)).setCell ⟨w.heap.size,5,none⟩ (.slice ha hs.length hc)).setCell ⟨w.heap.size,6,none⟩ (.slice ga gs.length gc)).setCell ⟨w.heap.size,7,none⟩ (Z A9.ar)).setCell ⟨w.heap.size,8,none⟩ (Z A9.orn)).setCell ⟨w.heap.size,9,none⟩ (Z A9.dy)).setCell ⟨w.heap.size,10,none⟩ (.slice la ys.length lc)).setCell ⟨w.heap.size,11,none⟩ (Z A9.st)).setCell ⟨w.heap.size,12,none⟩ (Z A9.be))=WF at fR fA hP hrw⊢;refine qg (qp rfl _ _ w.heap.size 31 _ (0,0) _ rfl fR Tryz.underlying31 rfl Tryz.sizeEvent) rfl ?_;exact⟨_,rfl,⟨_,_,_,rfl,hrw⟩,hP,fA⟩
end
section
variable{T:List aX}{X:Nat}{free:Bool}{lv iv:Value}{st:aD}{w:World}
end
section
variable{bs:List Nat}{R E:Nat}{F:EF}{A:A5}{hs:List gT}{gs:List eG}{ys:List eY}{w0 w w':World}
theorem aS{w:World}{k:Nat}{c d:Array Value}{t u:TypeId}(h:w.heap[k]?=some (.cells c t (0,0)))(hd:w.heap[k]?=some (.cells d u (0,0)))(ht:t≠u):False:=by
 have:=h.symm.trans hd;injection this with this;injection this with _ h2 _;exact ht h2
end
end Go.Proofs.YtgkhemnmcgicnaaGreatDoor
