/- Towards the law ParserBlanks, true for every text and all blanks (no condition): one part of the proof. -/
import Derived.Test.YtgkhemnmcgicnaaGreatDoorG01
import Derived.Test.YtgkhemnmcgicnaaGreatDoorG45
namespace Go.Proofs.YtgkhemnmcgicnaaGreatDoor
set_option maxHeartbeats 8000000
set_option maxRecDepth 100000
open Go.RowKit
theorem Tryz.szq117:(Tryz.prog.info? 117).map (·.size)=some 6:=by kernel_rfl
theorem aKD(v v':Value)(rows rows':List (Array Value))(w:World)(hn:rows'.length=rows.length)(hbig:rows.length<=9223372036854775807)(h:kY w 6 v rows)(h':kY w 6 v' rows')
  (hf:∀(j:Nat)(r r':Array Value),rows[j]?=some r->rows'[j]?=some r'->∀w',Below w.heap.size w w'->Calls Tryz.prog 45 #[.agg r,.agg r'] w' fun e w''=>e=.returned (.bool true)/\Below w'.heap.size w' w'') :
  Calls Tryz.prog 47 #[v,v',.func (.func 45) #[] #[]] w fun e w'=>e=.returned (.bool true)/\Below w.heap.size w w':=by
 obtain⟨ao,c,rfl⟩:=h.is;obtain⟨ao',c',rfl⟩:=h'.is;rw[hn]at h'⊢;go_enter Tryz.func47,Tryz.ntmps47;go_wp2
 go_loopg [17] rows.length (fun g s17 wr=>∃k:Nat,k<=rows.length/\g=rows.length-k/\s17=Z (k:Nat)/\Below w.heap.size w wr)
 case atStart=>exact⟨0,ql _,rfl,rfl,qb _ _⟩
 case round =>
  obtain⟨k,hk,hg,rfl,hb⟩:=hrel;by_cases hlt:k<rows.length
  ·have hlt':(k:Int)<(rows.length:Int):=by omega
   have hk0:(0:Int)<=(k:Int):=by omega
   obtain⟨g,o,r,rfl,hr,hs,ha,hc⟩:=(h.step hb).at hlt;obtain⟨g',o',r',rfl,hr',hs',ha',hc'⟩:=(h'.step hb).at (j:=k) (by omega);have hcall:=hf k r r' hr hr';have hz1:(Tryz.prog.info? 117).map (·.size)=some r.size:=by rw[hs];exact Tryz.szq117
   have hz2:(Tryz.prog.info? 117).map (·.size)=some r'.size:=by rw[hs'];exact Tryz.szq117
   have hb1:=hb.alloc hb.size (.cells r 117);have hb2:=hb1.alloc hb1.size (.cells r' 117);have hcl:=hcall _ hb2;have hc2:∀(j:Nat)(u:Value),r'[j]?=some u->(wr.alloc (.cells r 117)).cell? ⟨g',o'+k*6+j,none⟩=some u:=fun j u hu=>(((qb _ wr).alloc (qa _) (.cells r 117)).cell (qo wr _ (hc' j u hu))).trans (hc' j u hu);have hp:∀g o j,(⟨g,o+k*6,none⟩:Addr).add j=⟨g,o+k*6+j,none⟩:=fun g o j=>by unfold Addr.add;split<;>simp_all
   clear hf hcall h h' hc' hb1;have m1:IntKind.i64.wrap ((k:Int)+1)=(k:Int)+1:=IntWalk.i64_in _ (by omega);go_wp2_with(first
    |(refine dZ rfl 117 _ rfl ⟨g,o+k*6,none⟩ rfl r _ (fun j u hu=>by rw[hp];exact hc j u hu) Tryz.underlying117 rfl hz1 ?_)
    |(refine dZ rfl 117 _ rfl ⟨g',o'+k*6,none⟩ rfl r' _ (fun j u hu=>by rw[hp];exact hc2 j u hu) Tryz.underlying117 rfl hz2 ?_)
    |(refine dA (w:=wr) rfl 117 _ _ rfl r _ _ rfl rfl rfl hz1 (by rw[hs];rfl) ha ?_)
    |(refine dA rfl 117 _ _ rfl r' _ _ (by simp:wr.heap.size+1=_) rfl rfl hz2 (by rw[hs'];rfl) ha' ?_)
    |(refine qqv rfl 117 _ rfl wr.heap.size rfl 117 r (0,0) _ (heap_alloc2_old wr _ _) Tryz.underlying117 rfl hz1 ?_)
    |(refine qqv rfl 117 _ rfl (wr.heap.size+1) rfl 117 r' (0,0) _ (heap_alloc2_new wr _ _) Tryz.underlying117 rfl hz2 ?_)
    |(go_at_call 45;refine hcl.mono ?_))
   intro e w2;first |(intro he b2;subst he)|rintro⟨rfl,b2⟩
   go_wp2;go_roundg (rows.length-(k+1));case measure=>omega
   case rel=>exact⟨k+1,by omega,rfl,by simp,hb2.trans (b2.mono hb2.size)⟩
  ·have:k=rows.length:=by omega
   subst this;clear hf;go_wp2;go_ret;exact⟨rfl,hb⟩
theorem Tryz.szq94:(Tryz.prog.info? 94).map (·.size)=some 22:=by kernel_rfl
theorem aKE(v v':Value)(rows rows':List (Array Value))(w:World)(hn:rows'.length=rows.length)(hbig:rows.length<=9223372036854775807)(h:kY w 22 v rows)(h':kY w 22 v' rows')
  (hf:∀(j:Nat)(r r':Array Value),rows[j]?=some r->rows'[j]?=some r'->∀w',Below w.heap.size w w'->Calls Tryz.prog 49 #[.agg r,.agg r'] w' fun e w''=>e=.returned (.bool true)/\Below w'.heap.size w' w'') :
  Calls Tryz.prog 48 #[v,v',.func (.func 49) #[] #[]] w fun e w'=>e=.returned (.bool true)/\Below w.heap.size w w':=by
 obtain⟨ao,c,rfl⟩:=h.is;obtain⟨ao',c',rfl⟩:=h'.is;rw[hn]at h'⊢;go_enter Tryz.func48,Tryz.ntmps48;go_wp2
 go_loopg [17] rows.length (fun g s17 wr=>∃k:Nat,k<=rows.length/\g=rows.length-k/\s17=Z (k:Nat)/\Below w.heap.size w wr)
 case atStart=>exact⟨0,ql _,rfl,rfl,qb _ _⟩
 case round =>
  obtain⟨k,hk,hg,rfl,hb⟩:=hrel;by_cases hlt:k<rows.length
  ·have hlt':(k:Int)<(rows.length:Int):=by omega
   have hk0:(0:Int)<=(k:Int):=by omega
   obtain⟨g,o,r,rfl,hr,hs,ha,hc⟩:=(h.step hb).at hlt;obtain⟨g',o',r',rfl,hr',hs',ha',hc'⟩:=(h'.step hb).at (j:=k) (by omega);have hcall:=hf k r r' hr hr';have hz1:(Tryz.prog.info? 94).map (·.size)=some r.size:=by rw[hs];exact Tryz.szq94
   have hz2:(Tryz.prog.info? 94).map (·.size)=some r'.size:=by rw[hs'];exact Tryz.szq94
   have hb1:=hb.alloc hb.size (.cells r 94);have hb2:=hb1.alloc hb1.size (.cells r' 94);have hcl:=hcall _ hb2;have hc2:∀(j:Nat)(u:Value),r'[j]?=some u->(wr.alloc (.cells r 94)).cell? ⟨g',o'+k*22+j,none⟩=some u:=fun j u hu=>(((qb _ wr).alloc (qa _) (.cells r 94)).cell (qo wr _ (hc' j u hu))).trans (hc' j u hu);have hp:∀g o j,(⟨g,o+k*22,none⟩:Addr).add j=⟨g,o+k*22+j,none⟩:=fun g o j=>by unfold Addr.add;split<;>simp_all
   clear hf hcall h h' hc' hb1;have m1:IntKind.i64.wrap ((k:Int)+1)=(k:Int)+1:=IntWalk.i64_in _ (by omega);go_wp2_with(first
    |(refine dZ rfl 94 _ rfl ⟨g,o+k*22,none⟩ rfl r _ (fun j u hu=>by rw[hp];exact hc j u hu) Tryz.underlying94 rfl hz1 ?_)
    |(refine dZ rfl 94 _ rfl ⟨g',o'+k*22,none⟩ rfl r' _ (fun j u hu=>by rw[hp];exact hc2 j u hu) Tryz.underlying94 rfl hz2 ?_)
    |(refine dA (w:=wr) rfl 94 _ _ rfl r _ _ rfl rfl rfl hz1 (by rw[hs];rfl) ha ?_)
    |(refine dA rfl 94 _ _ rfl r' _ _ (by simp:wr.heap.size+1=_) rfl rfl hz2 (by rw[hs'];rfl) ha' ?_)
    |(refine qqv rfl 94 _ rfl wr.heap.size rfl 94 r (0,0) _ (heap_alloc2_old wr _ _) Tryz.underlying94 rfl hz1 ?_)
    |(refine qqv rfl 94 _ rfl (wr.heap.size+1) rfl 94 r' (0,0) _ (heap_alloc2_new wr _ _) Tryz.underlying94 rfl hz2 ?_)
    |(go_at_call 49;refine hcl.mono ?_))
   intro e w2;first |(intro he b2;subst he)|rintro⟨rfl,b2⟩
   go_wp2;go_roundg (rows.length-(k+1));case measure=>omega
   case rel=>exact⟨k+1,by omega,rfl,by simp,hb2.trans (b2.mono hb2.size)⟩
  ·have:k=rows.length:=by omega
   subst this;clear hf;go_wp2;go_ret;exact⟨rfl,hb⟩
theorem Tryz.szq98:(Tryz.prog.info? 98).map (·.size)=some 2:=by kernel_rfl
theorem aHR(v v':Value)(rows rows':List (Array Value))(w:World)(hn:rows'.length=rows.length)(hbig:rows.length<=9223372036854775807)(h:kY w 2 v rows)(h':kY w 2 v' rows')
  (hf:∀(j:Nat)(r r':Array Value),rows[j]?=some r->rows'[j]?=some r'->∀w',Below w.heap.size w w'->Calls Tryz.prog 101 #[.agg r,.agg r'] w' fun e w''=>e=.returned (.bool true)/\Below w'.heap.size w' w'') :
  Calls Tryz.prog 100 #[v,v',.func (.func 101) #[] #[]] w fun e w'=>e=.returned (.bool true)/\Below w.heap.size w w':=by
 obtain⟨ao,c,rfl⟩:=h.is;obtain⟨ao',c',rfl⟩:=h'.is;rw[hn]at h'⊢;go_enter Tryz.func100,Tryz.ntmps100;go_wp2
 go_loopg [17] rows.length (fun g s17 wr=>∃k:Nat,k<=rows.length/\g=rows.length-k/\s17=Z (k:Nat)/\Below w.heap.size w wr)
 case atStart=>exact⟨0,ql _,rfl,rfl,qb _ _⟩
 case round =>
  obtain⟨k,hk,hg,rfl,hb⟩:=hrel;by_cases hlt:k<rows.length
  ·have hlt':(k:Int)<(rows.length:Int):=by omega
   have hk0:(0:Int)<=(k:Int):=by omega
   obtain⟨g,o,r,rfl,hr,hs,ha,hc⟩:=(h.step hb).at hlt;obtain⟨g',o',r',rfl,hr',hs',ha',hc'⟩:=(h'.step hb).at (j:=k) (by omega);have hcall:=hf k r r' hr hr';have hz1:(Tryz.prog.info? 98).map (·.size)=some r.size:=by rw[hs];exact Tryz.szq98
   have hz2:(Tryz.prog.info? 98).map (·.size)=some r'.size:=by rw[hs'];exact Tryz.szq98
   have hb1:=hb.alloc hb.size (.cells r 98);have hb2:=hb1.alloc hb1.size (.cells r' 98);have hcl:=hcall _ hb2;have hc2:∀(j:Nat)(u:Value),r'[j]?=some u->(wr.alloc (.cells r 98)).cell? ⟨g',o'+k*2+j,none⟩=some u:=fun j u hu=>(((qb _ wr).alloc (qa _) (.cells r 98)).cell (qo wr _ (hc' j u hu))).trans (hc' j u hu);have hp:∀g o j,(⟨g,o+k*2,none⟩:Addr).add j=⟨g,o+k*2+j,none⟩:=fun g o j=>by unfold Addr.add;split<;>simp_all
   clear hf hcall h h' hc' hb1;have m1:IntKind.i64.wrap ((k:Int)+1)=(k:Int)+1:=IntWalk.i64_in _ (by omega);go_wp2_with(first
    |(refine dZ rfl 98 _ rfl ⟨g,o+k*2,none⟩ rfl r _ (fun j u hu=>by rw[hp];exact hc j u hu) Tryz.underlying98 rfl hz1 ?_)
    |(refine dZ rfl 98 _ rfl ⟨g',o'+k*2,none⟩ rfl r' _ (fun j u hu=>by rw[hp];exact hc2 j u hu) Tryz.underlying98 rfl hz2 ?_)
    |(refine dA (w:=wr) rfl 98 _ _ rfl r _ _ rfl rfl rfl hz1 (by rw[hs];rfl) ha ?_)
    |(refine dA rfl 98 _ _ rfl r' _ _ (by simp:wr.heap.size+1=_) rfl rfl hz2 (by rw[hs'];rfl) ha' ?_)
    |(refine qqv rfl 98 _ rfl wr.heap.size rfl 98 r (0,0) _ (heap_alloc2_old wr _ _) Tryz.underlying98 rfl hz1 ?_)
    |(refine qqv rfl 98 _ rfl (wr.heap.size+1) rfl 98 r' (0,0) _ (heap_alloc2_new wr _ _) Tryz.underlying98 rfl hz2 ?_)
    |(go_at_call 101;refine hcl.mono ?_))
   intro e w2;first |(intro he b2;subst he)|rintro⟨rfl,b2⟩
   go_wp2;go_roundg (rows.length-(k+1));case measure=>omega
   case rel=>exact⟨k+1,by omega,rfl,by simp,hb2.trans (b2.mono hb2.size)⟩
  ·have:k=rows.length:=by omega
   subst this;clear hf;go_wp2;go_ret;exact⟨rfl,hb⟩
theorem Tryz.szq48:(Tryz.prog.info? 48).map (·.size)=some 2:=by kernel_rfl
theorem aHS(v v':Value)(rows rows':List (Array Value))(w:World)(hn:rows'.length=rows.length)(hbig:rows.length<=9223372036854775807)(h:kY w 2 v rows)(h':kY w 2 v' rows')
  (hf:∀(j:Nat)(r r':Array Value),rows[j]?=some r->rows'[j]?=some r'->∀w',Below w.heap.size w w'->Calls Tryz.prog 15 #[.agg r,.agg r'] w' fun e w''=>e=.returned (.bool true)/\Below w'.heap.size w' w'') :
  Calls Tryz.prog 141 #[v,v',.func (.func 15) #[] #[]] w fun e w'=>e=.returned (.bool true)/\Below w.heap.size w w':=by
 obtain⟨ao,c,rfl⟩:=h.is;obtain⟨ao',c',rfl⟩:=h'.is;rw[hn]at h'⊢;go_enter Tryz.func141,Tryz.ntmps141;go_wp2
 go_loopg [17] rows.length (fun g s17 wr=>∃k:Nat,k<=rows.length/\g=rows.length-k/\s17=Z (k:Nat)/\Below w.heap.size w wr)
 case atStart=>exact⟨0,ql _,rfl,rfl,qb _ _⟩
 case round =>
  obtain⟨k,hk,hg,rfl,hb⟩:=hrel;by_cases hlt:k<rows.length
  ·have hlt':(k:Int)<(rows.length:Int):=by omega
   have hk0:(0:Int)<=(k:Int):=by omega
   obtain⟨g,o,r,rfl,hr,hs,ha,hc⟩:=(h.step hb).at hlt;obtain⟨g',o',r',rfl,hr',hs',ha',hc'⟩:=(h'.step hb).at (j:=k) (by omega);have hcall:=hf k r r' hr hr';have hz1:(Tryz.prog.info? 48).map (·.size)=some r.size:=by rw[hs];exact Tryz.szq48
   have hz2:(Tryz.prog.info? 48).map (·.size)=some r'.size:=by rw[hs'];exact Tryz.szq48
   have hb1:=hb.alloc hb.size (.cells r 48);have hb2:=hb1.alloc hb1.size (.cells r' 48);have hcl:=hcall _ hb2;have hc2:∀(j:Nat)(u:Value),r'[j]?=some u->(wr.alloc (.cells r 48)).cell? ⟨g',o'+k*2+j,none⟩=some u:=fun j u hu=>(((qb _ wr).alloc (qa _) (.cells r 48)).cell (qo wr _ (hc' j u hu))).trans (hc' j u hu);have hp:∀g o j,(⟨g,o+k*2,none⟩:Addr).add j=⟨g,o+k*2+j,none⟩:=fun g o j=>by unfold Addr.add;split<;>simp_all
   clear hf hcall h h' hc' hb1;have m1:IntKind.i64.wrap ((k:Int)+1)=(k:Int)+1:=IntWalk.i64_in _ (by omega);go_wp2_with(first
    |(refine dZ rfl 48 _ rfl ⟨g,o+k*2,none⟩ rfl r _ (fun j u hu=>by rw[hp];exact hc j u hu) Tryz.underlying48 rfl hz1 ?_)
    |(refine dZ rfl 48 _ rfl ⟨g',o'+k*2,none⟩ rfl r' _ (fun j u hu=>by rw[hp];exact hc2 j u hu) Tryz.underlying48 rfl hz2 ?_)
    |(refine dA (w:=wr) rfl 48 _ _ rfl r _ _ rfl rfl rfl hz1 (by rw[hs];rfl) ha ?_)
    |(refine dA rfl 48 _ _ rfl r' _ _ (by simp:wr.heap.size+1=_) rfl rfl hz2 (by rw[hs'];rfl) ha' ?_)
    |(refine qqv rfl 48 _ rfl wr.heap.size rfl 48 r (0,0) _ (heap_alloc2_old wr _ _) Tryz.underlying48 rfl hz1 ?_)
    |(refine qqv rfl 48 _ rfl (wr.heap.size+1) rfl 48 r' (0,0) _ (heap_alloc2_new wr _ _) Tryz.underlying48 rfl hz2 ?_)
    |(go_at_call 15;refine hcl.mono ?_))
   intro e w2;first |(intro he b2;subst he)|rintro⟨rfl,b2⟩
   go_wp2;go_roundg (rows.length-(k+1));case measure=>omega
   case rel=>exact⟨k+1,by omega,rfl,by simp,hb2.trans (b2.mono hb2.size)⟩
  ·have:k=rows.length:=by omega
   subst this;clear hf;go_wp2;go_ret;exact⟨rfl,hb⟩
end Go.Proofs.YtgkhemnmcgicnaaGreatDoor
