/- Towards the law ParserBlanks, true for every text and all blanks (no condition): one part of the proof. -/
import Derived.Test.YtgkhemnmcgicnaaGreatDoorG01
import Derived.Test.YtgkhemnmcgicnaaGreatDoorG29
import Derived.Deep.CutBlock
namespace Go.Proofs.YtgkhemnmcgicnaaGreatDoor
set_option maxHeartbeats 16000000
set_option maxRecDepth 100000
open Go.RowKit
theorem mJ{w W w':World}(h:Below w.heap.size w W)(b:Below W.heap.size W w'):Below w.heap.size w w':=h.trans (b.mono h.size)
section
variable{T:List aX}{Bw Bp Bl Be Q E Y M:Nat}{free:Fr}{st st':aD}{last:Int}{F:EF}{A:A5}{w0 w w':World}
theorem AG(h:Cl T Bw Bp Bl Be Q E Y M free st last F A w0 w)(hI:MD last A st) :
  Calls Tryz.prog 107 #[.pointer (some ⟨Bw,0,none⟩),.pointer (some ⟨Bp,0,none⟩),.pointer (some ⟨Bl,0,none⟩),.pointer (some ⟨Be,0,none⟩)] w fun r w'=>r=.returned (Z (aT T last A st).1)/\Cl T Bw Bp Bl Be Q E Y M free (aT T last A st).2.2 (aT T last A st).1 F (aT T last A st).2.1 w0 w'/\aC [Y,M,E,Bl] w w':=by
 rw[vH];have hpk:∀W,Below w.heap.size w W->Calls Tryz.prog 62 #[.pointer (some ⟨Y,0,none⟩)] W fun r w'=>r=.returned (uL (aZ T st))/\Below W.heap.size W w':=fun W b=>nX (h.prs.step b);have hstep:∀W,Below w.heap.size w W->Cl T Bw Bp Bl Be Q E Y M free st last F A w0 W:=fun W b=>h.step b;have hfl:∀W,Below w.heap.size w W->Calls Tryz.prog 63 #[.pointer (some ⟨Y,0,none⟩),Z 13] W fun r w'=>r=.returned (.tuple #[])/\PS T Y M free (cC T 13 st) w'/\aC [Y,M] W w':=fun W b=>jC (h.prs.step b) 13 (by decide);have cw:w.cell? ⟨Bw,0,none⟩=some (.map (some Q)):=by rw[Lib.cell_of_heap h.hw];rfl
 have cp:w.cell? ⟨Bp,0,none⟩=some (.pointer (some ⟨Y,0,none⟩)):=by rw[Lib.cell_of_heap h.hp];rfl
 have cl:w.cell? ⟨Bl,0,none⟩=some (Z last):=by rw[Lib.cell_of_heap h.hl];rfl
 have lw:=aA h.hw;have lp:=aA h.hp;have ll:=aA h.hl;have lQ:=aA h.hq;have hQ:=h.hq;have r0d:=(qb w.heap.size w).drew;obtain⟨bd,hbd⟩:∃bd,bd=FT last (bV T bF st).1:=⟨_,rfl⟩;rw[<-hbd];have HB:((aZ T st).kind=1->∀i,cM (aZ T st).text bF=some i->bd=oT last i/\st.good=true)/\((aZ T st).kind≠1->bd=false)/\(cM (aZ T st).text bF=none->bd=false):=by
  refine⟨fun hk i hi => ?_,fun hk => ?_,fun hi => ?_⟩
  ·refine⟨?_,by obtain⟨p,rfl⟩:=vG hk;rfl⟩;rw[hbd];unfold bV;rw[if_neg (by rw[hk];decide),hi];rfl
  ·rw[hbd];unfold bV;rw[if_pos hk];rfl
  ·rw[hbd];by_cases hk:(aZ T st).kind≠1
   ·unfold bV;rw[if_pos hk];rfl
   ·unfold bV;rw[if_neg hk,hi];rfl
 have HL:∃(v0:Int)(v1:Bool),(∀W,Below w.heap.size w W->(Instr.lookup 164 (.map (some Q)) (.string (aZ T st).text) true).run Tryz.prog W=.ok (.tuple #[Z v0,.bool v1]) W)/\((v1=true/\∃i:Nat,v0=(i:Int)/\i<22/\cM (aZ T st).text bF=some i)\/(v1=false/\cM (aZ T st).text bF=none)):=by
  have hfx:=K0 (x:=(aZ T st).text);cases hi:cM (aZ T st).text bF with
  |none=>rw[hi]at hfx;exact⟨0,false,fun W b=>mS ((b.block Q lQ).trans hQ) _ hfx,.inr ⟨rfl,rfl⟩⟩
  |some i=>rw[hi]at hfx;exact⟨i,true,fun W b=>i8 ((b.block Q lQ).trans hQ) _ hfx,.inl ⟨rfl,i,rfl,yX hi,rfl⟩⟩
 obtain⟨v0,v1,hlk,hv⟩:=HL;have hInv:(aZ T st).kind=1->∀i,cM (aZ T st).text bF=some i->-1<=last/\last<22:=fun hk i hi=>by
  obtain⟨h1,h2,_⟩:=hI (HB.1 hk i hi).2;exact⟨h1,h2⟩
 have hbf:bd=true->st.orFail T bd=cC T 13 st:=fun e=>by rw[e];rfl
 have hbs:bd=false->st.orFail T bd=st:=fun e=>by rw[e];rfl
 have hwd:∀W,Cl T Bw Bp Bl Be Q E Y M free (st.orFail T bd) last F A w0 W->Calls Tryz.prog 109 #[.pointer (some ⟨Y,0,none⟩),.map (some Q)] W fun r w'=>r=.returned (Z (((bV T bF (st.orFail T bd)).1.getD 0:Nat):Int))/\PS T Y M free (bV T bF (st.orFail T bd)).2 w'/\aC [Y,M] W w':=fun W V=>aG6 V.prs V.hq;have FF:((∃e l c,(bV T bF (st.orFail T bd)).2=.bad e l c)/\(if(bV T bF (st.orFail T bd)).2.good=true then KS A ((bV T bF (st.orFail T bd)).1.getD 0)else A)=A)\/(∃i p:Nat,i<22/\(bV T bF (st.orFail T bd)).1.getD 0=i/\(bV T bF (st.orFail T bd)).2=.ok p/\(if(bV T bF (st.orFail T bd)).2.good=true then KS A ((bV T bF (st.orFail T bd)).1.getD 0)else A)=KS A i/\(i<5->0<=A.ar/\A.ar<2 ^ i)):=by
  rcases rM T (st.orFail T bd)with⟨h1,h2⟩ |⟨i,h1,h2,h3,h4⟩
  ·refine .inl ⟨?_,by rw[h2];rfl⟩;cases hq:(bV T bF (st.orFail T bd)).2 with
   |ok p=>rw[hq]at h2;cases h2
   |bad e l c=>exact⟨e,l,c,rfl⟩
  ·have hb:bd=false:=by
    cases hbv:bd with
    |false=>rfl
    |true =>
     rw[hbf hbv]at h4;obtain⟨e,l,k,he⟩:=B5 T 13 st;rw[he]at h4;cases h4
   rw[hbs hb]at h1 h3 h4⊢;have hg:(bV T bF st).2.good=true:=by
    rw[h3];cases st with
    |ok p=>rfl
    |bad e l k=>cases h4
   have hp:∃p,(bV T bF st).2=.ok p:=by
    cases hq:(bV T bF st).2 with
    |ok p=>exact⟨p,rfl⟩
    |bad e l c=>rw[hq]at hg;cases hg
   obtain⟨p,hp⟩:=hp;refine .inr ⟨i,p,h2,by rw[h1];rfl,hp,by rw[if_pos hg,h1];rfl,fun h5 => ?_⟩;obtain⟨g1,g2,g3⟩:=hI h4;rw[h1]at hbd;have hlt:=FU (i:=(i:Int)) (show oT last i=false by rw[<-hb,hbd];rfl) g1 (by omega);exact g3 i h5 hlt
 generalize (if(bV T bF (st.orFail T bd)).2.good=true then KS A ((bV T bF (st.orFail T bd)).1.getD 0)else A)=A' at FF⊢;generalize (bV T bF (st.orFail T bd)).1.getD 0=nv at FF hwd⊢;generalize (bV T bF (st.orFail T bd)).2=s2 at FF hwd⊢;have hV1:bd=true->∀W,PS T Y M free (cC T 13 st) W->PS T Y M free (st.orFail T bd) W:=fun e W p=>by rw[hbf e];exact p
 have hV0:bd=false->∀W,Cl T Bw Bp Bl Be Q E Y M free st last F A w0 W->Cl T Bw Bp Bl Be Q E Y M free (st.orFail T bd) last F A w0 W:=fun e W p=>by rw[hbs e];exact p
 generalize cC T 13 st=sF at hfl hV1;generalize st.orFail T bd=s1 at hwd hV1 hV0;unfold uL at hpk;generalize aZ T st=t at hpk hlk hv HB hInv;obtain⟨kd,text,v,bt,lin,cln,j⟩:=t;simp only at hpk hlk hv HB hInv;have hfd1:=XG kd v lin cln text bt j;have hfd0:=BH kd v lin cln text bt j;have HS:=aJ (And.intro HB (And.intro hv (And.intro hInv FF)));clear h hbd HB hv hInv FF hI hbf hbs;go_enter Tryz.func107,Tryz.ntmps107;go_wp2
 go_region_held3 (fun w'=>Below w.heap.size w w'/\w'.cell? ⟨Bw,0,none⟩=some (.map (some Q))/\w'.cell? ⟨Bp,0,none⟩=some (.pointer (some ⟨Y,0,none⟩))) (first|exact⟨r0d,cw,cp⟩|exact⟨bN,cwN,cpN⟩) (first
  |(go_at_call 62;((with_reducible refine(hpk _ ?hb).mono ?_);(case hb=>first|exact r0d|assumption));rintro e w1 ⟨rfl,bx⟩;have bN:Below w.heap.size w w1:=mJ (by first|exact r0d|assumption) bx;have cwN:w1.cell? ⟨Bw,0,none⟩=some (.map (some Q)):=(bN.cell lw).trans cw;have cpN:w1.cell? ⟨Bp,0,none⟩=some (.pointer (some ⟨Y,0,none⟩)):=(bN.cell lp).trans cp;have hlkN:=hlk _ bN))
 have r1d:Below w.heap.size w w1.drew:=bN.drew;have cp1:=cpN;have cl1:w1.cell? ⟨Bl,0,none⟩=some (Z last):=(bN.cell ll).trans cl;clear bx hlkN cwN cpN r0d hlk;go_upto_region 2 with(fail)
 go_cut [46]from 8 (fun s46 wc=>s46=.bool bd/\Below w.heap.size w wc)
 case first =>
  obtain⟨HB,hv,hInv,_⟩:=HS.out;clear HS hwd hV1 hV0 hfl hstep;by_cases hk:kd=1
  ·subst hk;rcases hv with⟨rfl,i,rfl,hi22,hi⟩ |⟨rfl,hi⟩
   ·obtain⟨hbd,hgood⟩:=HB.1 rfl i hi;obtain⟨hl0,hl1⟩:=hInv rfl i hi;clear HB hInv hi hgood;by_cases h0:0<=last
    ·have hgi:=FQ (i:=(i:Int)) (by omega) (by omega);have hgl:=FQ h0 hl1;have hgn:=S8 (i:Int);unfold oT at hbd;rw[qqr h0,Bool.true_and]at hbd;by_cases hle:(i:Int)<=last
     ·obtain rfl:bd=true:=by rw[hbd,qqr hle];rfl
      clear hbd hgi hgl hgn hfd1;have hbP:=r1d;have hSd:Below w.heap.size w w1.drew/\w1.drew.cell? ⟨Bp,0,none⟩=some (.pointer (some ⟨Y,0,none⟩))/\w1.drew.cell? ⟨Bl,0,none⟩=some (Z last):=⟨r1d,cp1,cl1⟩;refine qqo ?_;refine qqi (S:=fun w'=>Below w.heap.size w w'/\w'.cell? ⟨Bp,0,none⟩=some (.pointer (some ⟨Y,0,none⟩))/\w'.cell? ⟨Bl,0,none⟩=some (Z last)) (by kernel_rfl) hSd (fun hHeld => ?_);refine gQ 0 (.pointer (some ⟨Y,0,none⟩)) rfl ?hyd10 ?_;case hyd10=>(intro wq hSw;obtain⟨hSb,hSp,hSl⟩:=hSw;go_simp;try rfl)
      try simp only[ap,nm]
      refine gQ 1 ?vd11 rfl ?hyd11 ?_;case hyd11=>(intro wq hSw;go_simp;try(with_reducible rfl))
      try simp only[ap,nm]
      refine gQ 2 ?vd12 rfl ?hyd12 ?_;case hyd12=>(intro wq hSw;go_simp;try(with_reducible rfl))
      try simp only[ap,nm]
      refine yE 3 rfl (fun K hK => ?_);go_simp
      (go_at_call 62;(with_reducible refine(hpk _ r1d).mono ?_);rintro e wa ⟨rfl,bx⟩)
      have hbwa:Below w.heap.size w wa:=mJ hbP bx;have hpwa:wa.cell? ⟨Bp,0,none⟩=some (.pointer (some ⟨Y,0,none⟩)):=(hbwa.cell lp).trans cp;have hlwa:=(hbwa.cell ll).trans cl;refine hK.out _ _ ⟨hbwa,hpwa,hlwa⟩ (fun hHeld => ?_);clear hK K bx hbP;have hbP:=hbwa;try simp only[ap,nm]
      refine gQ 4 ?vd14 rfl ?hyd14 ?_;case hyd14=>(intro wq hSw;go_simp;try(with_reducible rfl))
      try simp only[ap,nm]
      refine fB 5 (.bool true) rfl ?_;try simp only[ap,nm]
      refine fB 6 (.bool true) rfl ?_;try simp only[ap,nm]
      refine fB 7 (.bool true) rfl ?_;try simp only[ap,nm]
      refine fB 8 (.bool true) rfl ?_;try simp only[ap,nm]
      refine fB 9 (.bool true) rfl ?_;try simp only[ap,nm]
      refine gQ 10 (Z last) rfl ?hyd110 ?_;case hyd110=>(intro wq hSw;obtain⟨hSb,hSp,hSl⟩:=hSw;go_simp;try rfl)
      try simp only[ap,nm]
      refine fB 11 (.bool true) rfl ?_;try simp only[ap,nm]
      refine fB 12 (.bool true) rfl ?_;try simp only[ap,nm]
      refine fB 13 (.bool true) rfl ?_;try simp only[ap,nm]
      refine fB 14 (Z (i:Nat)) rfl ?_;try simp only[ap,nm]
      refine gQ 15 (Z last) rfl ?hyd115 ?_;case hyd115=>(intro wq hSw;obtain⟨hSb,hSp,hSl⟩:=hSw;go_simp;try rfl)
      try simp only[ap,nm]
      refine fB 16 (.bool true) rfl ?_;try simp only[ap,nm]
      refine fB 17 (.bool true) rfl ?_;try simp only[ap,nm]
      refine oB 18 rfl ?_;try simp only[ap,nm]
      refine yE 19 rfl (fun K hK => ?_);go_simp;refine hK.out _ _ ⟨hbP,‹_›,‹_›⟩ (fun hHeld => ?_);clear hK K;try simp only[ap,nm]
      refine oB 20 rfl ?_;try simp only[ap,nm]
      refine oB 21 rfl ?_;try simp only[ap,nm]
      refine oB 22 rfl ?_;try simp only[ap,nm]
      refine oB 24 rfl ?_;try simp only[ap,nm]
      refine yE 23 rfl (fun K hK => ?_);go_simp;refine hK.out _ _ ⟨hbP,‹_›,‹_›⟩ (fun hHeld => ?_);clear hK K;try simp only[ap,nm]
      refine yE 25 rfl (fun K hK => ?_);go_simp;refine hK.out _ _ ⟨hbP,‹_›,‹_›⟩ (fun hHeld => ?_);clear hK K;try simp only[ap,nm]
      refine oB 26 rfl ?_;try simp only[ap,nm]
      refine oB 27 rfl ?_;try simp only[ap,nm]
      refine fB 28 (.bool true) rfl ?_;try simp only[ap,nm]
      refine fB 29 (.bool true) rfl ?_;try simp only[ap,nm]
      refine wpAnyH_done (by kernel_rfl) ?_ _;refine qqx ?_;go_wp2
      go_meet
      case rel=>exact⟨rfl,by assumption⟩
     ·rw[qqp hle,Bool.false_or]at hbd;have h1':decide ((i:Int)<=last)=false:=qqp hle;generalize grp (i:Int)=gi at hgi hgn hbd;generalize grp last=gl at hgl hbd;by_cases hg0:gi=0
      ·subst hg0;obtain rfl:bd=false:=by rw[hbd];rfl
       clear hbd hgl hgn hfd1;have hbP:=r1d;have hSd:Below w.heap.size w w1.drew/\w1.drew.cell? ⟨Bp,0,none⟩=some (.pointer (some ⟨Y,0,none⟩))/\w1.drew.cell? ⟨Bl,0,none⟩=some (Z last):=⟨r1d,cp1,cl1⟩;refine qqo ?_;refine qqi (S:=fun w'=>Below w.heap.size w w'/\w'.cell? ⟨Bp,0,none⟩=some (.pointer (some ⟨Y,0,none⟩))/\w'.cell? ⟨Bl,0,none⟩=some (Z last)) (by kernel_rfl) hSd (fun hHeld => ?_);refine gQ 0 (.pointer (some ⟨Y,0,none⟩)) rfl ?hyd20 ?_;case hyd20=>(intro wq hSw;obtain⟨hSb,hSp,hSl⟩:=hSw;go_simp;try rfl)
       try simp only[ap,nm]
       refine gQ 1 ?vd21 rfl ?hyd21 ?_;case hyd21=>(intro wq hSw;go_simp;try(with_reducible rfl))
       try simp only[ap,nm]
       refine gQ 2 ?vd22 rfl ?hyd22 ?_;case hyd22=>(intro wq hSw;go_simp;try(with_reducible rfl))
       try simp only[ap,nm]
       refine yE 3 rfl (fun K hK => ?_);go_simp
       (go_at_call 62;(with_reducible refine(hpk _ r1d).mono ?_);rintro e wa ⟨rfl,bx⟩)
       have hbwa:Below w.heap.size w wa:=mJ hbP bx;have hpwa:wa.cell? ⟨Bp,0,none⟩=some (.pointer (some ⟨Y,0,none⟩)):=(hbwa.cell lp).trans cp;have hlwa:=(hbwa.cell ll).trans cl;refine hK.out _ _ ⟨hbwa,hpwa,hlwa⟩ (fun hHeld => ?_);clear hK K bx hbP;have hbP:=hbwa;try simp only[ap,nm]
       refine gQ 4 ?vd24 rfl ?hyd24 ?_;case hyd24=>(intro wq hSw;go_simp;try(with_reducible rfl))
       try simp only[ap,nm]
       refine fB 5 (.bool true) rfl ?_;try simp only[ap,nm]
       refine fB 6 (.bool true) rfl ?_;try simp only[ap,nm]
       refine fB 7 (.bool true) rfl ?_;try simp only[ap,nm]
       refine fB 8 (.bool true) rfl ?_;try simp only[ap,nm]
       refine fB 9 (.bool true) rfl ?_;try simp only[ap,nm]
       refine gQ 10 (Z last) rfl ?hyd210 ?_;case hyd210=>(intro wq hSw;obtain⟨hSb,hSp,hSl⟩:=hSw;go_simp;try rfl)
       try simp only[ap,nm]
       refine fB 11 (.bool true) rfl ?_;try simp only[ap,nm]
       refine fB 12 (.bool true) rfl ?_;try simp only[ap,nm]
       refine fB 13 (.bool true) rfl ?_;try simp only[ap,nm]
       refine fB 14 (Z (i:Nat)) rfl ?_;try simp only[ap,nm]
       refine gQ 15 (Z last) rfl ?hyd215 ?_;case hyd215=>(intro wq hSw;obtain⟨hSb,hSp,hSl⟩:=hSw;go_simp;try rfl)
       try simp only[ap,nm]
       refine fB 16 (.bool false) rfl ?_;try simp only[ap,nm]
       refine fB 17 (.bool false) rfl ?_;try simp only[ap,nm]
       refine fB 18 (Z (i:Nat)) rfl ?_;try simp only[ap,nm]
       refine yE 19 rfl (fun K hK => ?_);go_simp
       (go_at_call 108;(with_reducible refine(hgi _).mono ?_);rintro e wb ⟨rfl,bx⟩)
       have hbwb:Below w.heap.size w wb:=mJ hbP bx;have hpwb:wb.cell? ⟨Bp,0,none⟩=some (.pointer (some ⟨Y,0,none⟩)):=(hbwb.cell lp).trans cp;have hlwb:=(hbwb.cell ll).trans cl;refine hK.out _ _ ⟨hbwb,hpwb,hlwb⟩ (fun hHeld => ?_);clear hK K bx hbP;have hbP:=hbwb;try simp only[ap,nm]
       refine fB 20 (.bool false) rfl ?_;try simp only[ap,nm]
       refine fB 21 (.bool false) rfl ?_;try simp only[ap,nm]
       refine oB 22 rfl ?_;try simp only[ap,nm]
       refine oB 24 rfl ?_;try simp only[ap,nm]
       refine yE 23 rfl (fun K hK => ?_);go_simp;refine hK.out _ _ ⟨hbP,‹_›,‹_›⟩ (fun hHeld => ?_);clear hK K;try simp only[ap,nm]
       refine yE 25 rfl (fun K hK => ?_);go_simp;refine hK.out _ _ ⟨hbP,‹_›,‹_›⟩ (fun hHeld => ?_);clear hK K;try simp only[ap,nm]
       refine oB 26 rfl ?_;try simp only[ap,nm]
       refine fB 27 (.bool false) rfl ?_;try simp only[ap,nm]
       refine fB 28 (.bool false) rfl ?_;try simp only[ap,nm]
       refine fB 29 (.bool false) rfl ?_;try simp only[ap,nm]
       refine wpAnyH_done (by kernel_rfl) ?_ _;refine qqx ?_;go_wp2
       go_meet
       case rel=>exact⟨rfl,by assumption⟩
      ·have h3:0<gi:=by omega
       rw[qqr h3,Bool.true_and]at hbd;by_cases h4:gi=gl
       ·subst h4;obtain rfl:bd=true:=by rw[hbd];simp
        clear hbd hgn hfd1 hg0;have hbP:=r1d;have hSd:Below w.heap.size w w1.drew/\w1.drew.cell? ⟨Bp,0,none⟩=some (.pointer (some ⟨Y,0,none⟩))/\w1.drew.cell? ⟨Bl,0,none⟩=some (Z last):=⟨r1d,cp1,cl1⟩;refine qqo ?_;refine qqi (S:=fun w'=>Below w.heap.size w w'/\w'.cell? ⟨Bp,0,none⟩=some (.pointer (some ⟨Y,0,none⟩))/\w'.cell? ⟨Bl,0,none⟩=some (Z last)) (by kernel_rfl) hSd (fun hHeld => ?_);refine gQ 0 (.pointer (some ⟨Y,0,none⟩)) rfl ?hyd30 ?_;case hyd30=>(intro wq hSw;obtain⟨hSb,hSp,hSl⟩:=hSw;go_simp;try rfl)
        try simp only[ap,nm]
        refine gQ 1 ?vd31 rfl ?hyd31 ?_;case hyd31=>(intro wq hSw;go_simp;try(with_reducible rfl))
        try simp only[ap,nm]
        refine gQ 2 ?vd32 rfl ?hyd32 ?_;case hyd32=>(intro wq hSw;go_simp;try(with_reducible rfl))
        try simp only[ap,nm]
        refine yE 3 rfl (fun K hK => ?_);go_simp
        (go_at_call 62;(with_reducible refine(hpk _ r1d).mono ?_);rintro e wa ⟨rfl,bx⟩)
        have hbwa:Below w.heap.size w wa:=mJ hbP bx;have hpwa:wa.cell? ⟨Bp,0,none⟩=some (.pointer (some ⟨Y,0,none⟩)):=(hbwa.cell lp).trans cp;have hlwa:=(hbwa.cell ll).trans cl;refine hK.out _ _ ⟨hbwa,hpwa,hlwa⟩ (fun hHeld => ?_);clear hK K bx hbP;have hbP:=hbwa;try simp only[ap,nm]
        refine gQ 4 ?vd34 rfl ?hyd34 ?_;case hyd34=>(intro wq hSw;go_simp;try(with_reducible rfl))
        try simp only[ap,nm]
        refine fB 5 (.bool true) rfl ?_;try simp only[ap,nm]
        refine fB 6 (.bool true) rfl ?_;try simp only[ap,nm]
        refine fB 7 (.bool true) rfl ?_;try simp only[ap,nm]
        refine fB 8 (.bool true) rfl ?_;try simp only[ap,nm]
        refine fB 9 (.bool true) rfl ?_;try simp only[ap,nm]
        refine gQ 10 (Z last) rfl ?hyd310 ?_;case hyd310=>(intro wq hSw;obtain⟨hSb,hSp,hSl⟩:=hSw;go_simp;try rfl)
        try simp only[ap,nm]
        refine fB 11 (.bool true) rfl ?_;try simp only[ap,nm]
        refine fB 12 (.bool true) rfl ?_;try simp only[ap,nm]
        refine fB 13 (.bool true) rfl ?_;try simp only[ap,nm]
        refine fB 14 (Z (i:Nat)) rfl ?_;try simp only[ap,nm]
        refine gQ 15 (Z last) rfl ?hyd315 ?_;case hyd315=>(intro wq hSw;obtain⟨hSb,hSp,hSl⟩:=hSw;go_simp;try rfl)
        try simp only[ap,nm]
        refine fB 16 (.bool false) rfl ?_;try simp only[ap,nm]
        refine fB 17 (.bool false) rfl ?_;try simp only[ap,nm]
        refine fB 18 (Z (i:Nat)) rfl ?_;try simp only[ap,nm]
        refine yE 19 rfl (fun K hK => ?_);go_simp
        (go_at_call 108;(with_reducible refine(hgi _).mono ?_);rintro e wb ⟨rfl,bx⟩)
        have hbwb:Below w.heap.size w wb:=mJ hbP bx;have hpwb:wb.cell? ⟨Bp,0,none⟩=some (.pointer (some ⟨Y,0,none⟩)):=(hbwb.cell lp).trans cp;have hlwb:=(hbwb.cell ll).trans cl;refine hK.out _ _ ⟨hbwb,hpwb,hlwb⟩ (fun hHeld => ?_);clear hK K bx hbP;have hbP:=hbwb;try simp only[ap,nm]
        refine fB 20 (.bool true) rfl ?_;try simp only[ap,nm]
        refine fB 21 (.bool true) rfl ?_;try simp only[ap,nm]
        refine fB 22 (Z (i:Nat)) rfl ?_;try simp only[ap,nm]
        refine gQ 24 (Z last) rfl ?hyd324 ?_;case hyd324=>(intro wq hSw;obtain⟨hSb,hSp,hSl⟩:=hSw;go_simp;try rfl)
        try simp only[ap,nm]
        refine yE 23 rfl (fun K hK => ?_);go_simp
        (go_at_call 108;(with_reducible refine(hgi _).mono ?_);rintro e wcc ⟨rfl,bx⟩)
        have hbwcc:Below w.heap.size w wcc:=mJ hbP bx;have hpwcc:wcc.cell? ⟨Bp,0,none⟩=some (.pointer (some ⟨Y,0,none⟩)):=(hbwcc.cell lp).trans cp;have hlwcc:=(hbwcc.cell ll).trans cl;refine hK.out _ _ ⟨hbwcc,hpwcc,hlwcc⟩ (fun hHeld => ?_);clear hK K bx hbP;have hbP:=hbwcc;try simp only[ap,nm]
        refine yE 25 rfl (fun K hK => ?_);go_simp
        (go_at_call 108;(with_reducible refine(hgl _).mono ?_);rintro e wd ⟨rfl,bx⟩)
        have hbwd:Below w.heap.size w wd:=mJ hbP bx;have hpwd:wd.cell? ⟨Bp,0,none⟩=some (.pointer (some ⟨Y,0,none⟩)):=(hbwd.cell lp).trans cp;have hlwd:=(hbwd.cell ll).trans cl;refine hK.out _ _ ⟨hbwd,hpwd,hlwd⟩ (fun hHeld => ?_);clear hK K bx hbP;have hbP:=hbwd;try simp only[ap,nm]
        refine fB 26 (.bool true) rfl ?_;try simp only[ap,nm]
        refine fB 27 (.bool true) rfl ?_;try simp only[ap,nm]
        refine fB 28 (.bool true) rfl ?_;try simp only[ap,nm]
        refine fB 29 (.bool true) rfl ?_;try simp only[ap,nm]
        refine wpAnyH_done (by kernel_rfl) ?_ _;refine qqx ?_;go_wp2
        go_meet
        case rel=>exact⟨rfl,by assumption⟩
       ·have h5:(gi==gl)=false:=by simp[h4]
        obtain rfl:bd=false:=by rw[hbd,qqp h4]
        clear hbd hgn hfd1 hg0;have hbP:=r1d;have hSd:Below w.heap.size w w1.drew/\w1.drew.cell? ⟨Bp,0,none⟩=some (.pointer (some ⟨Y,0,none⟩))/\w1.drew.cell? ⟨Bl,0,none⟩=some (Z last):=⟨r1d,cp1,cl1⟩;refine qqo ?_;refine qqi (S:=fun w'=>Below w.heap.size w w'/\w'.cell? ⟨Bp,0,none⟩=some (.pointer (some ⟨Y,0,none⟩))/\w'.cell? ⟨Bl,0,none⟩=some (Z last)) (by kernel_rfl) hSd (fun hHeld => ?_);refine gQ 0 (.pointer (some ⟨Y,0,none⟩)) rfl ?hyd40 ?_;case hyd40=>(intro wq hSw;obtain⟨hSb,hSp,hSl⟩:=hSw;go_simp;try rfl)
        try simp only[ap,nm]
        refine gQ 1 ?vd41 rfl ?hyd41 ?_;case hyd41=>(intro wq hSw;go_simp;try(with_reducible rfl))
        try simp only[ap,nm]
        refine gQ 2 ?vd42 rfl ?hyd42 ?_;case hyd42=>(intro wq hSw;go_simp;try(with_reducible rfl))
        try simp only[ap,nm]
        refine yE 3 rfl (fun K hK => ?_);go_simp
        (go_at_call 62;(with_reducible refine(hpk _ r1d).mono ?_);rintro e wa ⟨rfl,bx⟩)
        have hbwa:Below w.heap.size w wa:=mJ hbP bx;have hpwa:wa.cell? ⟨Bp,0,none⟩=some (.pointer (some ⟨Y,0,none⟩)):=(hbwa.cell lp).trans cp;have hlwa:=(hbwa.cell ll).trans cl;refine hK.out _ _ ⟨hbwa,hpwa,hlwa⟩ (fun hHeld => ?_);clear hK K bx hbP;have hbP:=hbwa;try simp only[ap,nm]
        refine gQ 4 ?vd44 rfl ?hyd44 ?_;case hyd44=>(intro wq hSw;go_simp;try(with_reducible rfl))
        try simp only[ap,nm]
        refine fB 5 (.bool true) rfl ?_;try simp only[ap,nm]
        refine fB 6 (.bool true) rfl ?_;try simp only[ap,nm]
        refine fB 7 (.bool true) rfl ?_;try simp only[ap,nm]
        refine fB 8 (.bool true) rfl ?_;try simp only[ap,nm]
        refine fB 9 (.bool true) rfl ?_;try simp only[ap,nm]
        refine gQ 10 (Z last) rfl ?hyd410 ?_;case hyd410=>(intro wq hSw;obtain⟨hSb,hSp,hSl⟩:=hSw;go_simp;try rfl)
        try simp only[ap,nm]
        refine fB 11 (.bool true) rfl ?_;try simp only[ap,nm]
        refine fB 12 (.bool true) rfl ?_;try simp only[ap,nm]
        refine fB 13 (.bool true) rfl ?_;try simp only[ap,nm]
        refine fB 14 (Z (i:Nat)) rfl ?_;try simp only[ap,nm]
        refine gQ 15 (Z last) rfl ?hyd415 ?_;case hyd415=>(intro wq hSw;obtain⟨hSb,hSp,hSl⟩:=hSw;go_simp;try rfl)
        try simp only[ap,nm]
        refine fB 16 (.bool false) rfl ?_;try simp only[ap,nm]
        refine fB 17 (.bool false) rfl ?_;try simp only[ap,nm]
        refine fB 18 (Z (i:Nat)) rfl ?_;try simp only[ap,nm]
        refine yE 19 rfl (fun K hK => ?_);go_simp
        (go_at_call 108;(with_reducible refine(hgi _).mono ?_);rintro e wb ⟨rfl,bx⟩)
        have hbwb:Below w.heap.size w wb:=mJ hbP bx;have hpwb:wb.cell? ⟨Bp,0,none⟩=some (.pointer (some ⟨Y,0,none⟩)):=(hbwb.cell lp).trans cp;have hlwb:=(hbwb.cell ll).trans cl;refine hK.out _ _ ⟨hbwb,hpwb,hlwb⟩ (fun hHeld => ?_);clear hK K bx hbP;have hbP:=hbwb;try simp only[ap,nm]
        refine fB 20 (.bool true) rfl ?_;try simp only[ap,nm]
        refine fB 21 (.bool true) rfl ?_;try simp only[ap,nm]
        refine fB 22 (Z (i:Nat)) rfl ?_;try simp only[ap,nm]
        refine gQ 24 (Z last) rfl ?hyd424 ?_;case hyd424=>(intro wq hSw;obtain⟨hSb,hSp,hSl⟩:=hSw;go_simp;try rfl)
        try simp only[ap,nm]
        refine yE 23 rfl (fun K hK => ?_);go_simp
        (go_at_call 108;(with_reducible refine(hgi _).mono ?_);rintro e wcc ⟨rfl,bx⟩)
        have hbwcc:Below w.heap.size w wcc:=mJ hbP bx;have hpwcc:wcc.cell? ⟨Bp,0,none⟩=some (.pointer (some ⟨Y,0,none⟩)):=(hbwcc.cell lp).trans cp;have hlwcc:=(hbwcc.cell ll).trans cl;refine hK.out _ _ ⟨hbwcc,hpwcc,hlwcc⟩ (fun hHeld => ?_);clear hK K bx hbP;have hbP:=hbwcc;try simp only[ap,nm]
        refine yE 25 rfl (fun K hK => ?_);go_simp
        (go_at_call 108;(with_reducible refine(hgl _).mono ?_);rintro e wd ⟨rfl,bx⟩)
        have hbwd:Below w.heap.size w wd:=mJ hbP bx;have hpwd:wd.cell? ⟨Bp,0,none⟩=some (.pointer (some ⟨Y,0,none⟩)):=(hbwd.cell lp).trans cp;have hlwd:=(hbwd.cell ll).trans cl;refine hK.out _ _ ⟨hbwd,hpwd,hlwd⟩ (fun hHeld => ?_);clear hK K bx hbP;have hbP:=hbwd;try simp only[ap,nm]
        refine fB 26 (.bool false) rfl ?_;try simp only[ap,nm]
        refine fB 27 (.bool false) rfl ?_;try simp only[ap,nm]
        refine fB 28 (.bool false) rfl ?_;try simp only[ap,nm]
        refine fB 29 (.bool false) rfl ?_;try simp only[ap,nm]
        refine wpAnyH_done (by kernel_rfl) ?_ _;refine qqx ?_;go_wp2
        go_meet
        case rel=>exact⟨rfl,by assumption⟩
    ·obtain rfl:bd=false:=by rw[hbd];unfold oT;rw[qqp h0];rfl
     obtain rfl:last=-1:=by omega
     clear hbd h0 hl0 hl1 hfd1;have hbP:=r1d;have hSd:Below w.heap.size w w1.drew/\w1.drew.cell? ⟨Bp,0,none⟩=some (.pointer (some ⟨Y,0,none⟩))/\w1.drew.cell? ⟨Bl,0,none⟩=some (Z (-1)):=⟨r1d,cp1,cl1⟩;refine qqo ?_;refine qqi (S:=fun w'=>Below w.heap.size w w'/\w'.cell? ⟨Bp,0,none⟩=some (.pointer (some ⟨Y,0,none⟩))/\w'.cell? ⟨Bl,0,none⟩=some (Z (-1))) (by kernel_rfl) hSd (fun hHeld => ?_);refine gQ 0 (.pointer (some ⟨Y,0,none⟩)) rfl ?hyd50 ?_;case hyd50=>(intro wq hSw;obtain⟨hSb,hSp,hSl⟩:=hSw;go_simp;try rfl)
     try simp only[ap,nm]
     refine gQ 1 ?vd51 rfl ?hyd51 ?_;case hyd51=>(intro wq hSw;go_simp;try(with_reducible rfl))
     try simp only[ap,nm]
     refine gQ 2 ?vd52 rfl ?hyd52 ?_;case hyd52=>(intro wq hSw;go_simp;try(with_reducible rfl))
     try simp only[ap,nm]
     refine yE 3 rfl (fun K hK => ?_);go_simp
     (go_at_call 62;(with_reducible refine(hpk _ r1d).mono ?_);rintro e wa ⟨rfl,bx⟩)
     have hbwa:Below w.heap.size w wa:=mJ hbP bx;have hpwa:wa.cell? ⟨Bp,0,none⟩=some (.pointer (some ⟨Y,0,none⟩)):=(hbwa.cell lp).trans cp;have hlwa:=(hbwa.cell ll).trans cl;refine hK.out _ _ ⟨hbwa,hpwa,hlwa⟩ (fun hHeld => ?_);clear hK K bx hbP;have hbP:=hbwa;try simp only[ap,nm]
     refine gQ 4 ?vd54 rfl ?hyd54 ?_;case hyd54=>(intro wq hSw;go_simp;try(with_reducible rfl))
     try simp only[ap,nm]
     refine fB 5 (.bool true) rfl ?_;try simp only[ap,nm]
     refine fB 6 (.bool true) rfl ?_;try simp only[ap,nm]
     refine fB 7 (.bool true) rfl ?_;try simp only[ap,nm]
     refine fB 8 (.bool true) rfl ?_;try simp only[ap,nm]
     refine fB 9 (.bool true) rfl ?_;try simp only[ap,nm]
     refine gQ 10 (Z (-1)) rfl ?hyd510 ?_;case hyd510=>(intro wq hSw;obtain⟨hSb,hSp,hSl⟩:=hSw;go_simp;try rfl)
     try simp only[ap,nm]
     refine fB 11 (.bool false) rfl ?_;try simp only[ap,nm]
     refine fB 12 (.bool false) rfl ?_;try simp only[ap,nm]
     refine fB 13 (.bool false) rfl ?_;try simp only[ap,nm]
     refine oB 14 rfl ?_;try simp only[ap,nm]
     refine oB 15 rfl ?_;try simp only[ap,nm]
     refine oB 16 rfl ?_;try simp only[ap,nm]
     refine oB 17 rfl ?_;try simp only[ap,nm]
     refine oB 18 rfl ?_;try simp only[ap,nm]
     refine yE 19 rfl (fun K hK => ?_);go_simp;refine hK.out _ _ ⟨hbP,‹_›,‹_›⟩ (fun hHeld => ?_);clear hK K;try simp only[ap,nm]
     refine oB 20 rfl ?_;try simp only[ap,nm]
     refine oB 21 rfl ?_;try simp only[ap,nm]
     refine oB 22 rfl ?_;try simp only[ap,nm]
     refine oB 24 rfl ?_;try simp only[ap,nm]
     refine yE 23 rfl (fun K hK => ?_);go_simp;refine hK.out _ _ ⟨hbP,‹_›,‹_›⟩ (fun hHeld => ?_);clear hK K;try simp only[ap,nm]
     refine yE 25 rfl (fun K hK => ?_);go_simp;refine hK.out _ _ ⟨hbP,‹_›,‹_›⟩ (fun hHeld => ?_);clear hK K;try simp only[ap,nm]
     refine oB 26 rfl ?_;try simp only[ap,nm]
     refine oB 27 rfl ?_;try simp only[ap,nm]
     refine oB 28 rfl ?_;try simp only[ap,nm]
     refine fB 29 (.bool false) rfl ?_;try simp only[ap,nm]
     refine wpAnyH_done (by kernel_rfl) ?_ _;refine qqx ?_;go_wp2
     go_meet
     case rel=>exact⟨rfl,by assumption⟩
   ·obtain rfl:bd=false:=HB.2.2 hi;clear HB hInv hi hfd1;have hbP:=r1d;have hSd:Below w.heap.size w w1.drew/\w1.drew.cell? ⟨Bp,0,none⟩=some (.pointer (some ⟨Y,0,none⟩))/\w1.drew.cell? ⟨Bl,0,none⟩=some (Z last):=⟨r1d,cp1,cl1⟩;refine qqo ?_;refine qqi (S:=fun w'=>Below w.heap.size w w'/\w'.cell? ⟨Bp,0,none⟩=some (.pointer (some ⟨Y,0,none⟩))/\w'.cell? ⟨Bl,0,none⟩=some (Z last)) (by kernel_rfl) hSd (fun hHeld => ?_);refine gQ 0 (.pointer (some ⟨Y,0,none⟩)) rfl ?hyd60 ?_;case hyd60=>(intro wq hSw;obtain⟨hSb,hSp,hSl⟩:=hSw;go_simp;try rfl)
    try simp only[ap,nm]
    refine gQ 1 ?vd61 rfl ?hyd61 ?_;case hyd61=>(intro wq hSw;go_simp;try(with_reducible rfl))
    try simp only[ap,nm]
    refine gQ 2 ?vd62 rfl ?hyd62 ?_;case hyd62=>(intro wq hSw;go_simp;try(with_reducible rfl))
    try simp only[ap,nm]
    refine yE 3 rfl (fun K hK => ?_);go_simp
    (go_at_call 62;(with_reducible refine(hpk _ r1d).mono ?_);rintro e wa ⟨rfl,bx⟩)
    have hbwa:Below w.heap.size w wa:=mJ hbP bx;have hpwa:wa.cell? ⟨Bp,0,none⟩=some (.pointer (some ⟨Y,0,none⟩)):=(hbwa.cell lp).trans cp;have hlwa:=(hbwa.cell ll).trans cl;refine hK.out _ _ ⟨hbwa,hpwa,hlwa⟩ (fun hHeld => ?_);clear hK K bx hbP;have hbP:=hbwa;try simp only[ap,nm]
    refine gQ 4 ?vd64 rfl ?hyd64 ?_;case hyd64=>(intro wq hSw;go_simp;try(with_reducible rfl))
    try simp only[ap,nm]
    refine fB 5 (.bool true) rfl ?_;try simp only[ap,nm]
    refine fB 6 (.bool true) rfl ?_;try simp only[ap,nm]
    refine fB 7 (.bool false) rfl ?_;try simp only[ap,nm]
    refine fB 8 (.bool false) rfl ?_;try simp only[ap,nm]
    refine fB 9 (.bool false) rfl ?_;try simp only[ap,nm]
    refine oB 10 rfl ?_;try simp only[ap,nm]
    refine oB 11 rfl ?_;try simp only[ap,nm]
    refine fB 12 (.bool false) rfl ?_;try simp only[ap,nm]
    refine fB 13 (.bool false) rfl ?_;try simp only[ap,nm]
    refine oB 14 rfl ?_;try simp only[ap,nm]
    refine oB 15 rfl ?_;try simp only[ap,nm]
    refine oB 16 rfl ?_;try simp only[ap,nm]
    refine oB 17 rfl ?_;try simp only[ap,nm]
    refine oB 18 rfl ?_;try simp only[ap,nm]
    refine yE 19 rfl (fun K hK => ?_);go_simp;refine hK.out _ _ ⟨hbP,‹_›,‹_›⟩ (fun hHeld => ?_);clear hK K;try simp only[ap,nm]
    refine oB 20 rfl ?_;try simp only[ap,nm]
    refine oB 21 rfl ?_;try simp only[ap,nm]
    refine oB 22 rfl ?_;try simp only[ap,nm]
    refine oB 24 rfl ?_;try simp only[ap,nm]
    refine yE 23 rfl (fun K hK => ?_);go_simp;refine hK.out _ _ ⟨hbP,‹_›,‹_›⟩ (fun hHeld => ?_);clear hK K;try simp only[ap,nm]
    refine yE 25 rfl (fun K hK => ?_);go_simp;refine hK.out _ _ ⟨hbP,‹_›,‹_›⟩ (fun hHeld => ?_);clear hK K;try simp only[ap,nm]
    refine oB 26 rfl ?_;try simp only[ap,nm]
    refine oB 27 rfl ?_;try simp only[ap,nm]
    refine oB 28 rfl ?_;try simp only[ap,nm]
    refine fB 29 (.bool false) rfl ?_;try simp only[ap,nm]
    refine wpAnyH_done (by kernel_rfl) ?_ _;refine qqx ?_;go_wp2
    go_meet
    case rel=>exact⟨rfl,by assumption⟩
  ·obtain rfl:bd=false:=HB.2.1 hk;have hkb:(kd==1)=false:=by simp[hk]
   clear HB hInv hv hfd1;have hbP:=r1d;have hSd:Below w.heap.size w w1.drew/\w1.drew.cell? ⟨Bp,0,none⟩=some (.pointer (some ⟨Y,0,none⟩))/\w1.drew.cell? ⟨Bl,0,none⟩=some (Z last):=⟨r1d,cp1,cl1⟩;refine qqo ?_;refine qqi (S:=fun w'=>Below w.heap.size w w'/\w'.cell? ⟨Bp,0,none⟩=some (.pointer (some ⟨Y,0,none⟩))/\w'.cell? ⟨Bl,0,none⟩=some (Z last)) (by kernel_rfl) hSd (fun hHeld => ?_);refine gQ 0 (.pointer (some ⟨Y,0,none⟩)) rfl ?hyd70 ?_;case hyd70=>(intro wq hSw;obtain⟨hSb,hSp,hSl⟩:=hSw;go_simp;try rfl)
   try simp only[ap,nm]
   refine gQ 1 ?vd71 rfl ?hyd71 ?_;case hyd71=>(intro wq hSw;go_simp;try(with_reducible rfl))
   try simp only[ap,nm]
   refine gQ 2 ?vd72 rfl ?hyd72 ?_;case hyd72=>(intro wq hSw;go_simp;try(with_reducible rfl))
   try simp only[ap,nm]
   refine yE 3 rfl (fun K hK => ?_);go_simp
   (go_at_call 62;(with_reducible refine(hpk _ r1d).mono ?_);rintro e wa ⟨rfl,bx⟩)
   have hbwa:Below w.heap.size w wa:=mJ hbP bx;have hpwa:wa.cell? ⟨Bp,0,none⟩=some (.pointer (some ⟨Y,0,none⟩)):=(hbwa.cell lp).trans cp;have hlwa:=(hbwa.cell ll).trans cl;refine hK.out _ _ ⟨hbwa,hpwa,hlwa⟩ (fun hHeld => ?_);clear hK K bx hbP;have hbP:=hbwa;try simp only[ap,nm]
   refine gQ 4 ?vd74 rfl ?hyd74 ?_;case hyd74=>(intro wq hSw;go_simp;try(with_reducible rfl))
   try simp only[ap,nm]
   refine fB 5 (.bool false) rfl ?_;try simp only[ap,nm]
   refine fB 6 (.bool false) rfl ?_;try simp only[ap,nm]
   refine oB 7 rfl ?_;try simp only[ap,nm]
   refine fB 8 (.bool false) rfl ?_;try simp only[ap,nm]
   refine fB 9 (.bool false) rfl ?_;try simp only[ap,nm]
   refine oB 10 rfl ?_;try simp only[ap,nm]
   refine oB 11 rfl ?_;try simp only[ap,nm]
   refine fB 12 (.bool false) rfl ?_;try simp only[ap,nm]
   refine fB 13 (.bool false) rfl ?_;try simp only[ap,nm]
   refine oB 14 rfl ?_;try simp only[ap,nm]
   refine oB 15 rfl ?_;try simp only[ap,nm]
   refine oB 16 rfl ?_;try simp only[ap,nm]
   refine oB 17 rfl ?_;try simp only[ap,nm]
   refine oB 18 rfl ?_;try simp only[ap,nm]
   refine yE 19 rfl (fun K hK => ?_);go_simp;refine hK.out _ _ ⟨hbP,‹_›,‹_›⟩ (fun hHeld => ?_);clear hK K;try simp only[ap,nm]
   refine oB 20 rfl ?_;try simp only[ap,nm]
   refine oB 21 rfl ?_;try simp only[ap,nm]
   refine oB 22 rfl ?_;try simp only[ap,nm]
   refine oB 24 rfl ?_;try simp only[ap,nm]
   refine yE 23 rfl (fun K hK => ?_);go_simp;refine hK.out _ _ ⟨hbP,‹_›,‹_›⟩ (fun hHeld => ?_);clear hK K;try simp only[ap,nm]
   refine yE 25 rfl (fun K hK => ?_);go_simp;refine hK.out _ _ ⟨hbP,‹_›,‹_›⟩ (fun hHeld => ?_);clear hK K;try simp only[ap,nm]
   refine oB 26 rfl ?_;try simp only[ap,nm]
   refine oB 27 rfl ?_;try simp only[ap,nm]
   refine oB 28 rfl ?_;try simp only[ap,nm]
   refine fB 29 (.bool false) rfl ?_;try simp only[ap,nm]
   refine wpAnyH_done (by kernel_rfl) ?_ _;refine qqx ?_;go_wp2
   go_meet
   case rel=>exact⟨rfl,by assumption⟩
 case rest =>
  obtain⟨rfl,bM⟩:=hcut;clear hpk cp1 cl1 r1d bN;cases hbv:bd with
  |true =>
   have hx:=hfl _ bM;have V1:=hstep _ bM;have cp3:wc.cell? ⟨Bp,0,none⟩=some (.pointer (some ⟨Y,0,none⟩)):=by rw[Lib.cell_of_heap V1.hp];rfl
   clear hfl hV0 hstep;go_wp2_with(go_at_call 63;refine hx.mono ?_);intro r wf;first |(intro he hSf af;subst he)|rintro⟨rfl,hSf,af⟩
   have V2:=V1.away af (hV1 hbv _ hSf);have aM:=(aC.of_below (bs:=[Y,M]) bM).trans af;clear V1 hx hSf af cp3 hV1;have cw2:wf.cell? ⟨Bw,0,none⟩=some (.map (some Q)):=by rw[Lib.cell_of_heap V2.hw];rfl
   have cp2:wf.cell? ⟨Bp,0,none⟩=some (.pointer (some ⟨Y,0,none⟩)):=by rw[Lib.cell_of_heap V2.hp];rfl
   have r2d:=(qb wf.heap.size wf).drew;have hwd2:=hwd _ (V2.step r2d);clear hwd;go_wp2
   go_region_held3 (fun w'=>w'.cell? ⟨Bp,0,none⟩=some (.pointer (some ⟨Y,0,none⟩))/\w'.cell? ⟨Bw,0,none⟩=some (.map (some Q))) (first|exact⟨cp2,cw2⟩|exact⟨cp3,cw3⟩|exact⟨cp4,cw4⟩) (first
    |(go_at_call 109;(with_reducible refine hwd2.mono ?_);rintro e w3 ⟨rfl,hS3,a3⟩;have V3:=(V2.step r2d).away a3 hS3;have cp3:w3.cell? ⟨Bp,0,none⟩=some (.pointer (some ⟨Y,0,none⟩)):=(by rw[Lib.cell_of_heap V3.hp];rfl);have cw3:w3.cell? ⟨Bw,0,none⟩=some (.map (some Q)):=(by rw[Lib.cell_of_heap V3.hw];rfl);have cl3:w3.cell? ⟨Bl,0,none⟩=some (Z last):=(by rw[Lib.cell_of_heap V3.hl];rfl);have fl3:=Lib.frozen_of_heap V3.hl 0;have V4:=V3.setLast (nv:Nat);have cp4:(w3.setCell ⟨Bl,0,none⟩ (Z (nv:Nat))).cell? ⟨Bp,0,none⟩=some (.pointer (some ⟨Y,0,none⟩)):=(by rw[Lib.cell_of_heap V4.hp];rfl);have cw4:(w3.setCell ⟨Bl,0,none⟩ (Z (nv:Nat))).cell? ⟨Bw,0,none⟩=some (.map (some Q)):=(by rw[Lib.cell_of_heap V4.hw];rfl)))
   have aF:=(((aM.drew).trans a3).more (cs:=[Y,M,E,Bl]) (by simp)).setCell (p:=⟨Bl,0,none⟩) (.inl (by simp)) (Z (nv:Nat));clear V3 cp3 cw3 cl3 fl3 hS3 a3 V2 hwd2 cp2 cw2 r2d bM aM;generalize w3.setCell ⟨Bl,0,none⟩ (Z (nv:Nat))=w4 at V4 cp4 cw4 aF⊢;have ce:w4.cell? ⟨Be,0,none⟩=some (.pointer (some ⟨E,0,none⟩)):=by rw[Lib.cell_of_heap V4.he];rfl
   have cl4:w4.cell? ⟨Bl,0,none⟩=some (Z (nv:Nat)):=by rw[Lib.cell_of_heap V4.hl];rfl
   rcases HS.out.2.2.2 with⟨⟨e,l,c,hs2⟩,hA'⟩ |⟨i,p,hi,hnv,hs2,hA',hAr⟩
   ·have V5:Cl T Bw Bp Bl Be Q E Y M free (.bad e l c) nv F A w0 w4:=by rw[<-hs2];exact V4
    obtain⟨c4,hee⟩:=V5.prs.errCell;have HA:=aJ hA';clear V5 hs2 hA' ce;go_wp2;go_ret;rw[HA.out];exact⟨rfl,V4,aF⟩
   ·have V5:Cl T Bw Bp Bl Be Q E Y M free (.ok p) nv F A w0 w4:=by rw[<-hs2];exact V4
    have c4:=V5.prs.okCell;have xs:=PM V5.hE i hi hAr;rw[<-hnv]at xs;have HA:=aJ (And.intro hA' hnv);clear V5 hs2 hA' hnv hAr;go_wp2_with(go_at_call 110;(with_reducible refine xs.mono ?_));rintro r w5 ⟨rfl,hw5,a5⟩;have V6:=V4.setE (A':=A') (by rw[HA.out.1,<-HA.out.2,hw5,Lib.heap_setCell_same (i:=mH nv) V4.hE];exact congrArg (fun c=>some (Obj.cells c 31 (0,0))) (FS _ _ _ _ _ _ _ _ _ _)) a5;have aG:=aF.trans (a5.more (by simp));have cl6:w5.cell? ⟨Bl,0,none⟩=some (Z (nv:Nat)):=by rw[Lib.cell_of_heap V6.hl];rfl
    clear hw5 a5 aF;go_wp2;go_ret;exact⟨rfl,V6,aG⟩
  |false =>
   have V2:=hV0 hbv _ (hstep _ bM);have aM:=aC.of_below (bs:=[Y,M]) bM;generalize wc=wf at V2 aM⊢;clear hfl hV0 hV1 hstep;have cw2:wf.cell? ⟨Bw,0,none⟩=some (.map (some Q)):=by rw[Lib.cell_of_heap V2.hw];rfl
   have cp2:wf.cell? ⟨Bp,0,none⟩=some (.pointer (some ⟨Y,0,none⟩)):=by rw[Lib.cell_of_heap V2.hp];rfl
   have r2d:=(qb wf.heap.size wf).drew;have hwd2:=hwd _ (V2.step r2d);clear hwd;go_wp2
   go_region_held3 (fun w'=>w'.cell? ⟨Bp,0,none⟩=some (.pointer (some ⟨Y,0,none⟩))/\w'.cell? ⟨Bw,0,none⟩=some (.map (some Q))) (first|exact⟨cp2,cw2⟩|exact⟨cp3,cw3⟩|exact⟨cp4,cw4⟩) (first
    |(go_at_call 109;(with_reducible refine hwd2.mono ?_);rintro e w3 ⟨rfl,hS3,a3⟩;have V3:=(V2.step r2d).away a3 hS3;have cp3:w3.cell? ⟨Bp,0,none⟩=some (.pointer (some ⟨Y,0,none⟩)):=(by rw[Lib.cell_of_heap V3.hp];rfl);have cw3:w3.cell? ⟨Bw,0,none⟩=some (.map (some Q)):=(by rw[Lib.cell_of_heap V3.hw];rfl);have cl3:w3.cell? ⟨Bl,0,none⟩=some (Z last):=(by rw[Lib.cell_of_heap V3.hl];rfl);have fl3:=Lib.frozen_of_heap V3.hl 0;have V4:=V3.setLast (nv:Nat);have cp4:(w3.setCell ⟨Bl,0,none⟩ (Z (nv:Nat))).cell? ⟨Bp,0,none⟩=some (.pointer (some ⟨Y,0,none⟩)):=(by rw[Lib.cell_of_heap V4.hp];rfl);have cw4:(w3.setCell ⟨Bl,0,none⟩ (Z (nv:Nat))).cell? ⟨Bw,0,none⟩=some (.map (some Q)):=(by rw[Lib.cell_of_heap V4.hw];rfl)))
   have aF:=(((aM.drew).trans a3).more (cs:=[Y,M,E,Bl]) (by simp)).setCell (p:=⟨Bl,0,none⟩) (.inl (by simp)) (Z (nv:Nat));clear V3 cp3 cw3 cl3 fl3 hS3 a3 V2 hwd2 cp2 cw2 r2d bM aM;generalize w3.setCell ⟨Bl,0,none⟩ (Z (nv:Nat))=w4 at V4 cp4 cw4 aF⊢;have ce:w4.cell? ⟨Be,0,none⟩=some (.pointer (some ⟨E,0,none⟩)):=by rw[Lib.cell_of_heap V4.he];rfl
   have cl4:w4.cell? ⟨Bl,0,none⟩=some (Z (nv:Nat)):=by rw[Lib.cell_of_heap V4.hl];rfl
   rcases HS.out.2.2.2 with⟨⟨e,l,c,hs2⟩,hA'⟩ |⟨i,p,hi,hnv,hs2,hA',hAr⟩
   ·have V5:Cl T Bw Bp Bl Be Q E Y M free (.bad e l c) nv F A w0 w4:=by rw[<-hs2];exact V4
    obtain⟨c4,hee⟩:=V5.prs.errCell;have HA:=aJ hA';clear V5 hs2 hA' ce;go_wp2;go_ret;rw[HA.out];exact⟨rfl,V4,aF⟩
   ·have V5:Cl T Bw Bp Bl Be Q E Y M free (.ok p) nv F A w0 w4:=by rw[<-hs2];exact V4
    have c4:=V5.prs.okCell;have xs:=PM V5.hE i hi hAr;rw[<-hnv]at xs;have HA:=aJ (And.intro hA' hnv);clear V5 hs2 hA' hnv hAr;go_wp2_with(go_at_call 110;(with_reducible refine xs.mono ?_));rintro r w5 ⟨rfl,hw5,a5⟩;have V6:=V4.setE (A':=A') (by rw[HA.out.1,<-HA.out.2,hw5,Lib.heap_setCell_same (i:=mH nv) V4.hE];exact congrArg (fun c=>some (Obj.cells c 31 (0,0))) (FS _ _ _ _ _ _ _ _ _ _)) a5;have aG:=aF.trans (a5.more (by simp));have cl6:w5.cell? ⟨Bl,0,none⟩=some (Z (nv:Nat)):=by rw[Lib.cell_of_heap V6.hl];rfl
    clear hw5 a5 aF;go_wp2;go_ret;exact⟨rfl,V6,aG⟩
end
end Go.Proofs.YtgkhemnmcgicnaaGreatDoor
