/- Towards the law ParserBlanks, true for every text and all blanks (no condition): one part of the proof. -/
import Derived.Test.YtgkhemnmcgicnaaGreatDoorG01
import Derived.Test.YtgkhemnmcgicnaaGreatDoorG49
import Derived.Test.YtgkhemnmcgicnaaGreatDoorG48
import Derived.Test.YtgkhemnmcgicnaaGreatDoorG50
namespace Go.Proofs.YtgkhemnmcgicnaaGreatDoor
set_option maxRecDepth 100000
open Go.ChangeShapes Go.WideShapes Go.ChangeAt Go.RowKit Go.Joins
theorem aGK:Tryz.prog.underlying 5=some (.int .u8):=by kernel_rfl
theorem X4:Tryz.prog.underlying 54=some (.slice 5):=by kernel_rfl
theorem aJU:Tryz.prog.cellsOf 5=1:=by kernel_rfl
theorem aGL:laidOutB Tryz.prog=true:=by kernel_rfl
theorem aED{z:Int}(h:(Lit.int .u8 z).wf=true):0<=z/\z<=255:=by
 simp only[Lit.wf,Bool.and_eq_true,qqy]at h;have e1:IntKind.u8.min=0:=by rfl
 have e2:IntKind.u8.max=255:=by rfl
 rw[e1,e2]at h;omega
theorem aJV{H:Type}{enc:TypeId×Value->H}{W:World}{a0:Option Addr}{len cap:Nat}{d0:DataW H}{p:List MemPlace}
  (h0:DataW.Trod enc Tryz.prog W 0 (fun _=>true) true 54 (.slice a0 len cap) d0 p) :
  ∃nb:Nat->Int,∀i,i<len->∃a,a0=some a/\W.cell? (a.add i)=some (.int .u8 (nb i))/\0<=nb i/\nb i<=255:=by
 obtain⟨fuel,hf⟩:=h0;rcases open_ints X4 aGK aJU hf with⟨hcs,hx⟩ |⟨a,len',cap',zs,hcs,_,hl,hm,hz,hx,hcell,hwz⟩
 ·simp[Value.cells]at hcs;obtain⟨rfl,rfl,rfl⟩:=hcs;exact⟨fun _=>0,fun i hi=>absurd hi (Nat.not_lt_zero i)⟩
 ·simp[Value.cells]at hcs;obtain⟨rfl,rfl,rfl⟩:=hcs;simp only[if_true]at hz;refine⟨fun i=>zs.getD i 0,fun i hi=>⟨a,rfl,hcell i (by omega),?_⟩⟩;have hlt:i<zs.length:=by omega
  have hm:zs.getD i 0∈zs:=by simp[List.getD,hlt]
  exact aED (hwz _ hm)
theorem aEE(os:Os)(started:os.Started)(H:Type)(enc:TypeId×Value->H) :
  ReturnsInHanded {} Tryz.checked os 5 .any (fun w args=>(Rows.parserBlanksSpec.pre enc Tryz.prog Tryz.f5 [] false w args/\laidMetH Tryz.prog laid w)/\sizedMet enc Tryz.prog Tryz.f5 (OpenSpec.ofChange Rows.parserBlanksSpec) false w args)
   (Rows.parserBlanksSpec.post enc Tryz.prog Tryz.f5 false true false false):=by
 refine rK (C:=Tryz.checked) (X:=fun w _=>laidMetH Tryz.prog laid w) (fun _ _ _ hh h=>h.of_heap hh) own started (by kernel_rfl) Tryz.func5
  (ChangeSpec.witness_shaped (enc:=enc) (C:=Tryz.checked) (os:=os) (X:=fun w _=>laidMetH Tryz.prog laid w) false (World.laidAll Tryz.prog os laid) #[.string ⟨#[]⟩,.slice none 0 0] 8 (World.laidAll_os _ _ _) (World.shaped_of_ZipB (by kernel_rfl) (by kernel_rfl)) (by kernel_rfl) (by kernel_rfl) (by kernel_rfl) (aEF os _)) ?_
 intro W base args ds gs before hsh hval0 hW hL;have hval:∀(j:Nat) t v,Tryz.f5.params[j]?=some t->args[j]?=some v->Value.okWide Tryz.prog W .any base t v:=hval0;have hW':=hW;obtain⟨p,q,hA0,hV,rfl,_,_⟩:=hW;have hA:DataW.TrodAll enc Tryz.prog W 0 (fun _=>true) true Tryz.f5.params.toList args.toList ds p:=hA0;rw[Tryz.params5]at hA hval;obtain⟨v0,v1,d0,d1,p0,p1,rfl,rfl,rfl,h0,h1⟩:=trodAll_two hA;obtain⟨rfl,rfl⟩:=trodVars_none hV;obtain⟨s,rfl,rfl,rfl,ws⟩:=aEG v9 (hval 0 9 v0 rfl rfl) h0;obtain⟨a1,len1,cap1,rfl⟩:=okWide_slice X4 (hval 1 54 v1 rfl rfl);clear hA0 hval0;simp only[qqe,List.nil_append]at hW';have hlt:∀x∈p1,x.block<W.heap.size:=fun x hx=>hW'.lt x (by simpa using hx);have hargs:∀(W':World),Below W.heap.size W W'->DataW.Trod enc Tryz.prog W' 0 (fun b=>decide (b<W.heap.size)) true 54 (.slice a1 len1 cap1) d1 p1 :=
  fun W' hn=>Below.trod aGL (by kernel_rfl) (of_decide_eq_true (by kernel_rfl)) h1 hn hlt
 obtain⟨nb,hnb⟩:=aJV h1;refine(WC s a1 len1 cap1 nb W (aFQ hsh hL) hnb).mono fun e W' ⟨he,hb⟩ => ?_;subst he;refine⟨_,rfl,_,_,_,[],p1,[],hW',?_,?_,?_,hb.frame _,fun h=>by cases h⟩
 ·exact trodAll_mk1 (shut_bool v4 true)
 ·exact trodAll_mk2 (aEH v9 ws) (hargs _ hb)
 ·rfl
theorem parserBlanks_row:Rows.ParserBlanksSaid :=
 OpenClaim.holds_of_wide 5 Tryz.f5 rfl rfl rfl rfl rfl rfl rfl ⟨rfl,rfl,rfl,rfl,rfl⟩ rfl rfl rfl rfl rfl (by kernel_rfl) Tryz.func5 aBB
  (of_decide_eq_true (by kernel_rfl)) (by unfold Func.isWrapper;first |(rw[if_pos (by decide +kernel)];kernel_rfl) |(rw[if_neg (by decide +kernel)];exact⟨rfl,rfl⟩))
  (fun os started H enc _=>aEE os started H enc)
end Go.Proofs.YtgkhemnmcgicnaaGreatDoor
