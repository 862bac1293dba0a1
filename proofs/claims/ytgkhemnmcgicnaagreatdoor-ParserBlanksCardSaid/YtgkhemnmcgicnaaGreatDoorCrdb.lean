/- Towards the law ParserBlanks, true for every text and all blanks (no condition): one part of the proof. -/
import Derived.Test.YtgkhemnmcgicnaaGreatDoorG01
import Derived.Test.YtgkhemnmcgicnaaGreatDoorG51
namespace Go.Proofs.YtgkhemnmcgicnaaGreatDoor
open Go.ChangeShapes Go.WideShapes Go.ChangeAt Go.RowKit Go.Joins Go.Deep
theorem parserBlanks_holds:Rows.ParserBlanksCardSaid :=
 Claim7.holds_tied_plain_at .later [] [.data,.data,.data,.data,.sentinel,.sentinel,.pinned] true (true,"dc206058420312ddc476874c9d6182e91b680184a6c56802f0c40dee65e486e5") true
  parserBlanks_row (fun _ h=>by cases h) (by as_aux_lemma=>kernel_rfl) (fun _ h=>by cases h) parserBlanks_row_tie rfl ⟨rfl,rfl⟩ (by as_aux_lemma=>kernel_rfl) rfl
  (fun f fn hf hfn=>by
   obtain rfl:f=5:=qi ((show Tryz.prog.funcNamed "hemiola/hemiolalaw19.ParserBlanks"=some 5 by as_aux_lemma=>kernel_rfl).symm.trans hf) |>.symm;obtain rfl:fn=Tryz.f5:=(qi (Tryz.func5.symm.trans hfn)).symm;exact⟨by as_aux_lemma=>kernel_rfl,fun j t ht=>by
    rw[Tryz.params5]at ht;have hm:t∈[9,54]:=by simpa using Array.mem_of_getElem? ht
    have hall:([9,54].all fun u=>!Tryz.prog.wantsStandIn u)=true:=by as_aux_lemma=>kernel_rfl
    exact(show Tryz.prog.wantsStandIn t=false by simpa using qqm.1 hall t hm)⟩)
  (by as_aux_lemma=>kernel_rfl)
#print axioms parserBlanks_holds
end Go.Proofs.YtgkhemnmcgicnaaGreatDoor
