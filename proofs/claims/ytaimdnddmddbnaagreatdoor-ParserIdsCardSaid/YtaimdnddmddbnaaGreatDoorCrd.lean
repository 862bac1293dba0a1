/-
  The law ParserIds (chapter 19) returns true for every site, number and count, and its arguments read as before: the row, and its card.
-/
import Derived.Test.YtaimdnddmddbnaaGreatDoorRow
namespace Go.Proofs.YtaimdnddmddbnaaGreatDoor
open Go.ChangeShapes Go.WideShapes Go.ChangeAt Go.RowKit Go.Joins Go.Deep

theorem parserIds_holds : Rows.ParserIdsCardSaid :=
  Claim7.holds_tied_plain_at .later [] [.data, .data, .data, .data, .sentinel, .sentinel, .pinned] true (true, "31bf325ed6fc05a00d6f410b0b3b38ba3570ae4b1c4d82fa65b9ae2437ae5ee1") true
    parserIds_row (fun _ h => by cases h) (by as_aux_lemma => kernel_rfl) (fun _ h => by cases h) parserIds_row_tie rfl ⟨rfl, rfl⟩ (by as_aux_lemma => kernel_rfl) rfl
    (fun f fn hf hfn => by
      obtain rfl : f = 3 := Option.some.inj ((show Tryz.prog.funcNamed "hemiola/hemiolalaw19.ParserIds" = some 3 by as_aux_lemma => kernel_rfl).symm.trans hf) |>.symm
      obtain rfl : fn = Tryz.f3 := (Option.some.inj (Tryz.func3.symm.trans hfn)).symm
      exact ⟨by as_aux_lemma => kernel_rfl, fun j t ht => by
        rw [Tryz.params3] at ht
        have hm : t ∈ [3, 3, 5] := by simpa using Array.mem_of_getElem? ht
        have hall : ([3, 3, 5].all fun u => !Tryz.prog.wantsStandIn u) = true := by as_aux_lemma => kernel_rfl
        exact (show Tryz.prog.wantsStandIn t = false by simpa using List.all_eq_true.1 hall t hm)⟩)
    (by as_aux_lemma => kernel_rfl)
#print axioms parserIds_holds
end Go.Proofs.YtaimdnddmddbnaaGreatDoor
