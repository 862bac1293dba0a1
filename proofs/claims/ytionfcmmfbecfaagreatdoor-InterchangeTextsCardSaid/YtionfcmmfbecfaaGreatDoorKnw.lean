/-
  A part of the proof that the law InterchangeTexts (chapter 22) returns true for every loss: runs of the program's functions in the kernel, by the own evaluator, and walks.
-/
import Derived.Test.YtionfcmmfbecfaaGreatDoorKnb
import Derived.Test.YtionfcmmfbecfaaGreatDoorTl0
import Derived.Test.YtionfcmmfbecfaaGreatDoorTl1
import Derived.Test.YtionfcmmfbecfaaGreatDoorTl2
namespace Go.Proofs.YtionfcmmfbecfaaGreatDoor
open Go.RowKit Go.Dam

theorem toldL_ok : OrcOk Tryz.prog toldL := toldOrc2_ok (fun _ h => by cases h) (fun _ h => by cases h) (by
  intro t ht
  simp only [List.mem_cons, List.not_mem_nil, or_false] at ht
  rcases ht with rfl | rfl | rfl
  · exact ok_told124x16
  · exact ok_told1458x13
  · exact ok_told1686x16)
theorem mainOrc_ok : OrcOk Tryz.prog mainOrc := by
  intro f args S v S' h E A w hg hev hargs H hA
  unfold mainOrc at h
  split at h
  · rename_i r hr
    obtain rfl := Option.some.inj h
    exact toldL_ok f args S v S' hr E A w hg hev hargs H hA
  · exact knOrc_ok f args S v S' h E A w hg hev hargs H hA

theorem known_walk (w : World) : Calls Tryz.prog 4 #[] w fun e w' => e = .returned (.bool true) ∧ Below w.heap.size w w' := by
  have hr := known_run
  unfold isTrue at hr
  split at hr
  · rename_i S he
    refine closed (args := []) mainOrc_ok mixed_ok (namesOk_of names_ok) (ok_any _) (h := []) (nx := 100) rfl (by decide) (Nat.le_of_ble_eq_true (by kernel_rfl)) (by simp) rfl he rfl ?_
    intro n o hn; cases hn
  · cases hr

end Go.Proofs.YtionfcmmfbecfaaGreatDoor
