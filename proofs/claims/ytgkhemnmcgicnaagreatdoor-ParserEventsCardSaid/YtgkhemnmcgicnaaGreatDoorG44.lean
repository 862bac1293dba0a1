/- Towards the law ParserEvents, true for every text (no condition): one part of the proof. -/
import Derived.Test.YtgkhemnmcgicnaaGreatDoorG38
import Derived.Test.YtgkhemnmcgicnaaGreatDoorG39
import Derived.Test.YtgkhemnmcgicnaaGreatDoorG40
import Derived.Test.YtgkhemnmcgicnaaGreatDoorG42
import Derived.Test.YtgkhemnmcgicnaaGreatDoorG43
import Derived.Test.YtgkhemnmcgicnaaGreatDoorG41
namespace Go.Proofs.YtgkhemnmcgicnaaGreatDoor
open Go.RowKit Go.Dam
theorem parse_told (s : ByteArray) (v : Value) (hv : plain v = true) (h : parsesTo s v = true) : Told0 Tryz.prog (67, [.string s], v) := by
 refine ⟨fun x hx => ?_, hv, fun w => ?_⟩
 ·obtain rfl := List.mem_singleton.1 hx; rfl
 ·unfold parsesTo at h
  split at h
  ·rename_i u S he
   obtain rfl := veq_spec h
   refine closed (args := [.string s]) noOrc_ok mixed_ok (namesOk_of names_ok) (ok_any _) (h := []) (nx := 100) rfl (by decide) (Nat.le_of_ble_eq_true (by kernel_rfl)) ?_ hv he rfl ?_
   ·intro x hx; obtain rfl := List.mem_singleton.1 hx; rfl
   ·intro n o hn; cases hn
  ·cases h
theorem dTab_ok : ∀ t ∈ dTab, Told0 Tryz.prog t := by
 intro t ht
 simp only [dTab, List.mem_cons, List.not_mem_nil, or_false] at ht
 rcases ht with rfl | rfl | rfl
 ·exact parse_told _ _ rfl parse8
 ·exact parse_told _ _ rfl parse4
 ·exact parse_told _ _ rfl parse2
theorem told_run {orc : FuncId -> List Value -> St -> Option (Value × St)} (horc : OrcOk Tryz.prog orc) {fs : Nat} {t : Go.Dam.Told} (h : runsTo orc fs t = true) : Told2 Tryz.prog t :=
 told2_of mixed_ok (namesOk_of names_ok) horc (ok_any fs) h
theorem none1 : ∀ t ∈ ([] : List Laid), Told1 Tryz.prog t := fun _ h => by cases h
theorem none2 : ∀ t ∈ ([] : List Go.Dam.Told), Told2 Tryz.prog t := fun _ h => by cases h
theorem events_ok : ∀ t ∈ [told940x20, told1098x20, told1256x20, told1436x20, told1722x20, told2004x20], Told2 Tryz.prog t := by
 intro t ht
 simp only [List.mem_cons, List.not_mem_nil, or_false] at ht
 rcases ht with rfl | rfl | rfl | rfl | rfl | rfl
 ·exact told_run (toldOrc2_ok dTab_ok none1 none2) run_told940x20
 ·exact told_run (toldOrc2_ok dTab_ok none1 none2) run_told1098x20
 ·exact told_run (toldOrc2_ok dTab_ok none1 none2) run_told1256x20
 ·exact told_run (toldOrc2_ok dTab_ok none1 none2) run_told1436x20
 ·exact told_run (toldOrc2_ok dTab_ok none1 none2) run_told1722x20
 ·exact told_run (toldOrc2_ok dTab_ok none1 none2) run_told2004x20
theorem cells_ok : ∀ t ∈ [told870x136, told1960x136], Told2 Tryz.prog t := by
 intro t ht
 simp only [List.mem_cons, List.not_mem_nil, or_false] at ht
 rcases ht with rfl | rfl
 ·exact told_run (toldOrc2_ok dTab_ok none1 events_ok) run_told870x136
 ·exact told_run (toldOrc2_ok dTab_ok none1 events_ok) run_told1960x136
theorem known_of (hs : Told1 Tryz.prog scanT) (w : World) : Calls Tryz.prog 11 #[] w fun e w' => e = .returned (.bool true) /\ Below w.heap.size w w' := by
 have hr := known_run
 unfold isTrue at hr
 split at hr
 ·rename_i S he
  refine closed (args := []) (toldOrc2_ok dTab_ok (fun t ht => by obtain rfl := List.mem_singleton.1 ht; exact hs) cells_ok) mixed_ok (namesOk_of names_ok) (ok_any _) (h := []) (nx := 100) rfl (by decide) (Nat.le_of_ble_eq_true (by kernel_rfl)) (by simp) rfl he rfl ?_
  intro n o hn; cases hn
 ·cases hr
end Go.Proofs.YtgkhemnmcgicnaaGreatDoor
