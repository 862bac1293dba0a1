/- Towards the law ParserEvents, true for every text (no condition): one part of the proof. -/
import Derived.Test.YtgkhemnmcgicnaaGreatDoorG01
import Derived.Test.YtgkhemnmcgicnaaGreatDoorG03
namespace Go.Proofs.YtgkhemnmcgicnaaGreatDoor
set_option maxHeartbeats 8000000
set_option maxRecDepth 100000
open Go.RowKit
section
variable {X Bx Bj K : Nat} {j : Bool} {w : World} {Q : World -> Prop}
theorem find_walk (p : Nat) (hp : p < 4) (hK : w.heap[K]? = some takersRow) (hx : w.cell? ⟨Bx, 0, none⟩ = some (.pointer (some ⟨X, 0, none⟩))) (hj : w.cell? ⟨Bj, 0, none⟩ = some (.bool j))
  (hmiss : ∀ i, i < p -> Misses (81 + i) X j w) (hhit : Hits (81 + p) X j w Q) :
  Calls Tryz.prog 130 #[.slice (some ⟨K, 0, none⟩) 4 4, .func (.func 89) #[] #[.pointer (some ⟨Bx, 0, none⟩), .pointer (some ⟨Bj, 0, none⟩)]] w fun r w' => r = .returned (I p) /\ Q w' := by
 have lK := (Array.getElem?_eq_some_iff.1 hK).1
 have lx := World.block_lt_of_cell? w _ hx
 have lj := World.block_lt_of_cell? w _ hj
 simp only at lx lj
 go_enter Tryz.func130, Tryz.ntmps130
 go_wp2
 go_loopw [8] (fun v wr => ∃ i : Nat, i <= p /\ v = I i /\ Below w.heap.size w wr) (fun v _ => p - (intOf v).toNat)
 case atStart => exact ⟨0, Nat.zero_le _, rfl, Below.refl _ _⟩
 case round =>
  obtain ⟨i, hi, rfl, hb⟩ := hrel
  have hK1 := (hb.block K lK).trans hK
  have hx1 := (hb.cell (p := ⟨Bx, 0, none⟩) lx).trans hx
  have hj1 := (hb.cell (p := ⟨Bj, 0, none⟩) lj).trans hj
  have q0 : wr.cell? ⟨K, 0, none⟩ = some (.func (.func 81) #[] #[]) := by rw [Lib.cell_of_heap hK1]; rfl
  have q1 : wr.cell? ⟨K, 1, none⟩ = some (.func (.func 82) #[] #[]) := by rw [Lib.cell_of_heap hK1]; rfl
  have q2 : wr.cell? ⟨K, 2, none⟩ = some (.func (.func 83) #[] #[]) := by rw [Lib.cell_of_heap hK1]; rfl
  have q3 : wr.cell? ⟨K, 3, none⟩ = some (.func (.func 84) #[] #[]) := by rw [Lib.cell_of_heap hK1]; rfl
  by_cases hlt : i < p
  ·have hm := hmiss i hlt wr hb
   have hi3 : i = 0 \/ i = 1 \/ i = 2 := by omega
   rcases hi3 with rfl | rfl | rfl
   ·have ht := try_walk 81 X Bx Bj j false wr hx1 hj1 _ hm (by decide)
    go_wp2_with (go_at_call 89; refine ht.mono ?_)
    rintro e w' ⟨rfl, b'⟩
    go_wp2
    go_roundw
    case rel => exact ⟨1, by omega, rfl, hb.trans (b'.mono hb.size)⟩
    case measure => simp [intOf]; omega
   ·have ht := try_walk 82 X Bx Bj j false wr hx1 hj1 _ hm (by decide)
    go_wp2_with (go_at_call 89; refine ht.mono ?_)
    rintro e w' ⟨rfl, b'⟩
    go_wp2
    go_roundw
    case rel => exact ⟨2, by omega, rfl, hb.trans (b'.mono hb.size)⟩
    case measure => simp [intOf]; omega
   ·have ht := try_walk 83 X Bx Bj j false wr hx1 hj1 _ hm (by decide)
    go_wp2_with (go_at_call 89; refine ht.mono ?_)
    rintro e w' ⟨rfl, b'⟩
    go_wp2
    go_roundw
    case rel => exact ⟨3, by omega, rfl, hb.trans (b'.mono hb.size)⟩
    case measure => simp [intOf]; omega
  ·obtain rfl : i = p := by omega
   have hm := hhit wr hb
   have hi3 : i = 0 \/ i = 1 \/ i = 2 \/ i = 3 := by omega
   rcases hi3 with rfl | rfl | rfl | rfl
   ·have ht := try_walk 81 X Bx Bj j true wr hx1 hj1 _ hm (by decide)
    go_wp2_with (go_at_call 89; refine ht.mono ?_)
    rintro e w' ⟨rfl, hQ⟩
    go_wp2
    go_ret
    exact ⟨rfl, hQ⟩
   ·have ht := try_walk 82 X Bx Bj j true wr hx1 hj1 _ hm (by decide)
    go_wp2_with (go_at_call 89; refine ht.mono ?_)
    rintro e w' ⟨rfl, hQ⟩
    go_wp2
    go_ret
    exact ⟨rfl, hQ⟩
   ·have ht := try_walk 83 X Bx Bj j true wr hx1 hj1 _ hm (by decide)
    go_wp2_with (go_at_call 89; refine ht.mono ?_)
    rintro e w' ⟨rfl, hQ⟩
    go_wp2
    go_ret
    exact ⟨rfl, hQ⟩
   ·have ht := try_walk 84 X Bx Bj j true wr hx1 hj1 _ hm (by decide)
    go_wp2_with (go_at_call 89; refine ht.mono ?_)
    rintro e w' ⟨rfl, hQ⟩
    go_wp2
    go_ret
    exact ⟨rfl, hQ⟩
theorem takes_walk (p : Nat) (hp : p < 4) (hK : w.heap[K]? = some takersRow) (hx : w.cell? ⟨Bx, 0, none⟩ = some (.pointer (some ⟨X, 0, none⟩))) (hj : w.cell? ⟨Bj, 0, none⟩ = some (.bool j))
  (hmiss : ∀ i, i < p -> Misses (81 + i) X j w) (hhit : Hits (81 + p) X j w Q) :
  Calls Tryz.prog 88 #[.slice (some ⟨K, 0, none⟩) 4 4, .func (.func 89) #[] #[.pointer (some ⟨Bx, 0, none⟩), .pointer (some ⟨Bj, 0, none⟩)]] w fun r w' => r = .returned (.bool true) /\ Q w' := by
 have hf := find_walk p hp hK hx hj hmiss hhit
 have hp0 : (0 : Int) <= (p : Int) := by omega
 clear hmiss hhit hK hx hj
 go_enter Tryz.func88, Tryz.ntmps88
 go_wp2_with (go_at_call 130; refine hf.mono ?_)
 rintro e w' ⟨rfl, hQ⟩
 go_wp2
 go_ret
 refine ⟨?_, hQ⟩
 first | rfl | simp
end
end Go.Proofs.YtgkhemnmcgicnaaGreatDoor
