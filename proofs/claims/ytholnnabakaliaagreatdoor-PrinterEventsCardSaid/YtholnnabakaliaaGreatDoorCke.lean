/-
  A part of the proof that the law PrinterEvents (chapter 20) returns true for every event: walks of the program's functions, and runs of them in the kernel by the own evaluator.
-/
import Derived.Test.YtholnnabakaliaaGreatDoorCkd
namespace Go.Proofs.YtholnnabakaliaaGreatDoor
open Go.RowKit

set_option maxHeartbeats 4000000 in
set_option maxRecDepth 100000 in
theorem strip1 (site num lg dt ar orn dy st be : Int) (ho go lo : Option Addr) (hn hc gn gc ln lc : Nat) (w : World) :
    Calls Tryz.prog 16 #[.agg #[.int .i64 site, .int .i64 num, .int .i64 1, .int .i64 lg, .int .i64 dt, .slice ho hn hc, .slice go gn gc, .int .i64 ar, .int .i64 orn, .int .i64 dy, .slice lo ln lc, .int .i64 st, .int .i64 be]] w fun e w' => e = .returned (.agg #[.int .i64 site, .int .i64 num, .int .i64 1, .int .i64 lg, .int .i64 dt, .slice ho hn hc, .slice go gn gc, .int .i64 ar, .int .i64 orn, .int .i64 dy, .slice lo ln lc, .int .i64 st, .int .i64 be]) ∧ Below w.heap.size w w' := by
  go_enter Tryz.func16, Tryz.ntmps16
  go_wp2
  refine bodyPost_ret (results_cell_row rfl _ _ (w.heap.size + 1) 30 _ (0, 0) _ rfl (heap_alloc2_new w _ _) Tryz.underlying30 rfl Tryz.sizeEvent) rfl ?_
  exact ⟨rfl, ((Below.refl _ w).alloc (Nat.le_refl _) _).alloc (by simp) _⟩

set_option maxHeartbeats 4000000 in
set_option maxRecDepth 100000 in
theorem strip2 (site num lg dt ar orn dy st be : Int) (ho go lo : Option Addr) (hn hc gn gc ln lc : Nat) (w : World) :
    Calls Tryz.prog 16 #[.agg #[.int .i64 site, .int .i64 num, .int .i64 2, .int .i64 lg, .int .i64 dt, .slice ho hn hc, .slice go gn gc, .int .i64 ar, .int .i64 orn, .int .i64 dy, .slice lo ln lc, .int .i64 st, .int .i64 be]] w fun e w' => e = .returned (.agg #[.int .i64 site, .int .i64 num, .int .i64 2, .int .i64 lg, .int .i64 dt, .slice none 0 0, .slice none 0 0, .int .i64 (fermataOf ar), .int .i64 0, .int .i64 dy, .slice none 0 0, .int .i64 0, .int .i64 0]) ∧ Below w.heap.size w w' := by
  have hfe := fermata_walk ar
  have hex := exists_is (k := 2) (b := true) rfl
  generalize fermataOf ar = fa at hfe ⊢
  go_enter Tryz.func16, Tryz.ntmps16
  go_wp2_with (first | (go_at_call 14; refine (hex _).mono ?_; rintro e w' ⟨rfl, rfl⟩) | (go_at_call 40; refine (hfe _).mono ?_; rintro e w' ⟨rfl, rfl⟩))
  refine bodyPost_ret (results_cell_row rfl _ _ (w.heap.size + 1) 30 _ (0, 0) _ rfl ((Lib.alloc_old _ _ _ (by simp)).trans (heap_alloc2_new w _ _)) Tryz.underlying30 rfl Tryz.sizeEvent) rfl ?_
  exact ⟨rfl, (((Below.refl _ w).alloc (Nat.le_refl _) _).alloc (by simp) _).alloc (by simp; omega) _⟩

set_option maxHeartbeats 4000000 in
set_option maxRecDepth 100000 in
theorem strip3 (site num lg dt ar orn dy st be : Int) (ho go lo : Option Addr) (hn hc gn gc ln lc : Nat) (w : World) :
    Calls Tryz.prog 16 #[.agg #[.int .i64 site, .int .i64 num, .int .i64 3, .int .i64 lg, .int .i64 dt, .slice ho hn hc, .slice go gn gc, .int .i64 ar, .int .i64 orn, .int .i64 dy, .slice lo ln lc, .int .i64 st, .int .i64 be]] w fun e w' => e = .returned (.agg #[.int .i64 site, .int .i64 num, .int .i64 3, .int .i64 0, .int .i64 0, .slice none 0 0, .slice none 0 0, .int .i64 (fermataOf ar), .int .i64 0, .int .i64 dy, .slice none 0 0, .int .i64 0, .int .i64 0]) ∧ Below w.heap.size w w' := by
  have hfe := fermata_walk ar
  have hex := exists_is (k := 3) (b := true) rfl
  generalize fermataOf ar = fa at hfe ⊢
  go_enter Tryz.func16, Tryz.ntmps16
  go_wp2_with (first | (go_at_call 14; refine (hex _).mono ?_; rintro e w' ⟨rfl, rfl⟩) | (go_at_call 40; refine (hfe _).mono ?_; rintro e w' ⟨rfl, rfl⟩))
  refine bodyPost_ret (results_cell_row rfl _ _ (w.heap.size + 1) 30 _ (0, 0) _ rfl ((Lib.alloc_old _ _ _ (by simp)).trans (heap_alloc2_new w _ _)) Tryz.underlying30 rfl Tryz.sizeEvent) rfl ?_
  exact ⟨rfl, (((Below.refl _ w).alloc (Nat.le_refl _) _).alloc (by simp) _).alloc (by simp; omega) _⟩

set_option maxHeartbeats 4000000 in
set_option maxRecDepth 100000 in
theorem strip4 (site num lg dt ar orn dy st be : Int) (ho go lo : Option Addr) (hn hc gn gc ln lc : Nat) (w : World) :
    Calls Tryz.prog 16 #[.agg #[.int .i64 site, .int .i64 num, .int .i64 4, .int .i64 lg, .int .i64 dt, .slice ho hn hc, .slice go gn gc, .int .i64 ar, .int .i64 orn, .int .i64 dy, .slice lo ln lc, .int .i64 st, .int .i64 be]] w fun e w' => e = .returned (.agg #[.int .i64 site, .int .i64 num, .int .i64 4, .int .i64 lg, .int .i64 dt, .slice none 0 0, .slice none 0 0, .int .i64 0, .int .i64 0, .int .i64 dy, .slice none 0 0, .int .i64 0, .int .i64 0]) ∧ Below w.heap.size w w' := by
  have hfe := fermata_walk ar
  have hex := exists_is (k := 4) (b := true) rfl
  generalize fermataOf ar = fa at hfe ⊢
  go_enter Tryz.func16, Tryz.ntmps16
  go_wp2_with (first | (go_at_call 14; refine (hex _).mono ?_; rintro e w' ⟨rfl, rfl⟩) | (go_at_call 40; refine (hfe _).mono ?_; rintro e w' ⟨rfl, rfl⟩))
  refine bodyPost_ret (results_cell_row rfl _ _ (w.heap.size + 1) 30 _ (0, 0) _ rfl ((Lib.alloc_old _ _ _ (by simp)).trans (heap_alloc2_new w _ _)) Tryz.underlying30 rfl Tryz.sizeEvent) rfl ?_
  exact ⟨rfl, (((Below.refl _ w).alloc (Nat.le_refl _) _).alloc (by simp) _).alloc (by simp; omega) _⟩
end Go.Proofs.YtholnnabakaliaaGreatDoor
