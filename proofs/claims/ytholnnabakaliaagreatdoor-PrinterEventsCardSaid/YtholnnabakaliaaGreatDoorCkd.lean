/-
  A part of the proof that the law PrinterEvents (chapter 20) returns true for every event: walks of the program's functions, and runs of them in the kernel by the own evaluator.
-/
import Derived.Test.YtholnnabakaliaaGreatDoorCkl
namespace Go.Proofs.YtholnnabakaliaaGreatDoor
open Go.RowKit

theorem Tryz.sizeEvent : (Tryz.prog.info? 30).map (·.size) = some 13 := by kernel_rfl
def fill13 (w : World) (X : Nat) (v0 v1 v2 v3 v4 v5 v6 v7 v8 v9 v10 v11 v12 : Value) : World :=
  ((((((((((((w.setCell ⟨X, 0, none⟩ v0).setCell ⟨X, 1, none⟩ v1).setCell ⟨X, 2, none⟩ v2).setCell ⟨X, 3, none⟩ v3).setCell ⟨X, 4, none⟩ v4).setCell ⟨X, 5, none⟩ v5).setCell ⟨X, 6, none⟩ v6).setCell ⟨X, 7, none⟩ v7).setCell ⟨X, 8, none⟩ v8).setCell ⟨X, 9, none⟩ v9).setCell ⟨X, 10, none⟩ v10).setCell ⟨X, 11, none⟩ v11).setCell ⟨X, 12, none⟩ v12
def zEvent : Obj := .cells #[.int .i64 0, .int .i64 0, .int .i64 0, .int .i64 0, .int .i64 0, .slice none 0 0, .slice none 0 0, .int .i64 0, .int .i64 0, .int .i64 0, .slice none 0 0, .int .i64 0, .int .i64 0] 30 (0, 0)
theorem fill13_self {w : World} {X : Nat} {T : TypeId} {c0 c1 c2 c3 c4 c5 c6 c7 c8 c9 c10 c11 c12 : Value} (h : w.heap[X]? = some (.cells #[c0, c1, c2, c3, c4, c5, c6, c7, c8, c9, c10, c11, c12] T (0, 0))) (v0 v1 v2 v3 v4 v5 v6 v7 v8 v9 v10 v11 v12 : Value) :
    (fill13 w X v0 v1 v2 v3 v4 v5 v6 v7 v8 v9 v10 v11 v12).heap[X]? = some (.cells #[v0, v1, v2, v3, v4, v5, v6, v7, v8, v9, v10, v11, v12] T (0, 0)) := by
  have h0 : (w.setCell ⟨X, 0, none⟩ v0).heap[X]? = some (.cells #[v0, c1, c2, c3, c4, c5, c6, c7, c8, c9, c10, c11, c12] T (0, 0)) := Lib.heap_setCell_same (i := 0) h v0
  have h1 : ((w.setCell ⟨X, 0, none⟩ v0).setCell ⟨X, 1, none⟩ v1).heap[X]? = some (.cells #[v0, v1, c2, c3, c4, c5, c6, c7, c8, c9, c10, c11, c12] T (0, 0)) := Lib.heap_setCell_same (i := 1) h0 v1
  have h2 : (((w.setCell ⟨X, 0, none⟩ v0).setCell ⟨X, 1, none⟩ v1).setCell ⟨X, 2, none⟩ v2).heap[X]? = some (.cells #[v0, v1, v2, c3, c4, c5, c6, c7, c8, c9, c10, c11, c12] T (0, 0)) := Lib.heap_setCell_same (i := 2) h1 v2
  have h3 : ((((w.setCell ⟨X, 0, none⟩ v0).setCell ⟨X, 1, none⟩ v1).setCell ⟨X, 2, none⟩ v2).setCell ⟨X, 3, none⟩ v3).heap[X]? = some (.cells #[v0, v1, v2, v3, c4, c5, c6, c7, c8, c9, c10, c11, c12] T (0, 0)) := Lib.heap_setCell_same (i := 3) h2 v3
  have h4 : (((((w.setCell ⟨X, 0, none⟩ v0).setCell ⟨X, 1, none⟩ v1).setCell ⟨X, 2, none⟩ v2).setCell ⟨X, 3, none⟩ v3).setCell ⟨X, 4, none⟩ v4).heap[X]? = some (.cells #[v0, v1, v2, v3, v4, c5, c6, c7, c8, c9, c10, c11, c12] T (0, 0)) := Lib.heap_setCell_same (i := 4) h3 v4
  have h5 : ((((((w.setCell ⟨X, 0, none⟩ v0).setCell ⟨X, 1, none⟩ v1).setCell ⟨X, 2, none⟩ v2).setCell ⟨X, 3, none⟩ v3).setCell ⟨X, 4, none⟩ v4).setCell ⟨X, 5, none⟩ v5).heap[X]? = some (.cells #[v0, v1, v2, v3, v4, v5, c6, c7, c8, c9, c10, c11, c12] T (0, 0)) := Lib.heap_setCell_same (i := 5) h4 v5
  have h6 : (((((((w.setCell ⟨X, 0, none⟩ v0).setCell ⟨X, 1, none⟩ v1).setCell ⟨X, 2, none⟩ v2).setCell ⟨X, 3, none⟩ v3).setCell ⟨X, 4, none⟩ v4).setCell ⟨X, 5, none⟩ v5).setCell ⟨X, 6, none⟩ v6).heap[X]? = some (.cells #[v0, v1, v2, v3, v4, v5, v6, c7, c8, c9, c10, c11, c12] T (0, 0)) := Lib.heap_setCell_same (i := 6) h5 v6
  have h7 : ((((((((w.setCell ⟨X, 0, none⟩ v0).setCell ⟨X, 1, none⟩ v1).setCell ⟨X, 2, none⟩ v2).setCell ⟨X, 3, none⟩ v3).setCell ⟨X, 4, none⟩ v4).setCell ⟨X, 5, none⟩ v5).setCell ⟨X, 6, none⟩ v6).setCell ⟨X, 7, none⟩ v7).heap[X]? = some (.cells #[v0, v1, v2, v3, v4, v5, v6, v7, c8, c9, c10, c11, c12] T (0, 0)) := Lib.heap_setCell_same (i := 7) h6 v7
  have h8 : (((((((((w.setCell ⟨X, 0, none⟩ v0).setCell ⟨X, 1, none⟩ v1).setCell ⟨X, 2, none⟩ v2).setCell ⟨X, 3, none⟩ v3).setCell ⟨X, 4, none⟩ v4).setCell ⟨X, 5, none⟩ v5).setCell ⟨X, 6, none⟩ v6).setCell ⟨X, 7, none⟩ v7).setCell ⟨X, 8, none⟩ v8).heap[X]? = some (.cells #[v0, v1, v2, v3, v4, v5, v6, v7, v8, c9, c10, c11, c12] T (0, 0)) := Lib.heap_setCell_same (i := 8) h7 v8
  have h9 : ((((((((((w.setCell ⟨X, 0, none⟩ v0).setCell ⟨X, 1, none⟩ v1).setCell ⟨X, 2, none⟩ v2).setCell ⟨X, 3, none⟩ v3).setCell ⟨X, 4, none⟩ v4).setCell ⟨X, 5, none⟩ v5).setCell ⟨X, 6, none⟩ v6).setCell ⟨X, 7, none⟩ v7).setCell ⟨X, 8, none⟩ v8).setCell ⟨X, 9, none⟩ v9).heap[X]? = some (.cells #[v0, v1, v2, v3, v4, v5, v6, v7, v8, v9, c10, c11, c12] T (0, 0)) := Lib.heap_setCell_same (i := 9) h8 v9
  have h10 : (((((((((((w.setCell ⟨X, 0, none⟩ v0).setCell ⟨X, 1, none⟩ v1).setCell ⟨X, 2, none⟩ v2).setCell ⟨X, 3, none⟩ v3).setCell ⟨X, 4, none⟩ v4).setCell ⟨X, 5, none⟩ v5).setCell ⟨X, 6, none⟩ v6).setCell ⟨X, 7, none⟩ v7).setCell ⟨X, 8, none⟩ v8).setCell ⟨X, 9, none⟩ v9).setCell ⟨X, 10, none⟩ v10).heap[X]? = some (.cells #[v0, v1, v2, v3, v4, v5, v6, v7, v8, v9, v10, c11, c12] T (0, 0)) := Lib.heap_setCell_same (i := 10) h9 v10
  have h11 : ((((((((((((w.setCell ⟨X, 0, none⟩ v0).setCell ⟨X, 1, none⟩ v1).setCell ⟨X, 2, none⟩ v2).setCell ⟨X, 3, none⟩ v3).setCell ⟨X, 4, none⟩ v4).setCell ⟨X, 5, none⟩ v5).setCell ⟨X, 6, none⟩ v6).setCell ⟨X, 7, none⟩ v7).setCell ⟨X, 8, none⟩ v8).setCell ⟨X, 9, none⟩ v9).setCell ⟨X, 10, none⟩ v10).setCell ⟨X, 11, none⟩ v11).heap[X]? = some (.cells #[v0, v1, v2, v3, v4, v5, v6, v7, v8, v9, v10, v11, c12] T (0, 0)) := Lib.heap_setCell_same (i := 11) h10 v11
  have h12 : (((((((((((((w.setCell ⟨X, 0, none⟩ v0).setCell ⟨X, 1, none⟩ v1).setCell ⟨X, 2, none⟩ v2).setCell ⟨X, 3, none⟩ v3).setCell ⟨X, 4, none⟩ v4).setCell ⟨X, 5, none⟩ v5).setCell ⟨X, 6, none⟩ v6).setCell ⟨X, 7, none⟩ v7).setCell ⟨X, 8, none⟩ v8).setCell ⟨X, 9, none⟩ v9).setCell ⟨X, 10, none⟩ v10).setCell ⟨X, 11, none⟩ v11).setCell ⟨X, 12, none⟩ v12).heap[X]? = some (.cells #[v0, v1, v2, v3, v4, v5, v6, v7, v8, v9, v10, v11, v12] T (0, 0)) := Lib.heap_setCell_same (i := 12) h11 v12
  unfold fill13
  exact h12
theorem fill13_below {B : Nat} {a w : World} (h : Below B a w) {X : Nat} (hX : B ≤ X) (v0 v1 v2 v3 v4 v5 v6 v7 v8 v9 v10 v11 v12 : Value) : Below B a (fill13 w X v0 v1 v2 v3 v4 v5 v6 v7 v8 v9 v10 v11 v12) := by
  unfold fill13
  have h0 := h.setCell (p := ⟨X, 0, none⟩) hX v0
  have h1 := h0.setCell (p := ⟨X, 1, none⟩) hX v1
  have h2 := h1.setCell (p := ⟨X, 2, none⟩) hX v2
  have h3 := h2.setCell (p := ⟨X, 3, none⟩) hX v3
  have h4 := h3.setCell (p := ⟨X, 4, none⟩) hX v4
  have h5 := h4.setCell (p := ⟨X, 5, none⟩) hX v5
  have h6 := h5.setCell (p := ⟨X, 6, none⟩) hX v6
  have h7 := h6.setCell (p := ⟨X, 7, none⟩) hX v7
  have h8 := h7.setCell (p := ⟨X, 8, none⟩) hX v8
  have h9 := h8.setCell (p := ⟨X, 9, none⟩) hX v9
  have h10 := h9.setCell (p := ⟨X, 10, none⟩) hX v10
  have h11 := h10.setCell (p := ⟨X, 11, none⟩) hX v11
  have h12 := h11.setCell (p := ⟨X, 12, none⟩) hX v12
  exact h12

set_option maxHeartbeats 16000000 in
set_option maxRecDepth 100000 in
theorem same_gen (site num kd lg dt ar orn dy st be : Int) (site' num' kd' lg' dt' ar' orn' dy' st' be' : Int) (ho go lo ho' go' lo' : Option Addr) (hn hc gn gc ln lc hn' hc' gn' gc' ln' lc' : Nat) (b1 b2 b3 : Bool) (w : World)
    (q1 : ∀ w', Below w.heap.size w w' → Calls Tryz.prog 37 #[.slice ho hn hc, .slice ho' hn' hc'] w' fun e w'' => e = .returned (.bool b1) ∧ Below w'.heap.size w' w'')
    (q2 : ∀ w', Below w.heap.size w w' → Calls Tryz.prog 38 #[.slice go gn gc, .slice go' gn' gc'] w' fun e w'' => e = .returned (.bool b2) ∧ Below w'.heap.size w' w'')
    (q3 : ∀ w', Below w.heap.size w w' → Calls Tryz.prog 39 #[.slice lo ln lc, .slice lo' ln' lc'] w' fun e w'' => e = .returned (.bool b3) ∧ Below w'.heap.size w' w'') :
    Calls Tryz.prog 15 #[.agg #[.int .i64 site, .int .i64 num, .int .i64 kd, .int .i64 lg, .int .i64 dt, .slice ho hn hc, .slice go gn gc, .int .i64 ar, .int .i64 orn, .int .i64 dy, .slice lo ln lc, .int .i64 st, .int .i64 be], .agg #[.int .i64 site', .int .i64 num', .int .i64 kd', .int .i64 lg', .int .i64 dt', .slice ho' hn' hc', .slice go' gn' gc', .int .i64 ar', .int .i64 orn', .int .i64 dy', .slice lo' ln' lc', .int .i64 st', .int .i64 be']] w fun e w' => e = .returned (.bool (decide (kd = kd') && (decide (lg = lg') && decide (dt = dt')) && decide (ar = ar') && decide (orn = orn') && decide (dy = dy') && decide (st = st') && decide (be = be') && b1 && b2 && b3)) ∧ Below w.heap.size w w' := by
  by_cases hkd : kd = kd'
  rotate_left
  · have hb : (decide (kd = kd') && (decide (lg = lg') && decide (dt = dt')) && decide (ar = ar') && decide (orn = orn') && decide (dy = dy') && decide (st = st') && decide (be = be') && b1 && b2 && b3) = false := by simp [hkd]
    rw [hb]
    clear hb q1 q2 q3
    go_enter Tryz.func15, Tryz.ntmps15
    go_wp2
    go_ret
    exact ⟨rfl, ((Below.refl _ w).alloc (Nat.le_refl _) _).alloc (by simp) _⟩
  subst hkd
  by_cases hlg : lg = lg'
  rotate_left
  · have hb : (decide (kd = kd) && (decide (lg = lg') && decide (dt = dt')) && decide (ar = ar') && decide (orn = orn') && decide (dy = dy') && decide (st = st') && decide (be = be') && b1 && b2 && b3) = false := by simp [hlg]
    rw [hb]
    clear hb q1 q2 q3
    go_enter Tryz.func15, Tryz.ntmps15
    go_wp2
    go_ret
    exact ⟨rfl, ((Below.refl _ w).alloc (Nat.le_refl _) _).alloc (by simp) _⟩
  subst hlg
  by_cases hdt : dt = dt'
  rotate_left
  · have hb : (decide (kd = kd) && (decide (lg = lg) && decide (dt = dt')) && decide (ar = ar') && decide (orn = orn') && decide (dy = dy') && decide (st = st') && decide (be = be') && b1 && b2 && b3) = false := by simp [hdt]
    rw [hb]
    clear hb q1 q2 q3
    go_enter Tryz.func15, Tryz.ntmps15
    go_wp2
    go_ret
    exact ⟨rfl, ((Below.refl _ w).alloc (Nat.le_refl _) _).alloc (by simp) _⟩
  subst hdt
  by_cases har : ar = ar'
  rotate_left
  · have hb : (decide (kd = kd) && (decide (lg = lg) && decide (dt = dt)) && decide (ar = ar') && decide (orn = orn') && decide (dy = dy') && decide (st = st') && decide (be = be') && b1 && b2 && b3) = false := by simp [har]
    rw [hb]
    clear hb q1 q2 q3
    go_enter Tryz.func15, Tryz.ntmps15
    go_wp2
    go_ret
    exact ⟨rfl, ((Below.refl _ w).alloc (Nat.le_refl _) _).alloc (by simp) _⟩
  subst har
  by_cases horn : orn = orn'
  rotate_left
  · have hb : (decide (kd = kd) && (decide (lg = lg) && decide (dt = dt)) && decide (ar = ar) && decide (orn = orn') && decide (dy = dy') && decide (st = st') && decide (be = be') && b1 && b2 && b3) = false := by simp [horn]
    rw [hb]
    clear hb q1 q2 q3
    go_enter Tryz.func15, Tryz.ntmps15
    go_wp2
    go_ret
    exact ⟨rfl, ((Below.refl _ w).alloc (Nat.le_refl _) _).alloc (by simp) _⟩
  subst horn
  by_cases hdy : dy = dy'
  rotate_left
  · have hb : (decide (kd = kd) && (decide (lg = lg) && decide (dt = dt)) && decide (ar = ar) && decide (orn = orn) && decide (dy = dy') && decide (st = st') && decide (be = be') && b1 && b2 && b3) = false := by simp [hdy]
    rw [hb]
    clear hb q1 q2 q3
    go_enter Tryz.func15, Tryz.ntmps15
    go_wp2
    go_ret
    exact ⟨rfl, ((Below.refl _ w).alloc (Nat.le_refl _) _).alloc (by simp) _⟩
  subst hdy
  by_cases hst : st = st'
  rotate_left
  · have hb : (decide (kd = kd) && (decide (lg = lg) && decide (dt = dt)) && decide (ar = ar) && decide (orn = orn) && decide (dy = dy) && decide (st = st') && decide (be = be') && b1 && b2 && b3) = false := by simp [hst]
    rw [hb]
    clear hb q1 q2 q3
    go_enter Tryz.func15, Tryz.ntmps15
    go_wp2
    go_ret
    exact ⟨rfl, ((Below.refl _ w).alloc (Nat.le_refl _) _).alloc (by simp) _⟩
  subst hst
  by_cases hbe : be = be'
  rotate_left
  · have hb : (decide (kd = kd) && (decide (lg = lg) && decide (dt = dt)) && decide (ar = ar) && decide (orn = orn) && decide (dy = dy) && decide (st = st) && decide (be = be') && b1 && b2 && b3) = false := by simp [hbe]
    rw [hb]
    clear hb q1 q2 q3
    go_enter Tryz.func15, Tryz.ntmps15
    go_wp2
    go_ret
    exact ⟨rfl, ((Below.refl _ w).alloc (Nat.le_refl _) _).alloc (by simp) _⟩
  subst hbe
  simp only [decide_true, Bool.true_and]
  have b0 := (Below.refl w.heap.size w).alloc (Nat.le_refl _) (.cells #[.int .i64 site, .int .i64 num, .int .i64 kd, .int .i64 lg, .int .i64 dt, .slice ho hn hc, .slice go gn gc, .int .i64 ar, .int .i64 orn, .int .i64 dy, .slice lo ln lc, .int .i64 st, .int .i64 be] 30)
  have b00 := b0.alloc b0.size (.cells #[.int .i64 site', .int .i64 num', .int .i64 kd, .int .i64 lg, .int .i64 dt, .slice ho' hn' hc', .slice go' gn' gc', .int .i64 ar, .int .i64 orn, .int .i64 dy, .slice lo' ln' lc', .int .i64 st, .int .i64 be] 30)
  have z0 := Lib.alloc_old (w.alloc (.cells #[.int .i64 site, .int .i64 num, .int .i64 kd, .int .i64 lg, .int .i64 dt, .slice ho hn hc, .slice go gn gc, .int .i64 ar, .int .i64 orn, .int .i64 dy, .slice lo ln lc, .int .i64 st, .int .i64 be] 30)) (.cells #[.int .i64 site', .int .i64 num', .int .i64 kd, .int .i64 lg, .int .i64 dt, .slice ho' hn' hc', .slice go' gn' gc', .int .i64 ar, .int .i64 orn, .int .i64 dy, .slice lo' ln' lc', .int .i64 st, .int .i64 be] 30) w.heap.size (by simp)
  have z0' := z0.trans (heap_alloc_new w _)
  have z1 := heap_alloc_new (w.alloc (.cells #[.int .i64 site, .int .i64 num, .int .i64 kd, .int .i64 lg, .int .i64 dt, .slice ho hn hc, .slice go gn gc, .int .i64 ar, .int .i64 orn, .int .i64 dy, .slice lo ln lc, .int .i64 st, .int .i64 be] 30)) (.cells #[.int .i64 site', .int .i64 num', .int .i64 kd, .int .i64 lg, .int .i64 dt, .slice ho' hn' hc', .slice go' gn' gc', .int .i64 ar, .int .i64 orn, .int .i64 dy, .slice lo' ln' lc', .int .i64 st, .int .i64 be] 30)
  have es : (w.alloc (.cells #[.int .i64 site, .int .i64 num, .int .i64 kd, .int .i64 lg, .int .i64 dt, .slice ho hn hc, .slice go gn gc, .int .i64 ar, .int .i64 orn, .int .i64 dy, .slice lo ln lc, .int .i64 st, .int .i64 be] 30)).heap.size = w.heap.size + 1 := by simp
  rw [es] at z1
  clear z0 es
  go_enter Tryz.func15, Tryz.ntmps15
  go_wp2_with (go_at_call 37; refine (q1 _ b00).mono ?_)
  intro e w1; first | (intro he c1; subst he) | rintro ⟨rfl, c1⟩
  have y0 := (c1.block w.heap.size (by simp; omega)).trans z0'
  have y1 := (c1.block (w.heap.size + 1) (by simp)).trans z1
  have bb1 := b00.trans (c1.mono b00.size)
  clear z0' z1 c1 b0 b00
  have u0 : w1.cell? ⟨w.heap.size, 6, none⟩ = some (.slice go gn gc) := by rw [Lib.cell_of_heap y0]; rfl
  have u1 : w1.cell? ⟨w.heap.size + 1, 6, none⟩ = some (.slice go' gn' gc') := by rw [Lib.cell_of_heap y1]; rfl
  cases b1
  · go_wp2
    go_ret
    exact ⟨rfl, bb1⟩
  go_wp2_with (go_at_call 38; refine (q2 _ bb1).mono ?_)
  intro e w2; first | (intro he c2; subst he) | rintro ⟨rfl, c2⟩
  have x0 := (c2.block w.heap.size (Array.getElem?_eq_some_iff.1 y0).1).trans y0
  have x1 := (c2.block (w.heap.size + 1) (Array.getElem?_eq_some_iff.1 y1).1).trans y1
  have bb2 := bb1.trans (c2.mono bb1.size)
  have v0 : w2.cell? ⟨w.heap.size, 10, none⟩ = some (.slice lo ln lc) := by rw [Lib.cell_of_heap x0]; rfl
  have v1 : w2.cell? ⟨w.heap.size + 1, 10, none⟩ = some (.slice lo' ln' lc') := by rw [Lib.cell_of_heap x1]; rfl
  clear y0 y1 u0 u1 c2 bb1
  cases b2
  · go_wp2
    go_ret
    exact ⟨rfl, bb2⟩
  go_wp2_with (go_at_call 39; refine (q3 _ bb2).mono ?_)
  intro e w3; first | (intro he c3; subst he) | rintro ⟨rfl, c3⟩
  cases b3
  all_goals go_wp2
  all_goals go_ret
  all_goals exact ⟨rfl, bb2.trans (c3.mono bb2.size)⟩


end Go.Proofs.YtholnnabakaliaaGreatDoor
