/-
  A part of the proof that the law ParserSheets (chapter 19) returns true for every sheet: walks of the program's functions, and runs of them in the kernel by the own evaluator.
-/
import Derived.Test.YtjnkppneilmpbaaGreatDoorPra
import Derived.Test.YtjnkppneilmpbaaGreatDoorLxj
import Derived.Deep.LoopGhost
namespace Go.Proofs.YtjnkppneilmpbaaGreatDoor
open Go.RowKit

theorem Tryz.sizeId : (Tryz.prog.info? 42).map (·.size) = some 2 := by kernel_rfl
theorem Away.heap {bs : List Nat} {w w' : World} (h : Away bs w w') {b : Nat} {o : Obj} (ho : w.heap[b]? = some o) (hn : b ∉ bs) : w'.heap[b]? = some o :=
  (h.block b (Array.getElem?_eq_some_iff.1 ho).1 hn).trans ho

section
variable {Y M : Nat} {tv : Value} {toks : List Tok} {pos : Nat} {line col e : Int} {free : Bool} {ls ln : Int} {es : Array MapEntry} {clk : Nat} {w : World} {t : Tok}
theorem Prs.elsewhere (h : Prs Y M tv toks pos line col e free ls ln es clk w) {k : Nat} {cs : Array Value} {T : TypeId} {fr : Nat × Nat} (hk : w.heap[k]? = some (.cells cs T fr)) (hT : T ≠ 99) (hT2 : T ≠ 111) (i : Nat) (u : Value) :
    Prs Y M tv toks pos line col e free ls ln es clk (w.setCell ⟨k, i, none⟩ u) := by
  have hY : Y ≠ k := by
    rintro rfl
    rw [h.blk] at hk
    injection hk with hk
    injection hk with _ h2 _
    exact hT h2.symm
  have hM : M ≠ k := by
    rintro rfl
    rw [h.map] at hk
    injection hk with hk
    cases hk
  refine ⟨(Below.heap_setCell _ _ _ _ hY).trans h.blk, (Below.heap_setCell _ _ _ _ hM).trans h.map, fun he => own_step (h.row he) fun j hj => Below.heap_setCell _ _ _ _ (fun e => ?_)⟩
  exact own_ne (h.row he) hk (by intro cs' fr' hc; injection hc with _ h2 _; exact hT2 h2) (by rw [hj, e])

def atS : ByteArray := ⟨#[64]⟩
def dotS : ByteArray := ⟨#[46]⟩

set_option maxHeartbeats 8000000 in
set_option maxRecDepth 100000 in
theorem written_ok (h : Prs Y M tv toks pos line col 0 free ls ln es clk w) {t0 t1 t2 t3 : Tok} (ht0 : toks[pos]? = some t0) (ht1 : toks[pos + 1]? = some t1) (ht2 : toks[pos + 2]? = some t2) (ht3 : toks[pos + 3]? = some t3) (k0 : IsTok t0 atS = true) (k1 : t1.kind = 2) (k2 : IsTok t2 dotS = true) (k3 : t3.kind = 2) (hpos : pos ≤ 1048000) (hs0 : 0 ≤ t1.value) (hsx : t1.value ≤ 99) (hn0 : 1 ≤ t3.value) (hn1 : t3.value ≤ 1073741824) :
    Calls Tryz.prog 28 #[.pointer (some ⟨Y, 0, none⟩)] w fun r w' => r = .returned (.agg #[.int .i64 t1.value, .int .i64 t3.value]) ∧ Prs Y M tv toks (pos + 4) line col 0 free ls ln es clk w' ∧ Away [Y] w w' := by
  have lY := h.lt
  have hRY : w.heap.size ≠ Y := by omega
  have h0 := h.step ((Below.refl _ w).alloc (Nat.le_refl _) (.cells #[.int .i64 0, .int .i64 0] 42))
  have hR0 := heap_alloc_new w (.cells #[.int .i64 0, .int .i64 0] 42)
  have b0 := (Below.refl w.heap.size w).alloc (Nat.le_refl _) (.cells #[.int .i64 0, .int .i64 0] 42)
  have x1 := expect_yes h0 ht0 atS k0 (by omega)
  go_enter Tryz.func28, Tryz.ntmps28
  go_wp2_with (go_at_call 25; refine x1.mono ?_)
  intro r w1; first | (intro he hs1 b1; subst he) | rintro ⟨rfl, hs1, b1⟩
  generalize hR : w.heap.size = R at hRY hR0 b0 ⊢
  have h1 := hs1
  have hR1 := b1.heap hR0 (by simpa using hRY)
  have x2 := number_ok h1 ht1 k1 (by omega) 0 99 hs0 hsx
  go_wp2_with (go_at_call 50; refine x2.mono ?_)
  intro r w2; first | (intro he hs2 b2; subst he) | rintro ⟨rfl, hs2, b2⟩
  have h2 := hs2
  have hR2 := b2.heap hR1 (by simpa using hRY)
  have lR2 := (Array.getElem?_eq_some_iff.1 hR2).1
  have lY2 := h2.lt
  have hRI : R ≤ w2.heap.size := by omega
  have hI2 := heap_alloc_new w2 (.cells #[.int .i64 t1.value, .int .i64 0] 42)
  have h2' := h2.step ((Below.refl _ w2).alloc (Nat.le_refl _) (.cells #[.int .i64 t1.value, .int .i64 0] 42))
  have b2' := (Away.refl [Y] w2).alloc (.cells #[.int .i64 t1.value, .int .i64 0] 42)
  have hR2' := b2'.heap hR2 (by simpa using hRY)
  have hIY : w2.heap.size ≠ Y := by omega
  have hIR : w2.heap.size ≠ R := by omega
  have x3 := expect_yes h2' ht2 dotS k2 (by omega)
  go_wp2_with (go_at_call 25; refine x3.mono ?_)
  intro r w4; first | (intro he hs3 b3; subst he) | rintro ⟨rfl, hs3, b3⟩
  generalize w2.heap.size = I at hI2 hIY hIR hRI ⊢
  have h3 := hs3
  have hR3 := b3.heap hR2' (by simpa using hRY)
  have hI3 := b3.heap hI2 (by simpa using hIY)
  have x4 := number_ok h3 ht3 k3 (by omega) 1 1073741824 hn0 hn1
  go_wp2_with (go_at_call 50; refine x4.mono ?_)
  intro r w5; first | (intro he hs4 b4; subst he) | rintro ⟨rfl, hs4, b4⟩
  have h4 := hs4
  have hR4 := b4.heap hR3 (by simpa using hRY)
  have hI4 := b4.heap hI3 (by simpa using hIY)
  have aw := (((Away.of_below (bs := [Y]) (hR ▸ b0)).trans b1).trans b2).trans (b2'.trans (b3.trans b4))
  clear x1 x2 x3 x4 h h0 h1 h2 h2' h3 hR0 hR1 hR2 hR2' hR3 hI2 hI3 b0 b1 b2 b2' b3 b4 lR2 lY2
  have i0 : w5.cell? ⟨I, 0, none⟩ = some (.int .i64 t1.value) := by rw [Lib.cell_of_heap hI4]; rfl
  have i1 : w5.cell? ⟨I, 1, none⟩ = some (.int .i64 0) := by rw [Lib.cell_of_heap hI4]; rfl
  have r0 : w5.cell? ⟨R, 0, none⟩ = some (.int .i64 0) := by rw [Lib.cell_of_heap hR4]; rfl
  have r1 : w5.cell? ⟨R, 1, none⟩ = some (.int .i64 0) := by rw [Lib.cell_of_heap hR4]; rfl
  have fi0 : w5.frozen? ⟨I, 0, none⟩ = false := Lib.frozen_of_heap hI4 0
  have fi1 : w5.frozen? ⟨I, 1, none⟩ = false := Lib.frozen_of_heap hI4 1
  have fr0 : w5.frozen? ⟨R, 0, none⟩ = false := Lib.frozen_of_heap hR4 0
  have fr1 : w5.frozen? ⟨R, 1, none⟩ = false := Lib.frozen_of_heap hR4 1
  have hI5 := Lib.heap_setCell_same (i := 1) hI4 (.int .i64 t3.value)
  have hR5 : (w5.setCell ⟨I, 1, none⟩ (.int .i64 t3.value)).heap[R]? = _ := (Below.heap_setCell w5 ⟨I, 1, none⟩ (.int .i64 t3.value) R (fun e => hIR e.symm)).trans hR4
  have hR6 := Lib.heap_setCell_same (i := 1) (Lib.heap_setCell_same (i := 0) hR5 (.int .i64 t1.value)) (.int .i64 t3.value)
  have h6 := ((h4.elsewhere hI4 (by decide) (by decide) 1 (.int .i64 t3.value)).elsewhere hR5 (by decide) (by decide) 0 (.int .i64 t1.value)).elsewhere (Lib.heap_setCell_same (i := 0) hR5 (.int .i64 t1.value)) (by decide) (by decide) 1 (.int .i64 t3.value)
  have aw6 := ((aw.setCell (p := ⟨I, 1, none⟩) (.inr (by rw [hR]; exact hRI)) (.int .i64 t3.value)).setCell (p := ⟨R, 0, none⟩) (.inr (by rw [hR]; exact Nat.le_refl _)) (.int .i64 t1.value)).setCell (p := ⟨R, 1, none⟩) (.inr (by rw [hR]; exact Nat.le_refl _)) (.int .i64 t3.value)
  clear h4 hI4 hR4 hI5 hR5 aw
  go_wp2
  refine bodyPost_ret (results_cell_row rfl _ _ R 42 _ (0, 0) _ rfl hR6 Tryz.underlying42 rfl Tryz.sizeId) rfl ?_
  exact ⟨rfl, h6, aw6⟩

set_option maxHeartbeats 8000000 in
set_option maxRecDepth 100000 in
theorem written_site (h : Prs Y M tv toks pos line col 0 free ls ln es clk w) {t0 t1 : Tok} (ht0 : toks[pos]? = some t0) (ht1 : toks[pos + 1]? = some t1) (k0 : IsTok t0 atS = true) (k1 : t1.kind = 2) (hpos : pos ≤ 1048000) (hr : t1.value < 0 ∨ 99 < t1.value) :
    Calls Tryz.prog 28 #[.pointer (some ⟨Y, 0, none⟩)] w fun r w' => r = .returned (.agg #[.int .i64 0, .int .i64 0]) ∧ Prs Y M tv toks (pos + 1) t1.line t1.col 2 free ls ln es clk w' ∧ Away [Y] w w' := by
  have lY := h.lt
  have hRY : w.heap.size ≠ Y := by omega
  have h0 := h.step ((Below.refl _ w).alloc (Nat.le_refl _) (.cells #[.int .i64 0, .int .i64 0] 42))
  have hR0 := heap_alloc_new w (.cells #[.int .i64 0, .int .i64 0] 42)
  have b0 := (Below.refl w.heap.size w).alloc (Nat.le_refl _) (.cells #[.int .i64 0, .int .i64 0] 42)
  have x1 := expect_yes h0 ht0 atS k0 (by omega)
  go_enter Tryz.func28, Tryz.ntmps28
  go_wp2_with (go_at_call 25; refine x1.mono ?_)
  intro r w1; first | (intro he hs1 b1; subst he) | rintro ⟨rfl, hs1, b1⟩
  generalize hR : w.heap.size = R at hRY hR0 b0 ⊢
  have h1 := hs1
  have hR1 := b1.heap hR0 (by simpa using hRY)
  have x2 := number_range h1 ht1 k1 0 99 hr
  go_wp2_with (go_at_call 50; refine x2.mono ?_)
  intro r w2; first | (intro he hs2 b2; subst he) | rintro ⟨rfl, hs2, b2⟩
  have h2 := hs2
  have hR2 := b2.heap hR1 (by simpa using hRY)
  have lR2 := (Array.getElem?_eq_some_iff.1 hR2).1
  have lY2 := h2.lt
  have hRI : R ≤ w2.heap.size := by omega
  have hI2 := heap_alloc_new w2 (.cells #[.int .i64 0, .int .i64 0] 42)
  have h2' := h2.step ((Below.refl _ w2).alloc (Nat.le_refl _) (.cells #[.int .i64 0, .int .i64 0] 42))
  have b2' := (Away.refl [Y] w2).alloc (.cells #[.int .i64 0, .int .i64 0] 42)
  have hR2' := b2'.heap hR2 (by simpa using hRY)
  have hIY : w2.heap.size ≠ Y := by omega
  have hIR : w2.heap.size ≠ R := by omega
  have x3 := expect_err h2' (by decide) dotS
  go_wp2_with (go_at_call 25; refine x3.mono ?_)
  intro r w4; first | (intro he b3; subst he) | rintro ⟨rfl, b3⟩
  generalize w2.heap.size = I at hI2 hIY hIR hRI ⊢
  have h3 := h2'.step b3; replace b3 := Away.of_below (bs := [Y]) b3
  have hR3 := b3.heap hR2' (by simpa using hRY)
  have hI3 := b3.heap hI2 (by simpa using hIY)
  have x4 := number_err h3 (by decide) 1 1073741824
  go_wp2_with (go_at_call 50; refine x4.mono ?_)
  intro r w5; first | (intro he b4; subst he) | rintro ⟨rfl, b4⟩
  have h4 := h3.step b4; replace b4 := Away.of_below (bs := [Y]) b4
  have hR4 := b4.heap hR3 (by simpa using hRY)
  have hI4 := b4.heap hI3 (by simpa using hIY)
  have aw := (((Away.of_below (bs := [Y]) (hR ▸ b0)).trans b1).trans b2).trans (b2'.trans (b3.trans b4))
  clear x1 x2 x3 x4 h h0 h1 h2 h2' h3 hR0 hR1 hR2 hR2' hR3 hI2 hI3 b0 b1 b2 b2' b3 b4 lR2 lY2
  have i0 : w5.cell? ⟨I, 0, none⟩ = some (.int .i64 0) := by rw [Lib.cell_of_heap hI4]; rfl
  have i1 : w5.cell? ⟨I, 1, none⟩ = some (.int .i64 0) := by rw [Lib.cell_of_heap hI4]; rfl
  have r0 : w5.cell? ⟨R, 0, none⟩ = some (.int .i64 0) := by rw [Lib.cell_of_heap hR4]; rfl
  have r1 : w5.cell? ⟨R, 1, none⟩ = some (.int .i64 0) := by rw [Lib.cell_of_heap hR4]; rfl
  have fi0 : w5.frozen? ⟨I, 0, none⟩ = false := Lib.frozen_of_heap hI4 0
  have fi1 : w5.frozen? ⟨I, 1, none⟩ = false := Lib.frozen_of_heap hI4 1
  have fr0 : w5.frozen? ⟨R, 0, none⟩ = false := Lib.frozen_of_heap hR4 0
  have fr1 : w5.frozen? ⟨R, 1, none⟩ = false := Lib.frozen_of_heap hR4 1
  have hI5 := Lib.heap_setCell_same (i := 1) hI4 (.int .i64 0)
  have hR5 : (w5.setCell ⟨I, 1, none⟩ (.int .i64 0)).heap[R]? = _ := (Below.heap_setCell w5 ⟨I, 1, none⟩ (.int .i64 0) R (fun e => hIR e.symm)).trans hR4
  have hR6 := Lib.heap_setCell_same (i := 1) (Lib.heap_setCell_same (i := 0) hR5 (.int .i64 0)) (.int .i64 0)
  have h6 := ((h4.elsewhere hI4 (by decide) (by decide) 1 (.int .i64 0)).elsewhere hR5 (by decide) (by decide) 0 (.int .i64 0)).elsewhere (Lib.heap_setCell_same (i := 0) hR5 (.int .i64 0)) (by decide) (by decide) 1 (.int .i64 0)
  have aw6 := ((aw.setCell (p := ⟨I, 1, none⟩) (.inr (by rw [hR]; exact hRI)) (.int .i64 0)).setCell (p := ⟨R, 0, none⟩) (.inr (by rw [hR]; exact Nat.le_refl _)) (.int .i64 0)).setCell (p := ⟨R, 1, none⟩) (.inr (by rw [hR]; exact Nat.le_refl _)) (.int .i64 0)
  clear h4 hI4 hR4 hI5 hR5 aw
  go_wp2
  refine bodyPost_ret (results_cell_row rfl _ _ R 42 _ (0, 0) _ rfl hR6 Tryz.underlying42 rfl Tryz.sizeId) rfl ?_
  exact ⟨rfl, h6, aw6⟩

set_option maxHeartbeats 8000000 in
set_option maxRecDepth 100000 in
theorem written_num (h : Prs Y M tv toks pos line col 0 free ls ln es clk w) {t0 t1 t2 t3 : Tok} (ht0 : toks[pos]? = some t0) (ht1 : toks[pos + 1]? = some t1) (ht2 : toks[pos + 2]? = some t2) (ht3 : toks[pos + 3]? = some t3) (k0 : IsTok t0 atS = true) (k1 : t1.kind = 2) (k2 : IsTok t2 dotS = true) (k3 : t3.kind = 2) (hpos : pos ≤ 1048000) (hs0 : 0 ≤ t1.value) (hsx : t1.value ≤ 99) (hr : t3.value < 1 ∨ 1073741824 < t3.value) :
    Calls Tryz.prog 28 #[.pointer (some ⟨Y, 0, none⟩)] w fun r w' => r = .returned (.agg #[.int .i64 t1.value, .int .i64 0]) ∧ Prs Y M tv toks (pos + 3) t3.line t3.col 2 free ls ln es clk w' ∧ Away [Y] w w' := by
  have lY := h.lt
  have hRY : w.heap.size ≠ Y := by omega
  have h0 := h.step ((Below.refl _ w).alloc (Nat.le_refl _) (.cells #[.int .i64 0, .int .i64 0] 42))
  have hR0 := heap_alloc_new w (.cells #[.int .i64 0, .int .i64 0] 42)
  have b0 := (Below.refl w.heap.size w).alloc (Nat.le_refl _) (.cells #[.int .i64 0, .int .i64 0] 42)
  have x1 := expect_yes h0 ht0 atS k0 (by omega)
  go_enter Tryz.func28, Tryz.ntmps28
  go_wp2_with (go_at_call 25; refine x1.mono ?_)
  intro r w1; first | (intro he hs1 b1; subst he) | rintro ⟨rfl, hs1, b1⟩
  generalize hR : w.heap.size = R at hRY hR0 b0 ⊢
  have h1 := hs1
  have hR1 := b1.heap hR0 (by simpa using hRY)
  have x2 := number_ok h1 ht1 k1 (by omega) 0 99 hs0 hsx
  go_wp2_with (go_at_call 50; refine x2.mono ?_)
  intro r w2; first | (intro he hs2 b2; subst he) | rintro ⟨rfl, hs2, b2⟩
  have h2 := hs2
  have hR2 := b2.heap hR1 (by simpa using hRY)
  have lR2 := (Array.getElem?_eq_some_iff.1 hR2).1
  have lY2 := h2.lt
  have hRI : R ≤ w2.heap.size := by omega
  have hI2 := heap_alloc_new w2 (.cells #[.int .i64 t1.value, .int .i64 0] 42)
  have h2' := h2.step ((Below.refl _ w2).alloc (Nat.le_refl _) (.cells #[.int .i64 t1.value, .int .i64 0] 42))
  have b2' := (Away.refl [Y] w2).alloc (.cells #[.int .i64 t1.value, .int .i64 0] 42)
  have hR2' := b2'.heap hR2 (by simpa using hRY)
  have hIY : w2.heap.size ≠ Y := by omega
  have hIR : w2.heap.size ≠ R := by omega
  have x3 := expect_yes h2' ht2 dotS k2 (by omega)
  go_wp2_with (go_at_call 25; refine x3.mono ?_)
  intro r w4; first | (intro he hs3 b3; subst he) | rintro ⟨rfl, hs3, b3⟩
  generalize w2.heap.size = I at hI2 hIY hIR hRI ⊢
  have h3 := hs3
  have hR3 := b3.heap hR2' (by simpa using hRY)
  have hI3 := b3.heap hI2 (by simpa using hIY)
  have x4 := number_range h3 ht3 k3 1 1073741824 hr
  go_wp2_with (go_at_call 50; refine x4.mono ?_)
  intro r w5; first | (intro he hs4 b4; subst he) | rintro ⟨rfl, hs4, b4⟩
  have h4 := hs4
  have hR4 := b4.heap hR3 (by simpa using hRY)
  have hI4 := b4.heap hI3 (by simpa using hIY)
  have aw := (((Away.of_below (bs := [Y]) (hR ▸ b0)).trans b1).trans b2).trans (b2'.trans (b3.trans b4))
  clear x1 x2 x3 x4 h h0 h1 h2 h2' h3 hR0 hR1 hR2 hR2' hR3 hI2 hI3 b0 b1 b2 b2' b3 b4 lR2 lY2
  have i0 : w5.cell? ⟨I, 0, none⟩ = some (.int .i64 t1.value) := by rw [Lib.cell_of_heap hI4]; rfl
  have i1 : w5.cell? ⟨I, 1, none⟩ = some (.int .i64 0) := by rw [Lib.cell_of_heap hI4]; rfl
  have r0 : w5.cell? ⟨R, 0, none⟩ = some (.int .i64 0) := by rw [Lib.cell_of_heap hR4]; rfl
  have r1 : w5.cell? ⟨R, 1, none⟩ = some (.int .i64 0) := by rw [Lib.cell_of_heap hR4]; rfl
  have fi0 : w5.frozen? ⟨I, 0, none⟩ = false := Lib.frozen_of_heap hI4 0
  have fi1 : w5.frozen? ⟨I, 1, none⟩ = false := Lib.frozen_of_heap hI4 1
  have fr0 : w5.frozen? ⟨R, 0, none⟩ = false := Lib.frozen_of_heap hR4 0
  have fr1 : w5.frozen? ⟨R, 1, none⟩ = false := Lib.frozen_of_heap hR4 1
  have hI5 := Lib.heap_setCell_same (i := 1) hI4 (.int .i64 0)
  have hR5 : (w5.setCell ⟨I, 1, none⟩ (.int .i64 0)).heap[R]? = _ := (Below.heap_setCell w5 ⟨I, 1, none⟩ (.int .i64 0) R (fun e => hIR e.symm)).trans hR4
  have hR6 := Lib.heap_setCell_same (i := 1) (Lib.heap_setCell_same (i := 0) hR5 (.int .i64 t1.value)) (.int .i64 0)
  have h6 := ((h4.elsewhere hI4 (by decide) (by decide) 1 (.int .i64 0)).elsewhere hR5 (by decide) (by decide) 0 (.int .i64 t1.value)).elsewhere (Lib.heap_setCell_same (i := 0) hR5 (.int .i64 t1.value)) (by decide) (by decide) 1 (.int .i64 0)
  have aw6 := ((aw.setCell (p := ⟨I, 1, none⟩) (.inr (by rw [hR]; exact hRI)) (.int .i64 0)).setCell (p := ⟨R, 0, none⟩) (.inr (by rw [hR]; exact Nat.le_refl _)) (.int .i64 t1.value)).setCell (p := ⟨R, 1, none⟩) (.inr (by rw [hR]; exact Nat.le_refl _)) (.int .i64 0)
  clear h4 hI4 hR4 hI5 hR5 aw
  go_wp2
  refine bodyPost_ret (results_cell_row rfl _ _ R 42 _ (0, 0) _ rfl hR6 Tryz.underlying42 rfl Tryz.sizeId) rfl ?_
  exact ⟨rfl, h6, aw6⟩
end
end Go.Proofs.YtjnkppneilmpbaaGreatDoor

namespace Go.Proofs.YtjnkppneilmpbaaGreatDoor
open Go.RowKit
open Go.Lib (decDigits)

/-- The closure's cells: how many objects there are, whether their ids are written. -/
structure IdCtx (Nb Ib n : Nat) (ids : Bool) (w : World) : Prop where
  hN : w.heap[Nb]? = some (.cells #[.int .i64 (n : Int)] 3 (0, 0))
  hI : w.heap[Ib]? = some (.cells #[.bool ids] 4 (0, 0))
theorem IdCtx.ne {Nb Ib n : Nat} {ids : Bool} {w : World} (h : IdCtx Nb Ib n ids w) : Ib ≠ Nb := by
  rintro rfl
  have := h.hN.symm.trans h.hI
  injection this with this
  injection this with _ h2 _
  exact absurd h2 (by decide)
theorem IdCtx.step {Nb Ib n : Nat} {ids : Bool} {w w' : World} (h : IdCtx Nb Ib n ids w) (b : Below w.heap.size w w') : IdCtx Nb Ib n ids w' :=
  ⟨(b.block Nb (Array.getElem?_eq_some_iff.1 h.hN).1).trans h.hN, (b.block Ib (Array.getElem?_eq_some_iff.1 h.hI).1).trans h.hI⟩

set_option maxHeartbeats 8000000 in
set_option maxRecDepth 100000 in
theorem id_walk {Nb Ib n : Nat} {ids : Bool} {w : World} (h : IdCtx Nb Ib n ids w) (hn : n ≤ 500) :
    Calls Tryz.prog 13 #[.pointer (some ⟨Nb, 0, none⟩), .pointer (some ⟨Ib, 0, none⟩)] w fun r w' => (∃ z, r = .returned (.string z) ∧ TxtIs z (idL ids (n + 1))) ∧ IdCtx Nb Ib (n + 1) ids w' ∧ Away [Nb] w w' := by
  have hN := h.hN
  have hI := h.hI
  have c0 : w.cell? ⟨Nb, 0, none⟩ = some (.int .i64 (n : Int)) := by rw [Lib.cell_of_heap hN]; rfl
  have f0 := Lib.frozen_of_heap hN 0
  have i0 : w.cell? ⟨Ib, 0, none⟩ = some (.bool ids) := by rw [Lib.cell_of_heap hI]; rfl
  have hne := h.ne
  have m1 : IntKind.i64.wrap ((n : Int) + 1) = ((n + 1 : Nat) : Int) := by rw [show ((n + 1 : Nat) : Int) = (n : Int) + 1 by omega]; exact IntWalk.i64_in _ (by omega)
  have hN1 : (w.setCell ⟨Nb, 0, none⟩ (.int .i64 ((n + 1 : Nat) : Int))).heap[Nb]? = some (.cells #[.int .i64 ((n + 1 : Nat) : Int)] 3 (0, 0)) := by rw [Lib.heap_setCell_same hN]; rfl
  have hI1 : (w.setCell ⟨Nb, 0, none⟩ (.int .i64 ((n + 1 : Nat) : Int))).heap[Ib]? = some (.cells #[.bool ids] 4 (0, 0)) := (Below.heap_setCell _ _ _ _ hne).trans hI
  have aw1 : Away [Nb] w (w.setCell ⟨Nb, 0, none⟩ (.int .i64 ((n + 1 : Nat) : Int))) := (Away.of_below (Below.refl _ w)).setCell (p := ⟨Nb, 0, none⟩) (.inl (by simp)) _
  have c1 : (w.setCell ⟨Nb, 0, none⟩ (.int .i64 ((n + 1 : Nat) : Int))).cell? ⟨Nb, 0, none⟩ = some (.int .i64 ((n + 1 : Nat) : Int)) := by rw [Lib.cell_of_heap hN1]; rfl
  have i1 : (w.setCell ⟨Nb, 0, none⟩ (.int .i64 ((n + 1 : Nat) : Int))).cell? ⟨Ib, 0, none⟩ = some (.bool ids) := by rw [Lib.cell_of_heap hI1]; rfl
  clear h hN hI
  cases ids with
  | false =>
    go_enter Tryz.func13, Tryz.ntmps13
    go_wp2
    go_ret
    exact ⟨⟨_, rfl, rfl⟩, ⟨hN1, hI1⟩, aw1⟩
  | true =>
    have hd := digits_walk (n + 1) (by omega)
    have hdl : (decS (n + 1)).size ≤ 19 := decS_le (n + 1) (by omega)
    have g1 := fun ww => add_run ⟨#[64, 48, 46]⟩ (decS (n + 1)) (by decide) (by omega) ww
    have g2 := fun ww => add_run (⟨#[64, 48, 46]⟩ ++ decS (n + 1)) ⟨#[32]⟩ (by rw [ByteArray.size_append]; show 3 + _ ≤ _; omega) (by decide) ww
    have ht : TxtIs (⟨#[64, 48, 46]⟩ ++ decS (n + 1) ++ ⟨#[32]⟩) (idL true (n + 1)) := by
      have h1 : TxtIs ⟨#[64, 48, 46]⟩ [64, 48, 46] := rfl
      have h2 : TxtIs (decS (n + 1)) (decDigits (n + 1)) := rfl
      exact (h1.join h2).add (m := [32])
    go_enter Tryz.func13, Tryz.ntmps13
    go_wp2_with (go_at_call 14; refine (hd _).mono ?_)
    intro r w2; first | (intro he b2; subst he) | rintro ⟨rfl, b2⟩
    go_wp2
    go_ret
    exact ⟨⟨_, rfl, ht⟩, (IdCtx.mk hN1 hI1).step b2, aw1.trans (Away.of_below b2)⟩
end Go.Proofs.YtjnkppneilmpbaaGreatDoor
