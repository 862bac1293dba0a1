/-
  A part of the proof that the law ParserIds (chapter 19) returns true for every site, number and count: walks of the program's functions, and runs of them in the kernel by the own evaluator.
-/
import Derived.Test.YtaimdnddmddbnaaGreatDoorPrd
import Derived.MapKept
namespace Go.Proofs.YtaimdnddmddbnaaGreatDoor
open Go.RowKit

theorem ck_int (b : Bool) (n : Nat) (k : Int) (w : World) : (Instr.checkKey b (n + 1) 3 (.int .i64 k)).run Tryz.prog w = .ok () w := by
  unfold Instr.checkKey
  simp [Sem.run_bind, run_underlying Tryz.underlying3, Result.andThen]
theorem ck_int' (b : Bool) (k : Int) (w : World) : (Instr.checkKey b 10000 3 (.int .i64 k)).run Tryz.prog w = .ok () w := ck_int b 9999 k w
theorem setObj_run {M : Nat} {es : Array MapEntry} {clk : Nat} {w : World} (o : Obj) (h : w.heap[M]? = some (.map es clk)) : (setObj M o).run Tryz.prog w = .ok () { w with heap := w.heap.setIfInBounds M o } := by
  simp [setObj, Sem.run, h]
theorem getObj_run {M : Nat} {es : Array MapEntry} {clk : Nat} {w : World} (h : w.heap[M]? = some (.map es clk)) : (getObj M).run Tryz.prog w = .ok (.map es clk) w := by
  simp [getObj, Sem.run, h]
theorem find_none (k : Int) (w : World) : (Instr.findKey 3 (.int .i64 k) []).run Tryz.prog w = .ok none w := by
  unfold Instr.findKey
  simp [run_underlying Tryz.underlying3, Result.andThen, Instr.findNow]
theorem find_one (k b : Int) (born : Nat) (w : World) : (Instr.findKey 3 (.int .i64 k) [⟨.int .i64 k, .int .i64 b, born⟩]).run Tryz.prog w = .ok (some (0, .int .i64 b)) w := by
  unfold Instr.findKey
  simp [Sem.run_bind, run_underlying Tryz.underlying3, Result.andThen, Instr.findNow, Instr.sameNow]
theorem keep_run (k : Int) (w : World) : (Instr.keyThatStays (.int .i64 k) (.int .i64 k)).run Tryz.prog w = .ok (.int .i64 k) w := by
  unfold Instr.keyThatStays
  have : Instr.sameBits 10000 (.int .i64 k) (.int .i64 k) = true := by
    show Instr.sameBits (9999 + 1) _ _ = true
    unfold Instr.sameBits
    simp
  simp [this]

theorem look_none {M : Nat} {clk : Nat} {w : World} (h : w.heap[M]? = some (.map #[] clk)) (k : Int) :
    (Instr.lookup 78 (.map (some M)) (.int .i64 k) false).run Tryz.prog w = .ok (.int .i64 0) w := by
  unfold Instr.lookup
  simp only [Sem.run_bind, run_underlying Tryz.underlying78, Result.andThen_ok, getObj_run h, Sem.run_pure, ck_int', find_none, Tryz.zeroValue3, Bool.false_eq_true, if_false]
theorem look_one {M : Nat} {clk born : Nat} {w : World} {k b : Int} (h : w.heap[M]? = some (.map #[⟨.int .i64 k, .int .i64 b, born⟩] clk)) :
    (Instr.lookup 78 (.map (some M)) (.int .i64 k) false).run Tryz.prog w = .ok (.int .i64 b) w := by
  unfold Instr.lookup
  simp only [Sem.run_bind, run_underlying Tryz.underlying78, Result.andThen_ok, getObj_run h, Sem.run_pure, ck_int', find_one, Bool.false_eq_true, if_false]
theorem put_none {M : Nat} {clk : Nat} {w : World} (h : w.heap[M]? = some (.map #[] clk)) (k v : Int) :
    (Instr.mapUpdate 78 (.map (some M)) (.int .i64 k) (.int .i64 v)).run Tryz.prog w = .ok () { w with heap := w.heap.setIfInBounds M (.map #[⟨.int .i64 k, .int .i64 v, clk⟩] (clk + 1)) } := by
  unfold Instr.mapUpdate
  simp only [Sem.run_bind, run_underlying Tryz.underlying78, Result.andThen_ok, getObj_run h, ck_int', find_none]
  rw [setObj_run _ h]; rfl
theorem put_one {M : Nat} {clk born : Nat} {w : World} {k b : Int} (h : w.heap[M]? = some (.map #[⟨.int .i64 k, .int .i64 b, born⟩] clk)) (v : Int) :
    (Instr.mapUpdate 78 (.map (some M)) (.int .i64 k) (.int .i64 v)).run Tryz.prog w = .ok () { w with heap := w.heap.setIfInBounds M (.map #[⟨.int .i64 k, .int .i64 v, born⟩] clk) } := by
  unfold Instr.mapUpdate
  simp only [Sem.run_bind, run_underlying Tryz.underlying78, Result.andThen_ok, getObj_run h, ck_int', find_one]
  have e : ((#[(⟨.int .i64 k, .int .i64 b, born⟩ : MapEntry)][0]?).map (·.key)).getD (.int .i64 k) = .int .i64 k := rfl
  simp only [e, keep_run, Result.andThen_ok]
  rw [setObj_run _ h]; rfl
end Go.Proofs.YtaimdnddmddbnaaGreatDoor

namespace Go.Proofs.YtaimdnddmddbnaaGreatDoor
open Go.RowKit

/-- How the map of the greatest numbers takes a number of a site: what it had, and what it has then. -/
structure Upd (ls b0 : Int) (es : Array MapEntry) (clk : Nat) (es' : Int → Array MapEntry) (clk' : Nat) : Prop where
  look : ∀ (M : Nat) (w : World), w.heap[M]? = some (.map es clk) → (Instr.lookup 78 (.map (some M)) (.int .i64 ls) false).run Tryz.prog w = .ok (.int .i64 b0) w
  put : ∀ (M : Nat) (w : World) (v : Int), w.heap[M]? = some (.map es clk) → (Instr.mapUpdate 78 (.map (some M)) (.int .i64 ls) (.int .i64 v)).run Tryz.prog w = .ok () { w with heap := w.heap.setIfInBounds M (.map (es' v) clk') }

def entry (k v : Int) (born : Nat) : Array MapEntry := #[⟨.int .i64 k, .int .i64 v, born⟩]

theorem upd_none (ls : Int) (clk : Nat) : Upd ls 0 #[] clk (fun v => entry ls v clk) (clk + 1) := ⟨fun _ _ h => look_none h ls, fun _ _ v h => put_none h ls v⟩
theorem upd_one (ls b0 : Int) (born clk : Nat) : Upd ls b0 (entry ls b0 born) clk (fun v => entry ls v born) clk := ⟨fun _ _ h => look_one h, fun _ _ v h => put_one h v⟩

section
variable {Y M : Nat} {tv : Value} {toks : List Tok} {pos : Nat} {line col e : Int} {free : Bool} {ls ln : Int} {es : Array MapEntry} {clk : Nat} {w : World} {t : Tok}

theorem Prs.remap (h : Prs Y M tv toks pos line col e free ls ln es clk w) (es' : Array MapEntry) (clk' : Nat) : Prs Y M tv toks pos line col e free ls ln es' clk' { w with heap := w.heap.setIfInBounds M (.map es' clk') } := by
  have hne := h.ne
  refine ⟨?_, ?_, fun he => own_step (h.row he) fun k hk => ?_⟩
  · show (w.heap.setIfInBounds M _)[Y]? = _
    rw [Array.getElem?_setIfInBounds_ne (fun e => hne e.symm)]; exact h.blk
  · show (w.heap.setIfInBounds M _)[M]? = _
    rw [Array.getElem?_setIfInBounds_self_of_lt h.ltM]
  · show (w.heap.setIfInBounds M _)[k]? = _
    rw [Array.getElem?_setIfInBounds_ne]
    rintro rfl
    exact own_ne (h.row he) h.map (by intro cs' fr' hc; cases hc) hk

theorem Away.remap {bs : List Nat} {a w : World} (h : Away bs a w) {M : Nat} (hM : M ∈ bs) (o : Obj) : Away bs a { w with heap := w.heap.setIfInBounds M o } :=
  ⟨h.os, h.tape, h.output, by simpa using h.size, fun k hk hb => by
    show (w.heap.setIfInBounds M o)[k]? = _
    rw [Array.getElem?_setIfInBounds_ne (fun e => hb (by rw [← e]; exact hM))]; exact h.block k hk hb⟩

set_option maxHeartbeats 8000000 in
set_option maxRecDepth 100000 in
theorem object_next {b0 : Int} {es' : Int → Array MapEntry} {clk' : Nat} (h : Prs Y M tv toks pos line col 0 false ls ln es clk w) (ht : toks[pos]? = some t) (k : IsTok t atS = false) (hln : ln ≠ 1073741824) (hl0 : 0 ≤ ln) (hl1 : ln ≤ 1073741824)
    (U : Upd ls b0 es clk es' clk') (hb : b0 ≤ ln + 1) :
    Calls Tryz.prog 22 #[.pointer (some ⟨Y, 0, none⟩)] w fun r w' => r = .returned (.agg #[.int .i64 ls, .int .i64 (ln + 1)]) ∧ Prs Y M tv toks pos line col 0 false ls (ln + 1) (es' (ln + 1)) clk' w' ∧ Away [Y, M] w w' := by
  have hw : IntKind.i64.wrap (ln + 1) = ln + 1 := IntWalk.i64_in _ (by omega)
  have lY := h.lt
  have lM := h.ltM
  have b00 := (Below.refl w.heap.size w).alloc (Nat.le_refl _) (.cells #[.int .i64 0, .int .i64 0] 35)
  have h0 := h.step b00
  have x1 := is_ok h0 ht atS k
  have hR0 := heap_alloc_new w (.cells #[.int .i64 0, .int .i64 0] 35)
  have hRY : w.heap.size ≠ Y := by omega
  have hRM : w.heap.size ≠ M := by omega
  go_enter Tryz.func22, Tryz.ntmps22
  go_wp2_with (go_at_call 17; refine x1.mono ?_)
  intro r w1; first | (intro he b1; subst he) | rintro ⟨rfl, b1⟩
  generalize hR : w.heap.size = R at hR0 hRY hRM b00 ⊢
  have hR1 := (b1.block _ (Array.getElem?_eq_some_iff.1 hR0).1).trans hR0
  have h1 := h0.step b1
  have lR1 := (Array.getElem?_eq_some_iff.1 hR1).1
  have aw := (Away.of_below (bs := [Y, M]) (hR ▸ b00)).trans (Away.of_below b1)
  clear x1 h0 h b1 b00 hR0
  have c5 := h1.c5
  have c7 := h1.c7
  have f7 := h1.fz 7
  go_wp2
  have h2 := h1.put (pos' := pos) (line' := line) (col' := col) (e' := 0) (ls' := ls) (ln' := ln + 1) 7 (.int .i64 (ln + 1)) (fun h => h) rfl
  have aw2 := aw.setCell (p := ⟨Y, 7, none⟩) (.inl (by simp)) (.int .i64 (ln + 1))
  have hR2 := (Below.heap_setCell w1 ⟨Y, 7, none⟩ (.int .i64 (ln + 1)) R hRY).trans hR1
  generalize w1.setCell ⟨Y, 7, none⟩ (.int .i64 (ln + 1)) = w2 at h2 aw2 hR2 ⊢
  clear h1 aw hR1 c5 c7 f7 lR1
  have d6 := h2.c6
  have d7 := h2.c7
  have d8 := h2.c8
  have hlk := U.look M w2.drew h2.map
  have hput := U.put M w2.drew (ln + 1) h2.map
  have hmx : max b0 (ln + 1) = ln + 1 := by omega
  go_still_tail 25, (by kernel_rfl)
  change wpList _ _ _ _ _ w2.drew
  have h3 := (h2.step (Below.refl _ w2).drew).remap (es' (ln + 1)) clk'
  have aw3 := aw2.drew.remap (M := M) (by simp) (.map (es' (ln + 1)) clk')
  have hR3 : ({ w2.drew with heap := w2.drew.heap.setIfInBounds M (.map (es' (ln + 1)) clk') } : World).heap[R]? = some (.cells #[.int .i64 0, .int .i64 0] 35 (0, 0)) := (Array.getElem?_setIfInBounds_ne (fun e => hRM e.symm)).trans hR2
  generalize hw3 : ({ w2.drew with heap := w2.drew.heap.setIfInBounds M (.map (es' (ln + 1)) clk') } : World) = w3 at h3 aw3 hR3 hput
  clear h2 aw2 hR2 hlk
  have e6 := h3.c6
  have e7 := h3.c7
  have r0 : w3.cell? ⟨R, 0, none⟩ = some (.int .i64 0) := by rw [Lib.cell_of_heap hR3]; rfl
  have r1 : w3.cell? ⟨R, 1, none⟩ = some (.int .i64 0) := by rw [Lib.cell_of_heap hR3]; rfl
  have fr0 : w3.frozen? ⟨R, 0, none⟩ = false := Lib.frozen_of_heap hR3 0
  have fr1 : w3.frozen? ⟨R, 1, none⟩ = false := Lib.frozen_of_heap hR3 1
  have hR4 := Lib.heap_setCell_same (i := 1) (Lib.heap_setCell_same (i := 0) hR3 (.int .i64 ls)) (.int .i64 (ln + 1))
  have h4 := (h3.elsewhere hR3 (by decide) (by decide) 0 (.int .i64 ls)).elsewhere (Lib.heap_setCell_same (i := 0) hR3 (.int .i64 ls)) (by decide) (by decide) 1 (.int .i64 (ln + 1))
  have aw4 := (aw3.setCell (p := ⟨R, 0, none⟩) (.inr (by rw [hR]; exact Nat.le_refl _)) (.int .i64 ls)).setCell (p := ⟨R, 1, none⟩) (.inr (by rw [hR]; exact Nat.le_refl _)) (.int .i64 (ln + 1))
  clear h3 aw3 hR3
  go_wp2
  refine bodyPost_ret (results_cell_row rfl _ _ R 35 _ (0, 0) _ rfl hR4 Tryz.underlying35 rfl Tryz.sizeId) rfl ?_
  exact ⟨rfl, h4, aw4⟩
end
end Go.Proofs.YtaimdnddmddbnaaGreatDoor

namespace Go.Proofs.YtaimdnddmddbnaaGreatDoor
open Go.RowKit

section
variable {Y M : Nat} {tv : Value} {toks : List Tok} {pos : Nat} {line col e : Int} {free : Bool} {ls ln : Int} {es : Array MapEntry} {clk : Nat} {w : World} {t : Tok}

set_option maxHeartbeats 8000000 in
set_option maxRecDepth 100000 in
theorem object_at {b0 : Int} {es' : Int → Array MapEntry} {clk' : Nat} (h : Prs Y M tv toks pos line col 0 false ls ln es clk w) {t0 t1 t2 t3 : Tok} (ht0 : toks[pos]? = some t0) (ht1 : toks[pos + 1]? = some t1) (ht2 : toks[pos + 2]? = some t2) (ht3 : toks[pos + 3]? = some t3) (k0 : IsTok t0 atS = true) (k1 : t1.kind = 2) (k2 : IsTok t2 dotS = true) (k3 : t3.kind = 2) (hpos : pos ≤ 1048000) (hs0 : 0 ≤ t1.value) (hs1 : t1.value ≤ 99) (hn0 : 1 ≤ t3.value) (hn1 : t3.value ≤ 1073741824) (U : Upd t1.value b0 es clk es' clk') (hb : b0 ≤ t3.value) :
    Calls Tryz.prog 22 #[.pointer (some ⟨Y, 0, none⟩)] w fun r w' => r = .returned (.agg #[.int .i64 (t1.value), .int .i64 (t3.value)]) ∧ Prs Y M tv toks (pos + 4) line col 0 false (t1.value) (t3.value) (es' (t3.value)) clk' w' ∧ Away [Y, M] w w' := by
  have lY := h.lt
  have lM := h.ltM
  have b00 := (Below.refl w.heap.size w).alloc (Nat.le_refl _) (.cells #[.int .i64 0, .int .i64 0] 35)
  have h0 := h.step b00
  have x1 := is_ok h0 ht0 atS k0
  have hR0 := heap_alloc_new w (.cells #[.int .i64 0, .int .i64 0] 35)
  have hRY : w.heap.size ≠ Y := by omega
  have hRM : w.heap.size ≠ M := by omega
  go_enter Tryz.func22, Tryz.ntmps22
  go_wp2_with (go_at_call 17; refine x1.mono ?_)
  intro r w1; first | (intro he b1; subst he) | rintro ⟨rfl, b1⟩
  generalize hR : w.heap.size = R at hR0 hRY hRM b00 ⊢
  have hR1 := (b1.block _ (Array.getElem?_eq_some_iff.1 hR0).1).trans hR0
  have h1 := h0.step b1
  have lR1 := (Array.getElem?_eq_some_iff.1 hR1).1
  have aw := (Away.of_below (bs := [Y, M]) (hR ▸ b00)).trans (Away.of_below b1)
  clear x1 h0 h b1 b00 hR0
  have x2 := written_ok h1 ht0 ht1 ht2 ht3 k0 k1 k2 k3 hpos hs0 hs1 hn0 hn1
  go_wp2_with (go_at_call 16; refine x2.mono ?_)
  intro r w1b; first | (intro he hs b2; subst he) | rintro ⟨rfl, hs, b2⟩
  have hR1b := b2.heap hR1 (by simpa using hRY)
  have awb := aw.trans (b2.more (by simp))
  have f6 := hs.fz 6
  have f7 := hs.fz 7
  have c6 := hs.c6
  have c7 := hs.c7
  clear x2 h1 aw b2 hR1 lR1
  have h2 := (hs.put (pos' := (pos + 4)) (line' := line) (col' := col) (e' := 0) (ls' := t1.value) (ln' := ln) 6 (.int .i64 (t1.value)) (fun h => h) rfl).put (pos' := (pos + 4)) (line' := line) (col' := col) (e' := 0) (ls' := t1.value) (ln' := t3.value) 7 (.int .i64 (t3.value)) (fun h => h) rfl
  have aw2 := (awb.setCell (p := ⟨Y, 6, none⟩) (.inl (by simp)) (.int .i64 (t1.value))).setCell (p := ⟨Y, 7, none⟩) (.inl (by simp)) (.int .i64 (t3.value))
  have hR2 := (Below.heap_setCell (w1b.setCell ⟨Y, 6, none⟩ (.int .i64 (t1.value))) ⟨Y, 7, none⟩ (.int .i64 (t3.value)) R hRY).trans ((Below.heap_setCell w1b ⟨Y, 6, none⟩ (.int .i64 (t1.value)) R hRY).trans hR1b)
  go_wp2
  generalize (w1b.setCell ⟨Y, 6, none⟩ (.int .i64 (t1.value))).setCell ⟨Y, 7, none⟩ (.int .i64 (t3.value)) = w2 at h2 aw2 hR2 ⊢
  clear hs awb hR1b c6 c7 f6 f7
  have d6 := h2.c6
  have d7 := h2.c7
  have d8 := h2.c8
  have hlk := U.look M w2.drew h2.map
  have hput := U.put M w2.drew (t3.value) h2.map
  have hmx : max b0 (t3.value) = t3.value := by omega
  go_still_tail 25, (by kernel_rfl)
  change wpList _ _ _ _ _ w2.drew
  have h3 := (h2.step (Below.refl _ w2).drew).remap (es' (t3.value)) clk'
  have aw3 := aw2.drew.remap (M := M) (by simp) (.map (es' (t3.value)) clk')
  have hR3 : ({ w2.drew with heap := w2.drew.heap.setIfInBounds M (.map (es' (t3.value)) clk') } : World).heap[R]? = some (.cells #[.int .i64 0, .int .i64 0] 35 (0, 0)) := (Array.getElem?_setIfInBounds_ne (fun e => hRM e.symm)).trans hR2
  generalize hw3 : ({ w2.drew with heap := w2.drew.heap.setIfInBounds M (.map (es' (t3.value)) clk') } : World) = w3 at h3 aw3 hR3 hput
  clear h2 aw2 hR2 hlk
  have e6 := h3.c6
  have e7 := h3.c7
  have r0 : w3.cell? ⟨R, 0, none⟩ = some (.int .i64 0) := by rw [Lib.cell_of_heap hR3]; rfl
  have r1 : w3.cell? ⟨R, 1, none⟩ = some (.int .i64 0) := by rw [Lib.cell_of_heap hR3]; rfl
  have fr0 : w3.frozen? ⟨R, 0, none⟩ = false := Lib.frozen_of_heap hR3 0
  have fr1 : w3.frozen? ⟨R, 1, none⟩ = false := Lib.frozen_of_heap hR3 1
  have hR4 := Lib.heap_setCell_same (i := 1) (Lib.heap_setCell_same (i := 0) hR3 (.int .i64 (t1.value))) (.int .i64 (t3.value))
  have h4 := (h3.elsewhere hR3 (by decide) (by decide) 0 (.int .i64 (t1.value))).elsewhere (Lib.heap_setCell_same (i := 0) hR3 (.int .i64 (t1.value))) (by decide) (by decide) 1 (.int .i64 (t3.value))
  have aw4 := (aw3.setCell (p := ⟨R, 0, none⟩) (.inr (by rw [hR]; exact Nat.le_refl _)) (.int .i64 (t1.value))).setCell (p := ⟨R, 1, none⟩) (.inr (by rw [hR]; exact Nat.le_refl _)) (.int .i64 (t3.value))
  clear h3 aw3 hR3
  go_wp2
  refine bodyPost_ret (results_cell_row rfl _ _ R 35 _ (0, 0) _ rfl hR4 Tryz.underlying35 rfl Tryz.sizeId) rfl ?_
  exact ⟨rfl, h4, aw4⟩
set_option maxHeartbeats 8000000 in
set_option maxRecDepth 100000 in
theorem object_num {b0 : Int} {es' : Int → Array MapEntry} {clk' : Nat} (h : Prs Y M tv toks pos line col 0 false ls ln es clk w) {t0 t1 t2 t3 : Tok} (ht0 : toks[pos]? = some t0) (ht1 : toks[pos + 1]? = some t1) (ht2 : toks[pos + 2]? = some t2) (ht3 : toks[pos + 3]? = some t3) (k0 : IsTok t0 atS = true) (k1 : t1.kind = 2) (k2 : IsTok t2 dotS = true) (k3 : t3.kind = 2) (hpos : pos ≤ 1048000) (hs0 : 0 ≤ t1.value) (hs1 : t1.value ≤ 99) (hr : t3.value < 1 ∨ 1073741824 < t3.value) (U : Upd t1.value b0 es clk es' clk') (hb : b0 ≤ 0) :
    Calls Tryz.prog 22 #[.pointer (some ⟨Y, 0, none⟩)] w fun r w' => r = .returned (.agg #[.int .i64 (t1.value), .int .i64 (0)]) ∧ Prs Y M tv toks (pos + 3) 1 t3.col 2 false (t1.value) (0) (es' (0)) clk' w' ∧ Away [Y, M] w w' := by
  have lY := h.lt
  have lM := h.ltM
  have b00 := (Below.refl w.heap.size w).alloc (Nat.le_refl _) (.cells #[.int .i64 0, .int .i64 0] 35)
  have h0 := h.step b00
  have x1 := is_ok h0 ht0 atS k0
  have hR0 := heap_alloc_new w (.cells #[.int .i64 0, .int .i64 0] 35)
  have hRY : w.heap.size ≠ Y := by omega
  have hRM : w.heap.size ≠ M := by omega
  go_enter Tryz.func22, Tryz.ntmps22
  go_wp2_with (go_at_call 17; refine x1.mono ?_)
  intro r w1; first | (intro he b1; subst he) | rintro ⟨rfl, b1⟩
  generalize hR : w.heap.size = R at hR0 hRY hRM b00 ⊢
  have hR1 := (b1.block _ (Array.getElem?_eq_some_iff.1 hR0).1).trans hR0
  have h1 := h0.step b1
  have lR1 := (Array.getElem?_eq_some_iff.1 hR1).1
  have aw := (Away.of_below (bs := [Y, M]) (hR ▸ b00)).trans (Away.of_below b1)
  clear x1 h0 h b1 b00 hR0
  have x2 := written_num h1 ht0 ht1 ht2 ht3 k0 k1 k2 k3 hpos hs0 hs1 hr
  go_wp2_with (go_at_call 16; refine x2.mono ?_)
  intro r w1b; first | (intro he hs b2; subst he) | rintro ⟨rfl, hs, b2⟩
  have hR1b := b2.heap hR1 (by simpa using hRY)
  have awb := aw.trans (b2.more (by simp))
  have f6 := hs.fz 6
  have f7 := hs.fz 7
  have c6 := hs.c6
  have c7 := hs.c7
  clear x2 h1 aw b2 hR1 lR1
  have h2 := (hs.put (pos' := (pos + 3)) (line' := 1) (col' := t3.col) (e' := 2) (ls' := t1.value) (ln' := ln) 6 (.int .i64 (t1.value)) (fun h => h) rfl).put (pos' := (pos + 3)) (line' := 1) (col' := t3.col) (e' := 2) (ls' := t1.value) (ln' := 0) 7 (.int .i64 (0)) (fun h => h) rfl
  have aw2 := (awb.setCell (p := ⟨Y, 6, none⟩) (.inl (by simp)) (.int .i64 (t1.value))).setCell (p := ⟨Y, 7, none⟩) (.inl (by simp)) (.int .i64 (0))
  have hR2 := (Below.heap_setCell (w1b.setCell ⟨Y, 6, none⟩ (.int .i64 (t1.value))) ⟨Y, 7, none⟩ (.int .i64 (0)) R hRY).trans ((Below.heap_setCell w1b ⟨Y, 6, none⟩ (.int .i64 (t1.value)) R hRY).trans hR1b)
  go_wp2
  generalize (w1b.setCell ⟨Y, 6, none⟩ (.int .i64 (t1.value))).setCell ⟨Y, 7, none⟩ (.int .i64 (0)) = w2 at h2 aw2 hR2 ⊢
  clear hs awb hR1b c6 c7 f6 f7
  have d6 := h2.c6
  have d7 := h2.c7
  have d8 := h2.c8
  have hlk := U.look M w2.drew h2.map
  have hput := U.put M w2.drew (0) h2.map
  have hmx : max b0 (0) = 0 := by omega
  go_still_tail 25, (by kernel_rfl)
  change wpList _ _ _ _ _ w2.drew
  have h3 := (h2.step (Below.refl _ w2).drew).remap (es' (0)) clk'
  have aw3 := aw2.drew.remap (M := M) (by simp) (.map (es' (0)) clk')
  have hR3 : ({ w2.drew with heap := w2.drew.heap.setIfInBounds M (.map (es' (0)) clk') } : World).heap[R]? = some (.cells #[.int .i64 0, .int .i64 0] 35 (0, 0)) := (Array.getElem?_setIfInBounds_ne (fun e => hRM e.symm)).trans hR2
  generalize hw3 : ({ w2.drew with heap := w2.drew.heap.setIfInBounds M (.map (es' (0)) clk') } : World) = w3 at h3 aw3 hR3 hput
  clear h2 aw2 hR2 hlk
  have e6 := h3.c6
  have e7 := h3.c7
  have r0 : w3.cell? ⟨R, 0, none⟩ = some (.int .i64 0) := by rw [Lib.cell_of_heap hR3]; rfl
  have r1 : w3.cell? ⟨R, 1, none⟩ = some (.int .i64 0) := by rw [Lib.cell_of_heap hR3]; rfl
  have fr0 : w3.frozen? ⟨R, 0, none⟩ = false := Lib.frozen_of_heap hR3 0
  have fr1 : w3.frozen? ⟨R, 1, none⟩ = false := Lib.frozen_of_heap hR3 1
  have hR4 := Lib.heap_setCell_same (i := 1) (Lib.heap_setCell_same (i := 0) hR3 (.int .i64 (t1.value))) (.int .i64 (0))
  have h4 := (h3.elsewhere hR3 (by decide) (by decide) 0 (.int .i64 (t1.value))).elsewhere (Lib.heap_setCell_same (i := 0) hR3 (.int .i64 (t1.value))) (by decide) (by decide) 1 (.int .i64 (0))
  have aw4 := (aw3.setCell (p := ⟨R, 0, none⟩) (.inr (by rw [hR]; exact Nat.le_refl _)) (.int .i64 (t1.value))).setCell (p := ⟨R, 1, none⟩) (.inr (by rw [hR]; exact Nat.le_refl _)) (.int .i64 (0))
  clear h3 aw3 hR3
  go_wp2
  refine bodyPost_ret (results_cell_row rfl _ _ R 35 _ (0, 0) _ rfl hR4 Tryz.underlying35 rfl Tryz.sizeId) rfl ?_
  exact ⟨rfl, h4, aw4⟩
set_option maxHeartbeats 8000000 in
set_option maxRecDepth 100000 in
theorem object_site {b0 : Int} {es' : Int → Array MapEntry} {clk' : Nat} (h : Prs Y M tv toks pos line col 0 false ls ln es clk w) {t0 t1 : Tok} (ht0 : toks[pos]? = some t0) (ht1 : toks[pos + 1]? = some t1) (k0 : IsTok t0 atS = true) (k1 : t1.kind = 2) (hpos : pos ≤ 1048000) (hr : t1.value < 0 ∨ 99 < t1.value) (U : Upd 0 b0 es clk es' clk') (hb : b0 ≤ 0) :
    Calls Tryz.prog 22 #[.pointer (some ⟨Y, 0, none⟩)] w fun r w' => r = .returned (.agg #[.int .i64 (0), .int .i64 (0)]) ∧ Prs Y M tv toks (pos + 1) 1 t1.col 2 false (0) (0) (es' (0)) clk' w' ∧ Away [Y, M] w w' := by
  have lY := h.lt
  have lM := h.ltM
  have b00 := (Below.refl w.heap.size w).alloc (Nat.le_refl _) (.cells #[.int .i64 0, .int .i64 0] 35)
  have h0 := h.step b00
  have x1 := is_ok h0 ht0 atS k0
  have hR0 := heap_alloc_new w (.cells #[.int .i64 0, .int .i64 0] 35)
  have hRY : w.heap.size ≠ Y := by omega
  have hRM : w.heap.size ≠ M := by omega
  go_enter Tryz.func22, Tryz.ntmps22
  go_wp2_with (go_at_call 17; refine x1.mono ?_)
  intro r w1; first | (intro he b1; subst he) | rintro ⟨rfl, b1⟩
  generalize hR : w.heap.size = R at hR0 hRY hRM b00 ⊢
  have hR1 := (b1.block _ (Array.getElem?_eq_some_iff.1 hR0).1).trans hR0
  have h1 := h0.step b1
  have lR1 := (Array.getElem?_eq_some_iff.1 hR1).1
  have aw := (Away.of_below (bs := [Y, M]) (hR ▸ b00)).trans (Away.of_below b1)
  clear x1 h0 h b1 b00 hR0
  have x2 := written_site h1 ht0 ht1 k0 k1 hpos hr
  go_wp2_with (go_at_call 16; refine x2.mono ?_)
  intro r w1b; first | (intro he hs b2; subst he) | rintro ⟨rfl, hs, b2⟩
  have hR1b := b2.heap hR1 (by simpa using hRY)
  have awb := aw.trans (b2.more (by simp))
  have f6 := hs.fz 6
  have f7 := hs.fz 7
  have c6 := hs.c6
  have c7 := hs.c7
  clear x2 h1 aw b2 hR1 lR1
  have h2 := (hs.put (pos' := (pos + 1)) (line' := 1) (col' := t1.col) (e' := 2) (ls' := 0) (ln' := ln) 6 (.int .i64 (0)) (fun h => h) rfl).put (pos' := (pos + 1)) (line' := 1) (col' := t1.col) (e' := 2) (ls' := 0) (ln' := 0) 7 (.int .i64 (0)) (fun h => h) rfl
  have aw2 := (awb.setCell (p := ⟨Y, 6, none⟩) (.inl (by simp)) (.int .i64 (0))).setCell (p := ⟨Y, 7, none⟩) (.inl (by simp)) (.int .i64 (0))
  have hR2 := (Below.heap_setCell (w1b.setCell ⟨Y, 6, none⟩ (.int .i64 (0))) ⟨Y, 7, none⟩ (.int .i64 (0)) R hRY).trans ((Below.heap_setCell w1b ⟨Y, 6, none⟩ (.int .i64 (0)) R hRY).trans hR1b)
  go_wp2
  generalize (w1b.setCell ⟨Y, 6, none⟩ (.int .i64 (0))).setCell ⟨Y, 7, none⟩ (.int .i64 (0)) = w2 at h2 aw2 hR2 ⊢
  clear hs awb hR1b c6 c7 f6 f7
  have d6 := h2.c6
  have d7 := h2.c7
  have d8 := h2.c8
  have hlk := U.look M w2.drew h2.map
  have hput := U.put M w2.drew (0) h2.map
  have hmx : max b0 (0) = 0 := by omega
  go_still_tail 25, (by kernel_rfl)
  change wpList _ _ _ _ _ w2.drew
  have h3 := (h2.step (Below.refl _ w2).drew).remap (es' (0)) clk'
  have aw3 := aw2.drew.remap (M := M) (by simp) (.map (es' (0)) clk')
  have hR3 : ({ w2.drew with heap := w2.drew.heap.setIfInBounds M (.map (es' (0)) clk') } : World).heap[R]? = some (.cells #[.int .i64 0, .int .i64 0] 35 (0, 0)) := (Array.getElem?_setIfInBounds_ne (fun e => hRM e.symm)).trans hR2
  generalize hw3 : ({ w2.drew with heap := w2.drew.heap.setIfInBounds M (.map (es' (0)) clk') } : World) = w3 at h3 aw3 hR3 hput
  clear h2 aw2 hR2 hlk
  have e6 := h3.c6
  have e7 := h3.c7
  have r0 : w3.cell? ⟨R, 0, none⟩ = some (.int .i64 0) := by rw [Lib.cell_of_heap hR3]; rfl
  have r1 : w3.cell? ⟨R, 1, none⟩ = some (.int .i64 0) := by rw [Lib.cell_of_heap hR3]; rfl
  have fr0 : w3.frozen? ⟨R, 0, none⟩ = false := Lib.frozen_of_heap hR3 0
  have fr1 : w3.frozen? ⟨R, 1, none⟩ = false := Lib.frozen_of_heap hR3 1
  have hR4 := Lib.heap_setCell_same (i := 1) (Lib.heap_setCell_same (i := 0) hR3 (.int .i64 (0))) (.int .i64 (0))
  have h4 := (h3.elsewhere hR3 (by decide) (by decide) 0 (.int .i64 (0))).elsewhere (Lib.heap_setCell_same (i := 0) hR3 (.int .i64 (0))) (by decide) (by decide) 1 (.int .i64 (0))
  have aw4 := (aw3.setCell (p := ⟨R, 0, none⟩) (.inr (by rw [hR]; exact Nat.le_refl _)) (.int .i64 (0))).setCell (p := ⟨R, 1, none⟩) (.inr (by rw [hR]; exact Nat.le_refl _)) (.int .i64 (0))
  clear h3 aw3 hR3
  go_wp2
  refine bodyPost_ret (results_cell_row rfl _ _ R 35 _ (0, 0) _ rfl hR4 Tryz.underlying35 rfl Tryz.sizeId) rfl ?_
  exact ⟨rfl, h4, aw4⟩
set_option maxHeartbeats 8000000 in
set_option maxRecDepth 100000 in
theorem object_limit {b0 : Int} {es' : Int → Array MapEntry} {clk' : Nat} (h : Prs Y M tv toks pos line col 0 false ls 1073741824 es clk w) (ht : toks[pos]? = some t) (k : IsTok t atS = false) (U : Upd ls b0 es clk es' clk') (hb : b0 ≤ 1073741824) :
    Calls Tryz.prog 22 #[.pointer (some ⟨Y, 0, none⟩)] w fun r w' => r = .returned (.agg #[.int .i64 ls, .int .i64 1073741824]) ∧ Prs Y M tv toks pos 1 t.col 9 false ls 1073741824 (es' 1073741824) clk' w' ∧ Away [Y, M] w w' := by
  have lY := h.lt
  have lM := h.ltM
  have b00 := (Below.refl w.heap.size w).alloc (Nat.le_refl _) (.cells #[.int .i64 0, .int .i64 0] 35)
  have h0 := h.step b00
  have x1 := is_ok h0 ht atS k
  have hR0 := heap_alloc_new w (.cells #[.int .i64 0, .int .i64 0] 35)
  have hRY : w.heap.size ≠ Y := by omega
  have hRM : w.heap.size ≠ M := by omega
  go_enter Tryz.func22, Tryz.ntmps22
  go_wp2_with (go_at_call 17; refine x1.mono ?_)
  intro r w1; first | (intro he b1; subst he) | rintro ⟨rfl, b1⟩
  generalize hR : w.heap.size = R at hR0 hRY hRM b00 ⊢
  have hR1 := (b1.block _ (Array.getElem?_eq_some_iff.1 hR0).1).trans hR0
  have h1 := h0.step b1
  have lR1 := (Array.getElem?_eq_some_iff.1 hR1).1
  have aw := (Away.of_below (bs := [Y, M]) (hR ▸ b00)).trans (Away.of_below b1)
  clear x1 h0 h b1 b00 hR0
  have c5 := h1.c5
  have c7 := h1.c7
  have x2 := fail_ok h1 ht 9 (by decide)
  go_wp2_with (go_at_call 28; refine x2.mono ?_)
  intro r w2; first | (intro he h2 b2; subst he) | rintro ⟨rfl, h2, b2⟩
  have hR2 := b2.heap hR1 (by simpa using hRY)
  have aw2 := aw.trans (b2.more (by simp))
  clear x2 h1 aw b2 hR1 lR1 c5 c7
  go_wp2
  have d6 := h2.c6
  have d7 := h2.c7
  have d8 := h2.c8
  have hlk := U.look M w2.drew h2.map
  have hput := U.put M w2.drew (1073741824) h2.map
  have hmx : max b0 (1073741824) = 1073741824 := by omega
  go_still_tail 25, (by kernel_rfl)
  change wpList _ _ _ _ _ w2.drew
  have h3 := (h2.step (Below.refl _ w2).drew).remap (es' (1073741824)) clk'
  have aw3 := aw2.drew.remap (M := M) (by simp) (.map (es' (1073741824)) clk')
  have hR3 : ({ w2.drew with heap := w2.drew.heap.setIfInBounds M (.map (es' (1073741824)) clk') } : World).heap[R]? = some (.cells #[.int .i64 0, .int .i64 0] 35 (0, 0)) := (Array.getElem?_setIfInBounds_ne (fun e => hRM e.symm)).trans hR2
  generalize hw3 : ({ w2.drew with heap := w2.drew.heap.setIfInBounds M (.map (es' (1073741824)) clk') } : World) = w3 at h3 aw3 hR3 hput
  clear h2 aw2 hR2 hlk
  have e6 := h3.c6
  have e7 := h3.c7
  have r0 : w3.cell? ⟨R, 0, none⟩ = some (.int .i64 0) := by rw [Lib.cell_of_heap hR3]; rfl
  have r1 : w3.cell? ⟨R, 1, none⟩ = some (.int .i64 0) := by rw [Lib.cell_of_heap hR3]; rfl
  have fr0 : w3.frozen? ⟨R, 0, none⟩ = false := Lib.frozen_of_heap hR3 0
  have fr1 : w3.frozen? ⟨R, 1, none⟩ = false := Lib.frozen_of_heap hR3 1
  have hR4 := Lib.heap_setCell_same (i := 1) (Lib.heap_setCell_same (i := 0) hR3 (.int .i64 ls)) (.int .i64 (1073741824))
  have h4 := (h3.elsewhere hR3 (by decide) (by decide) 0 (.int .i64 ls)).elsewhere (Lib.heap_setCell_same (i := 0) hR3 (.int .i64 ls)) (by decide) (by decide) 1 (.int .i64 (1073741824))
  have aw4 := (aw3.setCell (p := ⟨R, 0, none⟩) (.inr (by rw [hR]; exact Nat.le_refl _)) (.int .i64 ls)).setCell (p := ⟨R, 1, none⟩) (.inr (by rw [hR]; exact Nat.le_refl _)) (.int .i64 (1073741824))
  clear h3 aw3 hR3
  go_wp2
  refine bodyPost_ret (results_cell_row rfl _ _ R 35 _ (0, 0) _ rfl hR4 Tryz.underlying35 rfl Tryz.sizeId) rfl ?_
  exact ⟨rfl, h4, aw4⟩
end
end Go.Proofs.YtaimdnddmddbnaaGreatDoor
