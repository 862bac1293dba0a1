/- Towards the law ParserEvents, true for every text (no condition): one part of the proof. -/
import Derived.Test.YtgkhemnmcgicnaaGreatDoorG01
import Derived.Test.YtgkhemnmcgicnaaGreatDoorG09
import Derived.Test.YtgkhemnmcgicnaaGreatDoorG29
import Derived.StillTailTactics
import Derived.MapKept
import Derived.Test.YtgkhemnmcgicnaaGreatDoorG31
import Derived.Deep.AppendLies
import Derived.Deep.Cut
namespace Go.Proofs.YtgkhemnmcgicnaaGreatDoor
set_option maxHeartbeats 8000000
set_option maxRecDepth 100000
open Go.RowKit
theorem ck_int (b : Bool) (k : Int) (w : World) : (Instr.checkKey b 10000 3 (I k)).run Tryz.prog w = .ok () w := by
 show (Instr.checkKey b (9999 + 1) 3 (I k)).run Tryz.prog w = .ok () w
 unfold Instr.checkKey
 simp [Sem.run_bind, run_underlying Tryz.underlying3, Result.andThen]
theorem keep_int (k : Int) (w : World) : (Instr.keyThatStays (I k) (I k)).run Tryz.prog w = .ok (I k) w := by
 unfold Instr.keyThatStays
 have : Instr.sameBits 10000 (I k) (I k) = true := by
  show Instr.sameBits (9999 + 1) _ _ = true
  unfold Instr.sameBits
  simp
 simp [this]
theorem find_int (k : Int) : ∀ (l : List MapEntry) (i : Nat), (∀ e ∈ l, ∃ a v : Int, e.key = I a /\ e.val = I v) ->
  Instr.findNow (.int .i64) (I k) l i = some none \/ ∃ (j : Nat) (e : MapEntry) (v : Int), l[j]? = some e /\ e.key = I k /\ Instr.findNow (.int .i64) (I k) l i = some (some (i + j, I v))
 | [], _, _ => .inl rfl
 | e :: l, i, h => by
  obtain ⟨a, v, ha, hv⟩ := h e (by simp)
  by_cases hk : k = a
  ·subst hk
   refine .inr ⟨0, e, v, rfl, ha, ?_⟩
   simp [Instr.findNow, ha, hv, Instr.sameNow]
  ·have hs : Instr.sameNow (.int .i64) (I k) e.key = some false := by rw [ha]; simp [Instr.sameNow, hk]
   rcases find_int k l (i + 1) (fun e he => h e (by simp [he])) with h1 | ⟨j, e', v', h1, h2, h3⟩
   ·exact .inl (by rw [Instr.findNow, hs]; exact h1)
   ·exact .inr ⟨j + 1, e', v', h1, h2, by rw [Instr.findNow, hs]; simp only; rw [h3]; congr 3; omega⟩
theorem upd_ex (ls : Int) (es : Array MapEntry) (clk : Nat) (h : MapOk es) : ∃ b0 : Int,
  (∀ (M : Nat) (w : World), w.heap[M]? = some (.map es clk) -> (Instr.lookup 129 (.map (some M)) (I ls) false).run Tryz.prog w = .ok (I b0) w)
  /\ ∀ v : Int, ∃ (es' : Array MapEntry) (clk' : Nat), MapOk es' /\ ∀ (M : Nat) (w : World), w.heap[M]? = some (.map es clk) -> (Instr.mapUpdate 129 (.map (some M)) (I ls) (I v)).run Tryz.prog w = .ok () { w with heap := w.heap.setIfInBounds M (.map es' clk') } := by
 rcases find_int ls es.toList 0 h with h1 | ⟨j, e, b, hj, hk, h1⟩
 ·have hf : ∀ w, (Instr.findKey 3 (I ls) es.toList).run Tryz.prog w = .ok none w := fun w => by
   unfold Instr.findKey
   simp [Sem.run_bind, run_underlying Tryz.underlying3, Result.andThen, h1]
  refine ⟨0, fun M w hM => ?_, fun v => ⟨es.push ⟨I ls, I v, clk⟩, clk + 1, ?_, fun M w hM => ?_⟩⟩
  ·unfold Instr.lookup
   simp only [Sem.run_bind, run_underlying Tryz.underlying129, Result.andThen_ok, getObj_run hM, Sem.run_pure, ck_int, hf, Tryz.zeroValue3, Bool.false_eq_true, if_false]
  ·intro e he
   simp only [Array.toList_push, List.mem_append, List.mem_singleton] at he
   rcases he with he | rfl
   ·exact h e he
   ·exact ⟨ls, v, rfl, rfl⟩
  ·unfold Instr.mapUpdate
   simp only [Sem.run_bind, run_underlying Tryz.underlying129, Result.andThen_ok, getObj_run hM, ck_int, hf]
   rw [setObj_run _ hM]
 ·rw [Nat.zero_add] at h1
  have hf : ∀ w, (Instr.findKey 3 (I ls) es.toList).run Tryz.prog w = .ok (some (j, I b)) w := fun w => by
   unfold Instr.findKey
   simp [Sem.run_bind, run_underlying Tryz.underlying3, Result.andThen, h1]
  have hkey : ((es[j]?).map (·.key)).getD (I ls) = I ls := by
   have : es[j]? = some e := by rw [<- Array.getElem?_toList]; exact hj
   rw [this]; exact hk
  refine ⟨b, fun M w hM => ?_, fun v => ⟨es.modify j fun e => { e with key := I ls, val := I v }, clk, ?_, fun M w hM => ?_⟩⟩
  ·unfold Instr.lookup
   simp only [Sem.run_bind, run_underlying Tryz.underlying129, Result.andThen_ok, getObj_run hM, Sem.run_pure, ck_int, hf, Bool.false_eq_true, if_false]
  ·intro x hx
   obtain ⟨n, hn⟩ := List.getElem?_of_mem hx
   rw [Array.getElem?_toList, Array.getElem?_modify] at hn
   split at hn
   ·cases he : es[n]? with
    | none => rw [he] at hn; cases hn
    | some y => rw [he] at hn; simp only [Option.map_some, Option.some.injEq] at hn; subst hn; exact ⟨ls, v, rfl, rfl⟩
   ·exact h x (List.mem_of_getElem? (by rw [Array.getElem?_toList]; exact hn))
  ·unfold Instr.mapUpdate
   simp only [Sem.run_bind, run_underlying Tryz.underlying129, Result.andThen_ok, getObj_run hM, ck_int, hf, hkey, keep_int]
   rw [setObj_run _ hM]
section
variable {T : List Tok} {Y M : Nat} {tv : Value} {pos : Nat} {line col e : Int} {free : Bool} {ls ln : Int} {es : Array MapEntry} {clk : Nat} {st : Stt} {w : World}
theorem Prs.remap (h : Prs Y M tv T pos line col e free ls ln es clk w) (es' : Array MapEntry) (clk' : Nat) : Prs Y M tv T pos line col e free ls ln es' clk' { w with heap := w.heap.setIfInBounds M (.map es' clk') } := by
 have hne := h.ne
 refine ⟨?_, ?_, fun he => own_step (h.row he) fun k hk => ?_⟩
 ·show (w.heap.setIfInBounds M _)[Y]? = _
  rw [Array.getElem?_setIfInBounds_ne (fun e => hne e.symm)]; exact h.blk
 ·show (w.heap.setIfInBounds M _)[M]? = _
  rw [Array.getElem?_setIfInBounds_self_of_lt h.ltM]
 ·show (w.heap.setIfInBounds M _)[k]? = _
  rw [Array.getElem?_setIfInBounds_ne]
  rintro rfl
  exact own_ne (h.row he) h.map (by intro cs' fr' hc; cases hc) hk
theorem Away.remap {bs : List Nat} {a w : World} (h : Away bs a w) {M : Nat} (hM : M ∈ bs) (o : Obj) : Away bs a { w with heap := w.heap.setIfInBounds M o } :=
 ⟨h.os, h.tape, h.output, by simpa using h.size, fun k hk hb => by
  show (w.heap.setIfInBounds M o)[k]? = _
  rw [Array.getElem?_setIfInBounds_ne (fun e => hb (by rw [<- e]; exact hM))]; exact h.block k hk hb⟩
theorem object_s (h : PS T Y M true st w) : Calls Tryz.prog 52 #[.pointer (some ⟨Y, 0, none⟩)] w fun r w' => r = .returned (.agg #[I (objF T st).1.1, I (objF T st).1.2]) /\ PS T Y M true (objF T st).2 w' /\ Away [Y, M] w w' := by
 have lY := h.lt
 have lM := h.ltM
 have b00 := (Below.refl w.heap.size w).alloc (Nat.le_refl _) (.cells #[I 0, I 0] 24)
 have h0 := h.step b00
 have x1 := is_s h0 ⟨#[64]⟩
 have hR0 := heap_alloc_new w (.cells #[I 0, I 0] 24)
 have hRY : w.heap.size ≠ Y := by omega
 have hRM : w.heap.size ≠ M := by omega
 have hel := fun (s1 : Stt) (w1 w2 : World) (h1 : PS T Y M true s1 w1) (R : Nat) => h1.else (w' := w2) (R := R) h
 unfold objF
 cases hb : isS T ⟨#[64]⟩ st with
 | false =>
  rw [if_neg (by decide)]
  rw [hb] at x1
  have HEL := shut hel
  go_enter Tryz.func52, Tryz.ntmps52
  go_wp2_with (go_at_call 76; refine x1.mono ?_)
  intro r w1; first | (intro he b1; subst he) | rintro ⟨rfl, b1⟩
  have hR1 := (b1.block _ (heap_lt hR0)).trans hR0
  have h1 := h0.step b1
  have aw := (Away.of_below (bs := [Y, M]) b00).trans (Away.of_below b1)
  generalize hRR : w.heap.size = R at hR0 hRY hRM b00 hR1 ⊢
  have c5 : w1.cell? ⟨Y, 5, none⟩ = some (.bool true) := by
   obtain ⟨_, tv, pos, line, col, e, ls, ln, es, clk, k1, k2, k3⟩ := h1
   exact k1.c5
  obtain ⟨q0, q1, f0, f1⟩ := two_cells hR1
  have h2 := HEL.out _ w1 (fill2 w1 R (I 0) (I 0)) h1 R (Nat.le_of_eq hRR) hR1 (by decide) (fun j hj => fill2_other w1 R _ _ j hj)
  have hR2 := fill2_self (a := I 0) (b := I 0) hR1
  have aw2 := fill2_away aw (Nat.le_of_eq hRR) (I 0) (I 0)
  clear x1 h0 h hR0 hR1 h1 b1 b00 HEL
  unfold fill2 at h2 hR2 aw2
  go_wp2
  refine bodyPost_ret (results_cell_row rfl _ _ R 24 _ (0, 0) _ rfl hR2 Tryz.underlying24 rfl Tryz.sizeId) rfl ?_
  exact ⟨rfl, h2, aw2⟩
 | true =>
  rw [if_pos rfl]
  rw [hb] at x1
  have xw := fun w' (b : Below (w.alloc (.cells #[I 0, I 0] 24)).heap.size (w.alloc (.cells #[I 0, I 0] 24)) w') => written_s (h0.step b)
  generalize writtenF T st = q at xw ⊢
  obtain ⟨⟨v0, v1⟩, s1⟩ := q
  simp only at xw ⊢
  have HEL := shut hel
  clear hb hel
  go_enter Tryz.func52, Tryz.ntmps52
  go_wp2_with (go_at_call 76; refine x1.mono ?_)
  intro r w1; first | (intro he b1; subst he) | rintro ⟨rfl, b1⟩
  have xw1 := xw _ b1
  have hR1 := (b1.block _ (heap_lt hR0)).trans hR0
  have aw := (Away.of_below (bs := [Y, M]) b00).trans (Away.of_below b1)
  have hRR : w.heap.size = w.heap.size := rfl
  generalize hR : w.heap.size = R at hR0 hRY hRM b00 hR1 ⊢
  clear x1 h0 xw hR0 b00 b1
  go_wp2_with (go_at_call 92; refine xw1.mono ?_)
  intro r w1b; first | (intro he hs b2; subst he) | rintro ⟨rfl, hs, b2⟩
  have hR1b := b2.at hR1 (by simp; omega)
  have awb := aw.trans b2
  obtain ⟨g, tv, pos, line, col, e, ls, ln, es, clk, hs, hmo, hst⟩ := hs
  have f6 := hs.fz 6
  have f7 := hs.fz 7
  have c6 := hs.c6
  have c7 := hs.c7
  clear xw1 aw b2 hR1
  have h2 := (hs.put (pos' := pos) (line' := line) (col' := col) (e' := e) (ls' := v0) (ln' := ln) 6 (I v0) (fun h => h) rfl).put (pos' := pos) (line' := line) (col' := col) (e' := e) (ls' := v0) (ln' := v1) 7 (I v1) (fun h => h) rfl
  have aw2 := (awb.setCell (p := ⟨Y, 6, none⟩) (.inl (by simp)) (I v0)).setCell (p := ⟨Y, 7, none⟩) (.inl (by simp)) (I v1)
  have hR2 := (Below.heap_setCell (w1b.setCell ⟨Y, 6, none⟩ (I v0)) ⟨Y, 7, none⟩ (I v1) R hRY).trans ((Below.heap_setCell w1b ⟨Y, 6, none⟩ (I v0) R hRY).trans hR1b)
  go_wp2
  generalize (w1b.setCell ⟨Y, 6, none⟩ (I v0)).setCell ⟨Y, 7, none⟩ (I v1) = w2 at h2 aw2 hR2 ⊢
  clear hs awb hR1b c6 c7 f6 f7
  have d6 := h2.c6
  have d7 := h2.c7
  have d8 := h2.c8
  obtain ⟨b0, U1, U2⟩ := upd_ex v0 es clk hmo
  have hlk := U1 M w2.drew h2.map
  obtain ⟨mx, hmx⟩ : ∃ mx, max b0 v1 = mx := ⟨_, rfl⟩
  obtain ⟨es', clk', hmo', U3⟩ := U2 mx
  have hput := U3 M w2.drew h2.map
  go_still_tail 25, (by kernel_rfl)
  change wpList _ _ _ _ _ w2.drew
  have h3 := (h2.step (Below.refl _ w2).drew).remap es' clk'
  have aw3 := aw2.drew.remap (M := M) (by simp) (.map es' clk')
  have hR3 : ({ w2.drew with heap := w2.drew.heap.setIfInBounds M (.map es' clk') } : World).heap[R]? = some (.cells #[I 0, I 0] 24 (0, 0)) := (Array.getElem?_setIfInBounds_ne (fun e => hRM e.symm)).trans hR2
  generalize hw3 : ({ w2.drew with heap := w2.drew.heap.setIfInBounds M (.map es' clk') } : World) = w3 at h3 aw3 hR3 hput
  clear h2 aw2 hR2 hlk U1 U2 U3
  have e6 := h3.c6
  have e7 := h3.c7
  obtain ⟨r0, r1, fr0, fr1⟩ := two_cells hR3
  have hP3 : PS T Y M true s1 w3 := ⟨g, tv, pos, line, col, e, v0, v1, es', clk', h3, hmo', hst⟩
  have h4 := HEL.out _ w3 (fill2 w3 R (I v0) (I v1)) hP3 R (Nat.le_of_eq hR) hR3 (by decide) (fun j hj => fill2_other w3 R _ _ j hj)
  have hR4 := fill2_self (a := I v0) (b := I v1) hR3
  have aw4 := fill2_away aw3 (Nat.le_of_eq hR) (I v0) (I v1)
  clear h3 aw3 hR3 HEL hP3 hst hmo hmo' h
  unfold fill2 at h4 hR4 aw4
  go_wp2
  refine bodyPost_ret (results_cell_row rfl _ _ R 24 _ (0, 0) _ rfl hR4 Tryz.underlying24 rfl Tryz.sizeId) rfl ?_
  exact ⟨rfl, h4, aw4⟩
end
theorem Tryz.infoId : (Tryz.prog.info? 24).map (fun i => (i.zero, i.size, i.bytes)) = some (some (.agg #[I 0, I 0]), 2, 16) := by kernel_rfl
theorem num_prog {T : List Tok} {lo hi : Int} {s : Stt} {p : Nat} (h : (numF T lo hi s).2 = .ok p) : ∃ q, s = .ok q /\ q < p := by
 unfold numF at h
 split at h
 ·exact absurd h (failS_ok T 13 s p)
 ·split at h
  ·exact absurd h (failS_ok T 2 s p)
  ·obtain ⟨q, h1, h2⟩ := next_ok h; exact ⟨q, h1, by omega⟩
theorem written_prog {T : List Tok} {s : Stt} {p : Nat} (h : (writtenF T s).2 = .ok p) : ∃ q, s = .ok q /\ q < p := by
 unfold writtenF at h
 simp only at h
 obtain ⟨q1, h1, l1⟩ := num_prog h
 obtain ⟨q2, h2, l2⟩ := exp_ok h1
 obtain ⟨q3, h3, l3⟩ := num_prog h2
 obtain ⟨q4, h4, l4⟩ := exp_ok h3
 exact ⟨q4, h4, by omega⟩
section
variable {T : List Tok} {X : Nat} {free : Bool} {lv iv : Value} {st : Stt} {w : World}
theorem Mdl.pushed {pos : Nat} {is im : Int} {n m : Nat} {xs ys : List Value} {e line col : Int} {w' : World} {v : Value} (h : Mdl X lv iv T pos free is im n xs e line col w) (hg : w.grownBy w' iv.ownBlock) (ho : w'.ownsRow 0 24 2 v m ys) :
  Mdl X lv v T pos free is im m ys e line col (w'.setCell ⟨X, 5, none⟩ v) := by
 have nX : iv.ownBlock ≠ some X := own_ne h.ids h.blk (by intro cs fr hc; injection hc with _ h2 _; exact absurd h2 (by decide))
 have hX' : w'.heap[X]? = _ := (hg.block X h.lt (fun e => nX e.symm)).trans h.blk
 refine ⟨by rw [Lib.heap_setCell_same hX']; rfl, fun he => ?_, ?_, fun g hg' => ?_⟩
 ·have hr := h.row he
  have hX1 : lv.ownBlock ≠ some X := own_ne hr h.blk (by intro cs fr hc; injection hc with _ h2 _; exact absurd h2 (by decide))
  refine own_step hr fun k hk => ?_
  rw [Below.heap_setCell _ ⟨X, 5, none⟩ _ k (fun e => hX1 (by rw [hk]; exact congrArg some e))]
  refine hg.block k (hr.lt k hk).2 fun e => ?_
  obtain ⟨cur, hc⟩ := own_at h.ids e.symm
  exact own_ne hr hc (by intro cs fr hc; injection hc with _ h2 _; exact absurd h2 (by decide)) hk
 ·exact own_step ho fun k hk => Below.heap_setCell _ ⟨X, 5, none⟩ _ k (fun e => own_ne ho hX' (by intro cs fr hc; injection hc with _ h2 _; exact absurd h2 (by decide)) (by rw [hk]; exact congrArg some e))
 ·have := h.lvB g hg'
  have := hg.size
  simp only [World.setCell]
  simp
  omega
theorem MS.aside (h : MS T X free lv iv st w) {R : Nat} {cs : Array Value} {t : TypeId} (hR : w.heap[R]? = some (.cells cs t (0, 0))) (ht : t ≠ 59) (hX : R ≠ X) (hv : iv.ownBlock ≠ some R) {w' : World} (hs : w.heap.size <= w'.heap.size)
  (ho : ∀ j, j ≠ R -> w'.heap[j]? = w.heap[j]?) : MS T X free lv iv st w' := by
 obtain ⟨g, pos, is, im, n, xs, e, line, col, h1, h2, h3⟩ := h
 exact ⟨g, pos, is, im, n, xs, e, line, col, ⟨(ho X hX.symm).trans h1.blk, fun he => own_step (h1.row he) fun k hk => ho k (fun e => own_ne (h1.row he) hR (by intro cs' fr' hc; injection hc with _ h2 _; exact ht h2) (by rw [hk, e])), own_step h1.ids fun k hk => ho k (fun e => hv (by rw [hk, e])), fun g hg => Nat.lt_of_lt_of_le (h1.lvB g hg) hs⟩, h2, h3⟩
theorem mobject_s (h : MS T X true lv iv st w) : Calls Tryz.prog 23 #[.pointer (some ⟨X, 0, none⟩)] w fun r w' => r = .returned (.agg #[I (objF T st).1.1, I (objF T st).1.2]) /\ ∃ iv', MS T X true lv iv' (objF T st).2 w' /\ Away (X :: iv.ownBlock.toList) w w' /\ ∀ k, iv'.ownBlock = some k -> iv.ownBlock = some k \/ w.heap.size <= k := by
 obtain ⟨i0, hi0, hz0, hz1, hz2⟩ := info_parts Tryz.infoId
 have lX := h.lt
 have b00 := (Below.refl w.heap.size w).alloc (Nat.le_refl _) (.cells #[I 0, I 0] 24)
 have h0 := h.step b00
 have x1 := mis_s h0 ⟨#[64]⟩
 have hR0 := heap_alloc_new w (.cells #[I 0, I 0] 24)
 have hRX : w.heap.size ≠ X := by omega
 have hel := fun (w1 w2 : World) (h1 : MS T X true lv iv st w1) (R : Nat) => h1.else (w' := w2) (R := R) h
 unfold objF
 cases hb : isS T ⟨#[64]⟩ st with
 | false =>
  rw [if_neg (by decide)]
  rw [hb] at x1
  have HEL := shut hel
  go_enter Tryz.func23, Tryz.ntmps23
  go_wp2_with (go_at_call 27; refine x1.mono ?_)
  intro r w1; first | (intro he b1; subst he) | rintro ⟨rfl, b1⟩
  have hR1 := (b1.block _ (heap_lt hR0)).trans hR0
  have h1 := h0.step b1
  have aw := (Away.of_below (bs := (X :: iv.ownBlock.toList)) b00).trans (Away.of_below b1)
  generalize hRR : w.heap.size = R at hR0 hRX b00 hR1 ⊢
  have c2 : w1.cell? ⟨X, 2, none⟩ = some (.bool true) := by
   obtain ⟨_, pos, is, im, n, xs, e, line, col, k1, k2, k3⟩ := h1
   exact k1.c2
  obtain ⟨q0, q1, f0, f1⟩ := two_cells hR1
  have h2 := HEL.out w1 (fill2 w1 R (I 0) (I 0)) h1 R (Nat.le_of_eq hRR) (Nat.le_of_eq (fill2_size _ _ _ _).symm) (fun j hj => fill2_other w1 R _ _ j hj)
  have hR2 := fill2_self (a := I 0) (b := I 0) hR1
  have aw2 := fill2_away aw (Nat.le_of_eq hRR) (I 0) (I 0)
  clear x1 h0 h hR0 hR1 h1 b1 b00 HEL
  unfold fill2 at h2 hR2 aw2
  go_wp2
  refine bodyPost_ret (results_cell_row rfl _ _ R 24 _ (0, 0) _ rfl hR2 Tryz.underlying24 rfl Tryz.sizeId) rfl ?_
  exact ⟨rfl, iv, h2, aw2, fun k hk => .inl hk⟩
 | true =>
  rw [if_pos rfl]
  rw [hb] at x1
  have xw := fun w' (b : Below (w.alloc (.cells #[I 0, I 0] 24)).heap.size (w.alloc (.cells #[I 0, I 0] 24)) w') => mwritten_s (h0.step b)
  have hprog := fun p (hp : (writtenF T st).2 = .ok p) => written_prog hp
  generalize writtenF T st = q at xw hprog ⊢
  obtain ⟨⟨v0, v1⟩, s1⟩ := q
  simp only at xw hprog ⊢
  have HOLD := shut h
  have HEL := shut hel
  have HPR := shut hprog
  clear hel hprog
  go_enter Tryz.func23, Tryz.ntmps23
  go_wp2_with (go_at_call 27; refine x1.mono ?_)
  intro r w1; first | (intro he b1; subst he) | rintro ⟨rfl, b1⟩
  have xw1 := xw _ b1
  have hR1 := (b1.block _ (heap_lt hR0)).trans hR0
  have aw := (Away.of_below (bs := (X :: iv.ownBlock.toList)) b00).trans (Away.of_below b1)
  generalize hR : w.heap.size = R at hR0 hRX b00 hR1 ⊢
  clear x1 h0 xw b00 b1
  go_wp2_with (go_at_call 64; refine xw1.mono ?_)
  intro r w1b; first | (intro he hs b2; subst he) | rintro ⟨rfl, hs, b2⟩
  have hR1b := b2.at hR1 (by simp; omega)
  have awb := aw.trans (b2.more (cs := (X :: iv.ownBlock.toList)) (by simp))
  obtain ⟨g, pos, is, im, n, xs, e, line, col, hs, hst, hn5, hng⟩ := hs
  have f3 := hs.fz 3
  have f4 := hs.fz 4
  have c3 := hs.c3
  have c4 := hs.c4
  clear xw1 aw b2 hR1 hR0
  have h2 := (hs.put (pos' := pos) (is' := v0) (im' := im) (e' := e) (line' := line) (col' := col) 3 (I v0) (fun h => h) rfl).put (pos' := pos) (is' := v0) (im' := v1) (e' := e) (line' := line) (col' := col) 4 (I v1) (fun h => h) rfl
  have aw2 := (awb.setCell (p := ⟨X, 3, none⟩) (.inl (by simp)) (I v0)).setCell (p := ⟨X, 4, none⟩) (.inl (by simp)) (I v1)
  have hR2 := (Below.heap_setCell (w1b.setCell ⟨X, 3, none⟩ (I v0)) ⟨X, 4, none⟩ (I v1) R hRX).trans ((Below.heap_setCell w1b ⟨X, 3, none⟩ (I v0) R hRX).trans hR1b)
  go_wp2
  generalize (w1b.setCell ⟨X, 3, none⟩ (I v0)).setCell ⟨X, 4, none⟩ (I v1) = w2 at h2 aw2 hR2 ⊢
  have HN : n + 1 <= 5000 /\ (s1.good = true -> n + 1 <= pos) := by
   obtain ⟨_, pos0, is0, im0, n0, xs0, e0, line0, col0, m1, m2, m3, m4⟩ := HOLD.out
   obtain ⟨ao, c, hv⟩ := own_is m1.ids
   have e1 := own_len m1.ids hv
   have e2 := own_len hs.ids hv
   have e3 : n = n0 := by omega
   obtain ⟨p, rfl⟩ : ∃ p, st = .ok p := by
    cases st with
    | ok p => exact ⟨p, rfl⟩
    | bad e' l c => rw [isS_bad] at hb; cases hb
   have hmx := g.max
   obtain ⟨rfl, -, -, -, hlt⟩ := m2
   have hn0 := m4 rfl
   refine ⟨by omega, fun hg => ?_⟩
   cases hs1 : s1 with
   | bad e' l c => rw [hs1] at hg; cases hg
   | ok p' =>
    obtain ⟨q, h1, h2⟩ := HPR.out p' hs1
    injection h1 with h1
    rw [hs1] at hst
    obtain ⟨rfl, -⟩ := hst
    omega
  obtain ⟨ao, cp, hvi⟩ := own_is h2.ids
  clear hs awb hR1b c3 c4 f3 f4 HPR
  go_cut [] from 3 (fun wc => ∃ v ys, Mdl X lv v T pos true v0 v1 (n + 1) ys e line col wc /\ wc.heap[R]? = some (.cells #[I 0, I 0] 24 (0, 0)) /\ Away (X :: iv.ownBlock.toList) w wc /\ ∀ k, v.ownBlock = some k -> k ≠ R /\ (iv.ownBlock = some k \/ R <= k))
  case first =>
   have h3 := h2.step (Below.refl _ w2).drew
   have aw3 := aw2.drew
   have hR3 : w2.drew.heap[R]? = some (.cells #[I 0, I 0] 24 (0, 0)) := hR2
   have d3 : w2.cell? ⟨X, 3, none⟩ = _ := h3.c3
   have d4 : w2.cell? ⟨X, 4, none⟩ = _ := h3.c4
   have d5 : w2.cell? ⟨X, 5, none⟩ = _ := h3.c5
   have n5 := World.new_ne w2 _ d5
   have lX3 := h3.lt
   have d5a : (w2.alloc (.cells #[I v0, I v1] 24)).cell? ⟨X, 5, none⟩ = _ := (World.cell?_alloc_lt w2 (.cells #[I v0, I v1] 24) ⟨X, 5, none⟩ lX3).trans d5
   have hdr : w2.drew.heap.size = w2.heap.size := rfl
   have hids := h3.ids
   rw [hvi] at d5 hids
   have hsz := aw3.size
   clear h2 aw2 hR2 h
   go_region_law ((first
    | (refine step_append_lies _ (by rfl) _ _ _ (by rfl) 0 24 i0 _ 2 16 Tryz.underlying40 hi0 hz0 hz1 hz2 rfl (by omega) (.slice ao n cp) n xs (by rfl) (World.ownsRow.alloc hids _) ⟨w2.heap.size, 0, none⟩ 1 1 [.int .i64 v0, .int .i64 v1] (by rfl) (by rfl) (World.news_of_block (cs := #[.int .i64 v0, .int .i64 v1]) (t := 24) (fr := (0, 0)) (heap_alloc_new _ _)) (by simp [Value.oneCell']) (by omega) (by simp only [maxLen]; omega) (by omega) (by simp) (w2.heap.size + 1) (by simp) ?_; intro gg cap w9 hown9 hgrow hat hgl; have hM := (h3.step ((Below.refl _ w2.drew).alloc (Nat.le_refl _) (.cells #[.int .i64 v0, .int .i64 v1] 24))).pushed (by rw [hvi]; exact hgrow) hown9; have nX : X ≠ gg := (fun e9 => own_ne hown9 ((hgrow.block X (by simp; omega) (fun e => own_ne hids h3.blk (by intro cs fr hc; injection hc with _ h2 _; exact absurd h2 (by decide)) e.symm)).trans ((Lib.alloc_old _ _ _ lX3).trans h3.blk)) (by intro cs fr hc; injection hc with _ h2 _; exact absurd h2 (by decide)) (by rw [e9]; rfl)); have hX9 := (hgrow.block X (by simp; omega) (fun e => own_ne hids h3.blk (by intro cs fr hc; injection hc with _ h2 _; exact absurd h2 (by decide)) e.symm)).trans ((Lib.alloc_old _ _ _ lX3).trans h3.blk); have c59 := Lib.cell_of_heap hX9 5; have f59 := Lib.frozen_of_heap hX9 5; simp only [List.getElem?_toArray, List.getElem?_cons_zero, List.getElem?_cons_succ] at c59)))
   all_goals go_wp2
   all_goals go_meet
   all_goals
    refine ⟨_, _, hM, ?_, ?_, ?_⟩
    ·rw [Below.heap_setCell _ ⟨X, 5, none⟩ _ R hRX]
     refine (hgrow.block R (by simp; exact Nat.lt_succ_of_lt (heap_lt hR3)) (fun e => ?_)).trans ((Lib.alloc_old _ _ _ (heap_lt hR3)).trans hR3)
     have h5 := HOLD.out
     obtain ⟨_, pos0, is0, im0, n0, xs0, e0, line0, col0, m1, m2, m3, m4⟩ := h5
     have := (m1.ids.lt R (by rw [hvi]; exact e.symm)).2
     omega
    ·refine Away.setCell (p := ⟨X, 5, none⟩) ⟨hgrow.os.trans (aw3.alloc (.cells #[I v0, I v1] 24)).os, hgrow.tape.trans (aw3.alloc (.cells #[I v0, I v1] 24)).tape, hgrow.output.trans (aw3.alloc (.cells #[I v0, I v1] 24)).output, Nat.le_trans (aw3.alloc (.cells #[I v0, I v1] 24)).size hgrow.size, fun k hk hb => ?_⟩ (.inl (by simp)) _
     refine (hgrow.block k (Nat.lt_of_lt_of_le hk (aw3.alloc (.cells #[I v0, I v1] 24)).size) (fun e => hb ?_)).trans ((aw3.alloc (.cells #[I v0, I v1] 24)).block k hk hb)
     rw [hvi]
     rw [<- e]
     simp
    ·intro k hk
     obtain rfl : gg = k := by simpa [Value.ownBlock] using hk
     have hRl := heap_lt hR3
     rcases hat with h | h
     ·obtain ⟨_, pos0, is0, im0, n0, xs0, e0, line0, col0, m1, m2, m3, m4⟩ := HOLD.out
      have := (m1.ids.lt gg (by rw [hvi]; exact h)).2
      exact ⟨by omega, .inl (by rw [hvi]; exact h)⟩
     ·exact ⟨by omega, .inr (by omega)⟩
  case rest =>
   obtain ⟨v, ys, h4, hR4, aw4, hv4⟩ := hcut
   clear h2 aw2 hR2 h
   have e3 := h4.c3
   have e4 := h4.c4
   obtain ⟨r0, r1, fr0, fr1⟩ := two_cells hR4
   have hP4 : MS T X true lv v s1 wc := ⟨g, pos, v0, v1, n + 1, ys, e, line, col, h4, hst, HN.1, HN.2⟩
   have hXR : X ≠ R := fun e => hRX e.symm
   have h5 := hP4.aside (w' := fill2 wc R (I v0) (I v1)) hR4 (by decide) hRX (fun e => (hv4 R e).1 rfl) (Nat.le_of_eq (fill2_size _ _ _ _).symm) (fun j hj => fill2_other wc R _ _ j hj)
   have hR5 := fill2_self (a := I v0) (b := I v1) hR4
   have aw5 := fill2_away aw4 (Nat.le_of_eq hR) (I v0) (I v1)
   clear h4 aw4 hR4 hP4 HEL HN hst
   unfold fill2 at h5 hR5 aw5
   go_wp2
   refine bodyPost_ret (results_cell_row rfl _ _ R 24 _ (0, 0) _ rfl hR5 Tryz.underlying24 rfl Tryz.sizeId) rfl ?_
   exact ⟨rfl, v, h5, aw5, fun k hk => by rw [hR]; exact (hv4 k hk).2⟩
end
theorem Tryz.sizeEvent : (Tryz.prog.info? 31).map (·.size) = some 13 := by kernel_rfl
def A0 : A5 := ⟨0, 0, 0, 0, 0⟩
def nilV : Value := .slice none 0 0
theorem ownLo {w : World} {B B' : Nat} {e : TypeId} {size : Nat} {v : Value} {n : Nat} {xs : List Value} (h : w.ownsRow B' e size v n xs) (hB : B <= B') : w.ownsRow B e size v n xs := by
 refine ⟨h.1, ?_⟩
 rcases h.2 with hn | ⟨g, cap, cur, rfl, hg, rest⟩
 ·exact .inl hn
 ·exact .inr ⟨g, cap, cur, rfl, Nat.le_trans hB hg, rest⟩
structure Rows3 (B : Nat) (hv gv lv : Value) (hs : List HeadV) (gs : List GraceV) (ys : List SyllV) (w : World) : Prop where
 oh : w.ownsRow B 80 5 hv hs.length (flatC HeadV.cells hs)
 og : w.ownsRow B 77 5 gv gs.length (flatC GraceV.cells gs)
 ol : w.ownsRow B 147 2 lv ys.length (flatC SyllV.cells ys)
theorem Rows3.step {B : Nat} {hv gv lv : Value} {hs : List HeadV} {gs : List GraceV} {ys : List SyllV} {w w' : World} (h : Rows3 B hv gv lv hs gs ys w)
  (hb : ∀ k o (T : TypeId), w.heap[k]? = some (.cells o T (0, 0)) -> T = 80 \/ T = 77 \/ T = 147 -> B <= k -> w'.heap[k]? = w.heap[k]?) : Rows3 B hv gv lv hs gs ys w' := by
 refine ⟨own_step h.oh fun k hk => ?_, own_step h.og fun k hk => ?_, own_step h.ol fun k hk => ?_⟩
 ·obtain ⟨c, hc⟩ := own_at h.oh hk; exact hb k c _ hc (.inl rfl) (h.oh.lt k hk).1
 ·obtain ⟨c, hc⟩ := own_at h.og hk; exact hb k c _ hc (.inr (.inl rfl)) (h.og.lt k hk).1
 ·obtain ⟨c, hc⟩ := own_at h.ol hk; exact hb k c _ hc (.inr (.inr rfl)) (h.ol.lt k hk).1
theorem Rows3.nil (B : Nat) (w : World) : Rows3 B nilV nilV nilV [] [] [] w := ⟨World.ownsRow_nil _ _ _ _, World.ownsRow_nil _ _ _ _, World.ownsRow_nil _ _ _ _⟩
structure EvM (bs : List Nat) (R E : Nat) (F : EF) (A : A5) (hs : List HeadV) (gs : List GraceV) (ys : List SyllV) (w0 w : World) : Prop where
 hR : w.heap[R]? = some (.cells (evC 0 0 0 0 0 (.slice none 0 0) (.slice none 0 0) ⟨0, 0, 0, 0, 0⟩ (.slice none 0 0)) 31 (0, 0))
 hE : w.heap[E]? = some (.cells (F.c A) 31 (0, 0))
 rows : Rows3 w0.heap.size F.hv F.gv F.lv hs gs ys w
 aw : Away bs w0 w
 bR : w0.heap.size <= R
 ne : R < E
 lo : ∀ k ∈ bs, k < w0.heap.size
def EvR (B : Nat) (x : EvV) (v : Value) (w : World) : Prop := ∃ hv gv lv, v = .agg (x.cells hv gv lv) /\ Rows3 B hv gv lv x.heads x.graces x.lyr w
section
variable {bs : List Nat} {R E : Nat} {F F' : EF} {A A' : A5} {hs hs' : List HeadV} {gs gs' : List GraceV} {ys ys' : List SyllV} {w0 w w' : World}
theorem EvM.away (h : EvM bs R E F A hs gs ys w0 w) {cs : List Nat} (a : Away cs w w') (hc : ∀ k ∈ cs, k ∈ bs) : EvM bs R E F A hs gs ys w0 w' := by
 have n : ∀ k, w0.heap.size <= k -> k ∉ cs := fun k hk hm => by have := h.lo k (hc k hm); omega
 have bR := h.bR
 have ne := h.ne
 exact ⟨a.at h.hR (n R bR), a.at h.hE (n E (by omega)), h.rows.step fun k o T ho _ hk => a.block k (heap_lt ho) (n k hk), h.aw.trans (a.more hc), h.bR, h.ne, h.lo⟩
theorem EvM.step (h : EvM bs R E F A hs gs ys w0 w) (b : Below w.heap.size w w') : EvM bs R E F A hs gs ys w0 w' := h.away (cs := []) (Away.of_below b) (fun k hk => (by cases hk))
theorem EvM.other (h : EvM bs R E F A hs gs ys w0 w) {cs : List Nat} (a : Away cs w w') (hc : ∀ k ∈ cs, k = E \/ k ∈ bs) (hE' : w'.heap[E]? = some (.cells (F'.c A') 31 (0, 0))) (r : Rows3 w0.heap.size F'.hv F'.gv F'.lv hs' gs' ys' w') : EvM bs R E F' A' hs' gs' ys' w0 w' := by
 have bR := h.bR
 have ne := h.ne
 have n : ∀ k, w0.heap.size <= k -> k ≠ E -> k ∉ cs := fun k hk he hm => by
  rcases hc k hm with h1 | h1
  ·exact he h1
  ·have := h.lo k h1; omega
 refine ⟨a.at h.hR (n R bR (by omega)), hE', r, ⟨a.os.trans h.aw.os, a.tape.trans h.aw.tape, a.output.trans h.aw.output, Nat.le_trans h.aw.size a.size, fun k hk hb => (a.block k (Nat.lt_of_lt_of_le hk h.aw.size) (fun hm => ?_)).trans (h.aw.block k hk hb)⟩, h.bR, h.ne, h.lo⟩
 rcases hc k hm with h1 | h1
 ·omega
 ·exact hb h1
theorem EvM.put (h : EvM bs R E F A hs gs ys w0 w) (i : Nat) (u : Value) (hc : (F.c A).setIfInBounds i u = F'.c A') (r : Rows3 w0.heap.size F'.hv F'.gv F'.lv hs' gs' ys' w) : EvM bs R E F' A' hs' gs' ys' w0 (w.setCell ⟨E, i, none⟩ u) :=
 h.other (cs := [E]) (Away.setCell (Away.refl _ _) (p := ⟨E, i, none⟩) (.inl (by simp)) u) (fun k hk => .inl (by simpa using hk)) (by rw [Lib.heap_setCell_same h.hE u, hc])
  (r.step fun k o T ho hT _ => set_other w E i u k fun e => by
   have := ho.symm.trans (e ▸ h.hE)
   injection this with this
   injection this with _ h2 _
   rcases hT with hT | hT | hT <;> rw [hT] at h2 <;> exact absurd h2 (by decide))
theorem EvM.cells (h : EvM bs R E F A hs gs ys w0 w) : w.cell? ⟨E, 2, none⟩ = some (I F.kd) /\ w.cell? ⟨E, 3, none⟩ = some (I F.lg) /\ w.cell? ⟨E, 4, none⟩ = some (I F.dt) /\ w.cell? ⟨E, 5, none⟩ = some F.hv /\ w.cell? ⟨E, 6, none⟩ = some F.gv /\ w.cell? ⟨E, 10, none⟩ = some F.lv /\ ∀ i, w.frozen? ⟨E, i, none⟩ = false := by
 refine ⟨?_, ?_, ?_, ?_, ?_, ?_, fun i => Lib.frozen_of_heap h.hE i⟩ <;> (rw [Lib.cell_of_heap h.hE]; rfl)
end
def fill13 (w : World) (X : Nat) (v0 v1 v2 v3 v4 v5 v6 v7 v8 v9 v10 v11 v12 : Value) : World :=
 ((((((((((((w.setCell ⟨X, 0, none⟩ v0).setCell ⟨X, 1, none⟩ v1).setCell ⟨X, 2, none⟩ v2).setCell ⟨X, 3, none⟩ v3).setCell ⟨X, 4, none⟩ v4).setCell ⟨X, 5, none⟩ v5).setCell ⟨X, 6, none⟩ v6).setCell ⟨X, 7, none⟩ v7).setCell ⟨X, 8, none⟩ v8).setCell ⟨X, 9, none⟩ v9).setCell ⟨X, 10, none⟩ v10).setCell ⟨X, 11, none⟩ v11).setCell ⟨X, 12, none⟩ v12
section
variable {w : World} {X : Nat} (v0 v1 v2 v3 v4 v5 v6 v7 v8 v9 v10 v11 v12 : Value)
theorem fill13_self {T : TypeId} {c0 c1 c2 c3 c4 c5 c6 c7 c8 c9 c10 c11 c12 : Value} (h : w.heap[X]? = some (.cells #[c0, c1, c2, c3, c4, c5, c6, c7, c8, c9, c10, c11, c12] T (0, 0))) :
  (fill13 w X v0 v1 v2 v3 v4 v5 v6 v7 v8 v9 v10 v11 v12).heap[X]? = some (.cells #[v0, v1, v2, v3, v4, v5, v6, v7, v8, v9, v10, v11, v12] T (0, 0)) := by
 have h0 : (w.setCell ⟨X, 0, none⟩ v0).heap[X]? = some (.cells #[v0, c1, c2, c3, c4, c5, c6, c7, c8, c9, c10, c11, c12] T (0, 0)) := Lib.heap_setCell_same (i := 0) h v0
 have h1 : ((w.setCell ⟨X, 0, none⟩ v0).setCell ⟨X, 1, none⟩ v1).heap[X]? = some (.cells #[v0, v1, c2, c3, c4, c5, c6, c7, c8, c9, c10, c11, c12] T (0, 0)) := Lib.heap_setCell_same (i := 1) h0 v1
 have h2 : (((w.setCell ⟨X, 0, none⟩ v0).setCell ⟨X, 1, none⟩ v1).setCell ⟨X, 2, none⟩ v2).heap[X]? = some (.cells #[v0, v1, v2, c3, c4, c5, c6, c7, c8, c9, c10, c11, c12] T (0, 0)) := Lib.heap_setCell_same (i := 2) h1 v2
 have h3 : ((((w.setCell ⟨X, 0, none⟩ v0).setCell ⟨X, 1, none⟩ v1).setCell ⟨X, 2, none⟩ v2).setCell ⟨X, 3, none⟩ v3).heap[X]? = some (.cells #[v0, v1, v2, v3, c4, c5, c6, c7, c8, c9, c10, c11, c12] T (0, 0)) := Lib.heap_setCell_same (i := 3) h2 v3
 have h4 : (((((w.setCell ⟨X, 0, none⟩ v0).setCell ⟨X, 1, none⟩ v1).setCell ⟨X, 2, none⟩ v2).setCell ⟨X, 3, none⟩ v3).setCell ⟨X, 4, none⟩ v4).heap[X]? = some (.cells #[v0, v1, v2, v3, v4, c5, c6, c7, c8, c9, c10, c11, c12] T (0, 0)) := Lib.heap_setCell_same (i := 4) h3 v4
 have h5 : ((((((w.setCell ⟨X, 0, none⟩ v0).setCell ⟨X, 1, none⟩ v1).setCell ⟨X, 2, none⟩ v2).setCell ⟨X, 3, none⟩ v3).setCell ⟨X, 4, none⟩ v4).setCell ⟨X, 5, none⟩ v5).heap[X]? = some (.cells #[v0, v1, v2, v3, v4, v5, c6, c7, c8, c9, c10, c11, c12] T (0, 0)) := Lib.heap_setCell_same (i := 5) h4 v5
 have h6 : (((((((w.setCell ⟨X, 0, none⟩ v0).setCell ⟨X, 1, none⟩ v1).setCell ⟨X, 2, none⟩ v2).setCell ⟨X, 3, none⟩ v3).setCell ⟨X, 4, none⟩ v4).setCell ⟨X, 5, none⟩ v5).setCell ⟨X, 6, none⟩ v6).heap[X]? = some (.cells #[v0, v1, v2, v3, v4, v5, v6, c7, c8, c9, c10, c11, c12] T (0, 0)) := Lib.heap_setCell_same (i := 6) h5 v6
 have h7 : ((((((((w.setCell ⟨X, 0, none⟩ v0).setCell ⟨X, 1, none⟩ v1).setCell ⟨X, 2, none⟩ v2).setCell ⟨X, 3, none⟩ v3).setCell ⟨X, 4, none⟩ v4).setCell ⟨X, 5, none⟩ v5).setCell ⟨X, 6, none⟩ v6).setCell ⟨X, 7, none⟩ v7).heap[X]? = some (.cells #[v0, v1, v2, v3, v4, v5, v6, v7, c8, c9, c10, c11, c12] T (0, 0)) := Lib.heap_setCell_same (i := 7) h6 v7
 have h8 : (((((((((w.setCell ⟨X, 0, none⟩ v0).setCell ⟨X, 1, none⟩ v1).setCell ⟨X, 2, none⟩ v2).setCell ⟨X, 3, none⟩ v3).setCell ⟨X, 4, none⟩ v4).setCell ⟨X, 5, none⟩ v5).setCell ⟨X, 6, none⟩ v6).setCell ⟨X, 7, none⟩ v7).setCell ⟨X, 8, none⟩ v8).heap[X]? = some (.cells #[v0, v1, v2, v3, v4, v5, v6, v7, v8, c9, c10, c11, c12] T (0, 0)) := Lib.heap_setCell_same (i := 8) h7 v8
 have h9 : ((((((((((w.setCell ⟨X, 0, none⟩ v0).setCell ⟨X, 1, none⟩ v1).setCell ⟨X, 2, none⟩ v2).setCell ⟨X, 3, none⟩ v3).setCell ⟨X, 4, none⟩ v4).setCell ⟨X, 5, none⟩ v5).setCell ⟨X, 6, none⟩ v6).setCell ⟨X, 7, none⟩ v7).setCell ⟨X, 8, none⟩ v8).setCell ⟨X, 9, none⟩ v9).heap[X]? = some (.cells #[v0, v1, v2, v3, v4, v5, v6, v7, v8, v9, c10, c11, c12] T (0, 0)) := Lib.heap_setCell_same (i := 9) h8 v9
 have h10 : (((((((((((w.setCell ⟨X, 0, none⟩ v0).setCell ⟨X, 1, none⟩ v1).setCell ⟨X, 2, none⟩ v2).setCell ⟨X, 3, none⟩ v3).setCell ⟨X, 4, none⟩ v4).setCell ⟨X, 5, none⟩ v5).setCell ⟨X, 6, none⟩ v6).setCell ⟨X, 7, none⟩ v7).setCell ⟨X, 8, none⟩ v8).setCell ⟨X, 9, none⟩ v9).setCell ⟨X, 10, none⟩ v10).heap[X]? = some (.cells #[v0, v1, v2, v3, v4, v5, v6, v7, v8, v9, v10, c11, c12] T (0, 0)) := Lib.heap_setCell_same (i := 10) h9 v10
 have h11 : ((((((((((((w.setCell ⟨X, 0, none⟩ v0).setCell ⟨X, 1, none⟩ v1).setCell ⟨X, 2, none⟩ v2).setCell ⟨X, 3, none⟩ v3).setCell ⟨X, 4, none⟩ v4).setCell ⟨X, 5, none⟩ v5).setCell ⟨X, 6, none⟩ v6).setCell ⟨X, 7, none⟩ v7).setCell ⟨X, 8, none⟩ v8).setCell ⟨X, 9, none⟩ v9).setCell ⟨X, 10, none⟩ v10).setCell ⟨X, 11, none⟩ v11).heap[X]? = some (.cells #[v0, v1, v2, v3, v4, v5, v6, v7, v8, v9, v10, v11, c12] T (0, 0)) := Lib.heap_setCell_same (i := 11) h10 v11
 have h12 : (((((((((((((w.setCell ⟨X, 0, none⟩ v0).setCell ⟨X, 1, none⟩ v1).setCell ⟨X, 2, none⟩ v2).setCell ⟨X, 3, none⟩ v3).setCell ⟨X, 4, none⟩ v4).setCell ⟨X, 5, none⟩ v5).setCell ⟨X, 6, none⟩ v6).setCell ⟨X, 7, none⟩ v7).setCell ⟨X, 8, none⟩ v8).setCell ⟨X, 9, none⟩ v9).setCell ⟨X, 10, none⟩ v10).setCell ⟨X, 11, none⟩ v11).setCell ⟨X, 12, none⟩ v12).heap[X]? = some (.cells #[v0, v1, v2, v3, v4, v5, v6, v7, v8, v9, v10, v11, v12] T (0, 0)) := Lib.heap_setCell_same (i := 12) h11 v12
 exact h12
theorem fill13_other (k : Nat) (hk : k ≠ X) : (fill13 w X v0 v1 v2 v3 v4 v5 v6 v7 v8 v9 v10 v11 v12).heap[k]? = w.heap[k]? := by
 have s : ∀ (u : World) (i : Nat) (v : Value), (u.setCell ⟨X, i, none⟩ v).heap[k]? = u.heap[k]? := fun u i v => Below.heap_setCell u ⟨X, i, none⟩ v k hk
 unfold fill13
 simp only [s]
theorem fill13_away {bs : List Nat} {a : World} (h : Away bs a w) (hX : a.heap.size <= X) : Away bs a (fill13 w X v0 v1 v2 v3 v4 v5 v6 v7 v8 v9 v10 v11 v12) := by
 have s : ∀ {u : World}, Away bs a u -> ∀ (i : Nat) (v : Value), Away bs a (u.setCell ⟨X, i, none⟩ v) := fun hu i v => hu.setCell (p := ⟨X, i, none⟩) (.inr hX) v
 exact s (s (s (s (s (s (s (s (s (s (s (s (s h 0 v0) 1 v1) 2 v2) 3 v3) 4 v4) 5 v5) 6 v6) 7 v7) 8 v8) 9 v9) 10 v10) 11 v11) 12 v12
theorem fill13_size : (fill13 w X v0 v1 v2 v3 v4 v5 v6 v7 v8 v9 v10 v11 v12).heap.size = w.heap.size := by unfold fill13; simp [World.setCell]
end
theorem box13 {w : World} {b : Nat} {T : TypeId} {c0 c1 c2 c3 c4 c5 c6 c7 c8 c9 c10 c11 c12 : Value} (h : w.heap[b]? = some (.cells #[c0, c1, c2, c3, c4, c5, c6, c7, c8, c9, c10, c11, c12] T (0, 0))) :
  w.cell? ⟨b, 0, none⟩ = some c0 /\ w.cell? ⟨b, 1, none⟩ = some c1 /\ w.cell? ⟨b, 2, none⟩ = some c2 /\ w.cell? ⟨b, 3, none⟩ = some c3 /\ w.cell? ⟨b, 4, none⟩ = some c4 /\ w.cell? ⟨b, 5, none⟩ = some c5 /\ w.cell? ⟨b, 6, none⟩ = some c6 /\ w.cell? ⟨b, 7, none⟩ = some c7 /\ w.cell? ⟨b, 8, none⟩ = some c8 /\ w.cell? ⟨b, 9, none⟩ = some c9 /\ w.cell? ⟨b, 10, none⟩ = some c10 /\ w.cell? ⟨b, 11, none⟩ = some c11 /\ w.cell? ⟨b, 12, none⟩ = some c12 /\
  w.frozen? ⟨b, 0, none⟩ = false /\ w.frozen? ⟨b, 1, none⟩ = false /\ w.frozen? ⟨b, 2, none⟩ = false /\ w.frozen? ⟨b, 3, none⟩ = false /\ w.frozen? ⟨b, 4, none⟩ = false /\ w.frozen? ⟨b, 5, none⟩ = false /\ w.frozen? ⟨b, 6, none⟩ = false /\ w.frozen? ⟨b, 7, none⟩ = false /\ w.frozen? ⟨b, 8, none⟩ = false /\ w.frozen? ⟨b, 9, none⟩ = false /\ w.frozen? ⟨b, 10, none⟩ = false /\ w.frozen? ⟨b, 11, none⟩ = false /\ w.frozen? ⟨b, 12, none⟩ = false := by
 refine ⟨?_, ?_, ?_, ?_, ?_, ?_, ?_, ?_, ?_, ?_, ?_, ?_, ?_, Lib.frozen_of_heap h 0, Lib.frozen_of_heap h 1, Lib.frozen_of_heap h 2, Lib.frozen_of_heap h 3, Lib.frozen_of_heap h 4, Lib.frozen_of_heap h 5, Lib.frozen_of_heap h 6, Lib.frozen_of_heap h 7, Lib.frozen_of_heap h 8, Lib.frozen_of_heap h 9, Lib.frozen_of_heap h 10, Lib.frozen_of_heap h 11, Lib.frozen_of_heap h 12⟩ <;> (rw [Lib.cell_of_heap h]; rfl)
section
variable {O : Orc} {T : List Tok} {q : Int}
theorem acc_no {T : List Tok} {x : ByteArray} {s : Stt} (h : isS T x s = false) : accS T x s = s := by unfold accS; rw [h]; rfl
theorem acc_yes {T : List Tok} {x : ByteArray} {s : Stt} (h : isS T x s = true) : s.next 1 = accS T x s := by unfold accS; rw [h]; rfl
theorem graces_cases (s : Stt) : (isS T ⟨#[103, 114, 97, 99, 101]⟩ s = true /\ gracesF O T q s = sevF T (graceF O T q) ⟨#[41]⟩ (expS T ⟨#[40]⟩ (accS T ⟨#[103, 114, 97, 99, 101]⟩ s))) \/ (isS T ⟨#[103, 114, 97, 99, 101]⟩ s = false /\ accS T ⟨#[103, 114, 97, 99, 101]⟩ s = s /\ gracesF O T q s = ([], s)) := by
 cases h : isS T ⟨#[103, 114, 97, 99, 101]⟩ s with
 | true => exact .inl ⟨rfl, by unfold gracesF; rw [if_pos h, acc_yes h]⟩
 | false => exact .inr ⟨rfl, acc_no h, by unfold gracesF; rw [if_neg (by rw [h]; decide)]⟩
theorem body_cases (s : Stt) :
  (isS T ⟨#[82]⟩ s = true /\ bodyF O T s = ((3, []), accS T ⟨#[82]⟩ s))
  \/ (isS T ⟨#[82]⟩ s = false /\ accS T ⟨#[82]⟩ s = s /\ ((isS T ⟨#[114]⟩ s = true /\ bodyF O T s = ((2, []), accS T ⟨#[114]⟩ s))
  \/ (isS T ⟨#[114]⟩ s = false /\ accS T ⟨#[114]⟩ s = s /\ ((isS T ⟨#[115]⟩ s = true /\ bodyF O T s = ((4, []), accS T ⟨#[115]⟩ s))
  \/ (isS T ⟨#[115]⟩ s = false /\ accS T ⟨#[115]⟩ s = s /\ ((isS T ⟨#[60]⟩ s = true /\ bodyF O T s = ((1, (sevF T (headF O T) ⟨#[62]⟩ (accS T ⟨#[60]⟩ s)).1), (sevF T (headF O T) ⟨#[62]⟩ (accS T ⟨#[60]⟩ s)).2))
  \/ (isS T ⟨#[60]⟩ s = false /\ accS T ⟨#[60]⟩ s = s /\ bodyF O T s = ((1, [(headF O T s).1]), (headF O T s).2)))))))) := by
 unfold bodyF
 cases h1 : isS T ⟨#[82]⟩ s with
 | true => exact .inl ⟨rfl, by rw [if_pos rfl, acc_yes h1]⟩
 | false =>
  refine .inr ⟨rfl, acc_no h1, ?_⟩
  rw [if_neg (by decide)]
  cases h2 : isS T ⟨#[114]⟩ s with
  | true => exact .inl ⟨rfl, by rw [if_pos rfl, acc_yes h2]⟩
  | false =>
   refine .inr ⟨rfl, acc_no h2, ?_⟩
   rw [if_neg (by decide)]
   cases h3 : isS T ⟨#[115]⟩ s with
   | true => exact .inl ⟨rfl, by rw [if_pos rfl, acc_yes h3]⟩
   | false =>
    refine .inr ⟨rfl, acc_no h3, ?_⟩
    rw [if_neg (by decide)]
    cases h4 : isS T ⟨#[60]⟩ s with
    | true => exact .inl ⟨rfl, by rw [if_pos rfl, acc_yes h4]⟩
    | false => exact .inr ⟨rfl, acc_no h4, by rw [if_neg (by decide)]⟩
theorem len_cases (kd : Int) (s : Stt) : (kd = 3 /\ lenF O T kd s = ((0, 0), s)) \/ (kd ≠ 3 /\ lenF O T kd s = valueF O T (expS T ⟨#[58]⟩ s)) := by
 unfold lenF
 split
 ·rename_i h; exact .inl ⟨h, rfl⟩
 ·rename_i h; exact .inr ⟨h, rfl⟩
theorem attrs_cases (s : Stt) : (isS T ⟨#[91]⟩ s = true /\ attrsF T s = attrF T (accS T ⟨#[91]⟩ s)) \/ (isS T ⟨#[91]⟩ s = false /\ accS T ⟨#[91]⟩ s = s /\ attrsF T s = (⟨0, 0, 0, 0, 0⟩, s)) := by
 cases h : isS T ⟨#[91]⟩ s with
 | true => exact .inl ⟨rfl, by unfold attrsF; rw [if_pos h, acc_yes h]⟩
 | false => exact .inr ⟨rfl, acc_no h, by unfold attrsF; rw [if_neg (by rw [h]; decide)]⟩
theorem event_parts (s : Stt) : ∃ (o : (Int × Int) × Stt) (g : List GraceV × Stt) (b : (Int × List HeadV) × Stt) (v : (Int × Int) × Stt) (a : A5 × Stt) (y : List SyllV × Stt),
  o = objF T s /\ g = gracesF O T q o.2 /\ b = bodyF O T g.2 /\ v = lenF O T b.1.1 b.2 /\ a = attrsF T v.2 /\ y = lyrF T T.length a.2 /\
  eventF O T q s = (⟨o.1.1, o.1.2, b.1.1, v.1.1, v.1.2, b.1.2, g.1, a.1.ar, a.1.orn, a.1.dy, y.1, a.1.st, a.1.be⟩, y.2) := ⟨_, _, _, _, _, _, rfl, rfl, rfl, rfl, rfl, rfl, rfl⟩
end
end Go.Proofs.YtgkhemnmcgicnaaGreatDoor
