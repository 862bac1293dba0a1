/-
  A part of the proof that the law ParserSheets (chapter 19) returns true for every sheet: walks of the program's functions, and runs of them in the kernel by the own evaluator.
-/
import Derived.Test.YtjnkppneilmpbaaGreatDoorLxj
import Derived.Laws.Rows
namespace Go.Proofs.YtjnkppneilmpbaaGreatDoor
open Go.RowKit

theorem Tryz.sizeTok : (Tryz.prog.info? 111).map (·.size) = some 7 := by kernel_rfl

/-- Of what was there nothing has turned but the blocks bs. -/
structure Away (bs : List Nat) (w w' : World) : Prop where
  os : w'.os = w.os
  tape : w'.tape = w.tape
  output : w'.output = w.output
  size : w.heap.size ≤ w'.heap.size
  block : ∀ k, k < w.heap.size → k ∉ bs → w'.heap[k]? = w.heap[k]?

theorem Away.refl (bs : List Nat) (w : World) : Away bs w w := ⟨rfl, rfl, rfl, Nat.le_refl _, fun _ _ _ => rfl⟩
theorem Away.trans {bs : List Nat} {a b c : World} (h : Away bs a b) (k : Away bs b c) : Away bs a c :=
  ⟨k.os.trans h.os, k.tape.trans h.tape, k.output.trans h.output, Nat.le_trans h.size k.size, fun i hi hb => (k.block i (Nat.lt_of_lt_of_le hi h.size) hb).trans (h.block i hi hb)⟩
theorem Away.of_below {bs : List Nat} {w w' : World} (h : Below w.heap.size w w') : Away bs w w' := ⟨h.os, h.tape, h.output, h.size, fun k hk _ => h.block k hk⟩
theorem Away.below {w w' : World} (h : Away [] w w') : Below w.heap.size w w' := ⟨h.os, h.tape, h.output, h.size, fun k hk => h.block k hk (by simp)⟩
theorem Away.more {bs cs : List Nat} {w w' : World} (h : Away bs w w') (hs : ∀ k ∈ bs, k ∈ cs) : Away cs w w' := ⟨h.os, h.tape, h.output, h.size, fun k hk hb => h.block k hk fun hc => hb (hs k hc)⟩
theorem Away.drew {bs : List Nat} {a w : World} (h : Away bs a w) : Away bs a w.drew := ⟨h.os, h.tape, h.output, h.size, h.block⟩
theorem Away.alloc {bs : List Nat} {a w : World} (h : Away bs a w) (o : Obj) : Away bs a (w.alloc o) :=
  ⟨h.os, h.tape, h.output, Nat.le_trans h.size (by simp), fun k hk hb => (Below.heap_alloc _ _ _ (Nat.lt_of_lt_of_le hk h.size)).trans (h.block k hk hb)⟩
theorem Away.setCell {bs : List Nat} {a w : World} (h : Away bs a w) {p : Addr} (hp : p.block ∈ bs ∨ a.heap.size ≤ p.block) (u : Value) : Away bs a (w.setCell p u) :=
  ⟨h.os, h.tape, h.output, Nat.le_trans h.size (by simp [World.setCell]), fun k hk hb => (Below.heap_setCell _ _ _ _ (fun e => by
    rcases hp with hp | hp
    · exact hb (e ▸ hp)
    · omega)).trans (h.block k hk hb)⟩

/-- The parser at block Y, its map at M: at token 'pos' of 'toks'. -/
structure Prs (Y M : Nat) (tv : Value) (toks : List Tok) (pos : Nat) (line col e : Int) (free : Bool) (ls ln : Int) (es : Array MapEntry) (clk : Nat) (w : World) : Prop where
  blk : w.heap[Y]? = some (.cells #[tv, .int .i64 pos, .int .i64 line, .int .i64 col, .int .i64 e, .bool free, .int .i64 ls, .int .i64 ln, .map (some M)] 99 (0, 0))
  map : w.heap[M]? = some (.map es clk)
  row : e = 0 → w.ownsRow 0 111 7 tv toks.length (cellsOf toks)

section
variable {Y M : Nat} {tv : Value} {toks : List Tok} {pos : Nat} {line col e : Int} {free : Bool} {ls ln : Int} {es : Array MapEntry} {clk : Nat} {w : World}

theorem Prs.lt (h : Prs Y M tv toks pos line col e free ls ln es clk w) : Y < w.heap.size := (Array.getElem?_eq_some_iff.1 h.blk).1
theorem Prs.ltM (h : Prs Y M tv toks pos line col e free ls ln es clk w) : M < w.heap.size := (Array.getElem?_eq_some_iff.1 h.map).1
theorem Prs.ne (h : Prs Y M tv toks pos line col e free ls ln es clk w) : Y ≠ M := by
  rintro rfl
  have := h.blk.symm.trans h.map
  injection this with this
  cases this

theorem Prs.step (h : Prs Y M tv toks pos line col e free ls ln es clk w) {w' : World} (hb : Below w.heap.size w w') : Prs Y M tv toks pos line col e free ls ln es clk w' :=
  ⟨(hb.block Y h.lt).trans h.blk, (hb.block M h.ltM).trans h.map, fun he => own_step (h.row he) fun k hk => hb.block k ((h.row he).lt k hk).2⟩

theorem Prs.put (h : Prs Y M tv toks pos line col e free ls ln es clk w) (i : Nat) (u : Value) {pos' : Nat} {line' col' e' ls' ln' : Int} (he : e' = 0 → e = 0)
    (hu : (#[tv, .int .i64 pos, .int .i64 line, .int .i64 col, .int .i64 e, .bool free, .int .i64 ls, .int .i64 ln, .map (some M)] : Array Value).setIfInBounds i u = #[tv, .int .i64 pos', .int .i64 line', .int .i64 col', .int .i64 e', .bool free, .int .i64 ls', .int .i64 ln', .map (some M)]) :
    Prs Y M tv toks pos' line' col' e' free ls' ln' es clk (w.setCell ⟨Y, i, none⟩ u) := by
  refine ⟨by rw [Lib.heap_setCell_same h.blk, hu], (Below.heap_setCell _ _ _ _ (fun e => h.ne e.symm)).trans h.map, fun h0 => ?_⟩
  have hr := h.row (he h0)
  exact own_step hr fun k hk => Below.heap_setCell _ _ _ _ (fun e => own_ne hr h.blk (by intro cs fr hc; injection hc with _ h2 _; exact absurd h2 (by decide)) (by rw [hk, e]))

theorem Prs.c0 (h : Prs Y M tv toks pos line col e free ls ln es clk w) : w.cell? ⟨Y, 0, none⟩ = some tv := by rw [Lib.cell_of_heap h.blk]; rfl
theorem Prs.c1 (h : Prs Y M tv toks pos line col e free ls ln es clk w) : w.cell? ⟨Y, 1, none⟩ = some (.int .i64 pos) := by rw [Lib.cell_of_heap h.blk]; rfl
theorem Prs.c2 (h : Prs Y M tv toks pos line col e free ls ln es clk w) : w.cell? ⟨Y, 2, none⟩ = some (.int .i64 line) := by rw [Lib.cell_of_heap h.blk]; rfl
theorem Prs.c3 (h : Prs Y M tv toks pos line col e free ls ln es clk w) : w.cell? ⟨Y, 3, none⟩ = some (.int .i64 col) := by rw [Lib.cell_of_heap h.blk]; rfl
theorem Prs.c4 (h : Prs Y M tv toks pos line col e free ls ln es clk w) : w.cell? ⟨Y, 4, none⟩ = some (.int .i64 e) := by rw [Lib.cell_of_heap h.blk]; rfl
theorem Prs.c5 (h : Prs Y M tv toks pos line col e free ls ln es clk w) : w.cell? ⟨Y, 5, none⟩ = some (.bool free) := by rw [Lib.cell_of_heap h.blk]; rfl
theorem Prs.c6 (h : Prs Y M tv toks pos line col e free ls ln es clk w) : w.cell? ⟨Y, 6, none⟩ = some (.int .i64 ls) := by rw [Lib.cell_of_heap h.blk]; rfl
theorem Prs.c7 (h : Prs Y M tv toks pos line col e free ls ln es clk w) : w.cell? ⟨Y, 7, none⟩ = some (.int .i64 ln) := by rw [Lib.cell_of_heap h.blk]; rfl
theorem Prs.c8 (h : Prs Y M tv toks pos line col e free ls ln es clk w) : w.cell? ⟨Y, 8, none⟩ = some (.map (some M)) := by rw [Lib.cell_of_heap h.blk]; rfl
theorem Prs.fz (h : Prs Y M tv toks pos line col e free ls ln es clk w) (i : Nat) : w.frozen? ⟨Y, i, none⟩ = false := Lib.frozen_of_heap h.blk i

theorem cells_at : ∀ (l : List Tok) (i : Nat) (t : Tok) (j : Nat) (u : Value), l[i]? = some t → t.cells[j]? = some u → (cellsOf l)[i * 7 + j]? = some u
  | a :: l, 0, t, j, u, h, hj => by
    obtain rfl : a = t := by simpa using h
    have hlt : j < a.cells.length := (List.getElem?_eq_some_iff.1 hj).1
    simp only [cellsOf, List.flatMap_cons, Nat.zero_mul, Nat.zero_add]
    rw [List.getElem?_append_left hlt]; exact hj
  | a :: l, i + 1, t, j, u, h, hj => by
    have h' : l[i]? = some t := by simpa using h
    have := cells_at l i t j u h' hj
    have e7 : a.cells.length = 7 := rfl
    simp only [cellsOf, List.flatMap_cons] at this ⊢
    rw [List.getElem?_append_right (by rw [e7]; omega), e7]
    rw [show (i + 1) * 7 + j - 7 = i * 7 + j by omega]; exact this
  | [], i, t, j, u, h, _ => by simp at h

/-- Where the tokens' cells lie. -/
theorem Prs.tok (h : Prs Y M tv toks pos line col 0 free ls ln es clk w) {t : Tok} (ht : toks[pos]? = some t) :
    ∃ G cap, tv = .slice (some ⟨G, 0, none⟩) toks.length cap ∧ ∀ j u, t.cells[j]? = some u → w.cell? ⟨G, pos * 7 + j, none⟩ = some u := by
  have hr := h.row rfl
  have hp : pos < toks.length := (List.getElem?_eq_some_iff.1 ht).1
  obtain ⟨G, cap, rfl, _, _⟩ := hr.form (by omega)
  refine ⟨G, cap, rfl, fun j u hj => ?_⟩
  have := hr.cells (g := G) rfl (pos * 7 + j) u (cells_at _ _ _ _ _ ht hj)
  have hadd : (⟨G, 0, none⟩ : Addr).add (pos * 7 + j) = ⟨G, pos * 7 + j, none⟩ := by unfold Addr.add; split <;> simp_all
  rwa [hadd] at this

set_option maxHeartbeats 4000000 in
set_option maxRecDepth 100000 in
theorem peek_ok (h : Prs Y M tv toks pos line col 0 free ls ln es clk w) {t : Tok} (ht : toks[pos]? = some t) :
    Calls Tryz.prog 33 #[.pointer (some ⟨Y, 0, none⟩)] w fun r w' => r = .returned (.agg #[.int .i64 t.kind, .string t.text, .int .i64 t.value, .string t.bytes, .int .i64 t.line, .int .i64 t.col, .bool t.joined]) ∧ Below w.heap.size w w' := by
  obtain ⟨G, cap, rfl, hc⟩ := h.tok ht
  have hp : pos < toks.length := (List.getElem?_eq_some_iff.1 ht).1
  have c0 := h.c0
  have c1 := h.c1
  have c4 := h.c4
  have t0 : w.cell? ⟨G, pos * 7, none⟩ = some (.int .i64 t.kind) := hc 0 _ rfl
  have t1 := hc 1 _ rfl
  have t2 := hc 2 _ rfl
  have t3 := hc 3 _ rfl
  have t4 := hc 4 _ rfl
  have t5 := hc 5 _ rfl
  have t6 := hc 6 _ rfl
  have hp0 : (0 : Int) ≤ (pos : Int) := by omega
  have hp1 : (pos : Int) < (toks.length : Int) := by omega
  have n0 := World.new_ne w _ c0
  have n1 := World.new_ne w _ t0
  have l0 := World.block_lt_of_cell? w _ c0
  have l1 := World.block_lt_of_cell? w _ t0
  simp only at l0 l1
  clear h hc ht
  go_enter Tryz.func33, Tryz.ntmps33
  go_wp2
  go_region_held3 (fun w' => w'.cell? ⟨Y, 0, none⟩ = some (.slice (some ⟨G, 0, none⟩) toks.length cap) ∧ w'.cell? ⟨Y, 1, none⟩ = some (.int .i64 pos) ∧
      w'.cell? ⟨G, pos * 7, none⟩ = some (.int .i64 t.kind) ∧ w'.cell? ⟨G, pos * 7 + 1, none⟩ = some (.string t.text) ∧ w'.cell? ⟨G, pos * 7 + 2, none⟩ = some (.int .i64 t.value) ∧
      w'.cell? ⟨G, pos * 7 + 3, none⟩ = some (.string t.bytes) ∧ w'.cell? ⟨G, pos * 7 + 4, none⟩ = some (.int .i64 t.line) ∧ w'.cell? ⟨G, pos * 7 + 5, none⟩ = some (.int .i64 t.col) ∧ w'.cell? ⟨G, pos * 7 + 6, none⟩ = some (.bool t.joined)) (go_keep) (fail)
  go_wp2
  refine bodyPost_ret (results_cell_row rfl _ _ w.heap.size 111 _ (0, 0) _ rfl (heap_alloc_new w _) Tryz.underlying111 rfl Tryz.sizeTok) rfl ?_
  exact ⟨rfl, ((Below.refl _ w).alloc (Nat.le_refl _) _).drew⟩

set_option maxHeartbeats 4000000 in
set_option maxRecDepth 100000 in
theorem peek_err (h : Prs Y M tv toks pos line col e free ls ln es clk w) (he : e ≠ 0) :
    Calls Tryz.prog 33 #[.pointer (some ⟨Y, 0, none⟩)] w fun r w' => r = .returned (.agg #[.int .i64 (-1), .string ByteArray.empty, .int .i64 0, .string ByteArray.empty, .int .i64 0, .int .i64 0, .bool false]) ∧ Below w.heap.size w w' := by
  have c4 := h.c4
  have n0 := World.new_ne w _ c4
  have l0 := h.lt
  clear h
  go_enter Tryz.func33, Tryz.ntmps33
  go_wp2
  refine bodyPost_ret (results_cell_row rfl _ _ w.heap.size 111 _ (0, 0) _ rfl (heap_alloc_new w _) Tryz.underlying111 rfl Tryz.sizeTok) rfl ?_
  exact ⟨rfl, ((Below.refl _ w).alloc (Nat.le_refl _) _)⟩
end
end Go.Proofs.YtjnkppneilmpbaaGreatDoor

namespace Go.Proofs.YtjnkppneilmpbaaGreatDoor
open Go.RowKit

def IsTok (t : Tok) (tx : ByteArray) : Bool := (decide (t.kind = 1) || decide (t.kind = 4)) && decide (t.text = tx)

theorem toList_ne {a b : ByteArray} (h : ¬ a = b) : ¬ a.toList = b.toList := by
  intro e
  rw [Go.ByteArray.toList_eq, Go.ByteArray.toList_eq] at e
  exact h (ByteArray.ext (Array.ext' e))

section
variable {Y M : Nat} {tv : Value} {toks : List Tok} {pos : Nat} {line col e : Int} {free : Bool} {ls ln : Int} {es : Array MapEntry} {clk : Nat} {w : World} {t : Tok}

set_option maxHeartbeats 8000000 in
set_option maxRecDepth 100000 in
theorem is_ok (h : Prs Y M tv toks pos line col 0 free ls ln es clk w) (ht : toks[pos]? = some t) (tx : ByteArray) {b : Bool} (hb : IsTok t tx = b) :
    Calls Tryz.prog 29 #[.pointer (some ⟨Y, 0, none⟩), .string tx] w fun r w' => r = .returned (.bool b) ∧ Below w.heap.size w w' := by
  have hp := peek_ok h ht
  obtain ⟨kd, text, v, bt, lin, cl, j⟩ := t
  simp only [IsTok] at hb hp
  clear h ht
  by_cases h1 : kd = 1
  · subst h1
    by_cases hx : text = tx
    · subst hx
      go_enter Tryz.func29, Tryz.ntmps29
      go_wp2_with (go_at_call 33; refine hp.mono ?_)
      intro r w1; first | (intro he b1; subst he) | rintro ⟨rfl, b1⟩
      go_wp2
      go_ret
      refine ⟨?_, b1.alloc b1.size _⟩
      first | (rw [← hb]; simp; done) | simp_all
    · try have hx' := toList_ne hx
      go_enter Tryz.func29, Tryz.ntmps29
      go_wp2_with (go_at_call 33; refine hp.mono ?_)
      intro r w1; first | (intro he b1; subst he) | rintro ⟨rfl, b1⟩
      go_wp2
      go_ret
      refine ⟨?_, b1.alloc b1.size _⟩
      first | (rw [← hb]; simp; done) | simp_all
  · by_cases h4 : kd = 4
    · subst h4
      by_cases hx : text = tx
      · subst hx
        go_enter Tryz.func29, Tryz.ntmps29
        go_wp2_with (go_at_call 33; refine hp.mono ?_)
        intro r w1; first | (intro he b1; subst he) | rintro ⟨rfl, b1⟩
        go_wp2
        go_ret
        refine ⟨?_, b1.alloc b1.size _⟩
        first | (rw [← hb]; simp; done) | simp_all
      · have hx' := toList_ne hx
        go_enter Tryz.func29, Tryz.ntmps29
        go_wp2_with (go_at_call 33; refine hp.mono ?_)
        intro r w1; first | (intro he b1; subst he) | rintro ⟨rfl, b1⟩
        go_wp2
        go_ret
        refine ⟨?_, b1.alloc b1.size _⟩
        first | (rw [← hb]; simp; done) | simp_all
    · try have hx' := toList_ne hx
      go_enter Tryz.func29, Tryz.ntmps29
      go_wp2_with (go_at_call 33; refine hp.mono ?_)
      intro r w1; first | (intro he b1; subst he) | rintro ⟨rfl, b1⟩
      go_wp2
      go_ret
      refine ⟨?_, b1.alloc b1.size _⟩
      first | (rw [← hb]; simp; done) | simp_all

set_option maxHeartbeats 8000000 in
set_option maxRecDepth 100000 in
theorem is_err (h : Prs Y M tv toks pos line col e free ls ln es clk w) (he : e ≠ 0) (tx : ByteArray) :
    Calls Tryz.prog 29 #[.pointer (some ⟨Y, 0, none⟩), .string tx] w fun r w' => r = .returned (.bool false) ∧ Below w.heap.size w w' := by
  have hp := peek_err h he
  clear h
  go_enter Tryz.func29, Tryz.ntmps29
  go_wp2_with (go_at_call 33; refine hp.mono ?_)
  intro r w1; first | (intro he b1; subst he) | rintro ⟨rfl, b1⟩
  go_wp2
  go_ret
  exact ⟨rfl, b1.alloc b1.size _⟩

theorem Prs.next (h : Prs Y M tv toks pos line col e free ls ln es clk w) : Prs Y M tv toks (pos + 1) line col e free ls ln es clk (w.setCell ⟨Y, 1, none⟩ (.int .i64 ((pos : Int) + 1))) :=
  h.put 1 _ (fun h => h) (by rw [show ((pos + 1 : Nat) : Int) = (pos : Int) + 1 by omega]; rfl)

set_option maxHeartbeats 8000000 in
set_option maxRecDepth 100000 in
theorem accept_yes (h : Prs Y M tv toks pos line col 0 free ls ln es clk w) (ht : toks[pos]? = some t) (tx : ByteArray) (hb : IsTok t tx = true) (hpos : pos ≤ 1048576) :
    Calls Tryz.prog 27 #[.pointer (some ⟨Y, 0, none⟩), .string tx] w fun r w' => r = .returned (.bool true) ∧ Prs Y M tv toks (pos + 1) line col 0 free ls ln es clk w' ∧ Away [Y] w w' := by
  have hi := is_ok h ht tx hb
  have hst := fun w' (b : Below w.heap.size w w') => h.step b
  clear h ht hb
  have hw : IntKind.i64.wrap ((pos : Int) + 1) = (pos : Int) + 1 := IntWalk.i64_in _ (by omega)
  go_enter Tryz.func27, Tryz.ntmps27
  go_wp2_with (go_at_call 29; refine hi.mono ?_)
  intro r w1; first | (intro he b1; subst he) | rintro ⟨rfl, b1⟩
  have hS := hst _ b1
  have c1 := hS.c1
  have f1 := hS.fz 1
  have hN := hS.next
  clear hS hst hi
  go_wp2
  go_ret
  exact ⟨rfl, hN, (Away.of_below b1).setCell (.inl (by simp)) _⟩

set_option maxHeartbeats 8000000 in
set_option maxRecDepth 100000 in
theorem accept_of (tx : ByteArray) (hi : Calls Tryz.prog 29 #[.pointer (some ⟨Y, 0, none⟩), .string tx] w fun r w' => r = .returned (.bool false) ∧ Below w.heap.size w w') :
    Calls Tryz.prog 27 #[.pointer (some ⟨Y, 0, none⟩), .string tx] w fun r w' => r = .returned (.bool false) ∧ Below w.heap.size w w' := by
  go_enter Tryz.func27, Tryz.ntmps27
  go_wp2_with (go_at_call 29; refine hi.mono ?_)
  intro r w1; first | (intro he b1; subst he) | rintro ⟨rfl, b1⟩
  go_wp2
  go_ret
  exact ⟨rfl, b1⟩

theorem accept_no (h : Prs Y M tv toks pos line col 0 free ls ln es clk w) (ht : toks[pos]? = some t) (tx : ByteArray) (hb : IsTok t tx = false) :
    Calls Tryz.prog 27 #[.pointer (some ⟨Y, 0, none⟩), .string tx] w fun r w' => r = .returned (.bool false) ∧ Below w.heap.size w w' := accept_of tx (is_ok h ht tx hb)
theorem accept_err (h : Prs Y M tv toks pos line col e free ls ln es clk w) (he : e ≠ 0) (tx : ByteArray) :
    Calls Tryz.prog 27 #[.pointer (some ⟨Y, 0, none⟩), .string tx] w fun r w' => r = .returned (.bool false) ∧ Below w.heap.size w w' := accept_of tx (is_err h he tx)

set_option maxHeartbeats 8000000 in
set_option maxRecDepth 100000 in
theorem fail_err (h : Prs Y M tv toks pos line col e free ls ln es clk w) (he : e ≠ 0) (c : Int) :
    Calls Tryz.prog 49 #[.pointer (some ⟨Y, 0, none⟩), .int .i64 c] w fun r w' => r = .returned (.tuple #[]) ∧ Below w.heap.size w w' := by
  have c4 := h.c4
  clear h
  go_enter Tryz.func49, Tryz.ntmps49
  go_wp2
  go_end0
  exact ⟨rfl, Below.refl _ _⟩

set_option maxHeartbeats 8000000 in
set_option maxRecDepth 100000 in
theorem expect_yes (h : Prs Y M tv toks pos line col 0 free ls ln es clk w) (ht : toks[pos]? = some t) (tx : ByteArray) (hb : IsTok t tx = true) (hpos : pos ≤ 1048576) :
    Calls Tryz.prog 25 #[.pointer (some ⟨Y, 0, none⟩), .string tx] w fun r w' => r = .returned (.tuple #[]) ∧ Prs Y M tv toks (pos + 1) line col 0 free ls ln es clk w' ∧ Away [Y] w w' := by
  have hi := accept_yes h ht tx hb hpos
  clear h ht hb
  go_enter Tryz.func25, Tryz.ntmps25
  go_wp2_with (go_at_call 27; refine hi.mono ?_)
  intro r w1; first | (intro he hS b1; subst he) | rintro ⟨rfl, hS, b1⟩
  go_wp2
  go_end0
  exact ⟨rfl, hS, b1⟩

set_option maxHeartbeats 8000000 in
set_option maxRecDepth 100000 in
theorem expect_err (h : Prs Y M tv toks pos line col e free ls ln es clk w) (he : e ≠ 0) (tx : ByteArray) :
    Calls Tryz.prog 25 #[.pointer (some ⟨Y, 0, none⟩), .string tx] w fun r w' => r = .returned (.tuple #[]) ∧ Below w.heap.size w w' := by
  have hi := accept_err h he tx
  have hf := fun w' (b : Below w.heap.size w w') => fail_err (h.step b) he 13
  clear h
  go_enter Tryz.func25, Tryz.ntmps25
  go_wp2_with (go_at_call 27; refine hi.mono ?_)
  intro r w1; first | (intro he b1; subst he) | rintro ⟨rfl, b1⟩
  have hf1 := hf _ b1
  go_wp2_with (go_at_call 49; refine hf1.mono ?_)
  intro r w2; first | (intro he b2; subst he) | rintro ⟨rfl, b2⟩
  go_wp2
  go_end0
  exact ⟨rfl, b1.trans (b2.mono b1.size)⟩
end
end Go.Proofs.YtjnkppneilmpbaaGreatDoor

namespace Go.Proofs.YtjnkppneilmpbaaGreatDoor
open Go.RowKit

section
variable {Y M : Nat} {tv : Value} {toks : List Tok} {pos : Nat} {line col e : Int} {free : Bool} {ls ln : Int} {es : Array MapEntry} {clk : Nat} {w : World} {t : Tok}

theorem Prs.failed (h : Prs Y M tv toks pos line col e free ls ln es clk w) (l c x : Int) (hx : x ≠ 0) :
    Prs Y M tv toks pos l c x free ls ln es clk (((w.setCell ⟨Y, 4, none⟩ (.int .i64 x)).setCell ⟨Y, 2, none⟩ (.int .i64 l)).setCell ⟨Y, 3, none⟩ (.int .i64 c)) :=
  ((h.put (e' := x) (pos' := pos) (line' := line) (col' := col) (ls' := ls) (ln' := ln) 4 _ (fun h0 => absurd h0 hx) rfl).put (e' := x) (pos' := pos) (line' := l) (col' := col) (ls' := ls) (ln' := ln) 2 _ (fun h => h) rfl).put (e' := x) (pos' := pos) (line' := l) (col' := c) (ls' := ls) (ln' := ln) 3 _ (fun h => h) rfl

set_option maxHeartbeats 8000000 in
set_option maxRecDepth 100000 in
theorem fail_ok (h : Prs Y M tv toks pos line col 0 free ls ln es clk w) (ht : toks[pos]? = some t) (c : Int) (hc : c ≠ 0) :
    Calls Tryz.prog 49 #[.pointer (some ⟨Y, 0, none⟩), .int .i64 c] w fun r w' => r = .returned (.tuple #[]) ∧ Prs Y M tv toks pos t.line t.col c free ls ln es clk w' ∧ Away [Y] w w' := by
  have hp := peek_ok h ht
  have hst := fun w' (b : Below w.heap.size w w') => h.step b
  have c4 := h.c4
  clear h ht
  go_enter Tryz.func49, Tryz.ntmps49
  go_wp2_with (go_at_call 33; refine hp.mono ?_)
  intro r w1; first | (intro he b1; subst he) | rintro ⟨rfl, b1⟩
  go_wp2
  have hT := heap_alloc_new w1 (.cells #[.int .i64 t.kind, .string t.text, .int .i64 t.value, .string t.bytes, .int .i64 t.line, .int .i64 t.col, .bool t.joined] 111)
  have b2 := b1.alloc b1.size (.cells #[.int .i64 t.kind, .string t.text, .int .i64 t.value, .string t.bytes, .int .i64 t.line, .int .i64 t.col, .bool t.joined] 111)
  generalize w1.alloc (.cells #[.int .i64 t.kind, .string t.text, .int .i64 t.value, .string t.bytes, .int .i64 t.line, .int .i64 t.col, .bool t.joined] 111) = w2 at hT b2 ⊢
  generalize w1.heap.size = T at hT ⊢
  have hS := hst _ b2
  have d4 := hS.c4
  have d2 := hS.c2
  have d3 := hS.c3
  have f4 := hS.fz 4
  have f2 := hS.fz 2
  have f3 := hS.fz 3
  have k4 : w2.cell? ⟨T, 4, none⟩ = some (.int .i64 t.line) := by rw [Lib.cell_of_heap hT]; rfl
  have k5 : w2.cell? ⟨T, 5, none⟩ = some (.int .i64 t.col) := by rw [Lib.cell_of_heap hT]; rfl
  have hTY : T ≠ Y := by
    rintro rfl
    rw [hS.blk] at hT
    injection hT with hT
    injection hT with _ h2 _
    exact absurd h2 (by decide)
  have hfin := (hS.step (Below.refl _ _).drew).failed t.line t.col c hc
  clear hS hst c4 hp hT
  go_region
  all_goals go_end0
  all_goals exact ⟨rfl, hfin, (((Away.of_below b2).drew.setCell (.inl (by simp)) _).setCell (.inl (by simp)) _).setCell (.inl (by simp)) _⟩

set_option maxHeartbeats 8000000 in
set_option maxRecDepth 100000 in
theorem str_ok (h : Prs Y M tv toks pos line col 0 free ls ln es clk w) (ht : toks[pos]? = some t) (hk : t.kind = 3) (hpos : pos ≤ 1048576) :
    Calls Tryz.prog 26 #[.pointer (some ⟨Y, 0, none⟩)] w fun r w' => r = .returned (.string t.bytes) ∧ Prs Y M tv toks (pos + 1) line col 0 free ls ln es clk w' ∧ Away [Y] w w' := by
  have hp := peek_ok h ht
  have hst := fun w' (b : Below w.heap.size w w') => h.step b
  clear h ht
  rw [hk] at hp
  have hw : IntKind.i64.wrap ((pos : Int) + 1) = (pos : Int) + 1 := IntWalk.i64_in _ (by omega)
  go_enter Tryz.func26, Tryz.ntmps26
  go_wp2_with (go_at_call 33; refine hp.mono ?_)
  intro r w1; first | (intro he b1; subst he) | rintro ⟨rfl, b1⟩
  have hS1 := hst _ b1
  have d1 := hS1.c1
  have l1 := hS1.lt
  have n1 := World.new_ne w1 _ d1
  have f1 := hS1.fz 1
  have hN := hS1.next.step ((Below.refl _ _).alloc (Nat.le_refl _) (.cells #[.int .i64 3, .string t.text, .int .i64 t.value, .string t.bytes, .int .i64 t.line, .int .i64 t.col, .bool t.joined] 111))
  clear hst hp hS1
  go_wp2
  go_ret
  exact ⟨rfl, hN, ((Away.of_below b1).setCell (.inl (by simp)) _).alloc _⟩

set_option maxHeartbeats 8000000 in
set_option maxRecDepth 100000 in
theorem str_err (h : Prs Y M tv toks pos line col e free ls ln es clk w) (he : e ≠ 0) :
    Calls Tryz.prog 26 #[.pointer (some ⟨Y, 0, none⟩)] w fun r w' => r = .returned (.string ByteArray.empty) ∧ Below w.heap.size w w' := by
  have hp := peek_err h he
  have hf := fun w' (b : Below w.heap.size w w') => fail_err (h.step b) he 13
  clear h
  go_enter Tryz.func26, Tryz.ntmps26
  go_wp2_with (go_at_call 33; refine hp.mono ?_)
  intro r w1; first | (intro he b1; subst he) | rintro ⟨rfl, b1⟩
  have b2 := b1.alloc b1.size (.cells #[.int .i64 (-1), .string ByteArray.empty, .int .i64 0, .string ByteArray.empty, .int .i64 0, .int .i64 0, .bool false] 111)
  have hf1 := hf _ b2
  go_wp2_with (go_at_call 49; refine hf1.mono ?_)
  intro r w3; first | (intro he b3; subst he) | rintro ⟨rfl, b3⟩
  go_wp2
  go_ret
  exact ⟨rfl, b2.trans (b3.mono b2.size)⟩

set_option maxHeartbeats 8000000 in
set_option maxRecDepth 100000 in
theorem number_ok (h : Prs Y M tv toks pos line col 0 free ls ln es clk w) (ht : toks[pos]? = some t) (hk : t.kind = 2) (hpos : pos ≤ 1048576) (lo hi : Int) (hlo : lo ≤ t.value) (hhi : t.value ≤ hi) :
    Calls Tryz.prog 50 #[.pointer (some ⟨Y, 0, none⟩), .int .i64 lo, .int .i64 hi] w fun r w' => r = .returned (.int .i64 t.value) ∧ Prs Y M tv toks (pos + 1) line col 0 free ls ln es clk w' ∧ Away [Y] w w' := by
  have hp := peek_ok h ht
  have hst := fun w' (b : Below w.heap.size w w') => h.step b
  clear h ht
  obtain ⟨kd, text, v, bt, lin, cl, j⟩ := t
  simp only at hk hlo hhi hp ⊢
  subst hk
  have hw : IntKind.i64.wrap ((pos : Int) + 1) = (pos : Int) + 1 := IntWalk.i64_in _ (by omega)
  have hl1 : decide (v < lo) = false := decide_eq_false (by omega)
  have hl2 : decide (hi < v) = false := decide_eq_false (by omega)
  go_enter Tryz.func50, Tryz.ntmps50
  go_wp2_with (go_at_call 33; refine hp.mono ?_)
  intro r w1; first | (intro he b1; subst he) | rintro ⟨rfl, b1⟩
  have hS1 := hst _ b1
  have d1 := hS1.c1
  have l1 := hS1.lt
  have n1 := World.new_ne w1 _ d1
  have f1 := hS1.fz 1
  have hN := hS1.next.step ((Below.refl _ _).alloc (Nat.le_refl _) (.cells #[.int .i64 2, .string text, .int .i64 v, .string bt, .int .i64 lin, .int .i64 cl, .bool j] 111))
  clear hst hp hS1
  go_wp2
  go_ret
  exact ⟨rfl, hN, ((Away.of_below b1).setCell (.inl (by simp)) _).alloc _⟩

set_option maxHeartbeats 8000000 in
set_option maxRecDepth 100000 in
theorem number_range (h : Prs Y M tv toks pos line col 0 free ls ln es clk w) (ht : toks[pos]? = some t) (hk : t.kind = 2) (lo hi : Int) (hr : t.value < lo ∨ hi < t.value) :
    Calls Tryz.prog 50 #[.pointer (some ⟨Y, 0, none⟩), .int .i64 lo, .int .i64 hi] w fun r w' => r = .returned (.int .i64 0) ∧ Prs Y M tv toks pos t.line t.col 2 free ls ln es clk w' ∧ Away [Y] w w' := by
  have hp := peek_ok h ht
  have hf := fun w' (b : Below w.heap.size w w') => fail_ok (h.step b) ht 2 (by decide)
  clear h ht
  obtain ⟨kd, text, v, bt, lin, cl, j⟩ := t
  simp only at hk hr hp hf ⊢
  subst hk
  by_cases hl : v < lo
  · go_enter Tryz.func50, Tryz.ntmps50
    go_wp2_with (go_at_call 33; refine hp.mono ?_)
    intro r w1; first | (intro he b1; subst he) | rintro ⟨rfl, b1⟩
    have b2 := b1.alloc b1.size (.cells #[.int .i64 2, .string text, .int .i64 v, .string bt, .int .i64 lin, .int .i64 cl, .bool j] 111)
    have hf1 := hf _ b2
    go_wp2_with (go_at_call 49; refine hf1.mono ?_)
    intro r w3; first | (intro he hS b3; subst he) | rintro ⟨rfl, hS, b3⟩
    go_wp2
    go_ret
    exact ⟨rfl, hS, (Away.of_below b2).trans b3⟩
  · have hl1 : decide (v < lo) = false := decide_eq_false hl
    have hl2 : hi < v := by omega
    go_enter Tryz.func50, Tryz.ntmps50
    go_wp2_with (go_at_call 33; refine hp.mono ?_)
    intro r w1; first | (intro he b1; subst he) | rintro ⟨rfl, b1⟩
    have b2 := b1.alloc b1.size (.cells #[.int .i64 2, .string text, .int .i64 v, .string bt, .int .i64 lin, .int .i64 cl, .bool j] 111)
    have hf1 := hf _ b2
    go_wp2_with (go_at_call 49; refine hf1.mono ?_)
    intro r w3; first | (intro he hS b3; subst he) | rintro ⟨rfl, hS, b3⟩
    go_wp2
    go_ret
    exact ⟨rfl, hS, (Away.of_below b2).trans b3⟩

set_option maxHeartbeats 8000000 in
set_option maxRecDepth 100000 in
theorem number_err (h : Prs Y M tv toks pos line col e free ls ln es clk w) (he : e ≠ 0) (lo hi : Int) :
    Calls Tryz.prog 50 #[.pointer (some ⟨Y, 0, none⟩), .int .i64 lo, .int .i64 hi] w fun r w' => r = .returned (.int .i64 0) ∧ Below w.heap.size w w' := by
  have hp := peek_err h he
  have hf := fun w' (b : Below w.heap.size w w') => fail_err (h.step b) he 13
  clear h
  go_enter Tryz.func50, Tryz.ntmps50
  go_wp2_with (go_at_call 33; refine hp.mono ?_)
  intro r w1; first | (intro he b1; subst he) | rintro ⟨rfl, b1⟩
  have b2 := b1.alloc b1.size (.cells #[.int .i64 (-1), .string ByteArray.empty, .int .i64 0, .string ByteArray.empty, .int .i64 0, .int .i64 0, .bool false] 111)
  have hf1 := hf _ b2
  go_wp2_with (go_at_call 49; refine hf1.mono ?_)
  intro r w3; first | (intro he b3; subst he) | rintro ⟨rfl, b3⟩
  go_wp2
  go_ret
  exact ⟨rfl, b2.trans (b3.mono b2.size)⟩
end
end Go.Proofs.YtjnkppneilmpbaaGreatDoor
