/-
  A part of the proof that the law ParserSheets (chapter 19) returns true for every sheet: walks of the program's functions, and runs of them in the kernel by the own evaluator.
-/
import Derived.Test.YtjnkppneilmpbaaGreatDoorSho
import Derived.Deep.Cut
import Derived.Deep.CutRange
import Derived.Test.YtjnkppneilmpbaaGreatDoorOkf
import Derived.Test.YtjnkppneilmpbaaGreatDoorKnw
namespace Go.Proofs.YtjnkppneilmpbaaGreatDoor
open Go.RowKit Go.Dam

def trebS : ByteArray := ⟨#[116, 114, 101, 98, 108, 101]⟩
noncomputable def trebOk : Bool := match evCall noOrc Tryz.prog fsAll 400 12 (.func 73) [.string trebS] ⟨[], 100⟩ with
  | some (v, _) => veq (.tuple #[.int .i64 1, .int .i64 0]) v
  | none => false
set_option maxRecDepth 1000000 in
theorem treb_ok : trebOk = true := by kernel_rfl

theorem find_treb (w : World) : Calls Tryz.prog 73 #[.string trebS] w fun e w' => e = .returned (.tuple #[.int .i64 1, .int .i64 0]) ∧ Below w.heap.size w w' := by
  have h := treb_ok
  unfold trebOk at h
  split at h
  · rename_i v S he
    obtain rfl := veq_spec h
    refine closed (args := [.string trebS]) noOrc_ok mixed_ok (namesOk_of names_ok) (ok_any _) (h := []) (nx := 100) rfl (by decide) (Nat.le_of_ble_eq_true (by kernel_rfl)) ?_ rfl he rfl ?_
    · intro x hx; obtain rfl := List.mem_singleton.1 hx; rfl
    · intro n o hn; cases hn
  · cases h

section
variable {Y M : Nat} {tv : Value} {toks : List Tok} {pos : Nat} {line col e : Int} {free : Bool} {ls ln : Int} {es : Array MapEntry} {clk : Nat} {w : World} {t : Tok}

set_option maxHeartbeats 8000000 in
set_option maxRecDepth 100000 in
theorem word_ok (h : Prs Y M tv toks pos line col 0 free ls ln es clk w) (ht : toks[pos]? = some t) (hk : t.kind = 1) (hpos : pos ≤ 1048576) {Q : Nat} {ws : Array MapEntry} {c i : Nat} {n : Int} (hQ : w.heap[Q]? = some (.map ws c)) (hf : Instr.findNow .string (.string t.text) ws.toList 0 = some (some (i, .int .i64 n))) :
    Calls Tryz.prog 74 #[.pointer (some ⟨Y, 0, none⟩), .map (some Q)] w fun r w' => r = .returned (.int .i64 n) ∧ Prs Y M tv toks (pos + 1) line col 0 free ls ln es clk w' ∧ Away [Y] w w' := by
  have hp := peek_ok h ht
  have hst := fun w' (b : Below w.heap.size w w') => h.step b
  have lQ := (Array.getElem?_eq_some_iff.1 hQ).1
  clear h ht
  rw [hk] at hp
  have hw : IntKind.i64.wrap ((pos : Int) + 1) = (pos : Int) + 1 := IntWalk.i64_in _ (by omega)
  go_enter Tryz.func74, Tryz.ntmps74
  go_wp2_with (go_at_call 33; refine hp.mono ?_)
  intro r w1; first | (intro he b1; subst he) | rintro ⟨rfl, b1⟩
  have b2 := b1.alloc b1.size (.cells #[.int .i64 1, .string t.text, .int .i64 t.value, .string t.bytes, .int .i64 t.line, .int .i64 t.col, .bool t.joined] 111)
  have hQ2 := (b2.block Q lQ).trans hQ
  have hlk := look_str_yes hQ2 t.text hf
  have hS1 := hst _ b1
  have d1 := hS1.c1
  have l1 := hS1.lt
  have n1 := World.new_ne w1 _ d1
  have f1 := hS1.fz 1
  have hN := hS1.next.step ((Below.refl _ _).alloc (Nat.le_refl _) (.cells #[.int .i64 1, .string t.text, .int .i64 t.value, .string t.bytes, .int .i64 t.line, .int .i64 t.col, .bool t.joined] 111))
  clear hst hp hS1 hQ hQ2 hf
  go_wp2
  go_ret
  exact ⟨rfl, hN, ((Away.of_below b1).setCell (.inl (by simp)) _).alloc _⟩

set_option maxHeartbeats 8000000 in
set_option maxRecDepth 100000 in
theorem word_err (h : Prs Y M tv toks pos line col e free ls ln es clk w) (he : e ≠ 0) {Q : Nat} {ws : Array MapEntry} {c : Nat} (hQ : w.heap[Q]? = some (.map ws c)) (hf : Instr.findNow .string (.string ByteArray.empty) ws.toList 0 = some none) :
    Calls Tryz.prog 74 #[.pointer (some ⟨Y, 0, none⟩), .map (some Q)] w fun r w' => r = .returned (.int .i64 0) ∧ Below w.heap.size w w' := by
  have hp := peek_err h he
  have hfl := fun w' (b : Below w.heap.size w w') => fail_err (h.step b) he 13
  have lQ := (Array.getElem?_eq_some_iff.1 hQ).1
  clear h
  go_enter Tryz.func74, Tryz.ntmps74
  go_wp2_with (go_at_call 33; refine hp.mono ?_)
  intro r w1; first | (intro he b1; subst he) | rintro ⟨rfl, b1⟩
  have b2 := b1.alloc b1.size (.cells #[.int .i64 (-1), .string ByteArray.empty, .int .i64 0, .string ByteArray.empty, .int .i64 0, .int .i64 0, .bool false] 111)
  have hQ2 := (b2.block Q lQ).trans hQ
  have hlk := look_str_no hQ2 ByteArray.empty hf
  have hf1 := hfl _ b2
  clear hQ2 hQ
  go_wp2_with (go_at_call 49; refine hf1.mono ?_)
  intro r w3; first | (intro he b3; subst he) | rintro ⟨rfl, b3⟩
  go_wp2
  go_ret
  exact ⟨rfl, b2.trans (b3.mono b2.size)⟩

theorem put_str_at {M : Nat} {es : Array MapEntry} {clk : Nat} {w : World} (h : w.heap[M]? = some (.map es clk)) (k : ByteArray) (v : Value) (hf : Instr.findNow .string (.string k) es.toList 0 = some none) :
    (Instr.mapUpdate 108 (.map (some M)) (.string k) v).run Tryz.prog w = .ok () { w with heap := w.heap.setIfInBounds M (.map (es.push ⟨.string k, v, clk⟩) (clk + 1)) } := by
  unfold Instr.mapUpdate
  simp only [Sem.run_bind, run_underlying Tryz.underlying108, Result.andThen_ok, getObj_run h, ck_str, find_str k hf]
  rw [setObj_run _ h]

theorem Prs.other (h : Prs Y M tv toks pos line col e free ls ln es clk w) {Q : Nat} {ws : Array MapEntry} {c : Nat} (hQ : w.heap[Q]? = some (.map ws c)) (hM : Q ≠ M) (o : Obj) : Prs Y M tv toks pos line col e free ls ln es clk { w with heap := w.heap.setIfInBounds Q o } := by
  refine ⟨?_, ?_, fun he => own_step (h.row he) fun k hk => ?_⟩
  · show (w.heap.setIfInBounds Q _)[Y]? = _
    rw [Array.getElem?_setIfInBounds_ne]; exact h.blk
    rintro rfl
    rw [h.blk] at hQ
    injection hQ with hQ
    cases hQ
  · show (w.heap.setIfInBounds Q _)[M]? = _
    rw [Array.getElem?_setIfInBounds_ne hM]; exact h.map
  · show (w.heap.setIfInBounds Q _)[k]? = _
    rw [Array.getElem?_setIfInBounds_ne]
    rintro rfl
    exact own_ne (h.row he) hQ (by intro cs' fr' hc; cases hc) hk

theorem Away.newer {bs : List Nat} {a w : World} (h : Away bs a w) {Q : Nat} (hQ : a.heap.size ≤ Q) (o : Obj) : Away bs a { w with heap := w.heap.setIfInBounds Q o } :=
  ⟨h.os, h.tape, h.output, by simpa using h.size, fun k hk hb => by
    show (w.heap.setIfInBounds Q o)[k]? = _
    rw [Array.getElem?_setIfInBounds_ne (by omega)]; exact h.block k hk hb⟩

set_option maxHeartbeats 8000000 in
set_option maxRecDepth 100000 in
theorem clef_ok (h : Prs Y M tv toks pos line col 0 free ls ln es clk w) (ht : toks[pos]? = some t) (hk : t.kind = 1) (hx : t.text = trebS) (hpos : pos ≤ 1048576) :
    Calls Tryz.prog 52 #[.pointer (some ⟨Y, 0, none⟩)] w fun r w' => r = .returned (.int .i64 1) ∧ Prs Y M tv toks (pos + 1) line col 0 free ls ln es clk w' ∧ Away [Y] w w' := by
  obtain ⟨kd, text, v, bt, lin, cl, j⟩ := t
  simp only at hk hx
  subst hk hx
  have hmk : (Instr.makeMap 108 none).run Tryz.prog w = .ok (.map (some w.heap.size)) (w.alloc (.map #[] 0)) := by
    simp [Instr.makeMap, newObj, Sem.run]
  have b0 := (Below.refl w.heap.size w).alloc (Nat.le_refl _) (.map #[] 0)
  have hp := peek_ok (h.step b0) ht
  have hQ0 := heap_alloc_new w (.map #[] 0)
  go_enter Tryz.func52, Tryz.ntmps52
  go_wp2_with (go_at_call 33; refine hp.mono ?_)
  intro r w1; first | (intro he b1; subst he) | rintro ⟨rfl, b1⟩
  have b1' : Below (w.alloc (.map #[] 0)).heap.size (w.alloc (.map #[] 0)) w1 := by simpa using b1
  have hQ1 := (b1'.block _ (Array.getElem?_eq_some_iff.1 hQ0).1).trans hQ0
  have bT := b1'.alloc b1'.size (.cells #[.int .i64 1, .string trebS, .int .i64 v, .string bt, .int .i64 lin, .int .i64 cl, .bool j] 111)
  have aw1 := (Away.of_below (bs := [Y]) b0).trans (Away.of_below bT)
  have hT := heap_alloc_new w1 (.cells #[.int .i64 1, .string trebS, .int .i64 v, .string bt, .int .i64 lin, .int .i64 cl, .bool j] 111)
  have hQT := (bT.block _ (Array.getElem?_eq_some_iff.1 hQ0).1).trans hQ0
  have hS := (h.step b0).step bT
  have hQT1 : w.heap.size ≠ w1.heap.size := by
    have := (Array.getElem?_eq_some_iff.1 hQ1).1
    omega
  have hTY : w1.heap.size ≠ Y := by
    have := ((h.step b0).step b1').lt
    omega
  have hQY : w.heap.size ≠ Y := by
    have := h.lt
    omega
  have hQMx : w.heap.size ≠ M := by
    have := h.ltM
    omega
  clear hp h b0 b1 b1' hQ0 hQ1 bT
  have k0 : (w1.alloc (.cells #[.int .i64 1, .string trebS, .int .i64 v, .string bt, .int .i64 lin, .int .i64 cl, .bool j] 111)).cell? ⟨w1.heap.size, 1, none⟩ = some (.string trebS) := by rw [Lib.cell_of_heap hT]; rfl
  have fb := find_treb (w1.alloc (.cells #[.int .i64 1, .string trebS, .int .i64 v, .string bt, .int .i64 lin, .int .i64 cl, .bool j] 111))
  go_wp2_with (go_at_call 73; refine fb.mono ?_)
  intro r w2; first | (intro he b2; subst he) | rintro ⟨rfl, b2⟩
  have hT2 := (b2.block _ (Array.getElem?_eq_some_iff.1 hT).1).trans hT
  have hQ2 := (b2.block _ (Array.getElem?_eq_some_iff.1 hQT).1).trans hQT
  have hS2 := hS.step b2
  have aw2 := aw1.trans (Away.of_below b2)
  have hput := put_str_at hQ2 trebS (.int .i64 1) rfl
  have hQM : w.heap.size ≠ M := hQMx
  have k2 : w2.cell? ⟨w1.heap.size, 1, none⟩ = some (.string trebS) := by rw [Lib.cell_of_heap hT2]; rfl
  have hS3 := hS2.other hQ2 hQM (.map ((#[] : Array MapEntry).push ⟨.string trebS, .int .i64 1, 0⟩) (0 + 1))
  have aw3 := aw2.newer (Nat.le_refl _) (.map ((#[] : Array MapEntry).push ⟨.string trebS, .int .i64 1, 0⟩) (0 + 1))
  have hQ3 : ({ w2 with heap := w2.heap.setIfInBounds w.heap.size (.map ((#[] : Array MapEntry).push ⟨.string trebS, .int .i64 1, 0⟩) (0 + 1)) } : World).heap[w.heap.size]? = some (.map ((#[] : Array MapEntry).push ⟨.string trebS, .int .i64 1, 0⟩) (0 + 1)) := Array.getElem?_setIfInBounds_self_of_lt (Array.getElem?_eq_some_iff.1 hQ2).1
  generalize ({ w2 with heap := w2.heap.setIfInBounds w.heap.size (.map ((#[] : Array MapEntry).push ⟨.string trebS, .int .i64 1, 0⟩) (0 + 1)) } : World) = w3 at hS3 aw3 hQ3 hput
  have hwd := word_ok hS3 ht rfl hpos hQ3 (i := 0) (n := 1) rfl
  clear hS hS2 aw1 aw2 b2 hT hQT fb k0 hT2 hQ2 hS3
  go_wp2_with (go_at_call 74; refine hwd.mono ?_)
  intro r w4; first | (intro he hS4 b4; subst he) | rintro ⟨rfl, hS4, b4⟩
  go_wp2
  go_ret
  exact ⟨rfl, hS4, aw3.trans b4⟩

set_option maxHeartbeats 8000000 in
set_option maxRecDepth 100000 in
theorem clef_err (h : Prs Y M tv toks pos line col e free ls ln es clk w) (he : e ≠ 0) :
    Calls Tryz.prog 52 #[.pointer (some ⟨Y, 0, none⟩)] w fun r w' => r = .returned (.int .i64 0) ∧ Below w.heap.size w w' := by
  have hmk : (Instr.makeMap 108 none).run Tryz.prog w = .ok (.map (some w.heap.size)) (w.alloc (.map #[] 0)) := by
    simp [Instr.makeMap, newObj, Sem.run]
  have b0 := (Below.refl w.heap.size w).alloc (Nat.le_refl _) (.map #[] 0)
  have hp := peek_err (h.step b0) he
  have hQ0 := heap_alloc_new w (.map #[] 0)
  go_enter Tryz.func52, Tryz.ntmps52
  go_wp2_with (go_at_call 33; refine hp.mono ?_)
  intro r w1; first | (intro he b1; subst he) | rintro ⟨rfl, b1⟩
  have b1' : Below (w.alloc (.map #[] 0)).heap.size (w.alloc (.map #[] 0)) w1 := by simpa using b1
  have bT := b1'.alloc b1'.size (.cells #[.int .i64 (-1), .string ByteArray.empty, .int .i64 0, .string ByteArray.empty, .int .i64 0, .int .i64 0, .bool false] 111)
  have bel := b0.trans (bT.mono (by simp))
  have hQT := (bT.block _ (Array.getElem?_eq_some_iff.1 hQ0).1).trans hQ0
  have hwd := word_err ((h.step b0).step bT) he hQT rfl
  clear hp h b0 b1 b1' hQ0 bT hQT
  go_wp2_with (go_at_call 74; refine hwd.mono ?_)
  intro r w4; first | (intro he b4; subst he) | rintro ⟨rfl, b4⟩
  go_wp2
  go_ret
  exact ⟨rfl, bel.trans (b4.mono bel.size)⟩
end
end Go.Proofs.YtjnkppneilmpbaaGreatDoor

namespace Go.Proofs.YtjnkppneilmpbaaGreatDoor
open Go.RowKit

theorem Tryz.sizePart : (Tryz.prog.info? 49).map (·.size) = some 6 := by kernel_rfl
theorem Away.step {bs : List Nat} {a w w' : World} (h : Away bs a w) (hb : Below w.heap.size w w') : Away bs a w' := h.trans (Away.of_below hb)

def zPart : Obj := .cells #[.int .i64 0, .int .i64 0, .string ByteArray.empty, .int .i64 0, .int .i64 0, .slice none 0 0] 49 (0, 0)
/-- The cells of a fresh part. -/
theorem zPart_cells {w : World} {X : Nat} (h : w.heap[X]? = some zPart) :
    (w.cell? ⟨X, 0, none⟩ = some (.int .i64 0) ∧ w.cell? ⟨X, 1, none⟩ = some (.int .i64 0) ∧ w.cell? ⟨X, 2, none⟩ = some (.string ByteArray.empty) ∧ w.cell? ⟨X, 3, none⟩ = some (.int .i64 0) ∧ w.cell? ⟨X, 4, none⟩ = some (.int .i64 0) ∧ w.cell? ⟨X, 5, none⟩ = some (.slice none 0 0)) ∧
    (w.frozen? ⟨X, 0, none⟩ = false ∧ w.frozen? ⟨X, 1, none⟩ = false ∧ w.frozen? ⟨X, 2, none⟩ = false ∧ w.frozen? ⟨X, 3, none⟩ = false ∧ w.frozen? ⟨X, 4, none⟩ = false ∧ w.frozen? ⟨X, 5, none⟩ = false) := by
  unfold zPart at h
  refine ⟨⟨?_, ?_, ?_, ?_, ?_, ?_⟩, Lib.frozen_of_heap h 0, Lib.frozen_of_heap h 1, Lib.frozen_of_heap h 2, Lib.frozen_of_heap h 3, Lib.frozen_of_heap h 4, Lib.frozen_of_heap h 5⟩ <;> (rw [Lib.cell_of_heap h]; rfl)

def fill6 (w : World) (X : Nat) (v0 v1 v2 v3 v4 v5 : Value) : World :=
  (((((w.setCell ⟨X, 0, none⟩ v0).setCell ⟨X, 1, none⟩ v1).setCell ⟨X, 2, none⟩ v2).setCell ⟨X, 3, none⟩ v3).setCell ⟨X, 4, none⟩ v4).setCell ⟨X, 5, none⟩ v5

theorem fill6_other (w : World) (X : Nat) (v0 v1 v2 v3 v4 v5 : Value) (k : Nat) (hk : k ≠ X) : (fill6 w X v0 v1 v2 v3 v4 v5).heap[k]? = w.heap[k]? := by
  unfold fill6
  rw [Below.heap_setCell _ ⟨X, 5, none⟩ _ k hk, Below.heap_setCell _ ⟨X, 4, none⟩ _ k hk, Below.heap_setCell _ ⟨X, 3, none⟩ _ k hk, Below.heap_setCell _ ⟨X, 2, none⟩ _ k hk, Below.heap_setCell _ ⟨X, 1, none⟩ _ k hk, Below.heap_setCell _ ⟨X, 0, none⟩ _ k hk]
theorem fill6_self {w : World} {X : Nat} {c0 c1 c2 c3 c4 c5 : Value} {T : TypeId} (v0 v1 v2 v3 v4 v5 : Value) (h : w.heap[X]? = some (.cells #[c0, c1, c2, c3, c4, c5] T (0, 0))) : (fill6 w X v0 v1 v2 v3 v4 v5).heap[X]? = some (.cells #[v0, v1, v2, v3, v4, v5] T (0, 0)) := by
  unfold fill6
  have := Lib.heap_setCell_same (i := 5) (Lib.heap_setCell_same (i := 4) (Lib.heap_setCell_same (i := 3) (Lib.heap_setCell_same (i := 2) (Lib.heap_setCell_same (i := 1) (Lib.heap_setCell_same (i := 0) h v0) v1) v2) v3) v4) v5
  rw [this]; rfl
theorem fill6_away {bs : List Nat} {a w : World} {X : Nat} (h : Away bs a w) (hX : a.heap.size ≤ X) (v0 v1 v2 v3 v4 v5 : Value) : Away bs a (fill6 w X v0 v1 v2 v3 v4 v5) :=
  (((((h.setCell (p := ⟨X, 0, none⟩) (.inr hX) v0).setCell (p := ⟨X, 1, none⟩) (.inr hX) v1).setCell (p := ⟨X, 2, none⟩) (.inr hX) v2).setCell (p := ⟨X, 3, none⟩) (.inr hX) v3).setCell (p := ⟨X, 4, none⟩) (.inr hX) v4).setCell (p := ⟨X, 5, none⟩) (.inr hX) v5

/-- A part is returned, whatever it holds. -/
def IsPart (r : Ending) : Prop := ∃ a b nm ao k cp, r = .returned (.agg #[.int .i64 a, .int .i64 b, .string nm, .int .i64 0, .int .i64 0, .slice ao k cp])

section
variable {Y M : Nat} {tv : Value} {toks : List Tok} {pos pos' : Nat} {line col e line' col' e' : Int} {free : Bool} {ls ln ls' ln' : Int} {es es' : Array MapEntry} {clk clk' : Nat} {w : World} {t : Tok}

theorem Prs.fill6 (h : Prs Y M tv toks pos line col e free ls ln es clk w) {X : Nat} {c0 c1 c2 c3 c4 c5 : Value} {T : TypeId} (v0 v1 v2 v3 v4 v5 : Value) (hk : w.heap[X]? = some (.cells #[c0, c1, c2, c3, c4, c5] T (0, 0))) (hT : T ≠ 99) (hT2 : T ≠ 111) :
    Prs Y M tv toks pos line col e free ls ln es clk (fill6 w X v0 v1 v2 v3 v4 v5) :=
  (((((h.elsewhere hk hT hT2 0 v0).elsewhere (Lib.heap_setCell_same hk _) hT hT2 1 v1).elsewhere (Lib.heap_setCell_same (Lib.heap_setCell_same hk _) _) hT hT2 2 v2).elsewhere (Lib.heap_setCell_same (Lib.heap_setCell_same (Lib.heap_setCell_same hk _) _) _) hT hT2 3 v3).elsewhere (Lib.heap_setCell_same (Lib.heap_setCell_same (Lib.heap_setCell_same (Lib.heap_setCell_same hk _) _) _) _) hT hT2 4 v4).elsewhere (Lib.heap_setCell_same (Lib.heap_setCell_same (Lib.heap_setCell_same (Lib.heap_setCell_same (Lib.heap_setCell_same hk _) _) _) _) _) hT hT2 5 v5

set_option maxHeartbeats 16000000 in
set_option maxRecDepth 100000 in
theorem part_err (h : Prs Y M tv toks pos line col e false ls ln es clk w) {a b : Int} (he : e' ≠ 0)
    (hobj : ∀ w', Below w.heap.size w w' → Calls Tryz.prog 34 #[.pointer (some ⟨Y, 0, none⟩)] w' fun r w'' => r = .returned (.agg #[.int .i64 a, .int .i64 b]) ∧ Prs Y M tv toks pos' line' col' e' false ls' ln' es' clk' w'' ∧ Away [Y, M] w' w'') :
    Calls Tryz.prog 30 #[.pointer (some ⟨Y, 0, none⟩)] w fun r w' => IsPart r ∧ Prs Y M tv toks pos' line' col' e' false ls' ln' es' clk' w' ∧ Away [Y, M] w w' := by
  have lY := h.lt
  have lM := h.ltM
  go_enter Tryz.func30, Tryz.ntmps30
  go_wp2
  have hR0 := heap_alloc_new w (.cells #[.int .i64 0, .int .i64 0, .string ByteArray.empty, .int .i64 0, .int .i64 0, .slice none 0 0] 49)
  have b0 := (Below.refl w.heap.size w).alloc (Nat.le_refl _) (.cells #[.int .i64 0, .int .i64 0, .string ByteArray.empty, .int .i64 0, .int .i64 0, .slice none 0 0] 49)
  have hX1 : (((w.alloc zPart).drew).alloc zPart).heap[w.heap.size + 1]? = some zPart := by
    have := heap_alloc_new ((w.alloc zPart).drew) zPart
    simpa using this
  have hR0Y : w.heap.size ∉ [Y, M] := by simp; omega
  have hX1Y : w.heap.size + 1 ∉ [Y, M] := by simp; omega
  have hmem : ∀ w' : World, Away [Y, M] (((w.alloc zPart).drew).alloc zPart) w' → w'.heap[w.heap.size + 1]? = some zPart := fun w' ha => ha.heap hX1 hX1Y
  have hmem2 : ∀ w1 w' : World, Below (w1.alloc zPart).heap.size (w1.alloc zPart) w' → w'.heap[w1.heap.size]? = some zPart := fun w1 w' hb => (hb.block _ (by simp)).trans (heap_alloc_new w1 _)
  go_cut [3] from 4 (fun s3 wc => ∃ X, s3 = .pointer (some ⟨X, 0, none⟩) ∧ w.heap.size < X ∧ wc.heap[X]? = some (.cells #[.int .i64 a, .int .i64 b, .string ByteArray.empty, .int .i64 0, .int .i64 0, .slice none 0 0] 49 (0, 0)) ∧
      wc.heap[w.heap.size]? = some (.cells #[.int .i64 0, .int .i64 0, .string ByteArray.empty, .int .i64 0, .int .i64 0, .slice none 0 0] 49 (0, 0)) ∧ Prs Y M tv toks pos' line' col' e' false ls' ln' es' clk' wc ∧ Away [Y, M] w wc)
  case first =>
    go_region_held3 (fun _ => True) (trivial) (first
      | (go_at_call 34; refine (hobj _ (by first | exact b0.drew | exact b0.drew.alloc (by simp) _)).mono ?_; rintro r w1 ⟨rfl, hS, ha⟩; try have hx1 := hmem w1 ha)
      | (go_at_call 26; refine (str_err (by first | exact hS | exact hS.step ((Below.refl _ _).alloc (Nat.le_refl _) _)) he).mono ?_; rintro r w2 ⟨rfl, b2⟩; (first | (have hx := (b2.block _ (Array.getElem?_eq_some_iff.1 hx1).1).trans hx1; obtain ⟨⟨q0, q1, q2, q3, q4, q5⟩, r0, r1, r2, r3, r4, r5⟩ := zPart_cells hx) | (have hx := hmem2 _ _ b2; obtain ⟨⟨q0, q1, q2, q3, q4, q5⟩, r0, r1, r2, r3, r4, r5⟩ := zPart_cells hx) | skip)))
    · go_wp2
      go_meet
      case rel =>
        have hS2 := hS.step b2
        have aw := ((Away.of_below (bs := [Y, M]) b0.drew).trans ha).step b2
        have hRw := (b2.block _ (Array.getElem?_eq_some_iff.1 (ha.heap hR0 hR0Y)).1).trans (ha.heap hR0 hR0Y)
        have hl := (Array.getElem?_eq_some_iff.1 hRw).1
        exact ⟨w2.heap.size, rfl, hl, heap_alloc_new w2 _, (Lib.alloc_old w2 _ _ hl).trans hRw, hS2.step ((Below.refl _ _).alloc (Nat.le_refl _) _), aw.alloc _⟩
    · go_wp2
      go_meet
      case rel =>
        have hS2 := (hS.step ((Below.refl _ _).alloc (Nat.le_refl _) zPart)).step b2
        have aw := (((Away.of_below (bs := [Y, M]) b0.drew).trans ha).alloc zPart).step b2
        have hR1 := ha.heap hR0 hR0Y
        have hl := (Array.getElem?_eq_some_iff.1 hR1).1
        have hRw := (b2.block w.heap.size (by simp; omega)).trans ((Lib.alloc_old w1 zPart _ hl).trans hR1)
        exact ⟨w1.heap.size, rfl, hl, fill6_self _ _ _ _ _ _ hx, (fill6_other w2 w1.heap.size _ _ _ _ _ _ _ (by omega)).trans hRw, hS2.fill6 _ _ _ _ _ _ hx (by decide) (by decide), fill6_away aw (by omega) _ _ _ _ _ _⟩
    · go_wp2
      go_meet
      case rel =>
        have hS2 := hS.step b2
        have aw := ((Away.of_below (bs := [Y, M]) (b0.drew.alloc (by simp) zPart)).trans ha).step b2
        have hR1 := ha.heap ((Lib.alloc_old (w.alloc zPart).drew zPart w.heap.size (by simp)).trans hR0) hR0Y
        have hRw := (b2.block _ (Array.getElem?_eq_some_iff.1 hR1).1).trans hR1
        exact ⟨w.heap.size + 1, rfl, by omega, fill6_self _ _ _ _ _ _ hx, (fill6_other w2 (w.heap.size + 1) _ _ _ _ _ _ _ (by omega)).trans hRw, hS2.fill6 _ _ _ _ _ _ hx (by decide) (by decide), fill6_away aw (by omega) _ _ _ _ _ _⟩
  case rest =>
    obtain ⟨X, rfl, hRX, hX, hR, hS, aw⟩ := hcut
    have x1 := accept_err hS he ⟨#[116, 114, 97, 110, 115, 112, 111, 115, 101]⟩
    go_wp2_with (go_at_call 27; refine x1.mono ?_)
    intro r w3; first | (intro he3 b3; subst he3) | rintro ⟨rfl, b3⟩
    have hX3 := (b3.block _ (Array.getElem?_eq_some_iff.1 hX).1).trans hX
    have hR3 := (b3.block _ (Array.getElem?_eq_some_iff.1 hR).1).trans hR
    have hS3 := hS.step b3
    have aw3 := aw.step b3
    clear x1 hX hR hS aw b3
    go_wp2
    go_loopg [28] 0 (fun g v wr => wr = w3)
    case atStart => rfl
    case round =>
      obtain rfl := hrel
      have x2 := accept_err hS3 he ⟨#[115, 116, 97, 102, 102]⟩
      go_wp2_with (go_at_call 27; refine x2.mono ?_)
      intro r w4; first | (intro he4 b4; subst he4) | rintro ⟨rfl, b4⟩
      have hX4 := (b4.block _ (Array.getElem?_eq_some_iff.1 hX3).1).trans hX3
      have hR4 : w4.heap[w.heap.size]? = some zPart := (b4.block _ (Array.getElem?_eq_some_iff.1 hR3).1).trans hR3
      have hS4 := hS3.step b4
      have aw4 := aw3.step b4
      clear x2 hX3 hR3 hS3 aw3 b4
      obtain ⟨⟨q0, q1, q2, q3, q4, q5⟩, r0, r1, r2, r3, r4, r5⟩ := zPart_cells hR4
      have p0 : w4.cell? ⟨X, 0, none⟩ = some (.int .i64 a) := by rw [Lib.cell_of_heap hX4]; rfl
      have p1 : w4.cell? ⟨X, 1, none⟩ = some (.int .i64 b) := by rw [Lib.cell_of_heap hX4]; rfl
      have p2 : w4.cell? ⟨X, 2, none⟩ = some (.string ByteArray.empty) := by rw [Lib.cell_of_heap hX4]; rfl
      have p3 : w4.cell? ⟨X, 3, none⟩ = some (.int .i64 0) := by rw [Lib.cell_of_heap hX4]; rfl
      have p4 : w4.cell? ⟨X, 4, none⟩ = some (.int .i64 0) := by rw [Lib.cell_of_heap hX4]; rfl
      have p5 : w4.cell? ⟨X, 5, none⟩ = some (.slice none 0 0) := by rw [Lib.cell_of_heap hX4]; rfl
      have hfin := hS4.fill6 (.int .i64 a) (.int .i64 b) (.string ByteArray.empty) (.int .i64 0) (.int .i64 0) (.slice none 0 0) hR4 (by decide) (by decide)
      have awf := fill6_away aw4 (Nat.le_refl _) (.int .i64 a) (.int .i64 b) (.string ByteArray.empty) (.int .i64 0) (.int .i64 0) (.slice none 0 0)
      have hRf := fill6_self (.int .i64 a) (.int .i64 b) (.string ByteArray.empty) (.int .i64 0) (.int .i64 0) (.slice none 0 0) hR4
      clear hX4 hS4 aw4 hR4
      go_wp2
      refine bodyPost_ret (results_cell_row rfl _ _ w.heap.size 49 _ (0, 0) _ rfl hRf Tryz.underlying49 rfl Tryz.sizePart) rfl ?_
      exact ⟨⟨_, _, _, _, _, _, rfl⟩, hfin, awf⟩
end
end Go.Proofs.YtjnkppneilmpbaaGreatDoor

namespace Go.Proofs.YtjnkppneilmpbaaGreatDoor
open Go.RowKit

/-- The parser's map behind N ids of site 0. -/
def esOf (N : Nat) : Array MapEntry := if N = 0 then #[] else entry 0 N 0
def clkOf (N : Nat) : Nat := if N = 0 then 0 else 1
theorem esOf_succ (N : Nat) : esOf (N + 1) = entry 0 ((N : Int) + 1) 0 := by simp [esOf]
theorem updOf (N : Nat) : Upd 0 (N : Int) (esOf N) (clkOf N) (fun v => entry 0 v 0) 1 := by
  cases N with
  | zero => exact upd_none 0 0
  | succ N => exact upd_one 0 ((N + 1 : Nat) : Int) 0 1

/-- At pos stands the id N + 1 of site 0 (k = 4), or none (k = 0). -/
def IdAt (toks : List Tok) (pos k N : Nat) : Prop :=
  (k = 0 ∧ ∃ t, toks[pos]? = some t ∧ IsTok t atS = false) ∨
  (k = 4 ∧ ∃ t0 t1 t2 t3, toks[pos]? = some t0 ∧ toks[pos + 1]? = some t1 ∧ toks[pos + 2]? = some t2 ∧ toks[pos + 3]? = some t3 ∧ IsTok t0 atS = true ∧ t1.kind = 2 ∧ t1.value = 0 ∧ IsTok t2 dotS = true ∧ t3.kind = 2 ∧ t3.value = (N : Int) + 1)

section
variable {Y M : Nat} {tv : Value} {toks : List Tok} {pos k N : Nat} {line col : Int} {w : World}

theorem IdAt.runs (hI : IdAt toks pos k N) (h : Prs Y M tv toks pos line col 0 false 0 N (esOf N) (clkOf N) w) (hpos : pos ≤ 1000000) (hN : N ≤ 100000) :
    Calls Tryz.prog 34 #[.pointer (some ⟨Y, 0, none⟩)] w fun r w' => r = .returned (.agg #[.int .i64 0, .int .i64 ((N : Int) + 1)]) ∧ Prs Y M tv toks (pos + k) line col 0 false 0 (N + 1 : Nat) (esOf (N + 1)) (clkOf (N + 1)) w' ∧ Away [Y, M] w w' := by
  rcases hI with ⟨rfl, t, ht, hk⟩ | ⟨rfl, t0, t1, t2, t3, h0, h1, h2, h3, k0, k1, v1, k2, k3, v3⟩
  · have := object_next h ht hk (by omega) (by omega) (by omega) (updOf N) (by omega)
    rw [esOf_succ, show clkOf (N + 1) = 1 from rfl, show ((N + 1 : Nat) : Int) = (N : Int) + 1 by omega]
    exact this
  · have := object_at h h0 h1 h2 h3 k0 k1 k2 k3 (by omega) (by omega) (by omega) (by omega) (by omega) (v1.symm ▸ updOf N) (by omega)
    rw [v1, v3] at this
    rw [esOf_succ, show clkOf (N + 1) = 1 from rfl, show ((N + 1 : Nat) : Int) = (N : Int) + 1 by omega]
    exact this
end
end Go.Proofs.YtjnkppneilmpbaaGreatDoor

namespace Go.Proofs.YtjnkppneilmpbaaGreatDoor
open Go.RowKit

/-- The seven letters of notes. -/
def NoteC (c : UInt8) : Prop := c = 65 ∨ c = 66 ∨ c = 67 ∨ c = 68 ∨ c = 69 ∨ c = 70 ∨ c = 71

section
variable {Y M : Nat} {tv : Value} {toks : List Tok} {pos : Nat} {line col e : Int} {free : Bool} {ls ln : Int} {es : Array MapEntry} {clk : Nat} {w : World} {t : Tok}
theorem field0_run (a0 : Int) (a1 a2 a3 a4 a5 a6 : Value) (w : World) : (Instr.field 111 (.agg #[.int .i64 a0, a1, a2, a3, a4, a5, a6]) 0).run Tryz.prog w = .ok (.int .i64 a0) w := by
  simp [Instr.field, run_underlying Tryz.underlying111, Result.andThen, asAgg, part, isAgg, run_underlying Tryz.underlying3, Sem.run_bind]
theorem field1_run (a0 : Value) (a1 : ByteArray) (a2 a3 a4 a5 a6 : Value) (w : World) : (Instr.field 111 (.agg #[a0, .string a1, a2, a3, a4, a5, a6]) 1).run Tryz.prog w = .ok (.string a1) w := by
  simp [Instr.field, run_underlying Tryz.underlying111, Result.andThen, asAgg, part, isAgg, run_underlying Tryz.underlying9, Sem.run_bind]

/-- A note's name: a letter and the octave 4. -/
def noteS (c : UInt8) : ByteArray := ⟨#[c, 52]⟩

set_option maxHeartbeats 4000000 in
set_option maxRecDepth 100000 in
theorem isPitch_no (h : Prs Y M tv toks pos line col 0 free ls ln es clk w) (ht : toks[pos]? = some t) (hk : t.kind ≠ 1) :
    Calls Tryz.prog 140 #[.pointer (some ⟨Y, 0, none⟩)] w fun r w' => r = .returned (.bool false) ∧ Below w.heap.size w w' := by
  have hp := peek_ok h ht
  obtain ⟨kd, text, v, bt, lin, cl, j⟩ := t
  simp only at hk hp
  have hk' : decide (kd = 1) = false := decide_eq_false hk
  clear h ht
  go_enter Tryz.func140, Tryz.ntmps140
  go_wp2_with (go_at_call 33; refine hp.mono ?_)
  intro r w1; first | (intro he b1; subst he) | rintro ⟨rfl, b1⟩
  go_wp2
  go_ret
  exact ⟨rfl, b1.alloc b1.size _⟩

set_option maxHeartbeats 4000000 in
set_option maxRecDepth 100000 in
theorem isPitch_yes (h : Prs Y M tv toks pos line col 0 free ls ln es clk w) (ht : toks[pos]? = some t) (hk : t.kind = 1) (c : UInt8) (hx : t.text = noteS c) (hc : NoteC c) :
    Calls Tryz.prog 140 #[.pointer (some ⟨Y, 0, none⟩)] w fun r w' => r = .returned (.bool true) ∧ Below w.heap.size w w' := by
  have hp := peek_ok h ht
  obtain ⟨kd, text, v, bt, lin, cl, j⟩ := t
  simp only at hk hp hx
  subst hk hx
  clear h ht
  rcases hc with rfl | rfl | rfl | rfl | rfl | rfl | rfl
  all_goals simp only [noteS] at hp
  all_goals go_enter Tryz.func140, Tryz.ntmps140
  all_goals go_wp2_with (go_at_call 33; refine hp.mono ?_)
  all_goals (intro r w1; first | (intro he b1; subst he) | rintro ⟨rfl, b1⟩)
  all_goals go_wp2
  all_goals go_ret
  all_goals exact ⟨rfl, b1.alloc b1.size _⟩
end
end Go.Proofs.YtjnkppneilmpbaaGreatDoor

namespace Go.Proofs.YtjnkppneilmpbaaGreatDoor
open Go.RowKit Go.Dam

noncomputable def runsAs (f : FuncId) (s : ByteArray) (v : Value) : Bool := match evCall noOrc Tryz.prog fsAll 400 12 (.func f) [.string s] ⟨[], 100⟩ with
  | some (u, _) => veq v u
  | none => false
set_option maxRecDepth 1000000 in
theorem q65 : runsAs 189 ⟨#[65, 52]⟩ (.tuple #[.agg #[.int .i64 5, .int .i64 0, .int .i64 4], .bool true]) = true := by kernel_rfl
set_option maxRecDepth 1000000 in
theorem q66 : runsAs 189 ⟨#[66, 52]⟩ (.tuple #[.agg #[.int .i64 6, .int .i64 0, .int .i64 4], .bool true]) = true := by kernel_rfl
set_option maxRecDepth 1000000 in
theorem q67 : runsAs 189 ⟨#[67, 52]⟩ (.tuple #[.agg #[.int .i64 0, .int .i64 0, .int .i64 4], .bool true]) = true := by kernel_rfl
set_option maxRecDepth 1000000 in
theorem q68 : runsAs 189 ⟨#[68, 52]⟩ (.tuple #[.agg #[.int .i64 1, .int .i64 0, .int .i64 4], .bool true]) = true := by kernel_rfl
set_option maxRecDepth 1000000 in
theorem q69 : runsAs 189 ⟨#[69, 52]⟩ (.tuple #[.agg #[.int .i64 2, .int .i64 0, .int .i64 4], .bool true]) = true := by kernel_rfl
set_option maxRecDepth 1000000 in
theorem q70 : runsAs 189 ⟨#[70, 52]⟩ (.tuple #[.agg #[.int .i64 3, .int .i64 0, .int .i64 4], .bool true]) = true := by kernel_rfl
set_option maxRecDepth 1000000 in
theorem q71 : runsAs 189 ⟨#[71, 52]⟩ (.tuple #[.agg #[.int .i64 4, .int .i64 0, .int .i64 4], .bool true]) = true := by kernel_rfl
set_option maxRecDepth 1000000 in
theorem qv4 : runsAs 170 ⟨#[52]⟩ (.tuple #[.agg #[.int .i64 2, .int .i64 0], .bool true]) = true := by kernel_rfl

theorem runs88 (s : ByteArray) (v : Value) (hv : plain v = true) (h : runsAs 189 s v = true) (w : World) : Calls Tryz.prog 189 #[.string s] w fun e w' => e = .returned v ∧ Below w.heap.size w w' := by
  have ht : Told0 Tryz.prog (189, [.string s], v) := by
    refine ⟨fun x hx => ?_, hv, fun w => ?_⟩
    · obtain rfl := List.mem_singleton.1 hx; rfl
    · unfold runsAs at h
      split at h
      · rename_i u S he
        obtain rfl := veq_spec h
        refine closed (args := [.string s]) noOrc_ok mixed_ok (namesOk_of names_ok) (ok_any _) (h := []) (nx := 100) rfl (by decide) (Nat.le_of_ble_eq_true (by kernel_rfl)) ?_ hv he rfl ?_
        · intro x hx; obtain rfl := List.mem_singleton.1 hx; rfl
        · intro n o hn; cases hn
      · cases h
  exact ht.2.2 w

theorem runs56 (s : ByteArray) (v : Value) (hv : plain v = true) (h : runsAs 170 s v = true) (w : World) : Calls Tryz.prog 170 #[.string s] w fun e w' => e = .returned v ∧ Below w.heap.size w w' := by
  have ht : Told0 Tryz.prog (170, [.string s], v) := by
    refine ⟨fun x hx => ?_, hv, fun w => ?_⟩
    · obtain rfl := List.mem_singleton.1 hx; rfl
    · unfold runsAs at h
      split at h
      · rename_i u S he
        obtain rfl := veq_spec h
        refine closed (args := [.string s]) noOrc_ok mixed_ok (namesOk_of names_ok) (ok_any _) (h := []) (nx := 100) rfl (by decide) (Nat.le_of_ble_eq_true (by kernel_rfl)) ?_ hv he rfl ?_
        · intro x hx; obtain rfl := List.mem_singleton.1 hx; rfl
        · intro n o hn; cases hn
      · cases h
  exact ht.2.2 w

def stepOf (c : UInt8) : Int := if c.toNat < 67 then (c.toNat : Int) - 60 else (c.toNat : Int) - 67
theorem pitch_says {c : UInt8} (hc : NoteC c) : ∀ w, Calls Tryz.prog 189 #[.string ⟨#[c, 52]⟩] w fun e w' => e = .returned (.tuple #[.agg #[.int .i64 (stepOf c), .int .i64 0, .int .i64 4], .bool true]) ∧ Below w.heap.size w w' := by
  rcases hc with rfl | rfl | rfl | rfl | rfl | rfl | rfl
  · exact runs88 _ _ rfl q65
  · exact runs88 _ _ rfl q66
  · exact runs88 _ _ rfl q67
  · exact runs88 _ _ rfl q68
  · exact runs88 _ _ rfl q69
  · exact runs88 _ _ rfl q70
  · exact runs88 _ _ rfl q71
theorem value_says {x : ByteArray} (hx : x = ⟨#[52]⟩) : ∀ w, Calls Tryz.prog 170 #[.string x] w fun e w' => e = .returned (.tuple #[.agg #[.int .i64 2, .int .i64 0], .bool true]) ∧ Below w.heap.size w w' := by
  subst hx
  exact runs56 _ _ rfl qv4
end Go.Proofs.YtjnkppneilmpbaaGreatDoor

namespace Go.Proofs.YtjnkppneilmpbaaGreatDoor
open Go.RowKit

def s0 : ByteArray := ⟨#[64]⟩
def s1 : ByteArray := ⟨#[103, 114, 97, 99, 101]⟩
def s2 : ByteArray := ⟨#[60]⟩
def s3 : ByteArray := ⟨#[114]⟩
def s4 : ByteArray := ⟨#[82]⟩
def s5 : ByteArray := ⟨#[115]⟩
/-- The row of the six texts. -/
def sixRow : Obj := .cells #[.string s0, .string s1, .string s2, .string s3, .string s4, .string s5] 9 (0, 0)
/-- It is none of the six. -/
def NoSix (t : Tok) : Prop := IsTok t s0 = false ∧ IsTok t s1 = false ∧ IsTok t s2 = false ∧ IsTok t s3 = false ∧ IsTok t s4 = false ∧ IsTok t s5 = false

section
variable {Y M : Nat} {tv : Value} {toks : List Tok} {pos : Nat} {line col e : Int} {free : Bool} {ls ln : Int} {es : Array MapEntry} {clk : Nat} {w : World} {t : Tok} {K : Nat}

set_option maxHeartbeats 8000000 in
set_option maxRecDepth 100000 in
theorem index_none (h : Prs Y M tv toks pos line col 0 free ls ln es clk w) (ht : toks[pos]? = some t) (hn : NoSix t) (hK : w.heap[K]? = some sixRow) :
    Calls Tryz.prog 167 #[.slice (some ⟨K, 0, none⟩) 6 6, .func (.func 29) #[.pointer (some ⟨Y, 0, none⟩)] #[]] w fun r w' => r = .returned (.int .i64 (-1)) ∧ Below w.heap.size w w' := by
  have lK := (Array.getElem?_eq_some_iff.1 hK).1
  obtain ⟨n0, n1, n2, n3, n4, n5⟩ := hn
  go_enter Tryz.func167, Tryz.ntmps167
  go_wp2
  go_loopw [8] (fun v wr => ∃ i : Nat, i ≤ 6 ∧ v = .int .i64 i ∧ Below w.heap.size w wr) (fun v _ => 6 - (intOf v).toNat)
  case atStart => exact ⟨0, Nat.zero_le _, rfl, Below.refl _ _⟩
  case round =>
    obtain ⟨i, hi, rfl, hb⟩ := hrel
    have hK1 := (hb.block K lK).trans hK
    have hS := h.step hb
    have q0 : wr.cell? ⟨K, 0, none⟩ = some (.string s0) := by rw [Lib.cell_of_heap hK1]; rfl
    have q1 : wr.cell? ⟨K, 1, none⟩ = some (.string s1) := by rw [Lib.cell_of_heap hK1]; rfl
    have q2 : wr.cell? ⟨K, 2, none⟩ = some (.string s2) := by rw [Lib.cell_of_heap hK1]; rfl
    have q3 : wr.cell? ⟨K, 3, none⟩ = some (.string s3) := by rw [Lib.cell_of_heap hK1]; rfl
    have q4 : wr.cell? ⟨K, 4, none⟩ = some (.string s4) := by rw [Lib.cell_of_heap hK1]; rfl
    have q5 : wr.cell? ⟨K, 5, none⟩ = some (.string s5) := by rw [Lib.cell_of_heap hK1]; rfl
    clear hK hK1
    have hi6 : i = 0 ∨ i = 1 ∨ i = 2 ∨ i = 3 ∨ i = 4 ∨ i = 5 ∨ i = 6 := by omega
    rcases hi6 with rfl | rfl | rfl | rfl | rfl | rfl | rfl
    · have x := is_ok hS ht s0 n0
      go_wp2_with (go_at_call 29; refine x.mono ?_)
      intro r w1; first | (intro he b1; subst he) | rintro ⟨rfl, b1⟩
      go_wp2
      go_roundw
      case rel => exact ⟨1, by omega, rfl, hb.trans (b1.mono hb.size)⟩
      case measure => simp [intOf]
    · have x := is_ok hS ht s1 n1
      go_wp2_with (go_at_call 29; refine x.mono ?_)
      intro r w1; first | (intro he b1; subst he) | rintro ⟨rfl, b1⟩
      go_wp2
      go_roundw
      case rel => exact ⟨2, by omega, rfl, hb.trans (b1.mono hb.size)⟩
      case measure => simp [intOf]
    · have x := is_ok hS ht s2 n2
      go_wp2_with (go_at_call 29; refine x.mono ?_)
      intro r w1; first | (intro he b1; subst he) | rintro ⟨rfl, b1⟩
      go_wp2
      go_roundw
      case rel => exact ⟨3, by omega, rfl, hb.trans (b1.mono hb.size)⟩
      case measure => simp [intOf]
    · have x := is_ok hS ht s3 n3
      go_wp2_with (go_at_call 29; refine x.mono ?_)
      intro r w1; first | (intro he b1; subst he) | rintro ⟨rfl, b1⟩
      go_wp2
      go_roundw
      case rel => exact ⟨4, by omega, rfl, hb.trans (b1.mono hb.size)⟩
      case measure => simp [intOf]
    · have x := is_ok hS ht s4 n4
      go_wp2_with (go_at_call 29; refine x.mono ?_)
      intro r w1; first | (intro he b1; subst he) | rintro ⟨rfl, b1⟩
      go_wp2
      go_roundw
      case rel => exact ⟨5, by omega, rfl, hb.trans (b1.mono hb.size)⟩
      case measure => simp [intOf]
    · have x := is_ok hS ht s5 n5
      go_wp2_with (go_at_call 29; refine x.mono ?_)
      intro r w1; first | (intro he b1; subst he) | rintro ⟨rfl, b1⟩
      go_wp2
      go_roundw
      case rel => exact ⟨6, by omega, rfl, hb.trans (b1.mono hb.size)⟩
      case measure => simp [intOf]
    · go_wp2
      go_ret
      exact ⟨rfl, hb⟩

set_option maxHeartbeats 4000000 in
set_option maxRecDepth 100000 in
theorem contains_none (h : Prs Y M tv toks pos line col 0 free ls ln es clk w) (ht : toks[pos]? = some t) (hn : NoSix t) (hK : w.heap[K]? = some sixRow) :
    Calls Tryz.prog 139 #[.slice (some ⟨K, 0, none⟩) 6 6, .func (.func 29) #[.pointer (some ⟨Y, 0, none⟩)] #[]] w fun r w' => r = .returned (.bool false) ∧ Below w.heap.size w w' := by
  have hf := index_none h ht hn hK
  clear h ht hn hK
  go_enter Tryz.func139, Tryz.ntmps139
  go_wp2_with (go_at_call 167; refine hf.mono ?_)
  intro r w1; first | (intro he b1; subst he) | rintro ⟨rfl, b1⟩
  go_wp2
  go_ret
  exact ⟨rfl, b1⟩

set_option maxHeartbeats 4000000 in
set_option maxRecDepth 100000 in
theorem begins_walk (h : Prs Y M tv toks pos line col 0 free ls ln es clk w) (ht : toks[pos]? = some t) (hn : NoSix t) (b : Bool)
    (hp : ∀ w', Below w.heap.size w w' → Calls Tryz.prog 140 #[.pointer (some ⟨Y, 0, none⟩)] w' fun r w'' => r = .returned (.bool b) ∧ Below w'.heap.size w' w'') :
    Calls Tryz.prog 116 #[.pointer (some ⟨Y, 0, none⟩)] w fun r w' => r = .returned (.bool b) ∧ Below w.heap.size w w' := by
  have b0 := (Below.refl w.heap.size w).alloc (Nat.le_refl _) (.cells #[.string s0, .string s1, .string s2, .string s3, .string s4, .string s5] 9)
  have hc := contains_none (h.step b0) ht hn (heap_alloc_new w (.cells #[.string s0, .string s1, .string s2, .string s3, .string s4, .string s5] 9))
  clear h ht hn
  simp only [s0, s1, s2, s3, s4, s5] at hc b0
  go_enter Tryz.func116, Tryz.ntmps116
  go_wp2_with (go_at_call 139; refine hc.mono ?_)
  intro r w1; first | (intro he b1; subst he) | rintro ⟨rfl, b1⟩
  have b2 := b0.trans (b1.mono (by simp))
  have hp2 := hp _ b2
  go_wp2_with (go_at_call 140; refine hp2.mono ?_)
  intro r w2; first | (intro he b3; subst he) | rintro ⟨rfl, b3⟩
  cases b
  all_goals go_wp2
  all_goals go_ret
  all_goals exact ⟨rfl, b2.trans (b3.mono b2.size)⟩

theorem begins_no (h : Prs Y M tv toks pos line col 0 free ls ln es clk w) (ht : toks[pos]? = some t) (hn : NoSix t) (hk : t.kind ≠ 1) :
    Calls Tryz.prog 116 #[.pointer (some ⟨Y, 0, none⟩)] w fun r w' => r = .returned (.bool false) ∧ Below w.heap.size w w' :=
  begins_walk h ht hn false fun _ b => isPitch_no (h.step b) ht hk
theorem begins_yes (h : Prs Y M tv toks pos line col 0 free ls ln es clk w) (ht : toks[pos]? = some t) (hn : NoSix t) (hk : t.kind = 1) (c : UInt8) (hx : t.text = noteS c) (hc : NoteC c) :
    Calls Tryz.prog 116 #[.pointer (some ⟨Y, 0, none⟩)] w fun r w' => r = .returned (.bool true) ∧ Below w.heap.size w w' :=
  begins_walk h ht hn true fun _ b => isPitch_yes (h.step b) ht hk c hx hc

def uS : ByteArray := ⟨#[95]⟩

set_option maxHeartbeats 4000000 in
set_option maxRecDepth 100000 in
theorem lyrics_none (h : Prs Y M tv toks pos line col 0 free ls ln es clk w) (ht : toks[pos]? = some t) (hk : t.kind ≠ 3) (hn : IsTok t uS = false) :
    Calls Tryz.prog 147 #[.pointer (some ⟨Y, 0, none⟩)] w fun r w' => r = .returned (.slice none 0 0) ∧ Below w.heap.size w w' := by
  have hp := peek_ok h ht
  have hi := fun w' (b : Below w.heap.size w w') => is_ok (h.step b) ht uS hn
  have hfd := field0_run t.kind (.string t.text) (.int .i64 t.value) (.string t.bytes) (.int .i64 t.line) (.int .i64 t.col) (.bool t.joined)
  have hk' : decide (t.kind = 3) = false := decide_eq_false hk
  simp only [uS] at hi
  clear h ht hn
  go_enter Tryz.func147, Tryz.ntmps147
  go_wp2
  go_loopg [3] 1 (fun _ v wr => v = .slice none 0 0 ∧ wr = w)
  case atStart => exact ⟨rfl, rfl⟩
  case round =>
    obtain ⟨rfl, rfl⟩ := hrel
    go_wp2_with (go_at_call 33; refine hp.mono ?_)
    intro r w1; first | (intro he b1; subst he) | rintro ⟨rfl, b1⟩
    have hi1 := hi _ b1
    go_wp2_with (go_at_call 29; refine hi1.mono ?_)
    intro r w2; first | (intro he b2; subst he) | rintro ⟨rfl, b2⟩
    go_wp2
    go_ret
    exact ⟨rfl, b1.trans (b2.mono b1.size)⟩
end
end Go.Proofs.YtjnkppneilmpbaaGreatDoor
