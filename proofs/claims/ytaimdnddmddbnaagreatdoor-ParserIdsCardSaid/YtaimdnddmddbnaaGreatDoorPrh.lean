/-
  A part of the proof that the law ParserIds (chapter 19) returns true for every site, number and count: walks of the program's functions, and runs of them in the kernel by the own evaluator.
-/
import Derived.Test.YtaimdnddmddbnaaGreatDoorPre
import Derived.Test.YtaimdnddmddbnaaGreatDoorOkf
namespace Go.Proofs.YtaimdnddmddbnaaGreatDoor
open Go.RowKit Go.Dam

theorem ck_str (b : Bool) (k : ByteArray) (w : World) : (Instr.checkKey b 10000 9 (.string k)).run Tryz.prog w = .ok () w := by
  show (Instr.checkKey b (9999 + 1) 9 (.string k)).run Tryz.prog w = .ok () w
  unfold Instr.checkKey
  simp [Sem.run_bind, run_underlying Tryz.underlying9, Result.andThen]
theorem find_str (k : ByteArray) {es : List MapEntry} {r : Option (Nat × Value)} (h : Instr.findNow .string (.string k) es 0 = some r) (w : World) : (Instr.findKey 9 (.string k) es).run Tryz.prog w = .ok r w := by
  unfold Instr.findKey
  simp [Sem.run_bind, run_underlying Tryz.underlying9, Result.andThen, h]

theorem look_str_no {M : Nat} {es : Array MapEntry} {clk : Nat} {w : World} (h : w.heap[M]? = some (.map es clk)) (k : ByteArray) (hf : Instr.findNow .string (.string k) es.toList 0 = some none) :
    (Instr.lookup 92 (.map (some M)) (.string k) true).run Tryz.prog w = .ok (.tuple #[.int .i64 0, .bool false]) w := by
  unfold Instr.lookup
  simp only [Sem.run_bind, run_underlying Tryz.underlying92, Result.andThen_ok, getObj_run h, Sem.run_pure, ck_str, find_str k hf, Tryz.zeroValue3, if_true]
theorem look_str_yes {M : Nat} {es : Array MapEntry} {clk : Nat} {w : World} (h : w.heap[M]? = some (.map es clk)) (k : ByteArray) {i : Nat} {v : Value} (hf : Instr.findNow .string (.string k) es.toList 0 = some (some (i, v))) :
    (Instr.lookup 92 (.map (some M)) (.string k) true).run Tryz.prog w = .ok (.tuple #[v, .bool true]) w := by
  unfold Instr.lookup
  simp only [Sem.run_bind, run_underlying Tryz.underlying92, Result.andThen_ok, getObj_run h, Sem.run_pure, ck_str, find_str k hf, if_true]

theorem alloc_over (w : World) (o o' : Obj) : ({ w.alloc o with heap := (w.alloc o).heap.setIfInBounds w.heap.size o' } : World) = w.alloc o' := by
  show ({ w with heap := (w.heap.push o).setIfInBounds w.heap.size o' } : World) = { w with heap := w.heap.push o' }
  congr 1
  apply Array.ext'
  simp

theorem put_str {es : Array MapEntry} {clk : Nat} {w : World} (k : ByteArray) (v : Value) (hf : Instr.findNow .string (.string k) es.toList 0 = some none) :
    (Instr.mapUpdate 92 (.map (some w.heap.size)) (.string k) v).run Tryz.prog (w.alloc (.map es clk)) = .ok () (w.alloc (.map (es.push ⟨.string k, v, clk⟩) (clk + 1))) := by
  unfold Instr.mapUpdate
  have h : (w.alloc (.map es clk)).heap[w.heap.size]? = some (.map es clk) := heap_alloc_new w _
  simp only [Sem.run_bind, run_underlying Tryz.underlying92, Result.andThen_ok, getObj_run h, ck_str, find_str k hf]
  rw [setObj_run _ h, alloc_over]

def kw (i : Nat) : ByteArray := match i with
  | 0 => ⟨#[115, 108, 117, 114]⟩
  | 1 => ⟨#[99, 114, 101, 115, 99, 101, 110, 100, 111]⟩
  | 2 => ⟨#[100, 105, 109, 105, 110, 117, 101, 110, 100, 111]⟩
  | 3 => ⟨#[111, 99, 116, 97, 118, 101, 117, 112]⟩
  | 4 => ⟨#[111, 99, 116, 97, 118, 101, 100, 111, 119, 110]⟩
  | 5 => ⟨#[112, 101, 100, 97, 108]⟩
  | _ => ⟨#[116, 114, 105, 108, 108]⟩
/-- The first k entries of the spanners' words. -/
def kEs (k : Nat) : Array MapEntry := ((List.range k).map fun i => (⟨.string (kw i), .int .i64 (i + 1 : Nat), i⟩ : MapEntry)).toArray

theorem kput (i : Nat) (hi : i < 7) (w : World) : (Instr.mapUpdate 92 (.map (some w.heap.size)) (.string (kw i)) (.int .i64 (i + 1 : Nat))).run Tryz.prog (w.alloc (.map (kEs i) i)) = .ok () (w.alloc (.map (kEs (i + 1)) (i + 1))) := by
  have hf : Instr.findNow .string (.string (kw i)) (kEs i).toList 0 = some none := by
    rcases (by omega : i = 0 ∨ i = 1 ∨ i = 2 ∨ i = 3 ∨ i = 4 ∨ i = 5 ∨ i = 6) with rfl | rfl | rfl | rfl | rfl | rfl | rfl <;> rfl
  rw [put_str (kw i) _ hf]
  rcases (by omega : i = 0 ∨ i = 1 ∨ i = 2 ∨ i = 3 ∨ i = 4 ∨ i = 5 ∨ i = 6) with rfl | rfl | rfl | rfl | rfl | rfl | rfl <;> rfl

set_option maxHeartbeats 4000000 in
set_option maxRecDepth 100000 in
theorem kinds_walk (w : World) : Calls Tryz.prog 20 #[] w fun r w' => r = .returned (.map (some w.heap.size)) ∧ w' = w.alloc (.map (kEs 7) 7) := by
  have p0 := kput 0 (by decide) w
  have p1 := kput 1 (by decide) w
  have p2 := kput 2 (by decide) w
  have p3 := kput 3 (by decide) w
  have p4 := kput 4 (by decide) w
  have p5 := kput 5 (by decide) w
  have p6 := kput 6 (by decide) w
  have e0 : kEs 0 = #[] := rfl
  rw [e0] at p0
  generalize kEs 1 = k1 at p0 p1
  generalize kEs 2 = k2 at p1 p2
  generalize kEs 3 = k3 at p2 p3
  generalize kEs 4 = k4 at p3 p4
  generalize kEs 5 = k5 at p4 p5
  generalize kEs 6 = k6 at p5 p6
  generalize kEs 7 = k7 at p6 ⊢
  have q0 : (Instr.mapUpdate 92 (.map (some w.heap.size)) (.string ⟨#[115, 108, 117, 114]⟩) (.int .i64 1)).run Tryz.prog (w.alloc (.map #[] 0)) = .ok () (w.alloc (.map k1 1)) := p0
  have q1 : (Instr.mapUpdate 92 (.map (some w.heap.size)) (.string ⟨#[99, 114, 101, 115, 99, 101, 110, 100, 111]⟩) (.int .i64 2)).run Tryz.prog (w.alloc (.map k1 1)) = .ok () (w.alloc (.map k2 2)) := p1
  have q2 : (Instr.mapUpdate 92 (.map (some w.heap.size)) (.string ⟨#[100, 105, 109, 105, 110, 117, 101, 110, 100, 111]⟩) (.int .i64 3)).run Tryz.prog (w.alloc (.map k2 2)) = .ok () (w.alloc (.map k3 3)) := p2
  have q3 : (Instr.mapUpdate 92 (.map (some w.heap.size)) (.string ⟨#[111, 99, 116, 97, 118, 101, 117, 112]⟩) (.int .i64 4)).run Tryz.prog (w.alloc (.map k3 3)) = .ok () (w.alloc (.map k4 4)) := p3
  have q4 : (Instr.mapUpdate 92 (.map (some w.heap.size)) (.string ⟨#[111, 99, 116, 97, 118, 101, 100, 111, 119, 110]⟩) (.int .i64 5)).run Tryz.prog (w.alloc (.map k4 4)) = .ok () (w.alloc (.map k5 5)) := p4
  have q5 : (Instr.mapUpdate 92 (.map (some w.heap.size)) (.string ⟨#[112, 101, 100, 97, 108]⟩) (.int .i64 6)).run Tryz.prog (w.alloc (.map k5 5)) = .ok () (w.alloc (.map k6 6)) := p5
  have q6 : (Instr.mapUpdate 92 (.map (some w.heap.size)) (.string ⟨#[116, 114, 105, 108, 108]⟩) (.int .i64 7)).run Tryz.prog (w.alloc (.map k6 6)) = .ok () (w.alloc (.map k7 7)) := p6
  have hmk : (Instr.makeMap 92 none).run Tryz.prog w = .ok (.map (some w.heap.size)) (w.alloc (.map #[] 0)) := by
    simp [Instr.makeMap, newObj, Sem.run]
  clear p0 p1 p2 p3 p4 p5 p6 e0
  go_enter Tryz.func20, Tryz.ntmps20
  go_wp2
  go_ret
  exact ⟨rfl, rfl⟩
end Go.Proofs.YtaimdnddmddbnaaGreatDoor

namespace Go.Proofs.YtaimdnddmddbnaaGreatDoor
open Go.RowKit Go.Dam

def bassS : ByteArray := ⟨#[98, 97, 115, 115]⟩
noncomputable def bassOk : Bool := match evCall noOrc Tryz.prog fsAll 400 12 (.func 47) [.string bassS] ⟨[], 100⟩ with
  | some (v, _) => veq (.tuple #[.int .i64 2, .int .i64 0]) v
  | none => false
set_option maxRecDepth 1000000 in
theorem bass_ok : bassOk = true := by kernel_rfl

theorem find_bass (w : World) : Calls Tryz.prog 47 #[.string bassS] w fun e w' => e = .returned (.tuple #[.int .i64 2, .int .i64 0]) ∧ Below w.heap.size w w' := by
  have h := bass_ok
  unfold bassOk at h
  split at h
  · rename_i v S he
    obtain rfl := veq_spec h
    refine closed (args := [.string bassS]) noOrc_ok mixed_ok (namesOk_of names_ok) (ok_any _) (h := []) (nx := 100) rfl (by decide) (Nat.le_of_ble_eq_true (by kernel_rfl)) ?_ rfl he rfl ?_
    · intro x hx; obtain rfl := List.mem_singleton.1 hx; rfl
    · intro n o hn; cases hn
  · cases h

section
variable {Y M : Nat} {tv : Value} {toks : List Tok} {pos : Nat} {line col e : Int} {free : Bool} {ls ln : Int} {es : Array MapEntry} {clk : Nat} {w : World} {t : Tok}

set_option maxHeartbeats 8000000 in
set_option maxRecDepth 100000 in
theorem word_ok (h : Prs Y M tv toks pos line col 0 free ls ln es clk w) (ht : toks[pos]? = some t) (hk : t.kind = 1) (hpos : pos ≤ 1048576) {Q : Nat} {ws : Array MapEntry} {c i : Nat} {n : Int} (hQ : w.heap[Q]? = some (.map ws c)) (hf : Instr.findNow .string (.string t.text) ws.toList 0 = some (some (i, .int .i64 n))) :
    Calls Tryz.prog 48 #[.pointer (some ⟨Y, 0, none⟩), .map (some Q)] w fun r w' => r = .returned (.int .i64 n) ∧ Prs Y M tv toks (pos + 1) line col 0 free ls ln es clk w' ∧ Away [Y] w w' := by
  have hp := peek_ok h ht
  have hst := fun w' (b : Below w.heap.size w w') => h.step b
  have lQ := (Array.getElem?_eq_some_iff.1 hQ).1
  clear h ht
  rw [hk] at hp
  have hw : IntKind.i64.wrap ((pos : Int) + 1) = (pos : Int) + 1 := IntWalk.i64_in _ (by omega)
  go_enter Tryz.func48, Tryz.ntmps48
  go_wp2_with (go_at_call 21; refine hp.mono ?_)
  intro r w1; first | (intro he b1; subst he) | rintro ⟨rfl, b1⟩
  have b2 := b1.alloc b1.size (.cells #[.int .i64 1, .string t.text, .int .i64 t.value, .string t.bytes, .int .i64 1, .int .i64 t.col, .bool t.joined] 95)
  have hQ2 := (b2.block Q lQ).trans hQ
  have hlk := look_str_yes hQ2 t.text hf
  have hS1 := hst _ b1
  have d1 := hS1.c1
  have l1 := hS1.lt
  have n1 := World.new_ne w1 _ d1
  have f1 := hS1.fz 1
  have hN := hS1.next.step ((Below.refl _ _).alloc (Nat.le_refl _) (.cells #[.int .i64 1, .string t.text, .int .i64 t.value, .string t.bytes, .int .i64 1, .int .i64 t.col, .bool t.joined] 95))
  clear hst hp hS1 hQ hQ2 hf
  go_wp2
  go_ret
  exact ⟨rfl, hN, ((Away.of_below b1).setCell (.inl (by simp)) _).alloc _⟩

set_option maxHeartbeats 8000000 in
set_option maxRecDepth 100000 in
theorem word_err (h : Prs Y M tv toks pos line col e free ls ln es clk w) (he : e ≠ 0) {Q : Nat} {ws : Array MapEntry} {c : Nat} (hQ : w.heap[Q]? = some (.map ws c)) (hf : Instr.findNow .string (.string ByteArray.empty) ws.toList 0 = some none) :
    Calls Tryz.prog 48 #[.pointer (some ⟨Y, 0, none⟩), .map (some Q)] w fun r w' => r = .returned (.int .i64 0) ∧ Below w.heap.size w w' := by
  have hp := peek_err h he
  have hfl := fun w' (b : Below w.heap.size w w') => fail_err (h.step b) he 13
  have lQ := (Array.getElem?_eq_some_iff.1 hQ).1
  clear h
  go_enter Tryz.func48, Tryz.ntmps48
  go_wp2_with (go_at_call 21; refine hp.mono ?_)
  intro r w1; first | (intro he b1; subst he) | rintro ⟨rfl, b1⟩
  have b2 := b1.alloc b1.size (.cells #[.int .i64 (-1), .string ByteArray.empty, .int .i64 0, .string ByteArray.empty, .int .i64 0, .int .i64 0, .bool false] 95)
  have hQ2 := (b2.block Q lQ).trans hQ
  have hlk := look_str_no hQ2 ByteArray.empty hf
  have hf1 := hfl _ b2
  clear hQ2 hQ
  go_wp2_with (go_at_call 28; refine hf1.mono ?_)
  intro r w3; first | (intro he b3; subst he) | rintro ⟨rfl, b3⟩
  go_wp2
  go_ret
  exact ⟨rfl, b2.trans (b3.mono b2.size)⟩

theorem put_str_at {M : Nat} {es : Array MapEntry} {clk : Nat} {w : World} (h : w.heap[M]? = some (.map es clk)) (k : ByteArray) (v : Value) (hf : Instr.findNow .string (.string k) es.toList 0 = some none) :
    (Instr.mapUpdate 92 (.map (some M)) (.string k) v).run Tryz.prog w = .ok () { w with heap := w.heap.setIfInBounds M (.map (es.push ⟨.string k, v, clk⟩) (clk + 1)) } := by
  unfold Instr.mapUpdate
  simp only [Sem.run_bind, run_underlying Tryz.underlying92, Result.andThen_ok, getObj_run h, ck_str, find_str k hf]
  rw [setObj_run _ h]

theorem Prs.other (h : Prs Y M tv toks pos line col e free ls ln es clk w) {Q : Nat} {ws : Array MapEntry} {c : Nat} (hQ : w.heap[Q]? = some (.map ws c)) (hM : Q ≠ M) (o : Obj) : Prs Y M tv toks pos line col e free ls ln es clk { w with heap := w.heap.setIfInBounds Q o } := by
  refine ⟨?_, ?_, fun he => own_step (h.row he) fun k hk => ?_⟩
  · show (w.heap.setIfInBounds Q _)[Y]? = _
    rw [Array.getElem?_setIfInBounds_ne]; exact h.blk
    rintro rfl
    rw [h.blk] at hQ
    injection hQ with hQ
    cases hQ
  · show (w.heap.setIfInBounds Q _)[M]? = _
    rw [Array.getElem?_setIfInBounds_ne hM]; exact h.map
  · show (w.heap.setIfInBounds Q _)[k]? = _
    rw [Array.getElem?_setIfInBounds_ne]
    rintro rfl
    exact own_ne (h.row he) hQ (by intro cs' fr' hc; cases hc) hk

theorem Away.newer {bs : List Nat} {a w : World} (h : Away bs a w) {Q : Nat} (hQ : a.heap.size ≤ Q) (o : Obj) : Away bs a { w with heap := w.heap.setIfInBounds Q o } :=
  ⟨h.os, h.tape, h.output, by simpa using h.size, fun k hk hb => by
    show (w.heap.setIfInBounds Q o)[k]? = _
    rw [Array.getElem?_setIfInBounds_ne (by omega)]; exact h.block k hk hb⟩

set_option maxHeartbeats 8000000 in
set_option maxRecDepth 100000 in
theorem clef_ok (h : Prs Y M tv toks pos line col 0 free ls ln es clk w) (ht : toks[pos]? = some t) (hk : t.kind = 1) (hx : t.text = bassS) (hpos : pos ≤ 1048576) :
    Calls Tryz.prog 31 #[.pointer (some ⟨Y, 0, none⟩)] w fun r w' => r = .returned (.int .i64 2) ∧ Prs Y M tv toks (pos + 1) line col 0 free ls ln es clk w' ∧ Away [Y] w w' := by
  obtain ⟨kd, text, v, bt, cl, j⟩ := t
  simp only at hk hx
  subst hk hx
  have hmk : (Instr.makeMap 92 none).run Tryz.prog w = .ok (.map (some w.heap.size)) (w.alloc (.map #[] 0)) := by
    simp [Instr.makeMap, newObj, Sem.run]
  have b0 := (Below.refl w.heap.size w).alloc (Nat.le_refl _) (.map #[] 0)
  have hp := peek_ok (h.step b0) ht
  have hQ0 := heap_alloc_new w (.map #[] 0)
  go_enter Tryz.func31, Tryz.ntmps31
  go_wp2_with (go_at_call 21; refine hp.mono ?_)
  intro r w1; first | (intro he b1; subst he) | rintro ⟨rfl, b1⟩
  have b1' : Below (w.alloc (.map #[] 0)).heap.size (w.alloc (.map #[] 0)) w1 := by simpa using b1
  have hQ1 := (b1'.block _ (Array.getElem?_eq_some_iff.1 hQ0).1).trans hQ0
  have bT := b1'.alloc b1'.size (.cells #[.int .i64 1, .string bassS, .int .i64 v, .string bt, .int .i64 1, .int .i64 cl, .bool j] 95)
  have aw1 := (Away.of_below (bs := [Y]) b0).trans (Away.of_below bT)
  have hT := heap_alloc_new w1 (.cells #[.int .i64 1, .string bassS, .int .i64 v, .string bt, .int .i64 1, .int .i64 cl, .bool j] 95)
  have hQT := (bT.block _ (Array.getElem?_eq_some_iff.1 hQ0).1).trans hQ0
  have hS := (h.step b0).step bT
  have hQT1 : w.heap.size ≠ w1.heap.size := by
    have := (Array.getElem?_eq_some_iff.1 hQ1).1
    omega
  have hTY : w1.heap.size ≠ Y := by
    have := ((h.step b0).step b1').lt
    omega
  have hQY : w.heap.size ≠ Y := by
    have := h.lt
    omega
  have hQMx : w.heap.size ≠ M := by
    have := h.ltM
    omega
  clear hp h b0 b1 b1' hQ0 hQ1 bT
  have k0 : (w1.alloc (.cells #[.int .i64 1, .string bassS, .int .i64 v, .string bt, .int .i64 1, .int .i64 cl, .bool j] 95)).cell? ⟨w1.heap.size, 1, none⟩ = some (.string bassS) := by rw [Lib.cell_of_heap hT]; rfl
  have fb := find_bass (w1.alloc (.cells #[.int .i64 1, .string bassS, .int .i64 v, .string bt, .int .i64 1, .int .i64 cl, .bool j] 95))
  go_wp2_with (go_at_call 47; refine fb.mono ?_)
  intro r w2; first | (intro he b2; subst he) | rintro ⟨rfl, b2⟩
  have hT2 := (b2.block _ (Array.getElem?_eq_some_iff.1 hT).1).trans hT
  have hQ2 := (b2.block _ (Array.getElem?_eq_some_iff.1 hQT).1).trans hQT
  have hS2 := hS.step b2
  have aw2 := aw1.trans (Away.of_below b2)
  have hput := put_str_at hQ2 bassS (.int .i64 2) rfl
  have hQM : w.heap.size ≠ M := hQMx
  have k2 : w2.cell? ⟨w1.heap.size, 1, none⟩ = some (.string bassS) := by rw [Lib.cell_of_heap hT2]; rfl
  have hS3 := hS2.other hQ2 hQM (.map ((#[] : Array MapEntry).push ⟨.string bassS, .int .i64 2, 0⟩) (0 + 1))
  have aw3 := aw2.newer (Nat.le_refl _) (.map ((#[] : Array MapEntry).push ⟨.string bassS, .int .i64 2, 0⟩) (0 + 1))
  have hQ3 : ({ w2 with heap := w2.heap.setIfInBounds w.heap.size (.map ((#[] : Array MapEntry).push ⟨.string bassS, .int .i64 2, 0⟩) (0 + 1)) } : World).heap[w.heap.size]? = some (.map ((#[] : Array MapEntry).push ⟨.string bassS, .int .i64 2, 0⟩) (0 + 1)) := Array.getElem?_setIfInBounds_self_of_lt (Array.getElem?_eq_some_iff.1 hQ2).1
  generalize ({ w2 with heap := w2.heap.setIfInBounds w.heap.size (.map ((#[] : Array MapEntry).push ⟨.string bassS, .int .i64 2, 0⟩) (0 + 1)) } : World) = w3 at hS3 aw3 hQ3 hput
  have hwd := word_ok hS3 ht rfl hpos hQ3 (i := 0) (n := 2) rfl
  clear hS hS2 aw1 aw2 b2 hT hQT fb k0 hT2 hQ2 hS3
  go_wp2_with (go_at_call 48; refine hwd.mono ?_)
  intro r w4; first | (intro he hS4 b4; subst he) | rintro ⟨rfl, hS4, b4⟩
  go_wp2
  go_ret
  exact ⟨rfl, hS4, aw3.trans b4⟩

set_option maxHeartbeats 8000000 in
set_option maxRecDepth 100000 in
theorem clef_err (h : Prs Y M tv toks pos line col e free ls ln es clk w) (he : e ≠ 0) :
    Calls Tryz.prog 31 #[.pointer (some ⟨Y, 0, none⟩)] w fun r w' => r = .returned (.int .i64 0) ∧ Below w.heap.size w w' := by
  have hmk : (Instr.makeMap 92 none).run Tryz.prog w = .ok (.map (some w.heap.size)) (w.alloc (.map #[] 0)) := by
    simp [Instr.makeMap, newObj, Sem.run]
  have b0 := (Below.refl w.heap.size w).alloc (Nat.le_refl _) (.map #[] 0)
  have hp := peek_err (h.step b0) he
  have hQ0 := heap_alloc_new w (.map #[] 0)
  go_enter Tryz.func31, Tryz.ntmps31
  go_wp2_with (go_at_call 21; refine hp.mono ?_)
  intro r w1; first | (intro he b1; subst he) | rintro ⟨rfl, b1⟩
  have b1' : Below (w.alloc (.map #[] 0)).heap.size (w.alloc (.map #[] 0)) w1 := by simpa using b1
  have bT := b1'.alloc b1'.size (.cells #[.int .i64 (-1), .string ByteArray.empty, .int .i64 0, .string ByteArray.empty, .int .i64 0, .int .i64 0, .bool false] 95)
  have bel := b0.trans (bT.mono (by simp))
  have hQT := (bT.block _ (Array.getElem?_eq_some_iff.1 hQ0).1).trans hQ0
  have hwd := word_err ((h.step b0).step bT) he hQT rfl
  clear hp h b0 b1 b1' hQ0 bT hQT
  go_wp2_with (go_at_call 48; refine hwd.mono ?_)
  intro r w4; first | (intro he b4; subst he) | rintro ⟨rfl, b4⟩
  go_wp2
  go_ret
  exact ⟨rfl, bel.trans (b4.mono bel.size)⟩
end
end Go.Proofs.YtaimdnddmddbnaaGreatDoor
