/-
  A part of the proof that the law ParserNests (chapter 19) returns true for every depth and every list of notes: walks of the program's functions, and runs of them in the kernel by the own evaluator.
-/
import Derived.Test.YtmoddgkjaimpfaaGreatDoorPra
namespace Go.Proofs.YtmoddgkjaimpfaaGreatDoor
open Go.RowKit

theorem Tryz.sizeId : (Tryz.prog.info? 49).map (·.size) = some 2 := by kernel_rfl
theorem Away.heap {bs : List Nat} {w w' : World} (h : Away bs w w') {b : Nat} {o : Obj} (ho : w.heap[b]? = some o) (hn : b ∉ bs) : w'.heap[b]? = some o :=
  (h.block b (Array.getElem?_eq_some_iff.1 ho).1 hn).trans ho

section
variable {Y M : Nat} {tv : Value} {toks : List Tok} {pos : Nat} {line col e : Int} {free : Bool} {ls ln : Int} {es : Array MapEntry} {clk : Nat} {w : World} {t : Tok}
theorem Prs.elsewhere (h : Prs Y M tv toks pos line col e free ls ln es clk w) {k : Nat} {cs : Array Value} {T : TypeId} {fr : Nat × Nat} (hk : w.heap[k]? = some (.cells cs T fr)) (hT : T ≠ 77) (hT2 : T ≠ 85) (i : Nat) (u : Value) :
    Prs Y M tv toks pos line col e free ls ln es clk (w.setCell ⟨k, i, none⟩ u) := by
  have hY : Y ≠ k := by
    rintro rfl
    rw [h.blk] at hk
    injection hk with hk
    injection hk with _ h2 _
    exact hT h2.symm
  have hM : M ≠ k := by
    rintro rfl
    rw [h.map] at hk
    injection hk with hk
    cases hk
  refine ⟨(Below.heap_setCell _ _ _ _ hY).trans h.blk, (Below.heap_setCell _ _ _ _ hM).trans h.map, fun he => own_step (h.row he) fun j hj => Below.heap_setCell _ _ _ _ (fun e => ?_)⟩
  exact own_ne (h.row he) hk (by intro cs' fr' hc; injection hc with _ h2 _; exact hT2 h2) (by rw [hj, e])

def atS : ByteArray := ⟨#[64]⟩

theorem field0_run (a0 : Int) (a1 a2 a3 a4 a5 a6 : Value) (w : World) : (Instr.field 85 (.agg #[.int .i64 a0, a1, a2, a3, a4, a5, a6]) 0).run Tryz.prog w = .ok (.int .i64 a0) w := by
  simp [Instr.field, run_underlying Tryz.underlying85, Result.andThen, asAgg, part, isAgg, run_underlying Tryz.underlying3, Sem.run_bind]
theorem field1_run (a0 : Value) (a1 : ByteArray) (a2 a3 a4 a5 a6 : Value) (w : World) : (Instr.field 85 (.agg #[a0, .string a1, a2, a3, a4, a5, a6]) 1).run Tryz.prog w = .ok (.string a1) w := by
  simp [Instr.field, run_underlying Tryz.underlying85, Result.andThen, asAgg, part, isAgg, run_underlying Tryz.underlying9, Sem.run_bind]

/-- A note's name: a letter and the octave 4. -/
def noteS (c : UInt8) : ByteArray := ⟨#[c, 52]⟩

set_option maxHeartbeats 4000000 in
set_option maxRecDepth 100000 in
theorem isPitch_no (h : Prs Y M tv toks pos line col 0 free ls ln es clk w) (ht : toks[pos]? = some t) (hk : t.kind ≠ 1) :
    Calls Tryz.prog 26 #[.pointer (some ⟨Y, 0, none⟩)] w fun r w' => r = .returned (.bool false) ∧ Below w.heap.size w w' := by
  have hp := peek_ok h ht
  obtain ⟨kd, text, v, bt, cl, j⟩ := t
  simp only at hk hp
  have hk' : decide (kd = 1) = false := decide_eq_false hk
  clear h ht
  go_enter Tryz.func26, Tryz.ntmps26
  go_wp2_with (go_at_call 18; refine hp.mono ?_)
  intro r w1; first | (intro he b1; subst he) | rintro ⟨rfl, b1⟩
  go_wp2
  go_ret
  exact ⟨rfl, b1.alloc b1.size _⟩

set_option maxHeartbeats 4000000 in
set_option maxRecDepth 100000 in
theorem isPitch_yes (h : Prs Y M tv toks pos line col 0 free ls ln es clk w) (ht : toks[pos]? = some t) (hk : t.kind = 1) (c : UInt8) (hx : t.text = noteS c) (hc : c = 67 ∨ c = 68 ∨ c = 69) :
    Calls Tryz.prog 26 #[.pointer (some ⟨Y, 0, none⟩)] w fun r w' => r = .returned (.bool true) ∧ Below w.heap.size w w' := by
  have hp := peek_ok h ht
  obtain ⟨kd, text, v, bt, cl, j⟩ := t
  simp only at hk hp hx
  subst hk hx
  clear h ht
  rcases hc with rfl | rfl | rfl
  all_goals simp only [noteS] at hp
  all_goals go_enter Tryz.func26, Tryz.ntmps26
  all_goals go_wp2_with (go_at_call 18; refine hp.mono ?_)
  all_goals (intro r w1; first | (intro he b1; subst he) | rintro ⟨rfl, b1⟩)
  all_goals go_wp2
  all_goals go_ret
  all_goals exact ⟨rfl, b1.alloc b1.size _⟩
end
end Go.Proofs.YtmoddgkjaimpfaaGreatDoor

namespace Go.Proofs.YtmoddgkjaimpfaaGreatDoor
open Go.RowKit

def s0 : ByteArray := ⟨#[64]⟩
def s1 : ByteArray := ⟨#[103, 114, 97, 99, 101]⟩
def s2 : ByteArray := ⟨#[60]⟩
def s3 : ByteArray := ⟨#[114]⟩
def s4 : ByteArray := ⟨#[82]⟩
def s5 : ByteArray := ⟨#[115]⟩
/-- The row of the six texts. -/
def sixRow : Obj := .cells #[.string s0, .string s1, .string s2, .string s3, .string s4, .string s5] 9 (0, 0)
/-- It is none of the six. -/
def NoSix (t : Tok) : Prop := IsTok t s0 = false ∧ IsTok t s1 = false ∧ IsTok t s2 = false ∧ IsTok t s3 = false ∧ IsTok t s4 = false ∧ IsTok t s5 = false

section
variable {Y M : Nat} {tv : Value} {toks : List Tok} {pos : Nat} {line col e : Int} {free : Bool} {ls ln : Int} {es : Array MapEntry} {clk : Nat} {w : World} {t : Tok} {K : Nat}

set_option maxHeartbeats 8000000 in
set_option maxRecDepth 100000 in
theorem index_none (h : Prs Y M tv toks pos line col 0 free ls ln es clk w) (ht : toks[pos]? = some t) (hn : NoSix t) (hK : w.heap[K]? = some sixRow) :
    Calls Tryz.prog 53 #[.slice (some ⟨K, 0, none⟩) 6 6, .func (.func 13) #[.pointer (some ⟨Y, 0, none⟩)] #[]] w fun r w' => r = .returned (.int .i64 (-1)) ∧ Below w.heap.size w w' := by
  have lK := (Array.getElem?_eq_some_iff.1 hK).1
  obtain ⟨n0, n1, n2, n3, n4, n5⟩ := hn
  go_enter Tryz.func53, Tryz.ntmps53
  go_wp2
  go_loopw [8] (fun v wr => ∃ i : Nat, i ≤ 6 ∧ v = .int .i64 i ∧ Below w.heap.size w wr) (fun v _ => 6 - (intOf v).toNat)
  case atStart => exact ⟨0, Nat.zero_le _, rfl, Below.refl _ _⟩
  case round =>
    obtain ⟨i, hi, rfl, hb⟩ := hrel
    have hK1 := (hb.block K lK).trans hK
    have hS := h.step hb
    have q0 : wr.cell? ⟨K, 0, none⟩ = some (.string s0) := by rw [Lib.cell_of_heap hK1]; rfl
    have q1 : wr.cell? ⟨K, 1, none⟩ = some (.string s1) := by rw [Lib.cell_of_heap hK1]; rfl
    have q2 : wr.cell? ⟨K, 2, none⟩ = some (.string s2) := by rw [Lib.cell_of_heap hK1]; rfl
    have q3 : wr.cell? ⟨K, 3, none⟩ = some (.string s3) := by rw [Lib.cell_of_heap hK1]; rfl
    have q4 : wr.cell? ⟨K, 4, none⟩ = some (.string s4) := by rw [Lib.cell_of_heap hK1]; rfl
    have q5 : wr.cell? ⟨K, 5, none⟩ = some (.string s5) := by rw [Lib.cell_of_heap hK1]; rfl
    clear hK hK1
    have hi6 : i = 0 ∨ i = 1 ∨ i = 2 ∨ i = 3 ∨ i = 4 ∨ i = 5 ∨ i = 6 := by omega
    rcases hi6 with rfl | rfl | rfl | rfl | rfl | rfl | rfl
    · have x := is_ok hS ht s0 n0
      go_wp2_with (go_at_call 13; refine x.mono ?_)
      intro r w1; first | (intro he b1; subst he) | rintro ⟨rfl, b1⟩
      go_wp2
      go_roundw
      case rel => exact ⟨1, by omega, rfl, hb.trans (b1.mono hb.size)⟩
      case measure => simp [intOf]
    · have x := is_ok hS ht s1 n1
      go_wp2_with (go_at_call 13; refine x.mono ?_)
      intro r w1; first | (intro he b1; subst he) | rintro ⟨rfl, b1⟩
      go_wp2
      go_roundw
      case rel => exact ⟨2, by omega, rfl, hb.trans (b1.mono hb.size)⟩
      case measure => simp [intOf]
    · have x := is_ok hS ht s2 n2
      go_wp2_with (go_at_call 13; refine x.mono ?_)
      intro r w1; first | (intro he b1; subst he) | rintro ⟨rfl, b1⟩
      go_wp2
      go_roundw
      case rel => exact ⟨3, by omega, rfl, hb.trans (b1.mono hb.size)⟩
      case measure => simp [intOf]
    · have x := is_ok hS ht s3 n3
      go_wp2_with (go_at_call 13; refine x.mono ?_)
      intro r w1; first | (intro he b1; subst he) | rintro ⟨rfl, b1⟩
      go_wp2
      go_roundw
      case rel => exact ⟨4, by omega, rfl, hb.trans (b1.mono hb.size)⟩
      case measure => simp [intOf]
    · have x := is_ok hS ht s4 n4
      go_wp2_with (go_at_call 13; refine x.mono ?_)
      intro r w1; first | (intro he b1; subst he) | rintro ⟨rfl, b1⟩
      go_wp2
      go_roundw
      case rel => exact ⟨5, by omega, rfl, hb.trans (b1.mono hb.size)⟩
      case measure => simp [intOf]
    · have x := is_ok hS ht s5 n5
      go_wp2_with (go_at_call 13; refine x.mono ?_)
      intro r w1; first | (intro he b1; subst he) | rintro ⟨rfl, b1⟩
      go_wp2
      go_roundw
      case rel => exact ⟨6, by omega, rfl, hb.trans (b1.mono hb.size)⟩
      case measure => simp [intOf]
    · go_wp2
      go_ret
      exact ⟨rfl, hb⟩

set_option maxHeartbeats 4000000 in
set_option maxRecDepth 100000 in
theorem contains_none (h : Prs Y M tv toks pos line col 0 free ls ln es clk w) (ht : toks[pos]? = some t) (hn : NoSix t) (hK : w.heap[K]? = some sixRow) :
    Calls Tryz.prog 25 #[.slice (some ⟨K, 0, none⟩) 6 6, .func (.func 13) #[.pointer (some ⟨Y, 0, none⟩)] #[]] w fun r w' => r = .returned (.bool false) ∧ Below w.heap.size w w' := by
  have hf := index_none h ht hn hK
  clear h ht hn hK
  go_enter Tryz.func25, Tryz.ntmps25
  go_wp2_with (go_at_call 53; refine hf.mono ?_)
  intro r w1; first | (intro he b1; subst he) | rintro ⟨rfl, b1⟩
  go_wp2
  go_ret
  exact ⟨rfl, b1⟩

set_option maxHeartbeats 4000000 in
set_option maxRecDepth 100000 in
theorem begins_walk (h : Prs Y M tv toks pos line col 0 free ls ln es clk w) (ht : toks[pos]? = some t) (hn : NoSix t) (b : Bool)
    (hp : ∀ w', Below w.heap.size w w' → Calls Tryz.prog 26 #[.pointer (some ⟨Y, 0, none⟩)] w' fun r w'' => r = .returned (.bool b) ∧ Below w'.heap.size w' w'') :
    Calls Tryz.prog 15 #[.pointer (some ⟨Y, 0, none⟩)] w fun r w' => r = .returned (.bool b) ∧ Below w.heap.size w w' := by
  have b0 := (Below.refl w.heap.size w).alloc (Nat.le_refl _) (.cells #[.string s0, .string s1, .string s2, .string s3, .string s4, .string s5] 9)
  have hc := contains_none (h.step b0) ht hn (heap_alloc_new w (.cells #[.string s0, .string s1, .string s2, .string s3, .string s4, .string s5] 9))
  clear h ht hn
  simp only [s0, s1, s2, s3, s4, s5] at hc b0
  go_enter Tryz.func15, Tryz.ntmps15
  go_wp2_with (go_at_call 25; refine hc.mono ?_)
  intro r w1; first | (intro he b1; subst he) | rintro ⟨rfl, b1⟩
  have b2 := b0.trans (b1.mono (by simp))
  have hp2 := hp _ b2
  go_wp2_with (go_at_call 26; refine hp2.mono ?_)
  intro r w2; first | (intro he b3; subst he) | rintro ⟨rfl, b3⟩
  cases b
  all_goals go_wp2
  all_goals go_ret
  all_goals exact ⟨rfl, b2.trans (b3.mono b2.size)⟩

theorem begins_no (h : Prs Y M tv toks pos line col 0 free ls ln es clk w) (ht : toks[pos]? = some t) (hn : NoSix t) (hk : t.kind ≠ 1) :
    Calls Tryz.prog 15 #[.pointer (some ⟨Y, 0, none⟩)] w fun r w' => r = .returned (.bool false) ∧ Below w.heap.size w w' :=
  begins_walk h ht hn false fun _ b => isPitch_no (h.step b) ht hk
theorem begins_yes (h : Prs Y M tv toks pos line col 0 free ls ln es clk w) (ht : toks[pos]? = some t) (hn : NoSix t) (hk : t.kind = 1) (c : UInt8) (hx : t.text = noteS c) (hc : c = 67 ∨ c = 68 ∨ c = 69) :
    Calls Tryz.prog 15 #[.pointer (some ⟨Y, 0, none⟩)] w fun r w' => r = .returned (.bool true) ∧ Below w.heap.size w w' :=
  begins_walk h ht hn true fun _ b => isPitch_yes (h.step b) ht hk c hx hc

set_option maxHeartbeats 4000000 in
set_option maxRecDepth 100000 in
theorem object_free (h : Prs Y M tv toks pos line col 0 true ls ln es clk w) (ht : toks[pos]? = some t) (hn : IsTok t s0 = false) :
    Calls Tryz.prog 27 #[.pointer (some ⟨Y, 0, none⟩)] w fun r w' => r = .returned (.agg #[.int .i64 0, .int .i64 0]) ∧ Below w.heap.size w w' := by
  have b0 := (Below.refl w.heap.size w).alloc (Nat.le_refl _) (.cells #[.int .i64 0, .int .i64 0] 49)
  have h0 := h.step b0
  have x1 := is_ok h0 ht s0 hn
  have hR0 := heap_alloc_new w (.cells #[.int .i64 0, .int .i64 0] 49)
  simp only [s0] at x1
  go_enter Tryz.func27, Tryz.ntmps27
  go_wp2_with (go_at_call 13; refine x1.mono ?_)
  intro r w1; first | (intro he b1; subst he) | rintro ⟨rfl, b1⟩
  have h1 := h0.step b1
  have hR1 := (b1.block _ (Array.getElem?_eq_some_iff.1 hR0).1).trans hR0
  have lR1 := (Array.getElem?_eq_some_iff.1 hR1).1
  have c5 := h1.c5
  have bel := b0.trans (b1.mono (by simp))
  have r0 : w1.cell? ⟨w.heap.size, 0, none⟩ = some (.int .i64 0) := by rw [Lib.cell_of_heap hR1]; rfl
  have r1 : w1.cell? ⟨w.heap.size, 1, none⟩ = some (.int .i64 0) := by rw [Lib.cell_of_heap hR1]; rfl
  have fr0 : w1.frozen? ⟨w.heap.size, 0, none⟩ = false := Lib.frozen_of_heap hR1 0
  have fr1 : w1.frozen? ⟨w.heap.size, 1, none⟩ = false := Lib.frozen_of_heap hR1 1
  clear h h0 h1 x1
  go_wp2
  have hR4 := Lib.heap_setCell_same (i := 1) (Lib.heap_setCell_same (i := 0) hR1 (.int .i64 0)) (.int .i64 0)
  refine bodyPost_ret (results_cell_row rfl _ _ w.heap.size 49 _ (0, 0) _ rfl hR4 Tryz.underlying49 rfl Tryz.sizeId) rfl ?_
  exact ⟨rfl, (bel.setCell (p := ⟨w.heap.size, 0, none⟩) (Nat.le_refl _) _).setCell (p := ⟨w.heap.size, 1, none⟩) (Nat.le_refl _) _⟩

def uS : ByteArray := ⟨#[95]⟩

set_option maxHeartbeats 4000000 in
set_option maxRecDepth 100000 in
theorem lyrics_none (h : Prs Y M tv toks pos line col 0 free ls ln es clk w) (ht : toks[pos]? = some t) (hk : t.kind ≠ 3) (hn : IsTok t uS = false) :
    Calls Tryz.prog 35 #[.pointer (some ⟨Y, 0, none⟩)] w fun r w' => r = .returned (.slice none 0 0) ∧ Below w.heap.size w w' := by
  have hp := peek_ok h ht
  have hi := fun w' (b : Below w.heap.size w w') => is_ok (h.step b) ht uS hn
  have hfd := field0_run t.kind (.string t.text) (.int .i64 t.value) (.string t.bytes) (.int .i64 1) (.int .i64 t.col) (.bool t.joined)
  have hk' : decide (t.kind = 3) = false := decide_eq_false hk
  simp only [uS] at hi
  clear h ht hn
  go_enter Tryz.func35, Tryz.ntmps35
  go_wp2
  go_loopg [3] 1 (fun _ v wr => v = .slice none 0 0 ∧ wr = w)
  case atStart => exact ⟨rfl, rfl⟩
  case round =>
    obtain ⟨rfl, rfl⟩ := hrel
    go_wp2_with (go_at_call 18; refine hp.mono ?_)
    intro r w1; first | (intro he b1; subst he) | rintro ⟨rfl, b1⟩
    have hi1 := hi _ b1
    go_wp2_with (go_at_call 13; refine hi1.mono ?_)
    intro r w2; first | (intro he b2; subst he) | rintro ⟨rfl, b2⟩
    go_wp2
    go_ret
    exact ⟨rfl, b1.trans (b2.mono b1.size)⟩
end
end Go.Proofs.YtmoddgkjaimpfaaGreatDoor

namespace Go.Proofs.YtmoddgkjaimpfaaGreatDoor
open Go.RowKit

def colonS : ByteArray := ⟨#[58]⟩
def dotS : ByteArray := ⟨#[46]⟩
/-- The signs of a pitch; the dot of a value. -/
def signRow : Obj := .cells #[.string ⟨#[35]⟩, .string ⟨#[45]⟩] 9 (0, 0)
def dotRow : Obj := .cells #[.string ⟨#[46]⟩] 9 (0, 0)

section
variable {Y M : Nat} {tv : Value} {toks : List Tok} {pos : Nat} {line col e : Int} {free : Bool} {ls ln : Int} {es : Array MapEntry} {clk : Nat} {w : World} {t : Tok} {K : Nat}

set_option maxHeartbeats 4000000 in
set_option maxRecDepth 100000 in
theorem index_colon (hK : w.heap[K]? = some signRow) :
    Calls Tryz.prog 150 #[.slice (some ⟨K, 0, none⟩) 2 2, .string ⟨#[58]⟩] w fun r w' => r = .returned (.int .i64 (-1)) ∧ w' = w := by
  have q0 : w.cell? ⟨K, 0, none⟩ = some (.string ⟨#[35]⟩) := by rw [Lib.cell_of_heap hK]; rfl
  have q1 : w.cell? ⟨K, 1, none⟩ = some (.string ⟨#[45]⟩) := by rw [Lib.cell_of_heap hK]; rfl
  go_enter Tryz.func150, Tryz.ntmps150
  go_wp2
  go_loopw [8] (fun v wr => ∃ i : Nat, i ≤ 2 ∧ v = .int .i64 i ∧ wr = w) (fun v _ => 2 - (intOf v).toNat)
  case atStart => exact ⟨0, Nat.zero_le _, rfl, rfl⟩
  case round =>
    obtain ⟨i, hi, rfl, rfl⟩ := hrel
    have hi6 : i = 0 ∨ i = 1 ∨ i = 2 := by omega
    rcases hi6 with rfl | rfl | rfl
    · go_wp2
      go_roundw
      case rel => exact ⟨1, by omega, by simp⟩
      case measure => simp [intOf]
    · go_wp2
      go_roundw
      case rel => exact ⟨2, by omega, by simp⟩
      case measure => simp [intOf]
    · go_wp2
      go_ret
      exact ⟨rfl, rfl⟩

set_option maxHeartbeats 4000000 in
set_option maxRecDepth 100000 in
theorem contains_colon (hK : w.heap[K]? = some signRow) :
    Calls Tryz.prog 122 #[.slice (some ⟨K, 0, none⟩) 2 2, .string ⟨#[58]⟩] w fun r w' => r = .returned (.bool false) ∧ w' = w := by
  have hf := index_colon hK
  clear hK
  go_enter Tryz.func122, Tryz.ntmps122
  go_wp2_with (go_at_call 150; refine hf.mono ?_; rintro r w1 ⟨rfl, rfl⟩)
  go_wp2
  go_ret
  exact ⟨rfl, rfl⟩

set_option maxHeartbeats 4000000 in
set_option maxRecDepth 100000 in
theorem index_dot (hK : w.heap[K]? = some dotRow) :
    Calls Tryz.prog 150 #[.slice (some ⟨K, 0, none⟩) 1 1, .string ⟨#[46]⟩] w fun r w' => r = .returned (.int .i64 0) ∧ w' = w := by
  have q0 : w.cell? ⟨K, 0, none⟩ = some (.string ⟨#[46]⟩) := by rw [Lib.cell_of_heap hK]; rfl
  go_enter Tryz.func150, Tryz.ntmps150
  go_wp2
  go_loopw [8] (fun v wr => v = .int .i64 0 ∧ wr = w) (fun v _ => 2 - (intOf v).toNat)
  case atStart => exact ⟨rfl, rfl⟩
  case round =>
    obtain ⟨rfl, rfl⟩ := hrel
    go_wp2
    go_ret
    exact ⟨rfl, rfl⟩

set_option maxHeartbeats 4000000 in
set_option maxRecDepth 100000 in
theorem contains_dot (hK : w.heap[K]? = some dotRow) :
    Calls Tryz.prog 122 #[.slice (some ⟨K, 0, none⟩) 1 1, .string ⟨#[46]⟩] w fun r w' => r = .returned (.bool true) ∧ w' = w := by
  have hf := index_dot hK
  clear hK
  go_enter Tryz.func122, Tryz.ntmps122
  go_wp2_with (go_at_call 150; refine hf.mono ?_; rintro r w1 ⟨rfl, rfl⟩)
  go_wp2
  go_ret
  exact ⟨rfl, rfl⟩

/-- Where the cells of another token lie. -/
theorem Prs.tokAt (h : Prs Y M tv toks pos line col 0 free ls ln es clk w) (i : Nat) {t : Tok} (ht : toks[i]? = some t) :
    ∃ G cap, tv = .slice (some ⟨G, 0, none⟩) toks.length cap ∧ ∀ j u, t.cells[j]? = some u → w.cell? ⟨G, i * 7 + j, none⟩ = some u := by
  have hr := h.row rfl
  have hp : i < toks.length := (List.getElem?_eq_some_iff.1 ht).1
  obtain ⟨G, cap, rfl, _, _⟩ := hr.form (by omega)
  refine ⟨G, cap, rfl, fun j u hj => ?_⟩
  have := hr.cells (g := G) rfl (i * 7 + j) u (cells_at _ _ _ _ _ ht hj)
  have hadd : (⟨G, 0, none⟩ : Addr).add (i * 7 + j) = ⟨G, i * 7 + j, none⟩ := by unfold Addr.add; split <;> simp_all
  rwa [hadd] at this

set_option maxHeartbeats 16000000 in
set_option maxRecDepth 100000 in
/-- Nothing follows at once, or a colon, behind a pitch. -/
theorem composed_one (h : Prs Y M tv toks pos line col 0 free ls ln es clk w) {t t1 : Tok} (ht : toks[pos]? = some t) (ht1 : toks[pos + 1]? = some t1) (hpos : pos ≤ 1048576) (nu : Bool) (n : Nat)
    (hK : t1.joined = false ∨ (t1.kind = 4 ∧ t1.text = ⟨#[58]⟩ ∧ n = 2 ∧ w.heap[K]? = some signRow)) :
    Calls Tryz.prog 90 #[.pointer (some ⟨Y, 0, none⟩), .bool nu, .slice (some ⟨K, 0, none⟩) n n] w fun r w' => r = .returned (.tuple #[.string t.text, .int .i64 1]) ∧ Below w.heap.size w w' := by
  have hp := peek_ok h ht
  have hst := fun w' (b : Below w.heap.size w w') => h.step b
  have hlen : pos + 1 < toks.length := (List.getElem?_eq_some_iff.1 ht1).1
  obtain ⟨q, hq⟩ : ∃ q, q = pos + 1 := ⟨_, rfl⟩
  rw [← hq] at ht1 hlen
  have hw : IntKind.i64.wrap ((pos : Int) + 1) = (q : Int) := by rw [hq]; exact IntWalk.i64_in _ (by omega)
  clear hq
  have hfd := field1_run (.int .i64 t.kind) t.text (.int .i64 t.value) (.string t.bytes) (.int .i64 1) (.int .i64 t.col) (.bool t.joined)
  clear h ht
  go_enter Tryz.func90, Tryz.ntmps90
  go_wp2_with (go_at_call 18; refine hp.mono ?_)
  intro r w1; first | (intro he b1; subst he) | rintro ⟨rfl, b1⟩
  go_wp2
  go_loopg [8, 9] 1 (fun _ v u wr => v = .string t.text ∧ u = .int .i64 1 ∧ wr = w1)
  case atStart => exact ⟨rfl, rfl, rfl⟩
  case round =>
    obtain ⟨rfl, rfl, rfl⟩ := hrel
    have hS := hst _ b1
    obtain ⟨G, cap, rfl, hc⟩ := hS.tokAt q ht1
    have c0 := hS.c0
    have c1 := hS.c1
    have u0 : wr.cell? ⟨G, q * 7, none⟩ = some (.int .i64 t1.kind) := hc 0 _ rfl
    have u1 := hc 1 _ rfl
    have u2 := hc 2 _ rfl
    have u3 := hc 3 _ rfl
    have u4 := hc 4 _ rfl
    have u5 := hc 5 _ rfl
    have u6 := hc 6 _ rfl
    have hlt : (q : Int) < (toks.length : Int) := by omega
    have hp0 : (0 : Int) ≤ (q : Int) := by omega
    have n0 := World.new_ne wr _ c0
    have n1 := World.new_ne wr _ u0
    have l0 := World.block_lt_of_cell? wr _ c0
    have l1 := World.block_lt_of_cell? wr _ u0
    simp only at l0 l1
    clear hc
    go_wp2
    go_region_held3 (fun w' => w'.cell? ⟨Y, 0, none⟩ = some (.slice (some ⟨G, 0, none⟩) toks.length cap) ∧ w'.cell? ⟨Y, 1, none⟩ = some (.int .i64 pos) ∧
      w'.cell? ⟨G, q * 7, none⟩ = some (.int .i64 t1.kind) ∧ w'.cell? ⟨G, q * 7 + 1, none⟩ = some (.string t1.text) ∧ w'.cell? ⟨G, q * 7 + 2, none⟩ = some (.int .i64 t1.value) ∧
      w'.cell? ⟨G, q * 7 + 3, none⟩ = some (.string t1.bytes) ∧ w'.cell? ⟨G, q * 7 + 4, none⟩ = some (.int .i64 1) ∧ w'.cell? ⟨G, q * 7 + 5, none⟩ = some (.int .i64 t1.col) ∧ w'.cell? ⟨G, q * 7 + 6, none⟩ = some (.bool t1.joined)) (go_keep) (fail)
    go_wp2
    go_region_held3 (fun w' => w'.cell? ⟨Y, 0, none⟩ = some (.slice (some ⟨G, 0, none⟩) toks.length cap) ∧ w'.cell? ⟨Y, 1, none⟩ = some (.int .i64 pos) ∧
      w'.cell? ⟨G, q * 7, none⟩ = some (.int .i64 t1.kind) ∧ w'.cell? ⟨G, q * 7 + 1, none⟩ = some (.string t1.text) ∧ w'.cell? ⟨G, q * 7 + 2, none⟩ = some (.int .i64 t1.value) ∧
      w'.cell? ⟨G, q * 7 + 3, none⟩ = some (.string t1.bytes) ∧ w'.cell? ⟨G, q * 7 + 4, none⟩ = some (.int .i64 1) ∧ w'.cell? ⟨G, q * 7 + 5, none⟩ = some (.int .i64 t1.col) ∧ w'.cell? ⟨G, q * 7 + 6, none⟩ = some (.bool t1.joined)) (go_keep) (fail)
    have hjj : t1.joined = false ∨ t1.joined = true := by cases t1.joined <;> simp
    rcases hjj with hj | hj
    · rw [hj]
      go_wp2
      refine bodyPost_ret (results_tmp2 rfl _ _ _) rfl ?_
      exact ⟨rfl, (b1.alloc b1.size _).drew.drew⟩
    · rw [hj]
      rcases hK with hK | ⟨hk4, hx4, rfl, hK⟩
      · rw [hj] at hK; cases hK
      rw [hk4, hx4]
      have lK := (Array.getElem?_eq_some_iff.1 hK).1
      have b2 := (b1.alloc b1.size (.cells #[.int .i64 4, .string ⟨#[58]⟩, .int .i64 t1.value, .string t1.bytes, .int .i64 1, .int .i64 t1.col, .bool true] 85)).drew.drew
      have hK2 := (b2.block K lK).trans hK
      have xc := contains_colon hK2
      cases nu
      · go_wp2_with (go_at_call 122; refine xc.mono ?_; rintro r w2 ⟨rfl, rfl⟩)
        go_wp2
        refine bodyPost_ret (results_tmp2 rfl _ _ _) rfl ?_
        exact ⟨rfl, b2⟩
      · go_wp2_with (go_at_call 122; refine xc.mono ?_; rintro r w2 ⟨rfl, rfl⟩)
        go_wp2
        refine bodyPost_ret (results_tmp2 rfl _ _ _) rfl ?_
        exact ⟨rfl, b2⟩
end
end Go.Proofs.YtmoddgkjaimpfaaGreatDoor
