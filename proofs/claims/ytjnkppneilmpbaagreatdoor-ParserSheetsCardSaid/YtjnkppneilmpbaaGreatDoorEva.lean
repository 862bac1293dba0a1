/-
  A part of the proof that the law ParserSheets (chapter 19) returns true for every sheet: walks of the program's functions, and runs of them in the kernel by the own evaluator.
-/
import Derived.Test.YtjnkppneilmpbaaGreatDoorPvc
import Derived.Test.YtjnkppneilmpbaaGreatDoorPri
namespace Go.Proofs.YtjnkppneilmpbaaGreatDoor
open Go.RowKit

theorem Tryz.sizeEvent : (Tryz.prog.info? 67).map (·.size) = some 13 := by kernel_rfl
def zEvent : Obj := .cells #[.int .i64 0, .int .i64 0, .int .i64 0, .int .i64 0, .int .i64 0, .slice none 0 0, .slice none 0 0, .int .i64 0, .int .i64 0, .int .i64 0, .slice none 0 0, .int .i64 0, .int .i64 0] 67 (0, 0)

/-- The event that is being read lies at E, its result at R; the blocks ks hold what they held. -/
structure Ev (R E Y M : Nat) (tv : Value) (toks : List Tok) (pos : Nat) (line col : Int) (free : Bool) (ls ln : Int) (es : Array MapEntry) (clk : Nat) (cs : Array Value) (ks : List (Nat × Obj)) (w0 w : World) : Prop where
  hR : w.heap[R]? = some zEvent
  hE : w.heap[E]? = some (.cells cs 67 (0, 0))
  prs : Prs Y M tv toks pos line col 0 free ls ln es clk w
  aw : Away [Y, M] w0 w
  ne : R ≠ E
  bR : w0.heap.size ≤ R
  bE : w0.heap.size ≤ E
  nR : R ∉ [Y, M]
  nE : E ∉ [Y, M]
  keep : ∀ p ∈ ks, w.heap[p.1]? = some p.2 ∧ p.1 ∉ [Y, M] ∧ p.1 ≠ R ∧ p.1 ≠ E ∧ w0.heap.size ≤ p.1

section
variable {R E Y M : Nat} {tv : Value} {toks : List Tok} {pos pos' : Nat} {line col : Int} {free : Bool} {ls ln ls' ln' : Int} {es es' : Array MapEntry} {clk clk' : Nat} {cs : Array Value} {ks : List (Nat × Obj)} {w0 w w' : World} {t : Tok}

theorem Ev.away (h : Ev R E Y M tv toks pos line col free ls ln es clk cs ks w0 w) (b : Away [Y, M] w w') (hS : Prs Y M tv toks pos' line col 0 free ls' ln' es' clk' w') : Ev R E Y M tv toks pos' line col free ls' ln' es' clk' cs ks w0 w' :=
  ⟨b.heap h.hR h.nR, b.heap h.hE h.nE, hS, h.aw.trans b, h.ne, h.bR, h.bE, h.nR, h.nE, fun p hp => by
    obtain ⟨h1, h2, h3⟩ := h.keep p hp
    exact ⟨b.heap h1 h2, h2, h3⟩⟩
theorem Ev.away1 (h : Ev R E Y M tv toks pos line col free ls ln es clk cs ks w0 w) (b : Away [Y] w w') (hS : Prs Y M tv toks pos' line col 0 free ls' ln' es' clk' w') : Ev R E Y M tv toks pos' line col free ls' ln' es' clk' cs ks w0 w' := h.away (b.more (by simp)) hS
theorem Ev.step (h : Ev R E Y M tv toks pos line col free ls ln es clk cs ks w0 w) (b : Below w.heap.size w w') : Ev R E Y M tv toks pos line col free ls ln es clk cs ks w0 w' := h.away (Away.of_below b) (h.prs.step b)
theorem Ev.put (h : Ev R E Y M tv toks pos line col free ls ln es clk cs ks w0 w) (i : Nat) (u : Value) {cs' : Array Value} (hc : cs.setIfInBounds i u = cs') : Ev R E Y M tv toks pos line col free ls ln es clk cs' ks w0 (w.setCell ⟨E, i, none⟩ u) := by
  subst hc
  exact ⟨(Below.heap_setCell _ _ _ _ h.ne).trans h.hR, Lib.heap_setCell_same h.hE u, h.prs.elsewhere h.hE (by decide) (by decide) i u, h.aw.setCell (p := ⟨E, i, none⟩) (.inr h.bE) u, h.ne, h.bR, h.bE, h.nR, h.nE, fun p hp => by
    obtain ⟨h1, h2, h3, h4, h5⟩ := h.keep p hp
    exact ⟨(Below.heap_setCell _ _ _ _ h4).trans h1, h2, h3, h4, h5⟩⟩
theorem Ev.more (h : Ev R E Y M tv toks pos line col free ls ln es clk cs ks w0 w) (o : Obj) : Ev R E Y M tv toks pos line col free ls ln es clk cs ((w.heap.size, o) :: ks) w0 (w.alloc o) := by
  have h1 := h.step ((Below.refl _ w).alloc (Nat.le_refl _) o)
  have hn := heap_alloc_new w o
  refine { h1 with keep := fun p hp => ?_ }
  rcases List.mem_cons.1 hp with rfl | hp
  · have lY := h.prs.lt
    have lM := h.prs.ltM
    have lR := (Array.getElem?_eq_some_iff.1 h.hR).1
    have lE := (Array.getElem?_eq_some_iff.1 h.hE).1
    have la := h.aw.size
    exact ⟨hn, by simp; omega, by simp; omega, by simp; omega, by simpa using la⟩
  · exact h1.keep p hp
theorem Ev.c (h : Ev R E Y M tv toks pos line col free ls ln es clk cs ks w0 w) (i : Nat) {u : Value} (hu : cs[i]? = some u) : w.cell? ⟨E, i, none⟩ = some u := by
  rw [Lib.cell_of_heap h.hE]; exact hu
theorem Ev.f (h : Ev R E Y M tv toks pos line col free ls ln es clk cs ks w0 w) (i : Nat) : w.frozen? ⟨E, i, none⟩ = false := Lib.frozen_of_heap h.hE i
theorem Ev.lt (h : Ev R E Y M tv toks pos line col free ls ln es clk cs ks w0 w) : E < w.heap.size := (Array.getElem?_eq_some_iff.1 h.hE).1

def fill13 (w : World) (X : Nat) (v0 v1 v2 v3 v4 v5 v6 v7 v8 v9 v10 v11 v12 : Value) : World :=
  ((((((((((((w.setCell ⟨X, 0, none⟩ v0).setCell ⟨X, 1, none⟩ v1).setCell ⟨X, 2, none⟩ v2).setCell ⟨X, 3, none⟩ v3).setCell ⟨X, 4, none⟩ v4).setCell ⟨X, 5, none⟩ v5).setCell ⟨X, 6, none⟩ v6).setCell ⟨X, 7, none⟩ v7).setCell ⟨X, 8, none⟩ v8).setCell ⟨X, 9, none⟩ v9).setCell ⟨X, 10, none⟩ v10).setCell ⟨X, 11, none⟩ v11).setCell ⟨X, 12, none⟩ v12

/-- The result's block while it is filled. -/
structure Fl (R Y M : Nat) (tv : Value) (toks : List Tok) (pos : Nat) (line col : Int) (free : Bool) (ls ln : Int) (es : Array MapEntry) (clk : Nat) (cs : Array Value) (ks : List (Nat × Obj)) (w0 w : World) : Prop where
  hR : w.heap[R]? = some (.cells cs 67 (0, 0))
  prs : Prs Y M tv toks pos line col 0 free ls ln es clk w
  aw : Away [Y, M] w0 w
  bR : w0.heap.size ≤ R
  keep : ∀ p ∈ ks, w.heap[p.1]? = some p.2 ∧ p.1 ≠ R ∧ w0.heap.size ≤ p.1
theorem Fl.put (h : Fl R Y M tv toks pos line col free ls ln es clk cs ks w0 w) (i : Nat) (u : Value) : Fl R Y M tv toks pos line col free ls ln es clk (cs.setIfInBounds i u) ks w0 (w.setCell ⟨R, i, none⟩ u) :=
  ⟨Lib.heap_setCell_same h.hR u, h.prs.elsewhere h.hR (by decide) (by decide) i u, h.aw.setCell (p := ⟨R, i, none⟩) (.inr h.bR) u, h.bR, fun p hp => by
    obtain ⟨h1, h2, h3⟩ := h.keep p hp
    exact ⟨(Below.heap_setCell _ _ _ _ h2).trans h1, h2, h3⟩⟩
theorem Fl.fill (h : Fl R Y M tv toks pos line col free ls ln es clk cs ks w0 w) (v0 v1 v2 v3 v4 v5 v6 v7 v8 v9 v10 v11 v12 : Value) :
    Fl R Y M tv toks pos line col free ls ln es clk (((((((((((((cs.setIfInBounds 0 v0).setIfInBounds 1 v1).setIfInBounds 2 v2).setIfInBounds 3 v3).setIfInBounds 4 v4).setIfInBounds 5 v5).setIfInBounds 6 v6).setIfInBounds 7 v7).setIfInBounds 8 v8).setIfInBounds 9 v9).setIfInBounds 10 v10).setIfInBounds 11 v11).setIfInBounds 12 v12) ks w0 (fill13 w R v0 v1 v2 v3 v4 v5 v6 v7 v8 v9 v10 v11 v12) :=
  ((((((((((((h.put 0 v0).put 1 v1).put 2 v2).put 3 v3).put 4 v4).put 5 v5).put 6 v6).put 7 v7).put 8 v8).put 9 v9).put 10 v10).put 11 v11).put 12 v12

theorem zEvent_cells {X : Nat} (h : w.heap[X]? = some zEvent) :
    (w.cell? ⟨X, 0, none⟩ = some (.int .i64 0) ∧ w.cell? ⟨X, 1, none⟩ = some (.int .i64 0) ∧ w.cell? ⟨X, 2, none⟩ = some (.int .i64 0) ∧ w.cell? ⟨X, 3, none⟩ = some (.int .i64 0) ∧ w.cell? ⟨X, 4, none⟩ = some (.int .i64 0) ∧ w.cell? ⟨X, 5, none⟩ = some (.slice none 0 0) ∧ w.cell? ⟨X, 6, none⟩ = some (.slice none 0 0) ∧ w.cell? ⟨X, 7, none⟩ = some (.int .i64 0) ∧ w.cell? ⟨X, 8, none⟩ = some (.int .i64 0) ∧ w.cell? ⟨X, 9, none⟩ = some (.int .i64 0) ∧ w.cell? ⟨X, 10, none⟩ = some (.slice none 0 0) ∧ w.cell? ⟨X, 11, none⟩ = some (.int .i64 0) ∧ w.cell? ⟨X, 12, none⟩ = some (.int .i64 0)) ∧
    ∀ i, w.frozen? ⟨X, i, none⟩ = false := by
  unfold zEvent at h
  refine ⟨⟨?_, ?_, ?_, ?_, ?_, ?_, ?_, ?_, ?_, ?_, ?_, ?_, ?_⟩, fun i => Lib.frozen_of_heap h i⟩ <;> (rw [Lib.cell_of_heap h]; rfl)

end
end Go.Proofs.YtjnkppneilmpbaaGreatDoor

namespace Go.Proofs.YtjnkppneilmpbaaGreatDoor
open Go.RowKit

/-- Behind a value nothing belongs to the event. -/
def Stops (t : Tok) : Prop := t.joined = false ∧ t.kind ≠ 3 ∧ IsTok t ⟨#[91]⟩ = false ∧ IsTok t uS = false

/-- The cells of an event: a note whose head lies at H, or a rest. -/
def evVals (idv : Int) : Option Nat → List Value
  | some H => [.int .i64 0, .int .i64 idv, .int .i64 1, .int .i64 2, .int .i64 0, .slice (some ⟨H, 0, none⟩) 1 1, .slice none 0 0, .int .i64 0, .int .i64 0, .int .i64 0, .slice none 0 0, .int .i64 0, .int .i64 0]
  | none => [.int .i64 0, .int .i64 idv, .int .i64 2, .int .i64 2, .int .i64 0, .slice none 0 0, .slice none 0 0, .int .i64 0, .int .i64 0, .int .i64 0, .slice none 0 0, .int .i64 0, .int .i64 0]
def headObj (c : UInt8) : Obj := .cells #[.int .i64 (stepOf c), .int .i64 0, .int .i64 4, .bool false, .int .i64 0] 71 (0, 0)
def restS : ByteArray := ⟨#[114]⟩

theorem tok_other {t : Tok} {x y : ByteArray} (hx : t.text = x) (h : x ≠ y) : IsTok t y = false := by simp [IsTok, hx, h]

section
variable {R E Y M : Nat} {tv : Value} {toks : List Tok} {pos k N : Nat} {line col : Int} {w : World} {t : Tok}

set_option maxHeartbeats 32000000 in
set_option maxRecDepth 100000 in
theorem event_note (hI : IdAt toks pos k N) (h : Prs Y M tv toks pos line col 0 false 0 N (esOf N) (clkOf N) w) (hpos : pos + k ≤ 900000) (hN : N ≤ 100000) (ht : toks[pos + k]? = some t) (hk : t.kind = 1) {c : UInt8} (hx : t.text = noteS c) (hc : NoteC c)
    {t1 t2 t3 : Tok} (ht1 : toks[pos + k + 1]? = some t1) (k1 : t1.kind = 4) (x1 : t1.text = ⟨#[58]⟩) (ht2 : toks[pos + k + 2]? = some t2) (k2 : t2.kind = 2) (x2 : t2.text = ⟨#[52]⟩) (ht3 : toks[pos + k + 3]? = some t3) (s3 : Stops t3) :
    Calls Tryz.prog 117 #[.pointer (some ⟨Y, 0, none⟩)] w fun r w' => ∃ H, r = .returned (.agg (evVals ((N : Int) + 1) (some H)).toArray) ∧ w'.heap[H]? = some (headObj c) ∧ w.heap.size ≤ H ∧ Prs Y M tv toks (pos + k + 3) line col 0 false 0 (N + 1 : Nat) (esOf (N + 1)) (clkOf (N + 1)) w' ∧ Away [Y, M] w w' := by
  have hno : ∀ y : ByteArray, y.size ≠ 2 → IsTok t y = false := fun y hy => tok_other hx (by rintro rfl; exact hy rfl)
  have lY := h.lt
  have lM := h.ltM
  have b0 := (Below.refl w.heap.size w).alloc (Nat.le_refl _) zEvent
  have h0 := h.step b0
  have hR0 := heap_alloc_new w zEvent
  have xo := hI.runs h0 (by omega) hN
  obtain ⟨idv, hid⟩ : ∃ idv : Int, IsN idv ((N : Int) + 1) := ⟨(N : Int) + 1, rfl⟩
  rw [show (N : Int) + 1 = idv from hid.symm] at xo
  rw [show (N : Int) + 1 = idv from hid.symm]
  generalize pos + k = p at *
  generalize ((N + 1 : Nat) : Int) = ln' at xo ⊢
  generalize esOf (N + 1) = es' at xo ⊢
  generalize clkOf (N + 1) = clk' at xo ⊢
  clear hI h
  go_enter Tryz.func117, Tryz.ntmps117
  go_wp2_with (go_at_call 34; refine xo.mono ?_)
  intro r w1; first | (intro he hS1 a1; subst he) | rintro ⟨rfl, hS1, a1⟩
  have nR : w.heap.size ∉ [Y, M] := by simp; omega
  have hR1 := a1.heap hR0 nR
  have lR1 := (Array.getElem?_eq_some_iff.1 hR1).1
  have lY1 := hS1.lt
  have lM1 := hS1.ltM
  have V1 : Ev w.heap.size w1.heap.size Y M tv toks p line col false 0 ln' es' clk' #[.int .i64 0, .int .i64 idv, .int .i64 0, .int .i64 0, .int .i64 0, .slice none 0 0, .slice none 0 0, .int .i64 0, .int .i64 0, .int .i64 0, .slice none 0 0, .int .i64 0, .int .i64 0] [] w (w1.alloc (.cells #[.int .i64 0, .int .i64 idv, .int .i64 0, .int .i64 0, .int .i64 0, .slice none 0 0, .slice none 0 0, .int .i64 0, .int .i64 0, .int .i64 0, .slice none 0 0, .int .i64 0, .int .i64 0] 67)) :=
    ⟨(Lib.alloc_old w1 _ _ lR1).trans hR1, heap_alloc_new w1 _, hS1.step ((Below.refl _ w1).alloc (Nat.le_refl _) _), ((Away.of_below b0).trans a1).alloc _, by omega, Nat.le_refl _, by omega, nR, by simp; omega, fun p hp => by cases hp⟩
  have sz : w.heap.size < w1.heap.size := lR1
  clear xo h0 hR0 hR1 b0 a1 hS1
  have acc : ∀ y : ByteArray, y.size ≠ 2 → ∀ E cs w', Ev w.heap.size E Y M tv toks p line col false 0 ln' es' clk' cs [] w w' → Calls Tryz.prog 27 #[.pointer (some ⟨Y, 0, none⟩), .string y] w' fun r w'' => r = .returned (.bool false) ∧ Below w'.heap.size w' w'' :=
    fun y hy E cs w' V => accept_no V.prs ht y (hno y hy)
  have x2' := acc ⟨#[103, 114, 97, 99, 101]⟩ (by decide) _ _ _ V1
  go_wp2_with (go_at_call 27; refine x2'.mono ?_)
  intro r w2; first | (intro he b2; subst he) | rintro ⟨rfl, b2⟩
  have V2 := V1.step b2
  clear x2' V1 b2
  generalize hE : w1.heap.size = E at V2 sz ⊢
  have x3 := acc ⟨#[82]⟩ (by decide) _ _ _ V2
  go_wp2_with (go_at_call 27; refine x3.mono ?_)
  intro r w3; first | (intro he b3; subst he) | rintro ⟨rfl, b3⟩
  have V3 := V2.step b3
  clear x3 V2 b3
  have x4 := acc ⟨#[114]⟩ (by decide) _ _ _ V3
  go_wp2_with (go_at_call 27; refine x4.mono ?_)
  intro r w4; first | (intro he b4; subst he) | rintro ⟨rfl, b4⟩
  have V4 := V3.step b4
  clear x4 V3 b4
  have x5 := acc ⟨#[115]⟩ (by decide) _ _ _ V4
  go_wp2_with (go_at_call 27; refine x5.mono ?_)
  intro r w5; first | (intro he b5; subst he) | rintro ⟨rfl, b5⟩
  have V5 := V4.step b5
  clear x5 V4 b5
  have x6 := acc ⟨#[60]⟩ (by decide) _ _ _ V5
  go_wp2_with (go_at_call 27; refine x6.mono ?_)
  intro r w6; first | (intro he b6; subst he) | rintro ⟨rfl, b6⟩
  have V6 := V5.step b6
  clear x6 V5 b6
  have x7 := head_ok V6.prs (by omega) ht hk hx hc ht1 k1 x1
  go_wp2_with (go_at_call 144; refine x7.mono ?_)
  intro r w7; first | (intro he hS7 aw7; subst he) | rintro ⟨rfl, hS7, aw7⟩
  have V7 := V6.away1 aw7 hS7
  clear x7 V6 hS7 aw7
  have d2 := V7.c 2 rfl
  have e2 := V7.f 2
  have d5 := V7.c 5 rfl
  have e5 := V7.f 5
  have nE7 := World.new_ne w7 _ d2
  have lE7 := V7.lt
  have sz7 := V7.aw.size
  have V8 := ((V7.put 2 (.int .i64 1) rfl).put 5 (.slice (some ⟨w7.heap.size, 0, none⟩) 1 1) rfl).more (.cells #[.int .i64 (stepOf c), .int .i64 0, .int .i64 4, .bool false, .int .i64 0] 71)
  rw [show ((w7.setCell ⟨E, 2, none⟩ (.int .i64 1)).setCell ⟨E, 5, none⟩ (.slice (some ⟨w7.heap.size, 0, none⟩) 1 1)).heap.size = w7.heap.size by simp [World.setCell]] at V8
  clear V7
  have c2 := V8.c 2 rfl
  have x8 := expect_yes V8.prs ht1 ⟨#[58]⟩ (by simp [IsTok, k1, x1]) (by omega)
  go_wp2_with (go_at_call 25; refine x8.mono ?_)
  intro r w8; first | (intro he hS8 b8; subst he) | rintro ⟨rfl, hS8, b8⟩
  have V9 := V8.away1 b8 hS8
  generalize w7.heap.size = H at V9 sz7 ⊢
  clear x8 V8 b8 hS8 d2 e2 d5 e5 nE7 lE7 c2
  have x9 := value_plain V9.prs (by omega) ht2 k2 x2 ht3 s3.1
  go_wp2_with (go_at_call 145; refine x9.mono ?_)
  intro r w9; first | (intro he hS9 aw9; subst he) | rintro ⟨rfl, hS9, aw9⟩
  have V10 := V9.away1 aw9 hS9
  clear x9 V9 hS9 aw9
  have d3 := V10.c 3 rfl
  have e3 := V10.f 3
  have d4 := V10.c 4 rfl
  have e4 := V10.f 4
  have V11 := (V10.put 3 (.int .i64 2) rfl).put 4 (.int .i64 0) rfl
  have x10 := accept_no V11.prs ht3 ⟨#[91]⟩ s3.2.2.1
  go_wp2_with (go_at_call 27; refine x10.mono ?_)
  intro r w11; first | (intro he b11; subst he) | rintro ⟨rfl, b11⟩
  have V12 := V11.step b11
  clear x10 V10 V11 b11 d3 e3 d4 e4
  have x11 := lyrics_none V12.prs ht3 s3.2.1 s3.2.2.2
  go_wp2_with (go_at_call 147; refine x11.mono ?_)
  intro r w12; first | (intro he b12; subst he) | rintro ⟨rfl, b12⟩
  have V13 := V12.step b12
  clear x11 V12 b12
  have d10 := V13.c 10 rfl
  have e10 := V13.f 10
  have V14 := V13.put 10 (.slice none 0 0) rfl
  generalize hW14 : w12.setCell ⟨E, 10, none⟩ (.slice none 0 0) = W14 at V14
  have f0 := V14.c 0 rfl
  have f1 := V14.c 1 rfl
  have f2 := V14.c 2 rfl
  have f3 := V14.c 3 rfl
  have f4 := V14.c 4 rfl
  have f5 := V14.c 5 rfl
  have f6 := V14.c 6 rfl
  have f7 := V14.c 7 rfl
  have f8 := V14.c 8 rfl
  have f9 := V14.c 9 rfl
  have f10 := V14.c 10 rfl
  have f11 := V14.c 11 rfl
  have f12 := V14.c 12 rfl
  obtain ⟨⟨q0, q1, q2, q3, q4, q5, q6, q7, q8, q9, q10, q11, q12⟩, gz⟩ := zEvent_cells V14.hR
  have g0 := gz 0
  have g1 := gz 1
  have g2 := gz 2
  have g3 := gz 3
  have g4 := gz 4
  have g5 := gz 5
  have g6 := gz 6
  have g7 := gz 7
  have g8 := gz 8
  have g9 := gz 9
  have g10 := gz 10
  have g11 := gz 11
  have g12 := gz 12
  clear gz
  have nRE : E ≠ w.heap.size := by omega
  have F0 : Fl w.heap.size Y M tv toks (p + 3) line col false 0 ln' es' clk' _ [(H, .cells #[.int .i64 (stepOf c), .int .i64 0, .int .i64 4, .bool false, .int .i64 0] 71)] w W14 := ⟨V14.hR, V14.prs, V14.aw, V14.bR, fun q hq => by
    obtain ⟨h1, h2, h3, h4, h5⟩ := V14.keep q hq
    exact ⟨h1, h3, h5⟩⟩
  have F := F0.fill (.int .i64 0) (.int .i64 idv) (.int .i64 1) (.int .i64 2) (.int .i64 0) (.slice (some ⟨H, 0, none⟩) 1 1) (.slice none 0 0) (.int .i64 0) (.int .i64 0) (.int .i64 0) (.slice none 0 0) (.int .i64 0) (.int .i64 0)
  simp only [List.setIfInBounds_toArray, List.set_cons_succ, List.set_cons_zero, fill13] at F
  obtain ⟨fR, fP, fA, -, fK⟩ := F
  clear V14 F0
  go_wp2
  generalize (((((((((((((W14.setCell ⟨w.heap.size, 0, none⟩ (.int .i64 0)).setCell ⟨w.heap.size, 1, none⟩ (.int .i64 idv)).setCell ⟨w.heap.size, 2, none⟩ (.int .i64 1)).setCell ⟨w.heap.size, 3, none⟩ (.int .i64 2)).setCell ⟨w.heap.size, 4, none⟩ (.int .i64 0)).setCell ⟨w.heap.size, 5, none⟩ (.slice (some ⟨H, 0, none⟩) 1 1)).setCell ⟨w.heap.size, 6, none⟩ (.slice none 0 0)).setCell ⟨w.heap.size, 7, none⟩ (.int .i64 0)).setCell ⟨w.heap.size, 8, none⟩ (.int .i64 0)).setCell ⟨w.heap.size, 9, none⟩ (.int .i64 0)).setCell ⟨w.heap.size, 10, none⟩ (.slice none 0 0)).setCell ⟨w.heap.size, 11, none⟩ (.int .i64 0)).setCell ⟨w.heap.size, 12, none⟩ (.int .i64 0)) = WF at fR fP fA fK ⊢
  refine bodyPost_ret (results_cell_row rfl _ _ w.heap.size 67 _ (0, 0) _ rfl fR Tryz.underlying67 rfl Tryz.sizeEvent) rfl ?_
  exact ⟨H, rfl, (fK (H, headObj c) (List.mem_singleton.2 rfl)).1, sz7, fP, fA⟩

set_option maxHeartbeats 32000000 in
set_option maxRecDepth 100000 in
theorem event_rest (hI : IdAt toks pos k N) (h : Prs Y M tv toks pos line col 0 false 0 N (esOf N) (clkOf N) w) (hpos : pos + k ≤ 900000) (hN : N ≤ 100000) (ht : toks[pos + k]? = some t) (hk : t.kind = 1) (hx : t.text = restS)
    {t1 t2 t3 : Tok} (ht1 : toks[pos + k + 1]? = some t1) (k1 : t1.kind = 4) (x1 : t1.text = ⟨#[58]⟩) (ht2 : toks[pos + k + 2]? = some t2) (k2 : t2.kind = 2) (x2 : t2.text = ⟨#[52]⟩) (ht3 : toks[pos + k + 3]? = some t3) (s3 : Stops t3) :
    Calls Tryz.prog 117 #[.pointer (some ⟨Y, 0, none⟩)] w fun r w' => r = .returned (.agg (evVals ((N : Int) + 1) none).toArray) ∧ Prs Y M tv toks (pos + k + 3) line col 0 false 0 (N + 1 : Nat) (esOf (N + 1)) (clkOf (N + 1)) w' ∧ Away [Y, M] w w' := by
  have hno : ∀ y : ByteArray, y ≠ ⟨#[114]⟩ → IsTok t y = false := fun y hy => tok_other hx (by rintro rfl; exact hy rfl)
  have lY := h.lt
  have lM := h.ltM
  have b0 := (Below.refl w.heap.size w).alloc (Nat.le_refl _) zEvent
  have h0 := h.step b0
  have hR0 := heap_alloc_new w zEvent
  have xo := hI.runs h0 (by omega) hN
  obtain ⟨idv, hid⟩ : ∃ idv : Int, IsN idv ((N : Int) + 1) := ⟨(N : Int) + 1, rfl⟩
  rw [show (N : Int) + 1 = idv from hid.symm] at xo
  rw [show (N : Int) + 1 = idv from hid.symm]
  generalize pos + k = p at *
  generalize ((N + 1 : Nat) : Int) = ln' at xo ⊢
  generalize esOf (N + 1) = es' at xo ⊢
  generalize clkOf (N + 1) = clk' at xo ⊢
  clear hI h
  go_enter Tryz.func117, Tryz.ntmps117
  go_wp2_with (go_at_call 34; refine xo.mono ?_)
  intro r w1; first | (intro he hS1 a1; subst he) | rintro ⟨rfl, hS1, a1⟩
  have nR : w.heap.size ∉ [Y, M] := by simp; omega
  have hR1 := a1.heap hR0 nR
  have lR1 := (Array.getElem?_eq_some_iff.1 hR1).1
  have lY1 := hS1.lt
  have lM1 := hS1.ltM
  have V1 : Ev w.heap.size w1.heap.size Y M tv toks p line col false 0 ln' es' clk' #[.int .i64 0, .int .i64 idv, .int .i64 0, .int .i64 0, .int .i64 0, .slice none 0 0, .slice none 0 0, .int .i64 0, .int .i64 0, .int .i64 0, .slice none 0 0, .int .i64 0, .int .i64 0] [] w (w1.alloc (.cells #[.int .i64 0, .int .i64 idv, .int .i64 0, .int .i64 0, .int .i64 0, .slice none 0 0, .slice none 0 0, .int .i64 0, .int .i64 0, .int .i64 0, .slice none 0 0, .int .i64 0, .int .i64 0] 67)) :=
    ⟨(Lib.alloc_old w1 _ _ lR1).trans hR1, heap_alloc_new w1 _, hS1.step ((Below.refl _ w1).alloc (Nat.le_refl _) _), ((Away.of_below b0).trans a1).alloc _, by omega, Nat.le_refl _, by omega, nR, by simp; omega, fun p hp => by cases hp⟩
  have sz : w.heap.size < w1.heap.size := lR1
  clear xo h0 hR0 hR1 b0 a1 hS1
  have acc : ∀ y : ByteArray, y ≠ ⟨#[114]⟩ → ∀ E cs w', Ev w.heap.size E Y M tv toks p line col false 0 ln' es' clk' cs [] w w' → Calls Tryz.prog 27 #[.pointer (some ⟨Y, 0, none⟩), .string y] w' fun r w'' => r = .returned (.bool false) ∧ Below w'.heap.size w' w'' :=
    fun y hy E cs w' V => accept_no V.prs ht y (hno y hy)
  have x2' := acc ⟨#[103, 114, 97, 99, 101]⟩ (by decide) _ _ _ V1
  go_wp2_with (go_at_call 27; refine x2'.mono ?_)
  intro r w2; first | (intro he b2; subst he) | rintro ⟨rfl, b2⟩
  have V2 := V1.step b2
  clear x2' V1 b2
  generalize hE : w1.heap.size = E at V2 sz ⊢
  have x3 := acc ⟨#[82]⟩ (by decide) _ _ _ V2
  go_wp2_with (go_at_call 27; refine x3.mono ?_)
  intro r w3; first | (intro he b3; subst he) | rintro ⟨rfl, b3⟩
  have V3 := V2.step b3
  clear x3 V2 b3
  have x4 := accept_yes V3.prs ht ⟨#[114]⟩ (by simp [IsTok, hk, hx, restS]) (by omega)
  go_wp2_with (go_at_call 27; refine x4.mono ?_)
  intro r w4; first | (intro he hS4 b4; subst he) | rintro ⟨rfl, hS4, b4⟩
  have V4 := V3.away1 b4 hS4
  clear x4 V3 b4 hS4 acc
  have d2 := V4.c 2 rfl
  have e2 := V4.f 2
  have V8 := V4.put 2 (.int .i64 2) rfl
  have c2 := V8.c 2 rfl
  have x8 := expect_yes V8.prs ht1 ⟨#[58]⟩ (by simp [IsTok, k1, x1]) (by omega)
  go_wp2_with (go_at_call 25; refine x8.mono ?_)
  intro r w8; first | (intro he hS8 b8; subst he) | rintro ⟨rfl, hS8, b8⟩
  have V9 := V8.away1 b8 hS8
  clear x8 V4 V8 b8 hS8 d2 e2 c2
  have x9 := value_plain V9.prs (by omega) ht2 k2 x2 ht3 s3.1
  go_wp2_with (go_at_call 145; refine x9.mono ?_)
  intro r w9; first | (intro he hS9 aw9; subst he) | rintro ⟨rfl, hS9, aw9⟩
  have V10 := V9.away1 aw9 hS9
  clear x9 V9 hS9 aw9
  have d3 := V10.c 3 rfl
  have e3 := V10.f 3
  have d4 := V10.c 4 rfl
  have e4 := V10.f 4
  have V11 := (V10.put 3 (.int .i64 2) rfl).put 4 (.int .i64 0) rfl
  have x10 := accept_no V11.prs ht3 ⟨#[91]⟩ s3.2.2.1
  go_wp2_with (go_at_call 27; refine x10.mono ?_)
  intro r w11; first | (intro he b11; subst he) | rintro ⟨rfl, b11⟩
  have V12 := V11.step b11
  clear x10 V10 V11 b11 d3 e3 d4 e4
  have x11 := lyrics_none V12.prs ht3 s3.2.1 s3.2.2.2
  go_wp2_with (go_at_call 147; refine x11.mono ?_)
  intro r w12; first | (intro he b12; subst he) | rintro ⟨rfl, b12⟩
  have V13 := V12.step b12
  clear x11 V12 b12
  have d10 := V13.c 10 rfl
  have e10 := V13.f 10
  have V14 := V13.put 10 (.slice none 0 0) rfl
  generalize hW14 : w12.setCell ⟨E, 10, none⟩ (.slice none 0 0) = W14 at V14
  have f0 := V14.c 0 rfl
  have f1 := V14.c 1 rfl
  have f2 := V14.c 2 rfl
  have f3 := V14.c 3 rfl
  have f4 := V14.c 4 rfl
  have f5 := V14.c 5 rfl
  have f6 := V14.c 6 rfl
  have f7 := V14.c 7 rfl
  have f8 := V14.c 8 rfl
  have f9 := V14.c 9 rfl
  have f10 := V14.c 10 rfl
  have f11 := V14.c 11 rfl
  have f12 := V14.c 12 rfl
  obtain ⟨⟨q0, q1, q2, q3, q4, q5, q6, q7, q8, q9, q10, q11, q12⟩, gz⟩ := zEvent_cells V14.hR
  have g0 := gz 0
  have g1 := gz 1
  have g2 := gz 2
  have g3 := gz 3
  have g4 := gz 4
  have g5 := gz 5
  have g6 := gz 6
  have g7 := gz 7
  have g8 := gz 8
  have g9 := gz 9
  have g10 := gz 10
  have g11 := gz 11
  have g12 := gz 12
  clear gz
  have nRE : E ≠ w.heap.size := by omega
  have F0 : Fl w.heap.size Y M tv toks (p + 3) line col false 0 ln' es' clk' _ [] w W14 := ⟨V14.hR, V14.prs, V14.aw, V14.bR, fun q hq => by
    obtain ⟨h1, h2, h3, h4, h5⟩ := V14.keep q hq
    exact ⟨h1, h3, h5⟩⟩
  have F := F0.fill (.int .i64 0) (.int .i64 idv) (.int .i64 2) (.int .i64 2) (.int .i64 0) (.slice none 0 0) (.slice none 0 0) (.int .i64 0) (.int .i64 0) (.int .i64 0) (.slice none 0 0) (.int .i64 0) (.int .i64 0)
  simp only [List.setIfInBounds_toArray, List.set_cons_succ, List.set_cons_zero, fill13] at F
  obtain ⟨fR, fP, fA, -, fK⟩ := F
  clear V14 F0
  go_wp2
  generalize (((((((((((((W14.setCell ⟨w.heap.size, 0, none⟩ (.int .i64 0)).setCell ⟨w.heap.size, 1, none⟩ (.int .i64 idv)).setCell ⟨w.heap.size, 2, none⟩ (.int .i64 2)).setCell ⟨w.heap.size, 3, none⟩ (.int .i64 2)).setCell ⟨w.heap.size, 4, none⟩ (.int .i64 0)).setCell ⟨w.heap.size, 5, none⟩ (.slice none 0 0)).setCell ⟨w.heap.size, 6, none⟩ (.slice none 0 0)).setCell ⟨w.heap.size, 7, none⟩ (.int .i64 0)).setCell ⟨w.heap.size, 8, none⟩ (.int .i64 0)).setCell ⟨w.heap.size, 9, none⟩ (.int .i64 0)).setCell ⟨w.heap.size, 10, none⟩ (.slice none 0 0)).setCell ⟨w.heap.size, 11, none⟩ (.int .i64 0)).setCell ⟨w.heap.size, 12, none⟩ (.int .i64 0)) = WF at fR fP fA fK ⊢
  refine bodyPost_ret (results_cell_row rfl _ _ w.heap.size 67 _ (0, 0) _ rfl fR Tryz.underlying67 rfl Tryz.sizeEvent) rfl ?_
  exact ⟨rfl, fP, fA⟩

end
end Go.Proofs.YtjnkppneilmpbaaGreatDoor

namespace Go.Proofs.YtjnkppneilmpbaaGreatDoor
open Go.RowKit

section
variable {Y M : Nat} {tv : Value} {toks : List Tok} {pos : Nat} {line col e : Int} {free : Bool} {ls ln : Int} {es : Array MapEntry} {clk : Nat} {w : World} {t : Tok} {K : Nat}

set_option maxHeartbeats 8000000 in
set_option maxRecDepth 100000 in
theorem index_at (h : Prs Y M tv toks pos line col 0 free ls ln es clk w) (ht : toks[pos]? = some t) (y : IsTok t s0 = true) (hK : w.heap[K]? = some sixRow) :
    Calls Tryz.prog 167 #[.slice (some ⟨K, 0, none⟩) 6 6, .func (.func 29) #[.pointer (some ⟨Y, 0, none⟩)] #[]] w fun r w' => r = .returned (.int .i64 0) ∧ Below w.heap.size w w' := by
  have lK := (Array.getElem?_eq_some_iff.1 hK).1
  go_enter Tryz.func167, Tryz.ntmps167
  go_wp2
  go_loopw [8] (fun v wr => ∃ i : Nat, i ≤ 0 ∧ v = .int .i64 i ∧ Below w.heap.size w wr) (fun v _ => 6 - (intOf v).toNat)
  case atStart => exact ⟨0, Nat.zero_le _, rfl, Below.refl _ _⟩
  case round =>
    obtain ⟨i, hi, rfl, hb⟩ := hrel
    have hK1 := (hb.block K lK).trans hK
    have hS := h.step hb
    have q0 : wr.cell? ⟨K, 0, none⟩ = some (.string s0) := by rw [Lib.cell_of_heap hK1]; rfl
    clear hK hK1
    obtain rfl : i = 0 := by omega
    · have x := is_ok hS ht s0 y
      go_wp2_with (go_at_call 29; refine x.mono ?_)
      intro r w1; first | (intro he b1; subst he) | rintro ⟨rfl, b1⟩
      go_wp2
      go_ret
      exact ⟨rfl, hb.trans (b1.mono hb.size)⟩

set_option maxHeartbeats 8000000 in
set_option maxRecDepth 100000 in
theorem index_r (h : Prs Y M tv toks pos line col 0 free ls ln es clk w) (ht : toks[pos]? = some t) (n0 : IsTok t s0 = false) (n1 : IsTok t s1 = false) (n2 : IsTok t s2 = false) (y : IsTok t s3 = true) (hK : w.heap[K]? = some sixRow) :
    Calls Tryz.prog 167 #[.slice (some ⟨K, 0, none⟩) 6 6, .func (.func 29) #[.pointer (some ⟨Y, 0, none⟩)] #[]] w fun r w' => r = .returned (.int .i64 3) ∧ Below w.heap.size w w' := by
  have lK := (Array.getElem?_eq_some_iff.1 hK).1
  go_enter Tryz.func167, Tryz.ntmps167
  go_wp2
  go_loopw [8] (fun v wr => ∃ i : Nat, i ≤ 3 ∧ v = .int .i64 i ∧ Below w.heap.size w wr) (fun v _ => 6 - (intOf v).toNat)
  case atStart => exact ⟨0, Nat.zero_le _, rfl, Below.refl _ _⟩
  case round =>
    obtain ⟨i, hi, rfl, hb⟩ := hrel
    have hK1 := (hb.block K lK).trans hK
    have hS := h.step hb
    have q0 : wr.cell? ⟨K, 0, none⟩ = some (.string s0) := by rw [Lib.cell_of_heap hK1]; rfl
    have q1 : wr.cell? ⟨K, 1, none⟩ = some (.string s1) := by rw [Lib.cell_of_heap hK1]; rfl
    have q2 : wr.cell? ⟨K, 2, none⟩ = some (.string s2) := by rw [Lib.cell_of_heap hK1]; rfl
    have q3 : wr.cell? ⟨K, 3, none⟩ = some (.string s3) := by rw [Lib.cell_of_heap hK1]; rfl
    clear hK hK1
    have hi6 : i = 0 ∨ i = 1 ∨ i = 2 ∨ i = 3 := by omega
    rcases hi6 with rfl | rfl | rfl | rfl
    · have x := is_ok hS ht s0 n0
      go_wp2_with (go_at_call 29; refine x.mono ?_)
      intro r w1; first | (intro he b1; subst he) | rintro ⟨rfl, b1⟩
      go_wp2
      go_roundw
      case rel => exact ⟨1, by omega, rfl, hb.trans (b1.mono hb.size)⟩
      case measure => simp [intOf]
    · have x := is_ok hS ht s1 n1
      go_wp2_with (go_at_call 29; refine x.mono ?_)
      intro r w1; first | (intro he b1; subst he) | rintro ⟨rfl, b1⟩
      go_wp2
      go_roundw
      case rel => exact ⟨2, by omega, rfl, hb.trans (b1.mono hb.size)⟩
      case measure => simp [intOf]
    · have x := is_ok hS ht s2 n2
      go_wp2_with (go_at_call 29; refine x.mono ?_)
      intro r w1; first | (intro he b1; subst he) | rintro ⟨rfl, b1⟩
      go_wp2
      go_roundw
      case rel => exact ⟨3, by omega, rfl, hb.trans (b1.mono hb.size)⟩
      case measure => simp [intOf]
    · have x := is_ok hS ht s3 y
      go_wp2_with (go_at_call 29; refine x.mono ?_)
      intro r w1; first | (intro he b1; subst he) | rintro ⟨rfl, b1⟩
      go_wp2
      go_ret
      exact ⟨rfl, hb.trans (b1.mono hb.size)⟩

set_option maxHeartbeats 4000000 in
set_option maxRecDepth 100000 in
theorem begins_hit (i : Nat) (hf : ∀ (K : Nat) w', Below w.heap.size w w' → w'.heap[K]? = some sixRow → Calls Tryz.prog 167 #[.slice (some ⟨K, 0, none⟩) 6 6, .func (.func 29) #[.pointer (some ⟨Y, 0, none⟩)] #[]] w' fun r w'' => r = .returned (.int .i64 i) ∧ Below w'.heap.size w' w'') :
    Calls Tryz.prog 116 #[.pointer (some ⟨Y, 0, none⟩)] w fun r w' => r = .returned (.bool true) ∧ Below w.heap.size w w' := by
  have b0 := (Below.refl w.heap.size w).alloc (Nat.le_refl _) (.cells #[.string s0, .string s1, .string s2, .string s3, .string s4, .string s5] 9)
  have hf1 := hf w.heap.size _ b0 (heap_alloc_new w (.cells #[.string s0, .string s1, .string s2, .string s3, .string s4, .string s5] 9))
  have hc : Calls Tryz.prog 139 #[.slice (some ⟨w.heap.size, 0, none⟩) 6 6, .func (.func 29) #[.pointer (some ⟨Y, 0, none⟩)] #[]] (w.alloc (.cells #[.string s0, .string s1, .string s2, .string s3, .string s4, .string s5] 9)) fun r w'' => r = .returned (.bool true) ∧ Below (w.alloc (.cells #[.string s0, .string s1, .string s2, .string s3, .string s4, .string s5] 9)).heap.size (w.alloc (.cells #[.string s0, .string s1, .string s2, .string s3, .string s4, .string s5] 9)) w'' := by
    generalize (w.alloc (.cells #[.string s0, .string s1, .string s2, .string s3, .string s4, .string s5] 9)) = W at hf1 ⊢
    generalize w.heap.size = KK at hf1 ⊢
    have hi0 : (0 : Int) ≤ (i : Int) := by omega
    clear hf b0
    go_enter Tryz.func139, Tryz.ntmps139
    go_wp2_with (go_at_call 167; refine hf1.mono ?_)
    intro r w1; first | (intro he b1; subst he) | rintro ⟨rfl, b1⟩
    go_wp2
    go_ret
    first | exact ⟨rfl, b1⟩ | (refine ⟨?_, b1⟩; simp)
  clear hf hf1
  simp only [s0, s1, s2, s3, s4, s5] at hc b0
  go_enter Tryz.func116, Tryz.ntmps116
  go_wp2_with (go_at_call 139; refine hc.mono ?_)
  intro r w1; first | (intro he b1; subst he) | rintro ⟨rfl, b1⟩
  go_wp2
  go_ret
  exact ⟨rfl, b0.trans (b1.mono (by simp))⟩

theorem begins_at (h : Prs Y M tv toks pos line col 0 free ls ln es clk w) (ht : toks[pos]? = some t) (y : IsTok t s0 = true) :
    Calls Tryz.prog 116 #[.pointer (some ⟨Y, 0, none⟩)] w fun r w' => r = .returned (.bool true) ∧ Below w.heap.size w w' :=
  begins_hit 0 fun K w' b hK => by
    have := index_at (h.step b) ht y hK
    exact this
theorem begins_r (h : Prs Y M tv toks pos line col 0 free ls ln es clk w) (ht : toks[pos]? = some t) (n0 : IsTok t s0 = false) (n1 : IsTok t s1 = false) (n2 : IsTok t s2 = false) (y : IsTok t s3 = true) :
    Calls Tryz.prog 116 #[.pointer (some ⟨Y, 0, none⟩)] w fun r w' => r = .returned (.bool true) ∧ Below w.heap.size w w' :=
  begins_hit 3 fun K w' b hK => by
    have := index_r (h.step b) ht n0 n1 n2 y hK
    exact this
end
end Go.Proofs.YtjnkppneilmpbaaGreatDoor
