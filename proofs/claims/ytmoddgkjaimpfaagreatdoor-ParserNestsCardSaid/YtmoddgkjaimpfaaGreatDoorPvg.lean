/-
  A part of the proof that the law ParserNests (chapter 19) returns true for every depth and every list of notes: walks of the program's functions, and runs of them in the kernel by the own evaluator.
-/
import Derived.Test.YtmoddgkjaimpfaaGreatDoorPvf
namespace Go.Proofs.YtmoddgkjaimpfaaGreatDoor
open Go.RowKit

theorem Tryz.sizeEvent : (Tryz.prog.info? 67).map (·.size) = some 13 := by kernel_rfl
def zEvent : Obj := .cells #[.int .i64 0, .int .i64 0, .int .i64 0, .int .i64 0, .int .i64 0, .slice none 0 0, .slice none 0 0, .int .i64 0, .int .i64 0, .int .i64 0, .slice none 0 0, .int .i64 0, .int .i64 0] 67 (0, 0)

/-- The event that is being read lies at E, its result at R. -/
structure Ev (R E Y M : Nat) (tv : Value) (toks : List Tok) (pos : Nat) (line col : Int) (free : Bool) (ls ln : Int) (es : Array MapEntry) (clk : Nat) (cs : Array Value) (w0 w : World) : Prop where
  hR : w.heap[R]? = some zEvent
  hE : w.heap[E]? = some (.cells cs 67 (0, 0))
  prs : Prs Y M tv toks pos line col 0 free ls ln es clk w
  aw : Away [Y] w0 w
  ne : R ≠ E
  bR : w0.heap.size ≤ R
  bE : w0.heap.size ≤ E
  nR : R ≠ Y
  nE : E ≠ Y

section
variable {R E Y M : Nat} {tv : Value} {toks : List Tok} {pos pos' : Nat} {line col : Int} {free : Bool} {ls ln : Int} {es : Array MapEntry} {clk : Nat} {cs : Array Value} {w0 w w' : World} {t : Tok}

theorem Ev.step (h : Ev R E Y M tv toks pos line col free ls ln es clk cs w0 w) (b : Below w.heap.size w w') : Ev R E Y M tv toks pos line col free ls ln es clk cs w0 w' :=
  ⟨(b.block _ (Array.getElem?_eq_some_iff.1 h.hR).1).trans h.hR, (b.block _ (Array.getElem?_eq_some_iff.1 h.hE).1).trans h.hE, h.prs.step b, h.aw.step b, h.ne, h.bR, h.bE, h.nR, h.nE⟩
theorem Ev.away (h : Ev R E Y M tv toks pos line col free ls ln es clk cs w0 w) (b : Away [Y] w w') (hS : Prs Y M tv toks pos' line col 0 free ls ln es clk w') : Ev R E Y M tv toks pos' line col free ls ln es clk cs w0 w' :=
  ⟨b.heap h.hR (by simp [h.nR]), b.heap h.hE (by simp [h.nE]), hS, h.aw.trans b, h.ne, h.bR, h.bE, h.nR, h.nE⟩
theorem Ev.put (h : Ev R E Y M tv toks pos line col free ls ln es clk cs w0 w) (i : Nat) (u : Value) {cs' : Array Value} (hc : cs.setIfInBounds i u = cs') : Ev R E Y M tv toks pos line col free ls ln es clk cs' w0 (w.setCell ⟨E, i, none⟩ u) := by
  subst hc
  exact ⟨(Below.heap_setCell _ _ _ _ h.ne).trans h.hR, Lib.heap_setCell_same h.hE u, h.prs.elsewhere h.hE (by decide) (by decide) i u, h.aw.setCell (p := ⟨E, i, none⟩) (.inr h.bE) u, h.ne, h.bR, h.bE, h.nR, h.nE⟩
theorem Ev.c (h : Ev R E Y M tv toks pos line col free ls ln es clk cs w0 w) (i : Nat) {u : Value} (hu : cs[i]? = some u) : w.cell? ⟨E, i, none⟩ = some u := by
  rw [Lib.cell_of_heap h.hE]; exact hu
theorem Ev.f (h : Ev R E Y M tv toks pos line col free ls ln es clk cs w0 w) (i : Nat) : w.frozen? ⟨E, i, none⟩ = false := Lib.frozen_of_heap h.hE i
theorem Ev.lt (h : Ev R E Y M tv toks pos line col free ls ln es clk cs w0 w) : E < w.heap.size := (Array.getElem?_eq_some_iff.1 h.hE).1

def fill13 (w : World) (X : Nat) (v0 v1 v2 v3 v4 v5 v6 v7 v8 v9 v10 v11 v12 : Value) : World :=
  ((((((((((((w.setCell ⟨X, 0, none⟩ v0).setCell ⟨X, 1, none⟩ v1).setCell ⟨X, 2, none⟩ v2).setCell ⟨X, 3, none⟩ v3).setCell ⟨X, 4, none⟩ v4).setCell ⟨X, 5, none⟩ v5).setCell ⟨X, 6, none⟩ v6).setCell ⟨X, 7, none⟩ v7).setCell ⟨X, 8, none⟩ v8).setCell ⟨X, 9, none⟩ v9).setCell ⟨X, 10, none⟩ v10).setCell ⟨X, 11, none⟩ v11).setCell ⟨X, 12, none⟩ v12

/-- A block that is filled anew: by one step. -/
theorem Ev.fill (h : Ev R E Y M tv toks pos line col free ls ln es clk cs w0 w) {cs1 : Array Value} (h1 : w.heap[R]? = some (.cells cs1 67 (0, 0))) (i : Nat) (u : Value) :
    Prs Y M tv toks pos line col 0 free ls ln es clk (w.setCell ⟨R, i, none⟩ u) ∧ Away [Y] w0 (w.setCell ⟨R, i, none⟩ u) ∧ (w.setCell ⟨R, i, none⟩ u).heap[R]? = some (.cells (cs1.setIfInBounds i u) 67 (0, 0)) :=
  ⟨h.prs.elsewhere h1 (by decide) (by decide) i u, h.aw.setCell (p := ⟨R, i, none⟩) (.inr h.bR) u, Lib.heap_setCell_same h1 u⟩

/-- The result's block while it is filled. -/
structure Fl (R Y M : Nat) (tv : Value) (toks : List Tok) (pos : Nat) (line col : Int) (free : Bool) (ls ln : Int) (es : Array MapEntry) (clk : Nat) (cs : Array Value) (w0 w : World) : Prop where
  hR : w.heap[R]? = some (.cells cs 67 (0, 0))
  prs : Prs Y M tv toks pos line col 0 free ls ln es clk w
  aw : Away [Y] w0 w
  bR : w0.heap.size ≤ R
theorem Fl.put (h : Fl R Y M tv toks pos line col free ls ln es clk cs w0 w) (i : Nat) (u : Value) : Fl R Y M tv toks pos line col free ls ln es clk (cs.setIfInBounds i u) w0 (w.setCell ⟨R, i, none⟩ u) :=
  ⟨Lib.heap_setCell_same h.hR u, h.prs.elsewhere h.hR (by decide) (by decide) i u, h.aw.setCell (p := ⟨R, i, none⟩) (.inr h.bR) u, h.bR⟩
theorem Fl.fill (h : Fl R Y M tv toks pos line col free ls ln es clk cs w0 w) (v0 v1 v2 v3 v4 v5 v6 v7 v8 v9 v10 v11 v12 : Value) :
    Fl R Y M tv toks pos line col free ls ln es clk (((((((((((((cs.setIfInBounds 0 v0).setIfInBounds 1 v1).setIfInBounds 2 v2).setIfInBounds 3 v3).setIfInBounds 4 v4).setIfInBounds 5 v5).setIfInBounds 6 v6).setIfInBounds 7 v7).setIfInBounds 8 v8).setIfInBounds 9 v9).setIfInBounds 10 v10).setIfInBounds 11 v11).setIfInBounds 12 v12) w0 (fill13 w R v0 v1 v2 v3 v4 v5 v6 v7 v8 v9 v10 v11 v12) :=
  ((((((((((((h.put 0 v0).put 1 v1).put 2 v2).put 3 v3).put 4 v4).put 5 v5).put 6 v6).put 7 v7).put 8 v8).put 9 v9).put 10 v10).put 11 v11).put 12 v12

theorem zEvent_cells {X : Nat} (h : w.heap[X]? = some zEvent) :
    (w.cell? ⟨X, 0, none⟩ = some (.int .i64 0) ∧ w.cell? ⟨X, 1, none⟩ = some (.int .i64 0) ∧ w.cell? ⟨X, 2, none⟩ = some (.int .i64 0) ∧ w.cell? ⟨X, 3, none⟩ = some (.int .i64 0) ∧ w.cell? ⟨X, 4, none⟩ = some (.int .i64 0) ∧ w.cell? ⟨X, 5, none⟩ = some (.slice none 0 0) ∧ w.cell? ⟨X, 6, none⟩ = some (.slice none 0 0) ∧ w.cell? ⟨X, 7, none⟩ = some (.int .i64 0) ∧ w.cell? ⟨X, 8, none⟩ = some (.int .i64 0) ∧ w.cell? ⟨X, 9, none⟩ = some (.int .i64 0) ∧ w.cell? ⟨X, 10, none⟩ = some (.slice none 0 0) ∧ w.cell? ⟨X, 11, none⟩ = some (.int .i64 0) ∧ w.cell? ⟨X, 12, none⟩ = some (.int .i64 0)) ∧
    ∀ i, w.frozen? ⟨X, i, none⟩ = false := by
  unfold zEvent at h
  refine ⟨⟨?_, ?_, ?_, ?_, ?_, ?_, ?_, ?_, ?_, ?_, ?_, ?_, ?_⟩, fun i => Lib.frozen_of_heap h i⟩ <;> (rw [Lib.cell_of_heap h]; rfl)

/-- What event returns. -/
def IsEvent (r : Ending) : Prop := ∃ (a b : Int) (H : Nat), r = .returned (.agg #[.int .i64 0, .int .i64 0, .int .i64 1, .int .i64 a, .int .i64 b, .slice (some ⟨H, 0, none⟩) 1 1, .slice none 0 0, .int .i64 0, .int .i64 0, .int .i64 0, .slice none 0 0, .int .i64 0, .int .i64 0])

theorem tok_other {t : Tok} {x y : ByteArray} (hx : t.text = x) (h : x ≠ y) : IsTok t y = false := by simp [IsTok, hx, h]

set_option maxHeartbeats 32000000 in
set_option maxRecDepth 100000 in
theorem event_gen (h : Prs Y M tv toks pos line col 0 true ls ln es clk w) (hpos : pos ≤ 1000000) (ht : toks[pos]? = some t) (hk : t.kind = 1) {c : UInt8} (hx : t.text = noteS c) (hc : c = 67 ∨ c = 68 ∨ c = 69)
    {t1 : Tok} (ht1 : toks[pos + 1]? = some t1) (k1 : t1.kind = 4) (x1 : t1.text = ⟨#[58]⟩) (n : Nat)
    (hv : ∀ w', Prs Y M tv toks (pos + 2) line col 0 true ls ln es clk w' → Calls Tryz.prog 33 #[.pointer (some ⟨Y, 0, none⟩)] w' fun r w'' => (∃ a b : Int, r = .returned (.agg #[.int .i64 a, .int .i64 b])) ∧ Prs Y M tv toks (pos + 2 + n) line col 0 true ls ln es clk w'' ∧ Away [Y] w' w'')
    {tn : Tok} (htn : toks[pos + 2 + n]? = some tn) (kn : tn.kind ≠ 3) (no1 : IsTok tn ⟨#[91]⟩ = false) (no2 : IsTok tn uS = false) :
    Calls Tryz.prog 16 #[.pointer (some ⟨Y, 0, none⟩)] w fun r w' => IsEvent r ∧ Prs Y M tv toks (pos + 2 + n) line col 0 true ls ln es clk w' ∧ Away [Y] w w' := by
  have hno : ∀ y : ByteArray, y.size ≠ 2 → IsTok t y = false := fun y hy => tok_other hx (by rintro rfl; exact hy rfl)
  have lY := h.lt
  have b0 := (Below.refl w.heap.size w).alloc (Nat.le_refl _) zEvent
  have h0 := h.step b0
  have hR0 := heap_alloc_new w zEvent
  have xo := object_free h0 ht (hno _ (by decide))
  go_enter Tryz.func16, Tryz.ntmps16
  go_wp2_with (go_at_call 27; refine xo.mono ?_)
  intro r w1; first | (intro he b1; subst he) | rintro ⟨rfl, b1⟩
  have hR1 := (b1.block _ (by simp)).trans hR0
  have bb := b0.trans (b1.mono b0.size)
  have sz1 := b1.size
  have V1 : Ev w.heap.size w1.heap.size Y M tv toks pos line col true ls ln es clk #[.int .i64 0, .int .i64 0, .int .i64 0, .int .i64 0, .int .i64 0, .slice none 0 0, .slice none 0 0, .int .i64 0, .int .i64 0, .int .i64 0, .slice none 0 0, .int .i64 0, .int .i64 0] w (w1.alloc zEvent) :=
    ⟨(Lib.alloc_old w1 _ _ (Array.getElem?_eq_some_iff.1 hR1).1).trans hR1, heap_alloc_new w1 zEvent, (h0.step b1).step ((Below.refl _ w1).alloc (Nat.le_refl _) _), (Away.of_below bb).alloc _, by have := (Array.getElem?_eq_some_iff.1 hR1).1; omega, Nat.le_refl _, bb.size, by omega, by have := (h0.step b1).lt; omega⟩
  have sz : w.heap.size < w1.heap.size := (Array.getElem?_eq_some_iff.1 hR1).1
  clear xo h0 h hR0 hR1 b0 b1 bb sz1
  have acc : ∀ y : ByteArray, y.size ≠ 2 → ∀ E w', Ev w.heap.size E Y M tv toks pos line col true ls ln es clk #[.int .i64 0, .int .i64 0, .int .i64 0, .int .i64 0, .int .i64 0, .slice none 0 0, .slice none 0 0, .int .i64 0, .int .i64 0, .int .i64 0, .slice none 0 0, .int .i64 0, .int .i64 0] w w' → Calls Tryz.prog 28 #[.pointer (some ⟨Y, 0, none⟩), .string y] w' fun r w'' => r = .returned (.bool false) ∧ Below w'.heap.size w' w'' :=
    fun y hy E w' V => accept_no V.prs ht y (hno y hy)
  have x2 := acc ⟨#[103, 114, 97, 99, 101]⟩ (by decide) _ _ V1
  go_wp2_with (go_at_call 28; refine x2.mono ?_)
  intro r w2; first | (intro he b2; subst he) | rintro ⟨rfl, b2⟩
  have V2 := V1.step b2
  clear x2 V1 b2
  generalize hE : w1.heap.size = E at V2 sz ⊢
  have x3 := acc ⟨#[82]⟩ (by decide) _ _ V2
  go_wp2_with (go_at_call 28; refine x3.mono ?_)
  intro r w3; first | (intro he b3; subst he) | rintro ⟨rfl, b3⟩
  have V3 := V2.step b3
  clear x3 V2 b3
  have x4 := acc ⟨#[114]⟩ (by decide) _ _ V3
  go_wp2_with (go_at_call 28; refine x4.mono ?_)
  intro r w4; first | (intro he b4; subst he) | rintro ⟨rfl, b4⟩
  have V4 := V3.step b4
  clear x4 V3 b4
  have x5 := acc ⟨#[115]⟩ (by decide) _ _ V4
  go_wp2_with (go_at_call 28; refine x5.mono ?_)
  intro r w5; first | (intro he b5; subst he) | rintro ⟨rfl, b5⟩
  have V5 := V4.step b5
  clear x5 V4 b5
  have x6 := acc ⟨#[60]⟩ (by decide) _ _ V5
  go_wp2_with (go_at_call 28; refine x6.mono ?_)
  intro r w6; first | (intro he b6; subst he) | rintro ⟨rfl, b6⟩
  have V6 := V5.step b6
  clear x6 V5 b6 acc
  have x7 := head_ok V6.prs (by omega) ht hk hx hc ht1 k1 x1
  go_wp2_with (go_at_call 32; refine x7.mono ?_)
  rintro r w7 ⟨⟨a, rfl⟩, hS7, aw7⟩
  have V7 := V6.away aw7 hS7
  clear x7 V6 hS7 aw7
  have d2 := V7.c 2 rfl
  have e2 := V7.f 2
  have d5 := V7.c 5 rfl
  have e5 := V7.f 5
  have nE7 := World.new_ne w7 _ d2
  have lE7 := V7.lt
  have V8 := ((V7.put 2 (.int .i64 1) rfl).put 5 (.slice (some ⟨w7.heap.size, 0, none⟩) 1 1) rfl).step ((Below.refl _ _).alloc (Nat.le_refl _) (.cells #[.int .i64 a, .int .i64 0, .int .i64 4, .bool false, .int .i64 0] 71))
  clear V7
  have c2 := V8.c 2 rfl
  have x8 := expect_yes V8.prs ht1 ⟨#[58]⟩ (by simp [IsTok, k1, x1]) (by omega)
  go_wp2_with (go_at_call 23; refine x8.mono ?_)
  intro r w8; first | (intro he hS8 b8; subst he) | rintro ⟨rfl, hS8, b8⟩
  have V9 := V8.away b8 hS8
  generalize w7.heap.size = H at V9 ⊢
  clear x8 V8 b8 hS8 d2 e2 d5 e5 nE7 lE7 c2
  have x9 := hv _ V9.prs
  go_wp2_with (go_at_call 33; refine x9.mono ?_)
  rintro r w9 ⟨⟨a1, b1, rfl⟩, hS9, aw9⟩
  have V10 := V9.away aw9 hS9
  clear x9 V9 hS9 aw9 hv
  have d3 := V10.c 3 rfl
  have e3 := V10.f 3
  have d4 := V10.c 4 rfl
  have e4 := V10.f 4
  have V11 := (V10.put 3 (.int .i64 a1) rfl).put 4 (.int .i64 b1) rfl
  have x10 := accept_no V11.prs htn ⟨#[91]⟩ no1
  go_wp2_with (go_at_call 28; refine x10.mono ?_)
  intro r w11; first | (intro he b11; subst he) | rintro ⟨rfl, b11⟩
  have V12 := V11.step b11
  clear x10 V10 V11 b11 d3 e3 d4 e4
  have x11 := lyrics_none V12.prs htn kn no2
  go_wp2_with (go_at_call 35; refine x11.mono ?_)
  intro r w12; first | (intro he b12; subst he) | rintro ⟨rfl, b12⟩
  have V13 := V12.step b12
  clear x11 V12 b12
  have d10 := V13.c 10 rfl
  have e10 := V13.f 10
  have V14 := V13.put 10 (.slice none 0 0) rfl
  generalize hW14 : w12.setCell ⟨E, 10, none⟩ (.slice none 0 0) = W14 at V14
  have f0 := V14.c 0 rfl
  have f1 := V14.c 1 rfl
  have f2 := V14.c 2 rfl
  have f3 := V14.c 3 rfl
  have f4 := V14.c 4 rfl
  have f5 := V14.c 5 rfl
  have f6 := V14.c 6 rfl
  have f7 := V14.c 7 rfl
  have f8 := V14.c 8 rfl
  have f9 := V14.c 9 rfl
  have f10 := V14.c 10 rfl
  have f11 := V14.c 11 rfl
  have f12 := V14.c 12 rfl
  obtain ⟨⟨q0, q1, q2, q3, q4, q5, q6, q7, q8, q9, q10, q11, q12⟩, gz⟩ := zEvent_cells V14.hR
  have g0 := gz 0
  have g1 := gz 1
  have g2 := gz 2
  have g3 := gz 3
  have g4 := gz 4
  have g5 := gz 5
  have g6 := gz 6
  have g7 := gz 7
  have g8 := gz 8
  have g9 := gz 9
  have g10 := gz 10
  have g11 := gz 11
  have g12 := gz 12
  clear gz
  have nRE : E ≠ w.heap.size := by omega
  have F0 : Fl w.heap.size Y M tv toks (pos + 2 + n) line col true ls ln es clk _ w W14 := ⟨V14.hR, V14.prs, V14.aw, V14.bR⟩
  have F := F0.fill (.int .i64 0) (.int .i64 0) (.int .i64 1) (.int .i64 a1) (.int .i64 b1) (.slice (some ⟨H, 0, none⟩) 1 1) (.slice none 0 0) (.int .i64 0) (.int .i64 0) (.int .i64 0) (.slice none 0 0) (.int .i64 0) (.int .i64 0)
  simp only [List.setIfInBounds_toArray, List.set_cons_succ, List.set_cons_zero, fill13] at F
  obtain ⟨fR, fP, fA, -⟩ := F
  clear V14 F0
  go_wp2
  generalize (((((((((((((W14.setCell ⟨w.heap.size, 0, none⟩ (.int .i64 0)).setCell ⟨w.heap.size, 1, none⟩ (.int .i64 0)).setCell ⟨w.heap.size, 2, none⟩ (.int .i64 1)).setCell ⟨w.heap.size, 3, none⟩ (.int .i64 a1)).setCell ⟨w.heap.size, 4, none⟩ (.int .i64 b1)).setCell ⟨w.heap.size, 5, none⟩ (.slice (some ⟨H, 0, none⟩) 1 1)).setCell ⟨w.heap.size, 6, none⟩ (.slice none 0 0)).setCell ⟨w.heap.size, 7, none⟩ (.int .i64 0)).setCell ⟨w.heap.size, 8, none⟩ (.int .i64 0)).setCell ⟨w.heap.size, 9, none⟩ (.int .i64 0)).setCell ⟨w.heap.size, 10, none⟩ (.slice none 0 0)).setCell ⟨w.heap.size, 11, none⟩ (.int .i64 0)).setCell ⟨w.heap.size, 12, none⟩ (.int .i64 0)) = WF at fR fP fA ⊢
  refine bodyPost_ret (results_cell_row rfl _ _ w.heap.size 67 _ (0, 0) _ rfl fR Tryz.underlying67 rfl Tryz.sizeEvent) rfl ?_
  exact ⟨⟨a1, b1, H, rfl⟩, fP, fA⟩
end
end Go.Proofs.YtmoddgkjaimpfaaGreatDoor
