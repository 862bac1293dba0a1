/-
  A part of the proof that the law ParserSheets (chapter 19) returns true for every sheet: walks of the program's functions, and runs of them in the kernel by the own evaluator.
-/
import Derived.Test.YtjnkppneilmpbaaGreatDoorVoc
import Derived.Laws.Tables
import Derived.Deep.Cut
namespace Go.Proofs.YtjnkppneilmpbaaGreatDoor
open Go.RowKit

set_option maxHeartbeats 4000000 in
set_option maxRecDepth 100000 in
theorem label_walk (b : Int) (Bm : Nat) (w : World) :
    Calls Tryz.prog 75 #[.int .i64 b, .pointer (some ⟨Bm, 0, none⟩)] w fun r w' => r = .returned (.func (.func 76) #[] #[.pointer (some ⟨Bm, 0, none⟩), .pointer (some ⟨w.heap.size, 0, none⟩)]) ∧ w' = w.alloc (.cells #[.int .i64 b] 3) := by
  go_enter Tryz.func75, Tryz.ntmps75
  go_wp2
  go_ret
  exact ⟨rfl, rfl⟩

def o0 : ByteArray := ⟨#[109, 101, 116, 114, 101]⟩
def o1 : ByteArray := ⟨#[108, 101, 110, 103, 116, 104]⟩
def o2 : ByteArray := ⟨#[107, 101, 121]⟩
def o3 : ByteArray := ⟨#[114, 101, 112, 101, 97, 116]⟩
def o4 : ByteArray := ⟨#[116, 105, 109, 101, 115]⟩
def o5 : ByteArray := ⟨#[101, 110, 100, 105, 110, 103, 115]⟩
def o6 : ByteArray := ⟨#[106, 117, 109, 112]⟩
def o7 : ByteArray := ⟨#[115, 101, 103, 110, 111]⟩
def o8 : ByteArray := ⟨#[99, 111, 100, 97]⟩
def o9 : ByteArray := ⟨#[102, 105, 110, 101]⟩
def o10 : ByteArray := ⟨#[116, 111, 99, 111, 100, 97]⟩
def o11 : ByteArray := ⟨#[115, 119, 105, 110, 103]⟩
def o12 : ByteArray := ⟨#[98, 114, 101, 97, 107]⟩
def o13 : ByteArray := ⟨#[109, 97, 114, 107]⟩

/-- The row of options: Bp and Bm are the closures' cells, b the first of the labels' bits. -/
def optRow (Bp Bm b : Nat) : Obj := .cells #[.string o0, .func (.func 77) #[] #[.pointer (some ⟨Bp, 0, none⟩), .pointer (some ⟨Bm, 0, none⟩)], .string o1, .func (.func 79) #[] #[.pointer (some ⟨Bp, 0, none⟩), .pointer (some ⟨Bm, 0, none⟩)],
  .string o2, .func (.func 80) #[] #[.pointer (some ⟨Bp, 0, none⟩), .pointer (some ⟨Bm, 0, none⟩)], .string o3, .func (.func 81) #[] #[.pointer (some ⟨Bm, 0, none⟩)], .string o4, .func (.func 82) #[] #[.pointer (some ⟨Bp, 0, none⟩), .pointer (some ⟨Bm, 0, none⟩)],
  .string o5, .func (.func 83) #[] #[.pointer (some ⟨Bp, 0, none⟩), .pointer (some ⟨Bm, 0, none⟩)], .string o6, .func (.func 84) #[] #[.pointer (some ⟨Bp, 0, none⟩), .pointer (some ⟨Bm, 0, none⟩)],
  .string o7, .func (.func 76) #[] #[.pointer (some ⟨Bm, 0, none⟩), .pointer (some ⟨b, 0, none⟩)], .string o8, .func (.func 76) #[] #[.pointer (some ⟨Bm, 0, none⟩), .pointer (some ⟨b + 1, 0, none⟩)],
  .string o9, .func (.func 76) #[] #[.pointer (some ⟨Bm, 0, none⟩), .pointer (some ⟨b + 2, 0, none⟩)], .string o10, .func (.func 76) #[] #[.pointer (some ⟨Bm, 0, none⟩), .pointer (some ⟨b + 3, 0, none⟩)],
  .string o11, .func (.func 86) #[] #[.pointer (some ⟨Bp, 0, none⟩), .pointer (some ⟨Bm, 0, none⟩)], .string o12, .func (.func 87) #[] #[.pointer (some ⟨Bp, 0, none⟩), .pointer (some ⟨Bm, 0, none⟩)], .string o13, .func (.func 89) #[] #[.pointer (some ⟨Bp, 0, none⟩), .pointer (some ⟨Bm, 0, none⟩)]] 151 (0, 0)

theorem alloc_at (w : World) (o : Obj) {n : Nat} (h : n = w.heap.size) : (w.alloc o).heap[n]? = some o := by subst h; exact heap_alloc_new w o
theorem alloc_keep {w : World} (o : Obj) {n : Nat} {p : Obj} (h : w.heap[n]? = some p) : (w.alloc o).heap[n]? = some p := (Lib.alloc_old w o _ (Array.getElem?_eq_some_iff.1 h).1).trans h

set_option maxHeartbeats 16000000 in
set_option maxRecDepth 100000 in
theorem options_walk (Y X : Nat) (w : World) :
    Calls Tryz.prog 53 #[.pointer (some ⟨Y, 0, none⟩), .pointer (some ⟨X, 0, none⟩)] w fun r w' => ∃ O Bp Bm b, r = .returned (.slice (some ⟨O, 0, none⟩) 14 14) ∧ w'.heap[O]? = some (optRow Bp Bm b) ∧
      w'.heap[Bp]? = some (.cells #[.pointer (some ⟨Y, 0, none⟩)] 76 (0, 0)) ∧ w'.heap[Bm]? = some (.cells #[.pointer (some ⟨X, 0, none⟩)] 149 (0, 0)) ∧ Below w.heap.size w w' := by
  have hl := label_walk
  go_enter Tryz.func53, Tryz.ntmps53
  go_wp2_with (go_at_call 75; refine (hl _ _ _).mono ?_; rintro r w' ⟨rfl, rfl⟩)
  go_ret
  refine ⟨w.heap.size + 1 + 1 + 1 + 1 + 1 + 1, w.heap.size, w.heap.size + 1, w.heap.size + 1 + 1, rfl, ?_, ?_, ?_, ?_⟩
  · exact alloc_at _ _ (by simp)
  · exact alloc_keep _ (alloc_keep _ (alloc_keep _ (alloc_keep _ (alloc_keep _ (alloc_keep _ (alloc_at _ _ rfl))))))
  · exact alloc_keep _ (alloc_keep _ (alloc_keep _ (alloc_keep _ (alloc_keep _ (alloc_at _ _ (by simp))))))
  · exact ((((((((Below.refl w.heap.size w).alloc (Nat.le_refl _) _).alloc (by simp) _).alloc (by simp; omega) _).alloc (by simp; omega) _).alloc (by simp; omega) _).alloc (by simp; omega) _).alloc (by simp; omega) _)
end Go.Proofs.YtjnkppneilmpbaaGreatDoor

namespace Go.Proofs.YtjnkppneilmpbaaGreatDoor
open Go.RowKit

section
variable {P : Program} {ops : Array Oper} {o : Oper} {a : Act} {w : World} {K : Act → World → Prop} {Q : Exit → Act → World → Prop} {E : Prop}
theorem step_of_wp (hgd : o.guard = none) (h : Oper.wp P o a w K Q) : if Region.wanted o (yielded ops a.tmps) = true then Oper.wp P o a w K Q else E := by
  rw [if_pos (by simp [Region.wanted, hgd])]
  exact h
theorem wp_build_l (t : TypeId) (parts : Array (Nat × Operand)) (ho : o.op = .build t parts) {l : List (Nat × Value)} (hl : (parts.map fun (i, x) => (i, a.eval x)).toList = l) {cs : Array Value} (hf : P.built t l = some cs) (h : K (a.put o.dst (.agg cs)) w) : o.wp P a w K Q := by
  subst hl
  exact wp_build t parts ho (by rw [hf]; rfl) (by rw [hf]; exact h)
end

/-- The cells from i on are written. -/
def fillL (w : World) (X : Nat) : Nat → List Value → World
  | _, [] => w
  | i, v :: l => fillL (w.setCell ⟨X, i, none⟩ v) X (i + 1) l

theorem fillL_self {X : Nat} {T : TypeId} {fr : Nat × Nat} : ∀ (l pre rest : List Value) (w : World), w.heap[X]? = some (.cells (pre ++ rest).toArray T fr) → rest.length = l.length → (fillL w X pre.length l).heap[X]? = some (.cells (pre ++ l).toArray T fr) := by
  intro l
  induction l with
  | nil => intro pre rest w h hl; obtain rfl := List.length_eq_zero_iff.1 hl; exact h
  | cons v l ih =>
    intro pre rest w h hl
    cases rest with
    | nil => cases hl
    | cons u rest =>
      have h1 := Lib.heap_setCell_same (i := pre.length) h v
      have e : (pre ++ u :: rest).toArray.setIfInBounds pre.length v = ((pre ++ [v]) ++ rest).toArray := by
        simp
      rw [e] at h1
      have := ih (pre ++ [v]) rest _ h1 (by simpa using hl)
      simpa [fillL] using this

theorem fillL_other {X k : Nat} (hk : k ≠ X) : ∀ (l : List Value) (i : Nat) (w : World), (fillL w X i l).heap[k]? = w.heap[k]? := by
  intro l
  induction l with
  | nil => intro i w; rfl
  | cons v l ih => intro i w; exact (ih _ _).trans (Below.heap_setCell w ⟨X, i, none⟩ v k hk)

theorem fillL_away {bs : List Nat} {b : World} {X : Nat} (hX : b.heap.size ≤ X) : ∀ (l : List Value) (i : Nat) (w : World), Away bs b w → Away bs b (fillL w X i l) := by
  intro l
  induction l with
  | nil => intro i w h; exact h
  | cons v l ih => intro i w h; exact ih _ _ (h.setCell (p := ⟨X, i, none⟩) (.inr hX) v)

/-- A whole row at once. -/
theorem fill_row {X : Nat} {T : TypeId} {fr : Nat × Nat} {w : World} {cs : Array Value} (h : w.heap[X]? = some (.cells cs T fr)) (l : List Value) (hl : cs.size = l.length) : (fillL w X 0 l).heap[X]? = some (.cells l.toArray T fr) := by
  have := fillL_self l [] cs.toList w (by simpa using h) (by simpa using hl)
  simpa using this

section
variable {Y M : Nat} {tv : Value} {toks : List Tok} {pos : Nat} {line col e : Int} {free : Bool} {ls ln : Int} {es : Array MapEntry} {clk : Nat} {w : World}
theorem Prs.fillL {X : Nat} {T : TypeId} {fr : Nat × Nat} (hT : T ≠ 99) (hT2 : T ≠ 111) : ∀ (l : List Value) (i : Nat) (w : World) (cs : Array Value), Prs Y M tv toks pos line col e free ls ln es clk w → w.heap[X]? = some (.cells cs T fr) → Prs Y M tv toks pos line col e free ls ln es clk (fillL w X i l) := by
  intro l
  induction l with
  | nil => intro i w cs h _; exact h
  | cons v l ih => intro i w cs h hX; exact ih _ _ _ (h.elsewhere hX hT hT2 i v) (Lib.heap_setCell_same hX v)
theorem Prs.setRow (h : Prs Y M tv toks pos line col e free ls ln es clk w) {X : Nat} {T : TypeId} {fr : Nat × Nat} {cs : Array Value} (hX : w.heap[X]? = some (.cells cs T fr)) (hT : T ≠ 99) (hT2 : T ≠ 111) (l : Array Value) : Prs Y M tv toks pos line col e free ls ln es clk (w.setRow X l) := by
  refine ⟨?_, ?_, fun he => own_step (h.row he) fun k hk => setRow_other _ _ _ _ ?_⟩
  · refine (setRow_other _ _ _ _ ?_).trans h.blk
    rintro rfl
    rw [h.blk] at hX; injection hX with hX; injection hX with _ h2 _; exact hT h2.symm
  · refine (setRow_other _ _ _ _ ?_).trans h.map
    rintro rfl
    rw [h.map] at hX; cases hX
  · rintro rfl
    exact own_ne (h.row he) hX (by intro cs' fr' hc; injection hc with _ h2 _; exact hT2 h2) hk
theorem Away.setRow {bs : List Nat} {b w : World} (h : Away bs b w) {X : Nat} (hX : b.heap.size ≤ X) (l : Array Value) : Away bs b (w.setRow X l) :=
  ⟨h.os, h.tape, h.output, Nat.le_trans h.size (by simp [World.setRow]), fun k hk hb => (setRow_other w X k l (by omega)).trans (h.block k hk hb)⟩
theorem Same.of_setRow {Ts : List TypeId} {X : Nat} {U : TypeId} {fr : Nat × Nat} {cs : Array Value} (hX : w.heap[X]? = some (.cells cs U fr)) (hU : U ∉ Ts) (l : Array Value) : Same Ts w (w.setRow X l) := fun j cs' T fr' hm h =>
  (setRow_other w X j l (by rintro rfl; rw [hX] at h; injection h with h; injection h with _ h2 _; exact hU (h2 ▸ hm))).trans h
end
end Go.Proofs.YtjnkppneilmpbaaGreatDoor
