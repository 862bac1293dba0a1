/-
  A part of the proof that the law ParserIds (chapter 19) returns true for every site, number and count: walks of the program's functions, and runs of them in the kernel by the own evaluator.
-/
import Derived.Test.YtaimdnddmddbnaaGreatDoorPrh
import Derived.Deep.Cut
import Derived.Deep.CutRange
namespace Go.Proofs.YtaimdnddmddbnaaGreatDoor
open Go.RowKit

theorem Tryz.sizePart : (Tryz.prog.info? 40).map (·.size) = some 6 := by kernel_rfl
theorem Away.step {bs : List Nat} {a w w' : World} (h : Away bs a w) (hb : Below w.heap.size w w') : Away bs a w' := h.trans (Away.of_below hb)

def zPart : Obj := .cells #[.int .i64 0, .int .i64 0, .string ByteArray.empty, .int .i64 0, .int .i64 0, .slice none 0 0] 40 (0, 0)
/-- The cells of a fresh part. -/
theorem zPart_cells {w : World} {X : Nat} (h : w.heap[X]? = some zPart) :
    (w.cell? ⟨X, 0, none⟩ = some (.int .i64 0) ∧ w.cell? ⟨X, 1, none⟩ = some (.int .i64 0) ∧ w.cell? ⟨X, 2, none⟩ = some (.string ByteArray.empty) ∧ w.cell? ⟨X, 3, none⟩ = some (.int .i64 0) ∧ w.cell? ⟨X, 4, none⟩ = some (.int .i64 0) ∧ w.cell? ⟨X, 5, none⟩ = some (.slice none 0 0)) ∧
    (w.frozen? ⟨X, 0, none⟩ = false ∧ w.frozen? ⟨X, 1, none⟩ = false ∧ w.frozen? ⟨X, 2, none⟩ = false ∧ w.frozen? ⟨X, 3, none⟩ = false ∧ w.frozen? ⟨X, 4, none⟩ = false ∧ w.frozen? ⟨X, 5, none⟩ = false) := by
  unfold zPart at h
  refine ⟨⟨?_, ?_, ?_, ?_, ?_, ?_⟩, Lib.frozen_of_heap h 0, Lib.frozen_of_heap h 1, Lib.frozen_of_heap h 2, Lib.frozen_of_heap h 3, Lib.frozen_of_heap h 4, Lib.frozen_of_heap h 5⟩ <;> (rw [Lib.cell_of_heap h]; rfl)

def fill6 (w : World) (X : Nat) (v0 v1 v2 v3 v4 v5 : Value) : World :=
  (((((w.setCell ⟨X, 0, none⟩ v0).setCell ⟨X, 1, none⟩ v1).setCell ⟨X, 2, none⟩ v2).setCell ⟨X, 3, none⟩ v3).setCell ⟨X, 4, none⟩ v4).setCell ⟨X, 5, none⟩ v5

theorem fill6_other (w : World) (X : Nat) (v0 v1 v2 v3 v4 v5 : Value) (k : Nat) (hk : k ≠ X) : (fill6 w X v0 v1 v2 v3 v4 v5).heap[k]? = w.heap[k]? := by
  unfold fill6
  rw [Below.heap_setCell _ ⟨X, 5, none⟩ _ k hk, Below.heap_setCell _ ⟨X, 4, none⟩ _ k hk, Below.heap_setCell _ ⟨X, 3, none⟩ _ k hk, Below.heap_setCell _ ⟨X, 2, none⟩ _ k hk, Below.heap_setCell _ ⟨X, 1, none⟩ _ k hk, Below.heap_setCell _ ⟨X, 0, none⟩ _ k hk]
theorem fill6_self {w : World} {X : Nat} {c0 c1 c2 c3 c4 c5 : Value} {T : TypeId} (v0 v1 v2 v3 v4 v5 : Value) (h : w.heap[X]? = some (.cells #[c0, c1, c2, c3, c4, c5] T (0, 0))) : (fill6 w X v0 v1 v2 v3 v4 v5).heap[X]? = some (.cells #[v0, v1, v2, v3, v4, v5] T (0, 0)) := by
  unfold fill6
  have := Lib.heap_setCell_same (i := 5) (Lib.heap_setCell_same (i := 4) (Lib.heap_setCell_same (i := 3) (Lib.heap_setCell_same (i := 2) (Lib.heap_setCell_same (i := 1) (Lib.heap_setCell_same (i := 0) h v0) v1) v2) v3) v4) v5
  rw [this]; rfl
theorem fill6_away {bs : List Nat} {a w : World} {X : Nat} (h : Away bs a w) (hX : a.heap.size ≤ X) (v0 v1 v2 v3 v4 v5 : Value) : Away bs a (fill6 w X v0 v1 v2 v3 v4 v5) :=
  (((((h.setCell (p := ⟨X, 0, none⟩) (.inr hX) v0).setCell (p := ⟨X, 1, none⟩) (.inr hX) v1).setCell (p := ⟨X, 2, none⟩) (.inr hX) v2).setCell (p := ⟨X, 3, none⟩) (.inr hX) v3).setCell (p := ⟨X, 4, none⟩) (.inr hX) v4).setCell (p := ⟨X, 5, none⟩) (.inr hX) v5

/-- A part is returned, whatever it holds. -/
def IsPart (r : Ending) : Prop := ∃ a b nm ao k cp, r = .returned (.agg #[.int .i64 a, .int .i64 b, .string nm, .int .i64 0, .int .i64 0, .slice ao k cp])

section
variable {Y M : Nat} {tv : Value} {toks : List Tok} {pos pos' : Nat} {line col e line' col' e' : Int} {free : Bool} {ls ln ls' ln' : Int} {es es' : Array MapEntry} {clk clk' : Nat} {w : World} {t : Tok}

theorem Prs.fill6 (h : Prs Y M tv toks pos line col e free ls ln es clk w) {X : Nat} {c0 c1 c2 c3 c4 c5 : Value} {T : TypeId} (v0 v1 v2 v3 v4 v5 : Value) (hk : w.heap[X]? = some (.cells #[c0, c1, c2, c3, c4, c5] T (0, 0))) (hT : T ≠ 83) (hT2 : T ≠ 95) :
    Prs Y M tv toks pos line col e free ls ln es clk (fill6 w X v0 v1 v2 v3 v4 v5) :=
  (((((h.elsewhere hk hT hT2 0 v0).elsewhere (Lib.heap_setCell_same hk _) hT hT2 1 v1).elsewhere (Lib.heap_setCell_same (Lib.heap_setCell_same hk _) _) hT hT2 2 v2).elsewhere (Lib.heap_setCell_same (Lib.heap_setCell_same (Lib.heap_setCell_same hk _) _) _) hT hT2 3 v3).elsewhere (Lib.heap_setCell_same (Lib.heap_setCell_same (Lib.heap_setCell_same (Lib.heap_setCell_same hk _) _) _) _) hT hT2 4 v4).elsewhere (Lib.heap_setCell_same (Lib.heap_setCell_same (Lib.heap_setCell_same (Lib.heap_setCell_same (Lib.heap_setCell_same hk _) _) _) _) _) hT hT2 5 v5

set_option maxHeartbeats 16000000 in
set_option maxRecDepth 100000 in
theorem part_err (h : Prs Y M tv toks pos line col e false ls ln es clk w) {a b : Int} (he : e' ≠ 0)
    (hobj : ∀ w', Below w.heap.size w w' → Calls Tryz.prog 22 #[.pointer (some ⟨Y, 0, none⟩)] w' fun r w'' => r = .returned (.agg #[.int .i64 a, .int .i64 b]) ∧ Prs Y M tv toks pos' line' col' e' false ls' ln' es' clk' w'' ∧ Away [Y, M] w' w'') :
    Calls Tryz.prog 18 #[.pointer (some ⟨Y, 0, none⟩)] w fun r w' => IsPart r ∧ Prs Y M tv toks pos' line' col' e' false ls' ln' es' clk' w' ∧ Away [Y, M] w w' := by
  have lY := h.lt
  have lM := h.ltM
  go_enter Tryz.func18, Tryz.ntmps18
  go_wp2
  have hR0 := heap_alloc_new w (.cells #[.int .i64 0, .int .i64 0, .string ByteArray.empty, .int .i64 0, .int .i64 0, .slice none 0 0] 40)
  have b0 := (Below.refl w.heap.size w).alloc (Nat.le_refl _) (.cells #[.int .i64 0, .int .i64 0, .string ByteArray.empty, .int .i64 0, .int .i64 0, .slice none 0 0] 40)
  have hX1 : (((w.alloc zPart).drew).alloc zPart).heap[w.heap.size + 1]? = some zPart := by
    have := heap_alloc_new ((w.alloc zPart).drew) zPart
    simpa using this
  have hR0Y : w.heap.size ∉ [Y, M] := by simp; omega
  have hX1Y : w.heap.size + 1 ∉ [Y, M] := by simp; omega
  have hmem : ∀ w' : World, Away [Y, M] (((w.alloc zPart).drew).alloc zPart) w' → w'.heap[w.heap.size + 1]? = some zPart := fun w' ha => ha.heap hX1 hX1Y
  have hmem2 : ∀ w1 w' : World, Below (w1.alloc zPart).heap.size (w1.alloc zPart) w' → w'.heap[w1.heap.size]? = some zPart := fun w1 w' hb => (hb.block _ (by simp)).trans (heap_alloc_new w1 _)
  go_cut [3] from 4 (fun s3 wc => ∃ X, s3 = .pointer (some ⟨X, 0, none⟩) ∧ w.heap.size < X ∧ wc.heap[X]? = some (.cells #[.int .i64 a, .int .i64 b, .string ByteArray.empty, .int .i64 0, .int .i64 0, .slice none 0 0] 40 (0, 0)) ∧
      wc.heap[w.heap.size]? = some (.cells #[.int .i64 0, .int .i64 0, .string ByteArray.empty, .int .i64 0, .int .i64 0, .slice none 0 0] 40 (0, 0)) ∧ Prs Y M tv toks pos' line' col' e' false ls' ln' es' clk' wc ∧ Away [Y, M] w wc)
  case first =>
    go_region_held3 (fun _ => True) (trivial) (first
      | (go_at_call 22; refine (hobj _ (by first | exact b0.drew | exact b0.drew.alloc (by simp) _)).mono ?_; rintro r w1 ⟨rfl, hS, ha⟩; try have hx1 := hmem w1 ha)
      | (go_at_call 14; refine (str_err (by first | exact hS | exact hS.step ((Below.refl _ _).alloc (Nat.le_refl _) _)) he).mono ?_; rintro r w2 ⟨rfl, b2⟩; (first | (have hx := (b2.block _ (Array.getElem?_eq_some_iff.1 hx1).1).trans hx1; obtain ⟨⟨q0, q1, q2, q3, q4, q5⟩, r0, r1, r2, r3, r4, r5⟩ := zPart_cells hx) | (have hx := hmem2 _ _ b2; obtain ⟨⟨q0, q1, q2, q3, q4, q5⟩, r0, r1, r2, r3, r4, r5⟩ := zPart_cells hx) | skip)))
    · go_wp2
      go_meet
      case rel =>
        have hS2 := hS.step b2
        have aw := ((Away.of_below (bs := [Y, M]) b0.drew).trans ha).step b2
        have hRw := (b2.block _ (Array.getElem?_eq_some_iff.1 (ha.heap hR0 hR0Y)).1).trans (ha.heap hR0 hR0Y)
        have hl := (Array.getElem?_eq_some_iff.1 hRw).1
        exact ⟨w2.heap.size, rfl, hl, heap_alloc_new w2 _, (Lib.alloc_old w2 _ _ hl).trans hRw, hS2.step ((Below.refl _ _).alloc (Nat.le_refl _) _), aw.alloc _⟩
    · go_wp2
      go_meet
      case rel =>
        have hS2 := (hS.step ((Below.refl _ _).alloc (Nat.le_refl _) zPart)).step b2
        have aw := (((Away.of_below (bs := [Y, M]) b0.drew).trans ha).alloc zPart).step b2
        have hR1 := ha.heap hR0 hR0Y
        have hl := (Array.getElem?_eq_some_iff.1 hR1).1
        have hRw := (b2.block w.heap.size (by simp; omega)).trans ((Lib.alloc_old w1 zPart _ hl).trans hR1)
        exact ⟨w1.heap.size, rfl, hl, fill6_self _ _ _ _ _ _ hx, (fill6_other w2 w1.heap.size _ _ _ _ _ _ _ (by omega)).trans hRw, hS2.fill6 _ _ _ _ _ _ hx (by decide) (by decide), fill6_away aw (by omega) _ _ _ _ _ _⟩
    · go_wp2
      go_meet
      case rel =>
        have hS2 := hS.step b2
        have aw := ((Away.of_below (bs := [Y, M]) (b0.drew.alloc (by simp) zPart)).trans ha).step b2
        have hR1 := ha.heap ((Lib.alloc_old (w.alloc zPart).drew zPart w.heap.size (by simp)).trans hR0) hR0Y
        have hRw := (b2.block _ (Array.getElem?_eq_some_iff.1 hR1).1).trans hR1
        exact ⟨w.heap.size + 1, rfl, by omega, fill6_self _ _ _ _ _ _ hx, (fill6_other w2 (w.heap.size + 1) _ _ _ _ _ _ _ (by omega)).trans hRw, hS2.fill6 _ _ _ _ _ _ hx (by decide) (by decide), fill6_away aw (by omega) _ _ _ _ _ _⟩
  case rest =>
    obtain ⟨X, rfl, hRX, hX, hR, hS, aw⟩ := hcut
    have x1 := accept_err hS he ⟨#[116, 114, 97, 110, 115, 112, 111, 115, 101]⟩
    go_wp2_with (go_at_call 15; refine x1.mono ?_)
    intro r w3; first | (intro he3 b3; subst he3) | rintro ⟨rfl, b3⟩
    have hX3 := (b3.block _ (Array.getElem?_eq_some_iff.1 hX).1).trans hX
    have hR3 := (b3.block _ (Array.getElem?_eq_some_iff.1 hR).1).trans hR
    have hS3 := hS.step b3
    have aw3 := aw.step b3
    clear x1 hX hR hS aw b3
    go_wp2
    go_loopg [28] 0 (fun g v wr => wr = w3)
    case atStart => rfl
    case round =>
      obtain rfl := hrel
      have x2 := accept_err hS3 he ⟨#[115, 116, 97, 102, 102]⟩
      go_wp2_with (go_at_call 15; refine x2.mono ?_)
      intro r w4; first | (intro he4 b4; subst he4) | rintro ⟨rfl, b4⟩
      have hX4 := (b4.block _ (Array.getElem?_eq_some_iff.1 hX3).1).trans hX3
      have hR4 : w4.heap[w.heap.size]? = some zPart := (b4.block _ (Array.getElem?_eq_some_iff.1 hR3).1).trans hR3
      have hS4 := hS3.step b4
      have aw4 := aw3.step b4
      clear x2 hX3 hR3 hS3 aw3 b4
      obtain ⟨⟨q0, q1, q2, q3, q4, q5⟩, r0, r1, r2, r3, r4, r5⟩ := zPart_cells hR4
      have p0 : w4.cell? ⟨X, 0, none⟩ = some (.int .i64 a) := by rw [Lib.cell_of_heap hX4]; rfl
      have p1 : w4.cell? ⟨X, 1, none⟩ = some (.int .i64 b) := by rw [Lib.cell_of_heap hX4]; rfl
      have p2 : w4.cell? ⟨X, 2, none⟩ = some (.string ByteArray.empty) := by rw [Lib.cell_of_heap hX4]; rfl
      have p3 : w4.cell? ⟨X, 3, none⟩ = some (.int .i64 0) := by rw [Lib.cell_of_heap hX4]; rfl
      have p4 : w4.cell? ⟨X, 4, none⟩ = some (.int .i64 0) := by rw [Lib.cell_of_heap hX4]; rfl
      have p5 : w4.cell? ⟨X, 5, none⟩ = some (.slice none 0 0) := by rw [Lib.cell_of_heap hX4]; rfl
      have hfin := hS4.fill6 (.int .i64 a) (.int .i64 b) (.string ByteArray.empty) (.int .i64 0) (.int .i64 0) (.slice none 0 0) hR4 (by decide) (by decide)
      have awf := fill6_away aw4 (Nat.le_refl _) (.int .i64 a) (.int .i64 b) (.string ByteArray.empty) (.int .i64 0) (.int .i64 0) (.slice none 0 0)
      have hRf := fill6_self (.int .i64 a) (.int .i64 b) (.string ByteArray.empty) (.int .i64 0) (.int .i64 0) (.slice none 0 0) hR4
      clear hX4 hS4 aw4 hR4
      go_wp2
      refine bodyPost_ret (results_cell_row rfl _ _ w.heap.size 40 _ (0, 0) _ rfl hRf Tryz.underlying40 rfl Tryz.sizePart) rfl ?_
      exact ⟨⟨_, _, _, _, _, _, rfl⟩, hfin, awf⟩
end
end Go.Proofs.YtaimdnddmddbnaaGreatDoor

namespace Go.Proofs.YtaimdnddmddbnaaGreatDoor
open Go.RowKit

def staffS : ByteArray := ⟨#[115, 116, 97, 102, 102]⟩
def transS : ByteArray := ⟨#[116, 114, 97, 110, 115, 112, 111, 115, 101]⟩
/-- The cells of the first k staves. -/
def staffCells (S N : Int) (k : Nat) : List Value := (List.range k).flatMap fun (i : Nat) => [.int .i64 S, .int .i64 (N + (i + 1 : Nat)), .int .i64 2]

theorem staffCells_succ (S N : Int) (k : Nat) : staffCells S N (k + 1) = staffCells S N k ++ [.int .i64 S, .int .i64 (N + (k + 1 : Nat)), .int .i64 2] := by
  unfold staffCells
  rw [List.range_succ, List.flatMap_append]
  rfl

theorem Tryz.infoStaff : (Tryz.prog.info? 42).map (fun i => (i.zero, i.size, i.bytes)) = some (some (.agg #[.int .i64 0, .int .i64 0, .int .i64 0]), 3, 24) := by kernel_rfl

/-- The part that is being read lies at X, its staves are sv; R is where the result will lie. -/
structure PartAt (B0 R X Y M : Nat) (S N : Int) (name : ByteArray) (sv : Value) (i : Nat) (xs : List Value) (w0 w : World) : Prop where
  hX : w.heap[X]? = some (.cells #[.int .i64 S, .int .i64 N, .string name, .int .i64 0, .int .i64 0, sv] 40 (0, 0))
  hR : w.heap[R]? = some zPart
  own : w.ownsRow B0 42 3 sv i xs
  aw : Away [Y, M] w0 w
  hB : B0 = w0.heap.size
  hBR : B0 ≤ R
  hRX : R ≠ X
  hBX : B0 ≤ X
  nXY : X ≠ Y
  nXM : X ≠ M
  nRY : R ≠ Y
  nRM : R ≠ M

section
variable {B0 R X Y M : Nat} {S N : Int} {name : ByteArray} {sv : Value} {i : Nat} {xs : List Value} {w0 w : World} {tv : Value} {toks : List Tok} {pos : Nat} {line col e : Int} {free : Bool} {ls ln : Int} {es : Array MapEntry} {clk : Nat}

theorem PartAt.away (p : PartAt B0 R X Y M S N name sv i xs w0 w) (hS : Prs Y M tv toks pos line col e free ls ln es clk w) {w' : World} (ha : Away [Y, M] w w') : PartAt B0 R X Y M S N name sv i xs w0 w' := by
  have n1 := p.nXY
  have n2 := p.nXM
  have n3 := p.nRY
  have n4 := p.nRM
  refine ⟨ha.heap p.hX (by simp; omega), ha.heap p.hR (by simp; omega), own_step p.own fun k hk => ha.block k (p.own.lt k hk).2 ?_, p.aw.trans ha, p.hB, p.hBR, p.hRX, p.hBX, p.nXY, p.nXM, p.nRY, p.nRM⟩
  intro hm
  rcases List.mem_cons.1 hm with rfl | hm
  · exact own_ne p.own hS.blk (by intro cs fr hc; injection hc with _ h2 _; exact absurd h2 (by decide)) hk
  · obtain rfl := List.mem_singleton.1 hm
    exact own_ne p.own hS.map (by intro cs fr hc; cases hc) hk

theorem PartAt.away1 (p : PartAt B0 R X Y M S N name sv i xs w0 w) (hS : Prs Y M tv toks pos line col e free ls ln es clk w) {w' : World} (ha : Away [Y] w w') : PartAt B0 R X Y M S N name sv i xs w0 w' := p.away hS (ha.more (by simp))
theorem PartAt.step (p : PartAt B0 R X Y M S N name sv i xs w0 w) (hS : Prs Y M tv toks pos line col e free ls ln es clk w) {w' : World} (hb : Below w.heap.size w w') : PartAt B0 R X Y M S N name sv i xs w0 w' := p.away hS (Away.of_below hb)

theorem PartAt.svIs (p : PartAt B0 R X Y M S N name sv i xs w0 w) : ∃ ao c, sv = .slice ao i c := by
  rcases p.own.2 with ⟨hv, h0⟩ | ⟨g, cap, cur, hv, _⟩
  · exact ⟨none, 0, by rw [hv, h0]⟩
  · exact ⟨_, _, hv⟩
theorem PartAt.neX (p : PartAt B0 R X Y M S N name sv i xs w0 w) : sv.ownBlock ≠ some X := own_ne p.own p.hX (by intro cs fr hc; injection hc with _ h2 _; exact absurd h2 (by decide))
theorem PartAt.c5 (p : PartAt B0 R X Y M S N name sv i xs w0 w) : w.cell? ⟨X, 5, none⟩ = some sv := by rw [Lib.cell_of_heap p.hX]; rfl
theorem PartAt.f5 (p : PartAt B0 R X Y M S N name sv i xs w0 w) : w.frozen? ⟨X, 5, none⟩ = false := Lib.frozen_of_heap p.hX 5

theorem Away.grown {bs : List Nat} {a w w' : World} {row : Option Nat} (h : Away bs a w) (hg : w.grownBy w' row) (hr : ∀ k, row = some k → a.heap.size ≤ k) : Away bs a w' :=
  ⟨hg.os.trans h.os, hg.tape.trans h.tape, hg.output.trans h.output, Nat.le_trans h.size hg.size, fun k hk hb =>
    (hg.block k (Nat.lt_of_lt_of_le hk h.size) (fun e => by have := hr k e.symm; omega)).trans (h.block k hk hb)⟩

theorem Prs.grown {row : Option Nat} {w' : World} (h : Prs Y M tv toks pos line col e free ls ln es clk w) (hg : w.grownBy w' row) (hY : row ≠ some Y) (hM : row ≠ some M) (hT : ∀ k, row = some k → e = 0 → tv.ownBlock ≠ some k) : Prs Y M tv toks pos line col e free ls ln es clk w' :=
  ⟨(hg.block Y h.lt (fun e => hY e.symm)).trans h.blk, (hg.block M h.ltM (fun e => hM e.symm)).trans h.map, fun he => own_step (h.row he) fun k hk => hg.block k ((h.row he).lt k hk).2 (fun e' => hT k e'.symm he hk)⟩

/-- A row of cells of another kind than the tokens is none of the parser's blocks. -/
theorem Prs.rowNe {v : Value} {n : Nat} {xs : List Value} {T : TypeId} {size : Nat} (h : Prs Y M tv toks pos line col e free ls ln es clk w) (hown : w.ownsRow B0 T size v n xs) (h1 : T ≠ 83) (h2 : T ≠ 95) :
    v.ownBlock ≠ some Y ∧ v.ownBlock ≠ some M ∧ ∀ k, v.ownBlock = some k → e = 0 → tv.ownBlock ≠ some k := by
  refine ⟨own_ne hown h.blk (by intro cs fr hc; injection hc with _ h3 _; exact h1 h3.symm), own_ne hown h.map (by intro cs fr hc; cases hc), fun k hk he => ?_⟩
  rcases hown.2 with ⟨rfl, _⟩ | ⟨g, cap, cur, rfl, _, hg, _⟩
  · simp [Value.ownBlock] at hk
  · obtain rfl : g = k := by simpa [Value.ownBlock] using hk
    exact own_ne (h.row he) hg (by intro cs fr hc; injection hc with _ h3 _; exact h2 h3)

theorem PartAt.grown (p : PartAt B0 R X Y M S N name sv i xs w0 w) (hS : Prs Y M tv toks pos line col e free ls ln es clk w) {w' : World} {sv' : Value} {a b c : Int}
    (hg : (w.alloc (.cells #[.int .i64 a, .int .i64 b, .int .i64 c] 42)).grownBy w' sv.ownBlock) (hown : w'.ownsRow B0 42 3 sv' (i + 1) (xs ++ [.int .i64 a, .int .i64 b, .int .i64 c])) :
    PartAt B0 R X Y M S N name sv' (i + 1) (xs ++ [.int .i64 a, .int .i64 b, .int .i64 c]) w0 (w'.setCell ⟨X, 5, none⟩ sv') ∧ Prs Y M tv toks pos line col e free ls ln es clk (w'.setCell ⟨X, 5, none⟩ sv') ∧ w'.heap[X]? = some (.cells #[.int .i64 S, .int .i64 N, .string name, .int .i64 0, .int .i64 0, sv] 40 (0, 0)) := by
  have pa := p.step hS ((Below.refl _ w).alloc (Nat.le_refl _) (.cells #[.int .i64 a, .int .i64 b, .int .i64 c] 42))
  have ha := hS.step ((Below.refl _ w).alloc (Nat.le_refl _) (.cells #[.int .i64 a, .int .i64 b, .int .i64 c] 42))
  generalize w.alloc (.cells #[.int .i64 a, .int .i64 b, .int .i64 c] 42) = v at hg pa ha
  obtain ⟨r1, r2, r3⟩ := ha.rowNe pa.own (by decide) (by decide)
  have hP := ha.grown hg r1 r2 r3
  have hX' : w'.heap[X]? = some (.cells #[.int .i64 S, .int .i64 N, .string name, .int .i64 0, .int .i64 0, sv] 40 (0, 0)) := (hg.block X (Array.getElem?_eq_some_iff.1 pa.hX).1 (fun e => pa.neX e.symm)).trans pa.hX
  have hRne : sv.ownBlock ≠ some R := own_ne pa.own pa.hR (by unfold zPart; intro cs fr hc; injection hc with _ h2 _; exact absurd h2 (by decide))
  have hR' : w'.heap[R]? = some zPart := (hg.block R (Array.getElem?_eq_some_iff.1 pa.hR).1 (fun e => hRne e.symm)).trans pa.hR
  have hnX' : sv'.ownBlock ≠ some X := own_ne hown hX' (by intro cs fr hc; injection hc with _ h2 _; exact absurd h2 (by decide))
  refine ⟨⟨?_, (Below.heap_setCell _ _ _ _ p.hRX).trans hR', ?_, ?_, p.hB, p.hBR, p.hRX, p.hBX, p.nXY, p.nXM, p.nRY, p.nRM⟩, hP.elsewhere hX' (by decide) (by decide) 5 sv', hX'⟩
  · rw [Lib.heap_setCell_same hX']; rfl
  · exact own_step hown fun k hk => Below.heap_setCell _ _ _ _ (fun e => hnX' (by rw [hk, e]))
  · refine (pa.aw.grown hg fun k hk => ?_).setCell (p := ⟨X, 5, none⟩) (.inr (by rw [← p.hB]; exact p.hBX)) _
    rw [← p.hB]
    exact (pa.own.lt k hk).1
end

/-- How far the loop over the staves is. -/
inductive StaffSt (B0 R X Y M : Nat) (tv : Value) (toks : List Tok) (pos : Nat) (line col S N : Int) (n clk : Nat) (name : ByteArray) (w0 : World) (g : Nat) (w : World) : Prop
  | on (i : Nat) (sv : Value) (hi : i ≤ n) (hN : N + i ≤ 1073741824) (hg : n - i < g) (p : PartAt B0 R X Y M S N name sv i (staffCells S N i) w0 w) (hS : Prs Y M tv toks (pos + 2 * i) line col 0 false S (N + i) (entry S (N + i) clk) (clk + 1) w)
  | failed (i : Nat) (tb : Tok) (sv : Value) (xs : List Value) (pos' j : Nat) (hi : i < n) (hN : N + i = 1073741824) (htb : toks[pos + 2 * i + 1]? = some tb) (p : PartAt B0 R X Y M S N name sv j xs w0 w)
      (hS : Prs Y M tv toks pos' 1 tb.col 9 false S (N + i) (entry S (N + i) clk) (clk + 1) w)
end Go.Proofs.YtaimdnddmddbnaaGreatDoor
