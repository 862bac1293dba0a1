/-
  A part of the proof that the law PrinterEvents (chapter 20) returns true for every event: walks of the program's functions, and runs of them in the kernel by the own evaluator.
-/
import Derived.Test.YtholnnabakaliaaGreatDoorPcg
import Derived.Deep.Cut
import Derived.Deep.CutRange
namespace Go.Proofs.YtholnnabakaliaaGreatDoor
open Go.RowKit

theorem Tryz.sizeHead : (Tryz.prog.info? 46).map (·.size) = some 5 := by kernel_rfl

def zHead : Obj := .cells #[.int .i64 0, .int .i64 0, .int .i64 0, .bool false, .int .i64 0] 46 (0, 0)
/-- The cells of a block of five. -/
theorem five_cells {w : World} {X : Nat} {c0 c1 c2 c3 c4 : Value} {T : TypeId} (h : w.heap[X]? = some (.cells #[c0, c1, c2, c3, c4] T (0, 0))) :
    (w.cell? ⟨X, 0, none⟩ = some c0 ∧ w.cell? ⟨X, 1, none⟩ = some c1 ∧ w.cell? ⟨X, 2, none⟩ = some c2 ∧ w.cell? ⟨X, 3, none⟩ = some c3 ∧ w.cell? ⟨X, 4, none⟩ = some c4) ∧
    (w.frozen? ⟨X, 0, none⟩ = false ∧ w.frozen? ⟨X, 1, none⟩ = false ∧ w.frozen? ⟨X, 2, none⟩ = false ∧ w.frozen? ⟨X, 3, none⟩ = false ∧ w.frozen? ⟨X, 4, none⟩ = false) := by
  refine ⟨⟨?_, ?_, ?_, ?_, ?_⟩, Lib.frozen_of_heap h 0, Lib.frozen_of_heap h 1, Lib.frozen_of_heap h 2, Lib.frozen_of_heap h 3, Lib.frozen_of_heap h 4⟩ <;> (rw [Lib.cell_of_heap h]; rfl)

def fill5 (w : World) (X : Nat) (v0 v1 v2 v3 v4 : Value) : World :=
  ((((w.setCell ⟨X, 0, none⟩ v0).setCell ⟨X, 1, none⟩ v1).setCell ⟨X, 2, none⟩ v2).setCell ⟨X, 3, none⟩ v3).setCell ⟨X, 4, none⟩ v4

theorem fill5_other (w : World) (X : Nat) (v0 v1 v2 v3 v4 : Value) (k : Nat) (hk : k ≠ X) : (fill5 w X v0 v1 v2 v3 v4).heap[k]? = w.heap[k]? := by
  unfold fill5
  rw [Below.heap_setCell _ ⟨X, 4, none⟩ _ k hk, Below.heap_setCell _ ⟨X, 3, none⟩ _ k hk, Below.heap_setCell _ ⟨X, 2, none⟩ _ k hk, Below.heap_setCell _ ⟨X, 1, none⟩ _ k hk, Below.heap_setCell _ ⟨X, 0, none⟩ _ k hk]
theorem fill5_self {w : World} {X : Nat} {c0 c1 c2 c3 c4 : Value} {T : TypeId} (v0 v1 v2 v3 v4 : Value) (h : w.heap[X]? = some (.cells #[c0, c1, c2, c3, c4] T (0, 0))) : (fill5 w X v0 v1 v2 v3 v4).heap[X]? = some (.cells #[v0, v1, v2, v3, v4] T (0, 0)) := by
  unfold fill5
  have := Lib.heap_setCell_same (i := 4) (Lib.heap_setCell_same (i := 3) (Lib.heap_setCell_same (i := 2) (Lib.heap_setCell_same (i := 1) (Lib.heap_setCell_same (i := 0) h v0) v1) v2) v3) v4
  rw [this]; rfl
theorem fill5_away {bs : List Nat} {a w : World} {X : Nat} (h : Away bs a w) (hX : a.heap.size ≤ X) (v0 v1 v2 v3 v4 : Value) : Away bs a (fill5 w X v0 v1 v2 v3 v4) :=
  ((((h.setCell (p := ⟨X, 0, none⟩) (.inr hX) v0).setCell (p := ⟨X, 1, none⟩) (.inr hX) v1).setCell (p := ⟨X, 2, none⟩) (.inr hX) v2).setCell (p := ⟨X, 3, none⟩) (.inr hX) v3).setCell (p := ⟨X, 4, none⟩) (.inr hX) v4

section
variable {Y M : Nat} {tv : Value} {toks : List Tok} {pos : Nat} {line col e : Int} {free : Bool} {ls ln : Int} {es : Array MapEntry} {clk : Nat} {w : World} {t : Tok}

theorem Prs.fill5 (h : Prs Y M tv toks pos line col e free ls ln es clk w) {X : Nat} {c0 c1 c2 c3 c4 : Value} {T : TypeId} (v0 v1 v2 v3 v4 : Value) (hk : w.heap[X]? = some (.cells #[c0, c1, c2, c3, c4] T (0, 0))) (hT : T ≠ 85) (hT2 : T ≠ 100) :
    Prs Y M tv toks pos line col e free ls ln es clk (fill5 w X v0 v1 v2 v3 v4) :=
  ((((h.elsewhere hk hT hT2 0 v0).elsewhere (Lib.heap_setCell_same hk _) hT hT2 1 v1).elsewhere (Lib.heap_setCell_same (Lib.heap_setCell_same hk _) _) hT hT2 2 v2).elsewhere (Lib.heap_setCell_same (Lib.heap_setCell_same (Lib.heap_setCell_same hk _) _) _) hT hT2 3 v3).elsewhere (Lib.heap_setCell_same (Lib.heap_setCell_same (Lib.heap_setCell_same (Lib.heap_setCell_same hk _) _) _) _) hT hT2 4 v4

/-- accept, whichever the next token is. -/
theorem accept_gen (h : Prs Y M tv toks pos line col 0 free ls ln es clk w) (ht : toks[pos]? = some t) (tx : ByteArray) {b : Bool} (hb : IsTok t tx = b) {q : Nat} (hq : q = if b = true then pos + 1 else pos) (hpos : pos ≤ 1000000) :
    Calls Tryz.prog 47 #[.pointer (some ⟨Y, 0, none⟩), .string tx] w fun r w' => r = .returned (.bool b) ∧ Prs Y M tv toks q line col 0 free ls ln es clk w' ∧ Away [Y] w w' := by
  cases b with
  | true =>
    subst hq
    exact accept_yes h ht tx hb (by omega)
  | false =>
    subst hq
    refine (accept_no h ht tx hb).mono ?_
    rintro r w' ⟨rfl, hw⟩
    exact ⟨rfl, h.step hw, Away.of_below hw⟩

/-- What may stand behind a head. -/
structure NoHead (tn : Tok) : Prop where
  j : Joins true (signsL.map mk) tn = false
  a : IsTok tn ⟨#[126]⟩ = false
  b : IsTok tn ⟨#[33]⟩ = false
  c : IsTok tn ⟨#[63]⟩ = false

theorem head_toks {x : HeadV} (hx : HeadOk x) {bl : List UInt8} (hA : At toks pos (headPs bl x)) {tn : Tok} (htn : toks[pos + (headPs bl x).length]? = some tn) (hn : NoHead tn) :
    ∃ t1 t2 : Tok, ∃ q1 q2 : Nat, At toks pos (pitchPs bl x.p) ∧ q1 = pos + (pitchPs bl x.p).length ∧ toks[q1]? = some t1 ∧ Joins true (signsL.map mk) t1 = false ∧ IsTok t1 ⟨#[126]⟩ = x.tied ∧ q2 = (if x.tied = true then q1 + 1 else q1) ∧ toks[q2]? = some t2 ∧
      IsTok t2 ⟨#[33]⟩ = decide (x.sh = 1) ∧ IsTok t2 ⟨#[63]⟩ = decide (x.sh = 2) ∧ pos + (headPs bl x).length = (if x.sh = 0 then q2 else q2 + 1) := by
  have hs := hx.2
  have hJ : ∀ {c : UInt8} {t : Tok}, IsOf (symP [] c) t → Joins true (signsL.map mk) t = JoinsP true signsL (symP [] c) := fun h => joins_of h true signsL
  have hT : ∀ {c d : UInt8} {t : Tok}, IsOf (symP [] c) t → IsTok t ⟨#[d]⟩ = decide (([c] : List UInt8) = [d]) := fun {c d t} h => by
    have := isTok_of h [d]
    exact this.trans (by simp [symP])
  unfold headPs at hA htn ⊢
  rw [List.append_assoc] at hA htn ⊢
  have hP := hA.left
  have hR := hA.right
  rw [List.length_append, ← Nat.add_assoc] at htn ⊢
  generalize pos + (pitchPs bl x.p).length = q1 at hR htn ⊢
  cases htd : x.tied with
  | false =>
    rw [htd] at hR htn
    simp only [Bool.false_eq_true, if_false, List.nil_append] at hR htn ⊢
    rcases hs with hs | hs | hs
    · simp only [hs, Int.reduceEq, if_false, List.length_nil, Nat.add_zero, if_true] at htn ⊢
      exact ⟨tn, tn, q1, q1, hP, rfl, htn, hn.j, hn.a, rfl, htn, by rw [hn.b]; rfl, by rw [hn.c]; rfl, rfl⟩
    · simp only [hs, Int.reduceEq, if_false, if_true] at hR htn ⊢
      obtain ⟨t, ht, hi⟩ := hR.first
      exact ⟨t, t, q1, q1, hP, rfl, ht, (hJ hi).trans (by decide), (hT hi).trans (by decide), rfl, ht, (hT hi).trans (by decide), (hT hi).trans (by decide), rfl⟩
    · simp only [hs, Int.reduceEq, if_false, if_true] at hR htn ⊢
      obtain ⟨t, ht, hi⟩ := hR.first
      exact ⟨t, t, q1, q1, hP, rfl, ht, (hJ hi).trans (by decide), (hT hi).trans (by decide), rfl, ht, (hT hi).trans (by decide), (hT hi).trans (by decide), rfl⟩
  | true =>
    rw [htd] at hR htn
    simp only [if_true, List.cons_append, List.nil_append] at hR htn ⊢
    obtain ⟨t1, ht1, hi1⟩ := hR.first
    rcases hs with hs | hs | hs
    · simp only [hs, Int.reduceEq, if_false, List.length_cons, List.length_nil, if_true] at htn ⊢
      exact ⟨t1, tn, q1, q1 + 1, hP, rfl, ht1, (hJ hi1).trans (by decide), (hT hi1).trans (by decide), rfl, htn, by rw [hn.b]; rfl, by rw [hn.c]; rfl, rfl⟩
    · simp only [hs, Int.reduceEq, if_false, if_true] at hR htn ⊢
      obtain ⟨t, ht, hi⟩ := hR.rest.first
      exact ⟨t1, t, q1, q1 + 1, hP, rfl, ht1, (hJ hi1).trans (by decide), (hT hi1).trans (by decide), rfl, ht, (hT hi).trans (by decide), (hT hi).trans (by decide), rfl⟩
    · simp only [hs, Int.reduceEq, if_false, if_true] at hR htn ⊢
      obtain ⟨t, ht, hi⟩ := hR.rest.first
      exact ⟨t1, t, q1, q1 + 1, hP, rfl, ht1, (hJ hi1).trans (by decide), (hT hi1).trans (by decide), rfl, ht, (hT hi).trans (by decide), (hT hi).trans (by decide), rfl⟩

set_option maxHeartbeats 16000000 in
set_option maxRecDepth 100000 in
theorem head_at (h : Prs Y M tv toks pos line col 0 free ls ln es clk w) {x : HeadV} (hx : HeadOk x) {bl : List UInt8} (hA : At toks pos (headPs bl x)) {tn : Tok} (htn : toks[pos + (headPs bl x).length]? = some tn) (hn : NoHead tn) (hpos : pos + (headPs bl x).length ≤ 1000000) {b : Nat} (T : Tabs b w) :
    Calls Tryz.prog 52 #[.pointer (some ⟨Y, 0, none⟩)] w fun r w' => r = .returned (.agg x.cells) ∧ Prs Y M tv toks (pos + (headPs bl x).length) line col 0 free ls ln es clk w' ∧ Away [Y] w w' := by
  obtain ⟨t1, t2, q1, q2, hP, e1, ht1, hj1, hb1, e2, ht2, hb2, hb3, e3⟩ := head_toks hx hA htn hn
  have hsh := hx.2
  have l1 : q1 ≤ 1000000 := by rw [e3] at hpos; split at hpos <;> (split at e2 <;> omega)
  have l2 : q2 ≤ 1000000 := by rw [e3] at hpos; split at hpos <;> omega
  have hpi : ∀ w', Below w.heap.size w w' → Calls Tryz.prog 74 #[.pointer (some ⟨Y, 0, none⟩)] w' fun r w'' => r = .returned (.agg #[.int .i64 x.p.st, .int .i64 x.p.al, .int .i64 x.p.oc]) ∧ Prs Y M tv toks q1 line col 0 free ls ln es clk w'' ∧ Away [Y] w' w'' :=
    fun w' b => by
      rw [e1]
      exact pitch_at (h.step b) (by omega) hx.1 hP (by rw [← e1]; exact ht1) hj1 (T.step b)
  have ht1' : ∀ w', Prs Y M tv toks q1 line col 0 free ls ln es clk w' → Calls Tryz.prog 47 #[.pointer (some ⟨Y, 0, none⟩), .string ⟨#[126]⟩] w' fun r w'' => r = .returned (.bool x.tied) ∧ Prs Y M tv toks q2 line col 0 free ls ln es clk w'' ∧ Away [Y] w' w'' := fun w' h' => accept_gen h' ht1 _ hb1 e2 l1
  have ht2' : ∀ w', Prs Y M tv toks q2 line col 0 free ls ln es clk w' → Calls Tryz.prog 47 #[.pointer (some ⟨Y, 0, none⟩), .string ⟨#[33]⟩] w' fun r w'' => r = .returned (.bool (decide (x.sh = 1))) ∧ Prs Y M tv toks (if x.sh = 1 then q2 + 1 else q2) line col 0 free ls ln es clk w'' ∧ Away [Y] w' w'' := fun w' h' => accept_gen h' ht2 _ hb2 (by simp) l2
  have ht3' : ∀ w', Prs Y M tv toks q2 line col 0 free ls ln es clk w' → Calls Tryz.prog 47 #[.pointer (some ⟨Y, 0, none⟩), .string ⟨#[63]⟩] w' fun r w'' => r = .returned (.bool (decide (x.sh = 2))) ∧ Prs Y M tv toks (if x.sh = 2 then q2 + 1 else q2) line col 0 free ls ln es clk w'' ∧ Away [Y] w' w'' := fun w' h' => accept_gen h' ht2 _ hb3 (by simp) l2
  have lY := h.lt
  rw [e3]
  clear hA htn hn hpos T hx hP e1 ht1 hj1 hb1 e2 ht2 hb2 hb3 e3 l1 l2 h
  obtain ⟨⟨st, al, oc⟩, td, sh⟩ := x
  simp only [HeadV.cells] at hsh hpi ht1' ht2' ht3' ⊢
  go_enter Tryz.func52, Tryz.ntmps52
  go_wp2
  have hR0 := heap_alloc_new w (.cells #[.int .i64 0, .int .i64 0, .int .i64 0, .bool false, .int .i64 0] 46)
  have b0 := (Below.refl w.heap.size w).alloc (Nat.le_refl _) (.cells #[.int .i64 0, .int .i64 0, .int .i64 0, .bool false, .int .i64 0] 46)
  have hX1 : (((w.alloc zHead).drew).alloc zHead).heap[w.heap.size + 1]? = some zHead := by
    have := heap_alloc_new ((w.alloc zHead).drew) zHead
    simpa using this
  have hR0Y : w.heap.size ∉ [Y] := by simp; omega
  have hX1Y : w.heap.size + 1 ∉ [Y] := by simp; omega
  have hmem : ∀ w' : World, Away [Y] (((w.alloc zHead).drew).alloc zHead) w' → w'.heap[w.heap.size + 1]? = some zHead := fun w' ha => ha.heap hX1 hX1Y
  have hmem2 : ∀ w1 w' : World, Y < w1.heap.size → Away [Y] (w1.alloc zHead) w' → w'.heap[w1.heap.size]? = some zHead := fun w1 w' hy hb => hb.heap (heap_alloc_new w1 _) (by simp; omega)
  go_cut [3] from 4 (fun s3 wc => ∃ X, s3 = .pointer (some ⟨X, 0, none⟩) ∧ w.heap.size < X ∧ wc.heap[X]? = some (.cells #[.int .i64 st, .int .i64 al, .int .i64 oc, .bool td, .int .i64 0] 46 (0, 0)) ∧
      wc.heap[w.heap.size]? = some (.cells #[.int .i64 0, .int .i64 0, .int .i64 0, .bool false, .int .i64 0] 46 (0, 0)) ∧ Prs Y M tv toks q2 line col 0 free ls ln es clk wc ∧ Away [Y] w wc)
  case first =>
    go_region_held3 (fun _ => True) (trivial) (first
      | (go_at_call 74; refine (hpi _ (by first | exact b0.drew | exact b0.drew.alloc (by simp) _)).mono ?_; rintro r w1 ⟨rfl, hS, ha⟩; have lY1 := hS.lt; try have hx1 := hmem w1 ha)
      | (go_at_call 47; refine (ht1' _ (by first | exact hS | exact hS.step ((Below.refl _ _).alloc (Nat.le_refl _) _))).mono ?_; rintro r w2 ⟨rfl, hS2, a2⟩; (first | (have hx := a2.heap hx1 hX1Y; obtain ⟨⟨q0, q1, q2, q3, q4⟩, r0, r1, r2, r3, r4⟩ := five_cells hx) | (have hx := hmem2 _ _ lY1 a2; obtain ⟨⟨q0, q1, q2, q3, q4⟩, r0, r1, r2, r3, r4⟩ := five_cells hx) | skip)))
    · go_wp2
      go_meet
      case rel =>
        have aw := ((Away.of_below (bs := [Y]) b0.drew).trans ha).trans a2
        have hRw := a2.heap (ha.heap hR0 hR0Y) hR0Y
        have hl := (Array.getElem?_eq_some_iff.1 hRw).1
        exact ⟨w2.heap.size, rfl, hl, heap_alloc_new w2 _, (Lib.alloc_old w2 _ _ hl).trans hRw, hS2.step ((Below.refl _ _).alloc (Nat.le_refl _) _), aw.alloc _⟩
    · go_wp2
      go_meet
      case rel =>
        have aw := (((Away.of_below (bs := [Y]) b0.drew).trans ha).alloc zHead).trans a2
        have hR1 := ha.heap hR0 hR0Y
        have hl := (Array.getElem?_eq_some_iff.1 hR1).1
        have hRw := a2.heap ((Lib.alloc_old w1 zHead _ hl).trans hR1) hR0Y
        exact ⟨w1.heap.size, rfl, hl, fill5_self _ _ _ _ _ hx, (fill5_other w2 w1.heap.size _ _ _ _ _ _ (by omega)).trans hRw, hS2.fill5 _ _ _ _ _ hx (by decide) (by decide), fill5_away aw (by omega) _ _ _ _ _⟩
    · go_wp2
      go_meet
      case rel =>
        have aw := ((Away.of_below (bs := [Y]) (b0.drew.alloc (by simp) zHead)).trans ha).trans a2
        have hR1 := ha.heap ((Lib.alloc_old (w.alloc zHead).drew zHead w.heap.size (by simp)).trans hR0) hR0Y
        have hRw := a2.heap hR1 hR0Y
        exact ⟨w.heap.size + 1, rfl, by omega, fill5_self _ _ _ _ _ hx, (fill5_other w2 (w.heap.size + 1) _ _ _ _ _ _ (by omega)).trans hRw, hS2.fill5 _ _ _ _ _ hx (by decide) (by decide), fill5_away aw (by omega) _ _ _ _ _⟩
  case rest =>
    obtain ⟨X, rfl, hRX, hX, hR, hS, aw⟩ := hcut
    have hXY : X ∉ [Y] := by simp; omega
    have x2 := ht2' _ hS
    clear hpi ht1' ht2' hR0 b0 hX1 hX1Y hmem hmem2
    rcases hsh with rfl | rfl | rfl
    · go_wp2_with (go_at_call 47; refine x2.mono ?_)
      intro r w3; first | (intro he3 hS3 a3; subst he3) | rintro ⟨rfl, hS3, a3⟩
      try simp only [Int.reduceEq, if_false] at hS3
      have x3 := ht3' _ hS3
      have hX3 := a3.heap hX hXY
      have hR3 := a3.heap hR hR0Y
      have aw3 := aw.trans a3
      clear x2 hS hX hR aw a3 ht3'
      go_wp2_with (go_at_call 47; refine x3.mono ?_)
      intro r w4; first | (intro he4 hS4 a4; subst he4) | rintro ⟨rfl, hS4, a4⟩
      try simp only [Int.reduceEq, if_false] at hS4
      have hX4 := a4.heap hX3 hXY
      have hR4 := a4.heap hR3 hR0Y
      have aw4 := aw3.trans a4
      clear x3 hS3 hX3 hR3 aw3 a4
      obtain ⟨⟨p0, p1, p2, p3, p4⟩, -⟩ := five_cells hX4
      obtain ⟨⟨z0, z1, z2, z3, z4⟩, r0, r1, r2, r3, r4⟩ := five_cells hR4
      have hXR : X ≠ w.heap.size := by omega
      go_wp2
      have hf := fill5_self (.int .i64 st) (.int .i64 al) (.int .i64 oc) (.bool td) (.int .i64 0) hR4
      refine bodyPost_ret (results_cell_row rfl _ _ w.heap.size 46 _ (0, 0) _ rfl hf Tryz.underlying46 rfl Tryz.sizeHead) rfl ?_
      exact ⟨rfl, hS4.fill5 _ _ _ _ _ hR4 (by decide) (by decide), fill5_away aw4 (Nat.le_refl _) _ _ _ _ _⟩
    · go_wp2_with (go_at_call 47; refine x2.mono ?_)
      intro r w3; first | (intro he3 hS3 a3; subst he3) | rintro ⟨rfl, hS3, a3⟩
      try simp only [if_true] at hS3
      have hX3 := a3.heap hX hXY
      have hR3 := a3.heap hR hR0Y
      have aw3 := aw.trans a3
      clear x2 hS hX hR aw a3 ht3'
      obtain ⟨⟨p0, p1, p2, p3, p4⟩, f0, f1, f2, f3, f4⟩ := five_cells hX3
      obtain ⟨⟨z0, z1, z2, z3, z4⟩, r0, r1, r2, r3, r4⟩ := five_cells hR3
      have hXR : X ≠ w.heap.size := by omega
      have hRX' : w.heap.size ≠ X := by omega
      go_wp2
      have hR4 := (Below.heap_setCell w3 ⟨X, 4, none⟩ (.int .i64 1) w.heap.size hRX').trans hR3
      have hS4 := hS3.elsewhere hX3 (by decide) (by decide) 4 (.int .i64 1)
      have aw4 := aw3.setCell (p := ⟨X, 4, none⟩) (.inr (by show w.heap.size ≤ X; omega)) (.int .i64 1)
      have hf := fill5_self (.int .i64 st) (.int .i64 al) (.int .i64 oc) (.bool td) (.int .i64 1) hR4
      refine bodyPost_ret (results_cell_row rfl _ _ w.heap.size 46 _ (0, 0) _ rfl hf Tryz.underlying46 rfl Tryz.sizeHead) rfl ?_
      exact ⟨rfl, hS4.fill5 _ _ _ _ _ hR4 (by decide) (by decide), fill5_away aw4 (Nat.le_refl _) _ _ _ _ _⟩
    · go_wp2_with (go_at_call 47; refine x2.mono ?_)
      intro r w3; first | (intro he3 hS3 a3; subst he3) | rintro ⟨rfl, hS3, a3⟩
      try simp only [Int.reduceEq, if_false] at hS3
      have x3 := ht3' _ hS3
      have hX3 := a3.heap hX hXY
      have hR3 := a3.heap hR hR0Y
      have aw3 := aw.trans a3
      clear x2 hS hX hR aw a3 ht3'
      go_wp2_with (go_at_call 47; refine x3.mono ?_)
      intro r w4; first | (intro he4 hS4 a4; subst he4) | rintro ⟨rfl, hS4, a4⟩
      try simp only [if_true] at hS4
      have hX4 := a4.heap hX3 hXY
      have hR4 := a4.heap hR3 hR0Y
      have aw4 := aw3.trans a4
      clear x3 hS3 hX3 hR3 aw3 a4
      obtain ⟨⟨p0, p1, p2, p3, p4⟩, f0, f1, f2, f3, f4⟩ := five_cells hX4
      obtain ⟨⟨z0, z1, z2, z3, z4⟩, r0, r1, r2, r3, r4⟩ := five_cells hR4
      have hXR : X ≠ w.heap.size := by omega
      have hRX' : w.heap.size ≠ X := by omega
      go_wp2
      have hR5 := (Below.heap_setCell w4 ⟨X, 4, none⟩ (.int .i64 2) w.heap.size hRX').trans hR4
      have hS5 := hS4.elsewhere hX4 (by decide) (by decide) 4 (.int .i64 2)
      have aw5 := aw4.setCell (p := ⟨X, 4, none⟩) (.inr (by show w.heap.size ≤ X; omega)) (.int .i64 2)
      have hf := fill5_self (.int .i64 st) (.int .i64 al) (.int .i64 oc) (.bool td) (.int .i64 2) hR5
      refine bodyPost_ret (results_cell_row rfl _ _ w.heap.size 46 _ (0, 0) _ rfl hf Tryz.underlying46 rfl Tryz.sizeHead) rfl ?_
      exact ⟨rfl, hS5.fill5 _ _ _ _ _ hR5 (by decide) (by decide), fill5_away aw5 (Nat.le_refl _) _ _ _ _ _⟩
end
end Go.Proofs.YtholnnabakaliaaGreatDoor

namespace Go.Proofs.YtholnnabakaliaaGreatDoor
open Go.RowKit

theorem Tryz.sizeGrace : (Tryz.prog.info? 61).map (·.size) = some 5 := by kernel_rfl

theorem pow_cmp {k l : Int} (hk : 1 ≤ k) (hkl : k ≤ l) (hl : l ≤ 6) : (((2 : Int) ^ l.toNat != IntKind.i64.wrap (2 ^ k.toNat)) = decide (k ≠ l)) := by
  have h1 : k = 1 ∨ k = 2 ∨ k = 3 ∨ k = 4 ∨ k = 5 ∨ k = 6 := by omega
  have h2 : l = 1 ∨ l = 2 ∨ l = 3 ∨ l = 4 ∨ l = 5 ∨ l = 6 := by omega
  rcases h1 with rfl | rfl | rfl | rfl | rfl | rfl <;> rcases h2 with rfl | rfl | rfl | rfl | rfl | rfl <;> first | (exfalso; omega) | decide +kernel

section
variable {Y M : Nat} {tv : Value} {toks : List Tok} {pos : Nat} {line col e : Int} {free : Bool} {ls ln : Int} {es : Array MapEntry} {clk : Nat} {w : World} {t : Tok}

set_option maxRecDepth 100000 in
theorem word_slash : allP.all (fun p => decide (wordOfP p ≠ [47])) = true := by decide +kernel
theorem grace_toks {x : GraceV} (hx : GraceOk x) {bl : List UInt8} (hA : At toks pos (gracePs bl x)) :
    ∃ t0 tc tn : Tok, ∃ (q1 q2 : Nat) (bl' : List UInt8), toks[pos]? = some t0 ∧ IsTok t0 ⟨#[47]⟩ = x.sl ∧ q1 = (if x.sl = true then pos + 1 else pos) ∧ At toks q1 (pitchPs bl' x.p) ∧ q2 = q1 + (pitchPs bl' x.p).length ∧ toks[q2]? = some tc ∧
      Joins true (signsL.map mk) tc = false ∧ IsTok tc ⟨#[58]⟩ = true ∧ toks[q2 + 1]? = some tn ∧ tn.kind = 2 ∧ tn.value = 2 ^ x.lg.toNat ∧ pos + (gracePs bl x).length = q2 + 2 := by
  unfold gracePs at hA ⊢
  cases hs : x.sl with
  | false =>
    simp only [hs, Bool.false_eq_true, if_false] at hA ⊢
    obtain ⟨t0, ht0, hi0⟩ := hA.left.first
    obtain ⟨tc, htc, hic⟩ := hA.right.first
    obtain ⟨tn, htn, hin⟩ := hA.right.rest.first
    refine ⟨t0, tc, tn, pos, _, bl, ht0, ?_, rfl, hA.left, rfl, htc, (joins_of hic true signsL).trans (by decide), (isTok_of hic [58]).trans (by decide), htn, hin.1, hin.2.2.1, by rw [List.length_append]; rfl⟩
    have h1 := isTok_of hi0 [47]
    have h2 := of_decide_eq_true (List.all_eq_true.1 word_slash x.p (mem_allP hx.1))
    exact h1.trans (by simp [wordP, h2])
  | true =>
    simp only [hs, if_true] at hA ⊢
    obtain ⟨t0, ht0, hi0⟩ := hA.left.first
    obtain ⟨tc, htc, hic⟩ := hA.right.first
    obtain ⟨tn, htn, hin⟩ := hA.right.rest.first
    have e : pos + (symP bl 47 :: pitchPs [] x.p).length = pos + 1 + (pitchPs [] x.p).length := by rw [List.length_cons]; omega
    rw [e] at htc htn
    exact ⟨t0, tc, tn, pos + 1, _, [], ht0, (isTok_of hi0 [47]).trans (by simp [symP]), rfl, hA.left.rest, rfl, htc, (joins_of hic true signsL).trans (by decide), (isTok_of hic [58]).trans (by decide), htn, hin.1, hin.2.2.1, by rw [List.length_append, List.length_cons]; simp only [List.length_cons, List.length_nil]; omega⟩

set_option maxHeartbeats 16000000 in
set_option maxRecDepth 100000 in
theorem grace_at (h : Prs Y M tv toks pos line col 0 free ls ln es clk w) {x : GraceV} (hx : GraceOk x) {bl : List UInt8} (hA : At toks pos (gracePs bl x)) (hpos : pos + (gracePs bl x).length ≤ 1000000) {b : Nat} (T : Tabs b w) (hY : 7 ≤ Y) :
    Calls Tryz.prog 50 #[.pointer (some ⟨Y, 0, none⟩)] w fun r w' => r = .returned (.agg x.cells) ∧ Prs Y M tv toks (pos + (gracePs bl x).length) line col 0 free ls ln es clk w' ∧ Away [Y] w w' := by
  obtain ⟨t0, tc, tn, q1, q2, bl', ht0, hb0, e1, hP, e2, htc, hjc, hbc, htn, hkn, hvn, e3⟩ := grace_toks hx hA
  have l2 : q2 + 2 ≤ 1000000 := by omega
  have l1 : q1 ≤ 1000000 := by omega
  have l0 : pos ≤ 1000000 := by omega
  have lY := h.lt
  have hac : ∀ w', Prs Y M tv toks pos line col 0 free ls ln es clk w' → Calls Tryz.prog 47 #[.pointer (some ⟨Y, 0, none⟩), .string ⟨#[47]⟩] w' fun r w'' => r = .returned (.bool x.sl) ∧ Prs Y M tv toks q1 line col 0 free ls ln es clk w'' ∧ Away [Y] w' w'' := fun w' h' => accept_gen h' ht0 _ hb0 e1 l0
  have hpi : ∀ w', Prs Y M tv toks q1 line col 0 free ls ln es clk w' → Tabs b w' → Calls Tryz.prog 74 #[.pointer (some ⟨Y, 0, none⟩)] w' fun r w'' => r = .returned (.agg #[.int .i64 x.p.st, .int .i64 x.p.al, .int .i64 x.p.oc]) ∧ Prs Y M tv toks q2 line col 0 free ls ln es clk w'' ∧ Away [Y] w' w'' :=
    fun w' h' T' => by rw [e2]; exact pitch_at h' l1 hx.1 hP (by rw [← e2]; exact htc) hjc T'
  have hex : ∀ w', Prs Y M tv toks q2 line col 0 free ls ln es clk w' → Calls Tryz.prog 48 #[.pointer (some ⟨Y, 0, none⟩), .string ⟨#[58]⟩] w' fun r w'' => r = .returned (.tuple #[]) ∧ Prs Y M tv toks (q2 + 1) line col 0 free ls ln es clk w'' ∧ Away [Y] w' w'' := fun w' h' => expect_yes h' htc _ hbc (by omega)
  have hpk : ∀ w', Prs Y M tv toks (q2 + 1) line col 0 free ls ln es clk w' → Calls Tryz.prog 56 #[.pointer (some ⟨Y, 0, none⟩)] w' fun r w'' => r = .returned (.agg #[.int .i64 2, .string tn.text, .int .i64 (2 ^ x.lg.toNat), .string tn.bytes, .int .i64 tn.line, .int .i64 tn.col, .bool tn.joined]) ∧ Below w'.heap.size w' w'' := fun w' h' => by
    have := peek_ok h' htn
    rw [hkn, hvn] at this
    exact this
  have hg1 := hx.2.1
  obtain ⟨V, hV⟩ : ∃ V : Int, V = 2 ^ x.lg.toNat := ⟨_, rfl⟩
  have HV := shut hV
  rw [← hV] at hpk
  clear hV
  have hg6 := hx.2.2
  rw [e3]
  clear hA hP e1 hb0 ht0 e2 htc hjc hbc htn hkn hvn e3 hx l0 l1 hpos
  obtain ⟨⟨st, al, oc⟩, lg, sl⟩ := x
  simp only [GraceV.cells] at hac hpi hpk hg1 hg6 HV ⊢
  have b0 := (Below.refl w.heap.size w).alloc (Nat.le_refl _) (.cells #[.int .i64 0, .int .i64 0, .int .i64 0, .int .i64 0, .bool false] 61)
  have hR0 := heap_alloc_new w (.cells #[.int .i64 0, .int .i64 0, .int .i64 0, .int .i64 0, .bool false] 61)
  have hRY : w.heap.size ∉ [Y] := by simp; omega
  have x1 := hac _ (h.step b0)
  go_enter Tryz.func50, Tryz.ntmps50
  go_wp2_with (go_at_call 47; refine x1.mono ?_)
  intro r w1; first | (intro he hS1 a1; subst he) | rintro ⟨rfl, hS1, a1⟩
  have aw1 := (Away.of_below (bs := [Y]) b0).trans a1
  have hR1 := a1.heap hR0 hRY
  have x2 := hpi _ hS1 (T.away aw1 (by simp; omega))
  clear x1 hac hpi h b0 hR0 hS1 a1 T
  go_wp2_with (go_at_call 74; refine x2.mono ?_)
  intro r w2; first | (intro he hS2 a2; subst he) | rintro ⟨rfl, hS2, a2⟩
  have aw2 := aw1.trans a2
  have hR2 := a2.heap hR1 hRY
  have lR2 := (Array.getElem?_eq_some_iff.1 hR2).1
  have x3 := hex _ (hS2.step ((Below.refl _ w2).alloc (Nat.le_refl _) (.cells #[.int .i64 st, .int .i64 al, .int .i64 oc, .int .i64 0, .bool sl] 61)))
  have hX2 := heap_alloc_new w2 (.cells #[.int .i64 st, .int .i64 al, .int .i64 oc, .int .i64 0, .bool sl] 61)
  have hR2' := (Lib.alloc_old w2 (.cells #[.int .i64 st, .int .i64 al, .int .i64 oc, .int .i64 0, .bool sl] 61) _ lR2).trans hR2
  have aw2' := aw2.alloc (.cells #[.int .i64 st, .int .i64 al, .int .i64 oc, .int .i64 0, .bool sl] 61)
  have lY2 := hS2.lt
  have hXY : w2.heap.size ∉ [Y] := by simp; omega
  have sz2 := aw2.size
  clear x2 hex hR1 hS2 a2 aw1 aw2
  go_wp2_with (go_at_call 48; refine x3.mono ?_)
  intro r w3; first | (intro he hS3 a3; subst he) | rintro ⟨rfl, hS3, a3⟩
  have hX3 := a3.heap hX2 hXY
  have hR3 := a3.heap hR2' hRY
  have aw3 := aw2'.trans a3
  have x4 := hpk _ hS3
  generalize hXe : w2.heap.size = X at hX3 hXY lR2 lY2 sz2 ⊢
  clear x3 hpk hX2 hR2' hR2 aw2' a3 hXe
  go_wp2_with (go_at_call 56; refine x4.mono ?_)
  intro r w4; first | (intro he b4; subst he) | rintro ⟨rfl, b4⟩
  have hS4 := (hS3.step b4).step ((Below.refl _ w4).alloc (Nat.le_refl _) (.cells #[.int .i64 2, .string tn.text, .int .i64 V, .string tn.bytes, .int .i64 tn.line, .int .i64 tn.col, .bool tn.joined] 100))
  have lX3 := (Array.getElem?_eq_some_iff.1 hX3).1
  have lR3 := (Array.getElem?_eq_some_iff.1 hR3).1
  have sz4 := b4.size
  have hX4 := (Lib.alloc_old w4 (.cells #[.int .i64 2, .string tn.text, .int .i64 V, .string tn.bytes, .int .i64 tn.line, .int .i64 tn.col, .bool tn.joined] 100) _ (Nat.lt_of_lt_of_le lX3 sz4)).trans ((b4.block _ lX3).trans hX3)
  have hR4 := (Lib.alloc_old w4 (.cells #[.int .i64 2, .string tn.text, .int .i64 V, .string tn.bytes, .int .i64 tn.line, .int .i64 tn.col, .bool tn.joined] 100) _ (Nat.lt_of_lt_of_le lR3 sz4)).trans ((b4.block _ lR3).trans hR3)
  have hP4 := heap_alloc_new w4 (.cells #[.int .i64 2, .string tn.text, .int .i64 V, .string tn.bytes, .int .i64 tn.line, .int .i64 tn.col, .bool tn.joined] 100)
  have aw4 := (aw3.step b4).alloc (.cells #[.int .i64 2, .string tn.text, .int .i64 V, .string tn.bytes, .int .i64 tn.line, .int .i64 tn.col, .bool tn.joined] 100)
  have hXP : X ≠ w4.heap.size := by omega
  have hPX : w4.heap.size ≠ X := by omega
  have hXR : X ≠ w.heap.size := by omega
  have hRX : w.heap.size ≠ X := by omega
  clear x4 hS3 hX3 hR3 aw3 b4 lX3 lR3
  go_upto_region 7 with (fail)
  generalize w4.heap.size = P at hP4 hXP hPX sz4 ⊢
  generalize w4.alloc (.cells #[.int .i64 2, .string tn.text, .int .i64 V, .string tn.bytes, .int .i64 tn.line, .int .i64 tn.col, .bool tn.joined] 100) = w5 at hS4 hX4 hR4 hP4 aw4 ⊢
  obtain ⟨⟨y0, y1, y2, y3, y4⟩, g0, g1, g2, g3, g4⟩ := five_cells hX4
  have hS5 := hS4.elsewhere hX4 (by decide) (by decide) 3 (.int .i64 1)
  have hX5 : (w5.setCell ⟨X, 3, none⟩ (.int .i64 1)).heap[X]? = some (.cells #[.int .i64 st, .int .i64 al, .int .i64 oc, .int .i64 1, .bool sl] 61 (0, 0)) := by rw [Lib.heap_setCell_same (i := 3) hX4 (.int .i64 1)]; rfl
  have hR5 := (Below.heap_setCell w5 ⟨X, 3, none⟩ (.int .i64 1) w.heap.size hRX).trans hR4
  have hP5 := (Below.heap_setCell w5 ⟨X, 3, none⟩ (.int .i64 1) P hPX).trans hP4
  have aw5 := aw4.setCell (p := ⟨X, 3, none⟩) (.inr (by show w.heap.size ≤ X; omega)) (.int .i64 1)
  go_wp2
  go_loopg [] (lg - 1).toNat (fun g wr => ∃ k : Int, 1 ≤ k ∧ k ≤ lg ∧ g = (lg - k).toNat ∧ wr.heap[X]? = some (.cells #[.int .i64 st, .int .i64 al, .int .i64 oc, .int .i64 k, .bool sl] 61 (0, 0)) ∧
      wr.heap[w.heap.size]? = some (.cells #[.int .i64 0, .int .i64 0, .int .i64 0, .int .i64 0, .bool false] 61 (0, 0)) ∧ wr.heap[P]? = some (.cells #[.int .i64 2, .string tn.text, .int .i64 V, .string tn.bytes, .int .i64 tn.line, .int .i64 tn.col, .bool tn.joined] 100 (0, 0)) ∧
      Prs Y M tv toks (q2 + 1) line col 0 free ls ln es clk wr ∧ Away [Y] w wr)
  case atStart => exact ⟨1, by omega, hg1, rfl, hX5, hR5, hP5, hS5, aw5⟩
  case round =>
    obtain ⟨k, hk1, hkl, hg, hX, hR, hPr, hS, aw⟩ := hrel
    have hcmp := pow_cmp hk1 hkl hg6
    rw [← HV.out] at hcmp
    obtain ⟨⟨y0, y1, y2, y3, y4⟩, g0, g1, g2, g3, g4⟩ := five_cells hX
    have p2 : wr.cell? ⟨P, 2, none⟩ = some (.int .i64 V) := by rw [Lib.cell_of_heap hPr]; rfl
    have hk6 : k ≤ 6 := by omega
    have hk0 : 0 ≤ k := by omega
    by_cases hkk : k = lg
    · subst hkk
      have hc1 : (V != IntKind.i64.wrap (2 ^ k.toNat)) = false := by rw [hcmp]; simp
      have hc2 : V = IntKind.i64.wrap (2 ^ k.toNat) := by simpa using hc1
      have hc3 := hc2.symm
      clear hcmp hc2
      obtain ⟨⟨z0, z1, z2, z3, z4⟩, f0, f1, f2, f3, f4⟩ := five_cells hR
      have s1 := hS.step (Below.refl _ wr).drew
      have c1 := s1.c1
      have e1 := s1.fz 1
      have lYr := s1.lt
      have hw : IntKind.i64.wrap (((q2 + 1 : Nat) : Int) + 1) = ((q2 + 2 : Nat) : Int) := by rw [IntWalk.i64_in _ (by omega)]; omega
      go_wp2
      go_region_held3 (fun w' => w'.cell? ⟨X, 3, none⟩ = some (.int .i64 k) ∧ w'.cell? ⟨P, 2, none⟩ = some (.int .i64 V)) (go_keep) (fail)
      go_wp2
      have hS2 := hS.put (pos' := q2 + 2) (line' := line) (col' := col) (e' := 0) (ls' := ls) (ln' := ln) 1 (.int .i64 ((q2 : Int) + 1 + 1)) (fun h => h) (by rw [show ((q2 + 2 : Nat) : Int) = (q2 : Int) + 1 + 1 by omega]; rfl)
      have hYR : w.heap.size ≠ Y := by omega
      have hR6 := (Below.heap_setCell wr ⟨Y, 1, none⟩ (.int .i64 ((q2 : Int) + 1 + 1)) w.heap.size hYR).trans hR
      have aw6 := aw.setCell (p := ⟨Y, 1, none⟩) (.inl (by simp)) (.int .i64 ((q2 : Int) + 1 + 1))
      have hf := fill5_self (.int .i64 st) (.int .i64 al) (.int .i64 oc) (.int .i64 k) (.bool sl) hR6
      have hp := hS2.fill5 (.int .i64 st) (.int .i64 al) (.int .i64 oc) (.int .i64 k) (.bool sl) hR6 (by decide) (by decide)
      have ha := fill5_away aw6 (Nat.le_refl _) (.int .i64 st) (.int .i64 al) (.int .i64 oc) (.int .i64 k) (.bool sl)
      simp only [fill5] at hf hp ha
      generalize ((((((wr.setCell ⟨Y, 1, none⟩ (.int .i64 ((q2 : Int) + 1 + 1))).setCell ⟨w.heap.size, 0, none⟩ (.int .i64 st)).setCell ⟨w.heap.size, 1, none⟩ (.int .i64 al)).setCell ⟨w.heap.size, 2, none⟩ (.int .i64 oc)).setCell ⟨w.heap.size, 3, none⟩ (.int .i64 k)).setCell ⟨w.heap.size, 4, none⟩ (.bool sl)) = WF at hf hp ha ⊢
      have hf' : WF.drew.heap[w.heap.size]? = some (.cells #[.int .i64 st, .int .i64 al, .int .i64 oc, .int .i64 k, .bool sl] 61 (0, 0)) := hf
      refine bodyPost_ret (results_cell_row rfl _ _ w.heap.size 61 _ (0, 0) _ rfl hf' Tryz.underlying61 rfl Tryz.sizeGrace) rfl ?_
      exact ⟨rfl, hp.step (Below.refl _ _).drew, ha.drew⟩
    · have hc1 : (V != IntKind.i64.wrap (2 ^ k.toNat)) = true := by rw [hcmp]; simp [hkk]
      have hc2 : ¬ V = IntKind.i64.wrap (2 ^ k.toNat) := by simpa using hc1
      clear hcmp
      have m1 : IntKind.i64.wrap (k + 1) = k + 1 := IntWalk.i64_in _ (by omega)
      go_wp2
      go_region_held3 (fun w' => w'.cell? ⟨X, 3, none⟩ = some (.int .i64 k) ∧ w'.cell? ⟨P, 2, none⟩ = some (.int .i64 V)) (go_keep) (fail)
      go_wp2
      go_roundg (lg - (k + 1)).toNat
      case measure => omega
      case rel =>
        exact ⟨k + 1, by omega, by omega, rfl, by
          show (wr.setCell ⟨X, 3, none⟩ (.int .i64 (k + 1))).heap[X]? = _
          rw [Lib.heap_setCell_same (i := 3) hX (.int .i64 (k + 1))]; rfl, (Below.heap_setCell wr ⟨X, 3, none⟩ (.int .i64 (k + 1)) w.heap.size hRX).trans hR, (Below.heap_setCell wr ⟨X, 3, none⟩ (.int .i64 (k + 1)) P hPX).trans hPr,
          (hS.elsewhere hX (by decide) (by decide) 3 (.int .i64 (k + 1))).step (Below.refl _ _).drew, (aw.setCell (p := ⟨X, 3, none⟩) (.inr (by show w.heap.size ≤ X; omega)) (.int .i64 (k + 1))).drew⟩
end
end Go.Proofs.YtholnnabakaliaaGreatDoor
