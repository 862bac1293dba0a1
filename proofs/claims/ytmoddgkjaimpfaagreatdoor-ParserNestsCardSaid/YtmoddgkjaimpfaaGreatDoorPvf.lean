/-
  A part of the proof that the law ParserNests (chapter 19) returns true for every depth and every list of notes: walks of the program's functions, and runs of them in the kernel by the own evaluator.
-/
import Derived.Test.YtmoddgkjaimpfaaGreatDoorPvd
import Derived.Deep.Cut
import Derived.Deep.CutRange
namespace Go.Proofs.YtmoddgkjaimpfaaGreatDoor
open Go.RowKit

theorem Tryz.sizeHead : (Tryz.prog.info? 71).map (·.size) = some 5 := by kernel_rfl
theorem Away.step {bs : List Nat} {a w w' : World} (h : Away bs a w) (hb : Below w.heap.size w w') : Away bs a w' := h.trans (Away.of_below hb)

def zHead : Obj := .cells #[.int .i64 0, .int .i64 0, .int .i64 0, .bool false, .int .i64 0] 71 (0, 0)
/-- The cells of a block of five. -/
theorem five_cells {w : World} {X : Nat} {c0 c1 c2 c3 c4 : Value} {T : TypeId} (h : w.heap[X]? = some (.cells #[c0, c1, c2, c3, c4] T (0, 0))) :
    (w.cell? ⟨X, 0, none⟩ = some c0 ∧ w.cell? ⟨X, 1, none⟩ = some c1 ∧ w.cell? ⟨X, 2, none⟩ = some c2 ∧ w.cell? ⟨X, 3, none⟩ = some c3 ∧ w.cell? ⟨X, 4, none⟩ = some c4) ∧
    (w.frozen? ⟨X, 0, none⟩ = false ∧ w.frozen? ⟨X, 1, none⟩ = false ∧ w.frozen? ⟨X, 2, none⟩ = false ∧ w.frozen? ⟨X, 3, none⟩ = false ∧ w.frozen? ⟨X, 4, none⟩ = false) := by
  refine ⟨⟨?_, ?_, ?_, ?_, ?_⟩, Lib.frozen_of_heap h 0, Lib.frozen_of_heap h 1, Lib.frozen_of_heap h 2, Lib.frozen_of_heap h 3, Lib.frozen_of_heap h 4⟩ <;> (rw [Lib.cell_of_heap h]; rfl)

def fill5 (w : World) (X : Nat) (v0 v1 v2 v3 v4 : Value) : World :=
  ((((w.setCell ⟨X, 0, none⟩ v0).setCell ⟨X, 1, none⟩ v1).setCell ⟨X, 2, none⟩ v2).setCell ⟨X, 3, none⟩ v3).setCell ⟨X, 4, none⟩ v4

theorem fill5_other (w : World) (X : Nat) (v0 v1 v2 v3 v4 : Value) (k : Nat) (hk : k ≠ X) : (fill5 w X v0 v1 v2 v3 v4).heap[k]? = w.heap[k]? := by
  unfold fill5
  rw [Below.heap_setCell _ ⟨X, 4, none⟩ _ k hk, Below.heap_setCell _ ⟨X, 3, none⟩ _ k hk, Below.heap_setCell _ ⟨X, 2, none⟩ _ k hk, Below.heap_setCell _ ⟨X, 1, none⟩ _ k hk, Below.heap_setCell _ ⟨X, 0, none⟩ _ k hk]
theorem fill5_self {w : World} {X : Nat} {c0 c1 c2 c3 c4 : Value} {T : TypeId} (v0 v1 v2 v3 v4 : Value) (h : w.heap[X]? = some (.cells #[c0, c1, c2, c3, c4] T (0, 0))) : (fill5 w X v0 v1 v2 v3 v4).heap[X]? = some (.cells #[v0, v1, v2, v3, v4] T (0, 0)) := by
  unfold fill5
  have := Lib.heap_setCell_same (i := 4) (Lib.heap_setCell_same (i := 3) (Lib.heap_setCell_same (i := 2) (Lib.heap_setCell_same (i := 1) (Lib.heap_setCell_same (i := 0) h v0) v1) v2) v3) v4
  rw [this]; rfl
theorem fill5_away {bs : List Nat} {a w : World} {X : Nat} (h : Away bs a w) (hX : a.heap.size ≤ X) (v0 v1 v2 v3 v4 : Value) : Away bs a (fill5 w X v0 v1 v2 v3 v4) :=
  ((((h.setCell (p := ⟨X, 0, none⟩) (.inr hX) v0).setCell (p := ⟨X, 1, none⟩) (.inr hX) v1).setCell (p := ⟨X, 2, none⟩) (.inr hX) v2).setCell (p := ⟨X, 3, none⟩) (.inr hX) v3).setCell (p := ⟨X, 4, none⟩) (.inr hX) v4

def tildeS : ByteArray := ⟨#[126]⟩
def bangS : ByteArray := ⟨#[33]⟩
def askS : ByteArray := ⟨#[63]⟩

section
variable {Y M : Nat} {tv : Value} {toks : List Tok} {pos : Nat} {line col e : Int} {free : Bool} {ls ln : Int} {es : Array MapEntry} {clk : Nat} {w : World} {t : Tok}

theorem Prs.fill5 (h : Prs Y M tv toks pos line col e free ls ln es clk w) {X : Nat} {c0 c1 c2 c3 c4 : Value} {T : TypeId} (v0 v1 v2 v3 v4 : Value) (hk : w.heap[X]? = some (.cells #[c0, c1, c2, c3, c4] T (0, 0))) (hT : T ≠ 77) (hT2 : T ≠ 85) :
    Prs Y M tv toks pos line col e free ls ln es clk (fill5 w X v0 v1 v2 v3 v4) :=
  ((((h.elsewhere hk hT hT2 0 v0).elsewhere (Lib.heap_setCell_same hk _) hT hT2 1 v1).elsewhere (Lib.heap_setCell_same (Lib.heap_setCell_same hk _) _) hT hT2 2 v2).elsewhere (Lib.heap_setCell_same (Lib.heap_setCell_same (Lib.heap_setCell_same hk _) _) _) hT hT2 3 v3).elsewhere (Lib.heap_setCell_same (Lib.heap_setCell_same (Lib.heap_setCell_same (Lib.heap_setCell_same hk _) _) _) _) hT hT2 4 v4

set_option maxHeartbeats 16000000 in
set_option maxRecDepth 100000 in
theorem head_ok (h : Prs Y M tv toks pos line col 0 free ls ln es clk w) (hpos : pos ≤ 1048576) (ht : toks[pos]? = some t) (hk : t.kind = 1) {c : UInt8} (hx : t.text = noteS c) (hc : c = 67 ∨ c = 68 ∨ c = 69)
    {t1 : Tok} (ht1 : toks[pos + 1]? = some t1) (k1 : t1.kind = 4) (x1 : t1.text = ⟨#[58]⟩) :
    Calls Tryz.prog 32 #[.pointer (some ⟨Y, 0, none⟩)] w fun r w' => (∃ a : Int, r = .returned (.agg #[.int .i64 a, .int .i64 0, .int .i64 4, .bool false, .int .i64 0])) ∧ Prs Y M tv toks (pos + 1) line col 0 free ls ln es clk w' ∧ Away [Y] w w' := by
  have hpi : ∀ w', Below w.heap.size w w' → Calls Tryz.prog 54 #[.pointer (some ⟨Y, 0, none⟩)] w' fun r w'' => (∃ a : Int, r = .returned (.agg #[.int .i64 a, .int .i64 0, .int .i64 4])) ∧ Prs Y M tv toks (pos + 1) line col 0 free ls ln es clk w'' ∧ Away [Y] w' w'' :=
    fun w' b => pitch_ok (h.step b) hpos ht hk hx hc ht1 k1 x1
  have hno : ∀ tx : ByteArray, tx ≠ ⟨#[58]⟩ → IsTok t1 tx = false := fun tx hn => by simp [IsTok, k1, x1, Ne.symm hn]
  have hac : ∀ (tx : ByteArray), tx ≠ ⟨#[58]⟩ → ∀ w', Prs Y M tv toks (pos + 1) line col 0 free ls ln es clk w' → Calls Tryz.prog 28 #[.pointer (some ⟨Y, 0, none⟩), .string tx] w' fun r w'' => r = .returned (.bool false) ∧ Below w'.heap.size w' w'' :=
    fun tx hn w' h' => accept_no h' ht1 tx (hno tx hn)
  have ht1' := hac ⟨#[126]⟩ (by decide)
  have ht2' := hac ⟨#[33]⟩ (by decide)
  have ht3' := hac ⟨#[63]⟩ (by decide)
  have lY := h.lt
  clear hno hac ht ht1 hx hc
  go_enter Tryz.func32, Tryz.ntmps32
  go_wp2
  have hR0 := heap_alloc_new w (.cells #[.int .i64 0, .int .i64 0, .int .i64 0, .bool false, .int .i64 0] 71)
  have b0 := (Below.refl w.heap.size w).alloc (Nat.le_refl _) (.cells #[.int .i64 0, .int .i64 0, .int .i64 0, .bool false, .int .i64 0] 71)
  have hX1 : (((w.alloc zHead).drew).alloc zHead).heap[w.heap.size + 1]? = some zHead := by
    have := heap_alloc_new ((w.alloc zHead).drew) zHead
    simpa using this
  have hR0Y : w.heap.size ∉ [Y] := by simp; omega
  have hX1Y : w.heap.size + 1 ∉ [Y] := by simp; omega
  have hmem : ∀ w' : World, Away [Y] (((w.alloc zHead).drew).alloc zHead) w' → w'.heap[w.heap.size + 1]? = some zHead := fun w' ha => ha.heap hX1 hX1Y
  have hmem2 : ∀ w1 w' : World, Below (w1.alloc zHead).heap.size (w1.alloc zHead) w' → w'.heap[w1.heap.size]? = some zHead := fun w1 w' hb => (hb.block _ (by simp)).trans (heap_alloc_new w1 _)
  go_cut [3] from 4 (fun s3 wc => ∃ X a, s3 = .pointer (some ⟨X, 0, none⟩) ∧ w.heap.size < X ∧ wc.heap[X]? = some (.cells #[.int .i64 a, .int .i64 0, .int .i64 4, .bool false, .int .i64 0] 71 (0, 0)) ∧
      wc.heap[w.heap.size]? = some (.cells #[.int .i64 0, .int .i64 0, .int .i64 0, .bool false, .int .i64 0] 71 (0, 0)) ∧ Prs Y M tv toks (pos + 1) line col 0 free ls ln es clk wc ∧ Away [Y] w wc)
  case first =>
    go_region_held3 (fun _ => True) (trivial) (first
      | (go_at_call 54; refine (hpi _ (by first | exact b0.drew | exact b0.drew.alloc (by simp) _)).mono ?_; rintro r w1 ⟨⟨a, rfl⟩, hS, ha⟩; try have hx1 := hmem w1 ha)
      | (go_at_call 28; refine (ht1' _ (by first | exact hS | exact hS.step ((Below.refl _ _).alloc (Nat.le_refl _) _))).mono ?_; rintro r w2 ⟨rfl, b2⟩; (first | (have hx := (b2.block _ (Array.getElem?_eq_some_iff.1 hx1).1).trans hx1; obtain ⟨⟨q0, q1, q2, q3, q4⟩, r0, r1, r2, r3, r4⟩ := five_cells hx) | (have hx := hmem2 _ _ b2; obtain ⟨⟨q0, q1, q2, q3, q4⟩, r0, r1, r2, r3, r4⟩ := five_cells hx) | skip)))
    · go_wp2
      go_meet
      case rel =>
        have hS2 := hS.step b2
        have aw := ((Away.of_below (bs := [Y]) b0.drew).trans ha).step b2
        have hRw := (b2.block _ (Array.getElem?_eq_some_iff.1 (ha.heap hR0 hR0Y)).1).trans (ha.heap hR0 hR0Y)
        have hl := (Array.getElem?_eq_some_iff.1 hRw).1
        exact ⟨w2.heap.size, a, rfl, hl, heap_alloc_new w2 _, (Lib.alloc_old w2 _ _ hl).trans hRw, hS2.step ((Below.refl _ _).alloc (Nat.le_refl _) _), aw.alloc _⟩
    · go_wp2
      go_meet
      case rel =>
        have hS2 := (hS.step ((Below.refl _ _).alloc (Nat.le_refl _) zHead)).step b2
        have aw := (((Away.of_below (bs := [Y]) b0.drew).trans ha).alloc zHead).step b2
        have hR1 := ha.heap hR0 hR0Y
        have hl := (Array.getElem?_eq_some_iff.1 hR1).1
        have hRw := (b2.block _ (by simp; omega)).trans ((Lib.alloc_old w1 zHead _ hl).trans hR1)
        exact ⟨w1.heap.size, a, rfl, hl, fill5_self _ _ _ _ _ hx, (fill5_other w2 w1.heap.size _ _ _ _ _ _ (by omega)).trans hRw, hS2.fill5 _ _ _ _ _ hx (by decide) (by decide), fill5_away aw (by omega) _ _ _ _ _⟩
    · go_wp2
      go_meet
      case rel =>
        have hS2 := hS.step b2
        have aw := ((Away.of_below (bs := [Y]) (b0.drew.alloc (by simp) zHead)).trans ha).step b2
        have hR1 := ha.heap ((Lib.alloc_old (w.alloc zHead).drew zHead w.heap.size (by simp)).trans hR0) hR0Y
        have hRw := (b2.block _ (Array.getElem?_eq_some_iff.1 hR1).1).trans hR1
        exact ⟨w.heap.size + 1, a, rfl, by omega, fill5_self _ _ _ _ _ hx, (fill5_other w2 (w.heap.size + 1) _ _ _ _ _ _ (by omega)).trans hRw, hS2.fill5 _ _ _ _ _ hx (by decide) (by decide), fill5_away aw (by omega) _ _ _ _ _⟩
  case rest =>
    obtain ⟨X, a, rfl, hRX, hX, hR, hS, aw⟩ := hcut
    have x2 := ht2' _ hS
    clear hpi ht1' ht2' hR0 b0 hX1 hX1Y hmem hmem2
    go_wp2_with (go_at_call 28; refine x2.mono ?_)
    intro r w3; first | (intro he3 b3; subst he3) | rintro ⟨rfl, b3⟩
    have hS3 := hS.step b3
    have x3 := ht3' _ hS3
    have hX3 := (b3.block _ (Array.getElem?_eq_some_iff.1 hX).1).trans hX
    have hR3 := (b3.block _ (Array.getElem?_eq_some_iff.1 hR).1).trans hR
    have aw3 := aw.step b3
    clear x2 hS hX hR aw b3 ht3'
    go_wp2_with (go_at_call 28; refine x3.mono ?_)
    intro r w4; first | (intro he4 b4; subst he4) | rintro ⟨rfl, b4⟩
    have hS4 := hS3.step b4
    have hX4 := (b4.block _ (Array.getElem?_eq_some_iff.1 hX3).1).trans hX3
    have hR4 := (b4.block _ (Array.getElem?_eq_some_iff.1 hR3).1).trans hR3
    have aw4 := aw3.step b4
    clear x3 hS3 hX3 hR3 aw3 b4
    obtain ⟨⟨p0, p1, p2, p3, p4⟩, -⟩ := five_cells hX4
    obtain ⟨⟨q0, q1, q2, q3, q4⟩, r0, r1, r2, r3, r4⟩ := five_cells hR4
    have hXR : X ≠ w.heap.size := by omega
    go_wp2
    have hf := fill5_self (.int .i64 a) (.int .i64 0) (.int .i64 4) (.bool false) (.int .i64 0) hR4
    refine bodyPost_ret (results_cell_row rfl _ _ w.heap.size 71 _ (0, 0) _ rfl hf Tryz.underlying71 rfl Tryz.sizeHead) rfl ?_
    exact ⟨⟨a, rfl⟩, hS4.fill5 _ _ _ _ _ hR4 (by decide) (by decide), fill5_away aw4 (Nat.le_refl _) _ _ _ _ _⟩
end
end Go.Proofs.YtmoddgkjaimpfaaGreatDoor
