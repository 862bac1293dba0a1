/-
  A part of the proof that the law PrinterEvents (chapter 20) returns true for every event: walks of the program's functions, and runs of them in the kernel by the own evaluator.
-/
import Derived.Test.YtholnnabakaliaaGreatDoorPgd
import Derived.Deep.LoopGhost
import Derived.Test.YtholnnabakaliaaGreatDoorLxs
import Derived.Deep.RegionHeld3
import Derived.Test.YtholnnabakaliaaGreatDoorShf
namespace Go.Proofs.YtholnnabakaliaaGreatDoor
open Go.RowKit

section
variable {Y M : Nat} {tv : Value} {toks : List Tok} {pos : Nat} {line col e : Int} {free : Bool} {ls ln : Int} {es : Array MapEntry} {clk : Nat} {w : World} {t : Tok} {K : Nat}

/-- A row of texts at K. -/
def SymRow (K : Nat) (sy : List ByteArray) (w : World) : Prop := w.heap[K]? = some (.cells (sy.map Value.string).toArray 9 (0, 0))
theorem SymRow.cell {sy : List ByteArray} (h : SymRow K sy w) {i : Nat} (hi : i < sy.length) : w.cell? ⟨K, i, none⟩ = some (.string sy[i]) := by
  rw [Lib.cell_of_heap h]; simp [hi]
theorem SymRow.step {sy : List ByteArray} {w' : World} (h : SymRow K sy w) (b : Below w.heap.size w w') : SymRow K sy w' := (b.block K (Array.getElem?_eq_some_iff.1 h).1).trans h

set_option maxHeartbeats 4000000 in
set_option maxRecDepth 100000 in
/-- slices.Contains, by the number of the first that is equal. -/
theorem index_walk (sy : List ByteArray) (x : ByteArray) (hn : sy.length ≤ 8) (h : SymRow K sy w) :
    Calls Tryz.prog 154 #[.slice (some ⟨K, 0, none⟩) sy.length sy.length, .string x] w fun r w' => (∃ i : Int, r = .returned (.int .i64 i) ∧ ((0 ≤ i ∧ x ∈ sy) ∨ (i < 0 ∧ x ∉ sy))) ∧ w' = w := by
  go_enter Tryz.func154, Tryz.ntmps154
  go_wp2
  go_loopg [8] sy.length (fun g v wr => ∃ k : Nat, k ≤ sy.length ∧ g = sy.length - k ∧ v = .int .i64 (k : Nat) ∧ wr = w ∧ x ∉ sy.take k)
  case atStart => exact ⟨0, Nat.zero_le _, rfl, rfl, rfl, by simp⟩
  case round =>
    obtain ⟨k, hk, hg, rfl, rfl, hno⟩ := hrel
    by_cases hlt : k < sy.length
    · have hlt' : (k : Int) < (sy.length : Int) := by omega
      have hk0 : (0 : Int) ≤ (k : Int) := by omega
      have c0 := h.cell hlt
      have m1 : IntKind.i64.wrap ((k : Int) + 1) = (k : Int) + 1 := IntWalk.i64_in _ (by omega)
      have hmem : sy[k] ∈ sy := List.getElem_mem hlt
      have htk : sy.take (k + 1) = sy.take k ++ [sy[k]] := List.take_succ_eq_append_getElem hlt
      generalize sy[k] = y at *
      by_cases hx : x = y
      · subst hx
        clear hno htk h
        go_wp2
        go_ret
        exact ⟨⟨k, rfl, .inl ⟨by omega, hmem⟩⟩, rfl⟩
      · have hx' := toList_ne hx
        have hbe : (x.toList == y.toList) = false := by simpa using hx'
        clear hmem h
        go_wp2
        go_roundg (sy.length - (k + 1))
        case measure => omega
        case rel => exact ⟨k + 1, by omega, rfl, by simp, rfl, by rw [htk]; simp [hno, hx]⟩
    · have : k = sy.length := by omega
      subst this
      rw [List.take_length] at hno
      clear h
      go_wp2
      go_ret
      exact ⟨⟨-1, rfl, .inr ⟨by omega, hno⟩⟩, rfl⟩

def memB (x : ByteArray) (sy : List ByteArray) : Bool := sy.any fun y => decide (x = y)
theorem memB_yes {x : ByteArray} {sy : List ByteArray} (h : x ∈ sy) : memB x sy = true := List.any_eq_true.2 ⟨x, h, by simp⟩
theorem memB_no {x : ByteArray} {sy : List ByteArray} (h : x ∉ sy) : memB x sy = false := by
  cases hb : memB x sy with
  | false => rfl
  | true =>
    obtain ⟨y, hy, he⟩ := List.any_eq_true.1 hb
    exact absurd (of_decide_eq_true he ▸ hy) h

set_option maxHeartbeats 4000000 in
set_option maxRecDepth 100000 in
theorem contains_walk (sy : List ByteArray) (x : ByteArray) (hn : sy.length ≤ 8) (h : SymRow K sy w) :
    Calls Tryz.prog 136 #[.slice (some ⟨K, 0, none⟩) sy.length sy.length, .string x] w fun r w' => r = .returned (.bool (memB x sy)) ∧ w' = w := by
  have hf := index_walk sy x hn h
  clear h
  go_enter Tryz.func136, Tryz.ntmps136
  go_wp2_with (go_at_call 154; refine hf.mono ?_)
  rintro r w1 ⟨⟨i, rfl, hi⟩, rfl⟩
  rcases hi with ⟨h0, hm⟩ | ⟨h0, hm⟩
  · go_wp2
    go_ret
    exact ⟨by simp [memB_yes hm], rfl⟩
  · have h0' : ¬ (0 : Int) ≤ i := by omega
    clear h0
    go_wp2
    go_ret
    exact ⟨by simp [memB_no hm]; omega, rfl⟩

theorem add_run (s t : ByteArray) (hs : s.size ≤ 100000) (ht : t.size ≤ 100000) (w : World) : (Op.stringOp .add s t).run Tryz.prog w = .ok (.string (s ++ t)) w :=
  Go.run_string_add_sum (P := Tryz.prog) (w := w) s t (by omega)
/-- A token that belongs to the composed one; it does not. -/
def Joins (nu : Bool) (sy : List ByteArray) (t : Tok) : Bool := t.joined && ((nu && decide (t.kind = 2)) || (decide (t.kind = 4) && memB t.text sy))

def catT : List Tok → ByteArray → ByteArray
  | [], s => s
  | t :: r, s => catT r (s ++ t.text)

/-- Where the cells of another token lie. -/
theorem Prs.tokAt (h : Prs Y M tv toks pos line col 0 free ls ln es clk w) (i : Nat) {t : Tok} (ht : toks[i]? = some t) :
    ∃ G cap, tv = .slice (some ⟨G, 0, none⟩) toks.length cap ∧ ∀ j u, t.cells[j]? = some u → w.cell? ⟨G, i * 7 + j, none⟩ = some u := by
  have hr := h.row rfl
  have hp : i < toks.length := (List.getElem?_eq_some_iff.1 ht).1
  obtain ⟨G, cap, rfl, _, _⟩ := hr.form (by omega)
  refine ⟨G, cap, rfl, fun j u hj => ?_⟩
  have := hr.cells (g := G) rfl (i * 7 + j) u (cells_at _ _ _ _ _ ht hj)
  have hadd : (⟨G, 0, none⟩ : Addr).add (i * 7 + j) = ⟨G, i * 7 + j, none⟩ := by unfold Addr.add; split <;> simp_all
  rwa [hadd] at this

theorem catT_snoc (l : List Tok) (s : ByteArray) (t : Tok) : catT (l ++ [t]) s = catT l s ++ t.text := by
  induction l generalizing s with
  | nil => rfl
  | cons a r ih => simp only [List.cons_append, catT]; exact ih _

set_option maxHeartbeats 16000000 in
set_option maxRecDepth 100000 in
/-- n tokens behind the first belong to it, and the one behind them does not. -/
theorem composed_walk (h : Prs Y M tv toks pos line col 0 free ls ln es clk w) {t tn : Tok} (ht : toks[pos]? = some t) (hpos : pos ≤ 1000000) (nu : Bool) (sy : List ByteArray) (hsy : sy.length ≤ 8) (hK : SymRow K sy w)
    (l : List Tok) (hl : ∀ (i : Nat) (x : Tok), l[i]? = some x → toks[pos + 1 + i]? = some x ∧ Joins nu sy x = true) (hlen : l.length ≤ 8) (htn : toks[pos + 1 + l.length]? = some tn) (hno : Joins nu sy tn = false)
    (hsz : ∀ k, (catT (l.take k) t.text).size ≤ 100000) :
    Calls Tryz.prog 110 #[.pointer (some ⟨Y, 0, none⟩), .bool nu, .slice (some ⟨K, 0, none⟩) sy.length sy.length] w fun r w' => r = .returned (.tuple #[.string (catT l t.text), .int .i64 ((l.length : Int) + 1)]) ∧ Below w.heap.size w w' := by
  have hp := peek_ok h ht
  have hst := fun w' (b : Below w.heap.size w w') => h.step b
  have hKs := fun w' (b : Below w.heap.size w w') => hK.step b
  have hlenT : pos + 1 + l.length < toks.length := (List.getElem?_eq_some_iff.1 htn).1
  have hfd := field1_run (.int .i64 t.kind) t.text (.int .i64 t.value) (.string t.bytes) (.int .i64 t.line) (.int .i64 t.col) (.bool t.joined)
  clear h ht hK
  go_enter Tryz.func110, Tryz.ntmps110
  go_wp2_with (go_at_call 56; refine hp.mono ?_)
  intro r w1; first | (intro he b1; subst he) | rintro ⟨rfl, b1⟩
  go_wp2
  go_loopg [8, 9] (l.length + 1) (fun g v u wr => ∃ k : Nat, k ≤ l.length ∧ g = l.length + 1 - k ∧ v = .string (catT (l.take k) t.text) ∧ u = .int .i64 ((k : Int) + 1) ∧ Below w.heap.size w wr)
  case atStart => exact ⟨0, Nat.zero_le _, rfl, rfl, rfl, b1⟩
  case round =>
    obtain ⟨k, hk, hg, rfl, rfl, hb⟩ := hrel
    have hS := hst _ hb
    have hK1 := hKs _ hb
    obtain ⟨q, hq⟩ : ∃ q, q = pos + 1 + k := ⟨_, rfl⟩
    obtain ⟨x, hx, hj⟩ : ∃ x, toks[q]? = some x ∧ Joins nu sy x = decide (k < l.length) := by
      by_cases hlt : k < l.length
      · have h1 := hl k _ (List.getElem?_eq_getElem hlt)
        exact ⟨l[k], by rw [hq]; exact h1.1, by rw [h1.2]; simp [hlt]⟩
      · have : k = l.length := by omega
        subst this
        exact ⟨tn, by rw [hq]; exact htn, by rw [hno]; simp⟩
    have hw : IntKind.i64.wrap ((pos : Int) + ((k : Int) + 1)) = (q : Int) := by rw [hq, IntWalk.i64_in _ (by omega)]; omega
    have hw2 : IntKind.i64.wrap ((k : Int) + 1 + 1) = (k : Int) + 1 + 1 := IntWalk.i64_in _ (by omega)
    have hlt : (q : Int) < (toks.length : Int) := by omega
    have hp0 : (0 : Int) ≤ (q : Int) := by omega
    obtain ⟨G, cap, rfl, hc⟩ := hS.tokAt q hx
    have c0 := hS.c0
    have c1 := hS.c1
    have u0 : wr.cell? ⟨G, q * 7, none⟩ = some (.int .i64 x.kind) := hc 0 _ rfl
    have u1 := hc 1 _ rfl
    have u2 := hc 2 _ rfl
    have u3 := hc 3 _ rfl
    have u4 := hc 4 _ rfl
    have u5 := hc 5 _ rfl
    have u6 := hc 6 _ rfl
    have n0 := World.new_ne wr _ c0
    have n1 := World.new_ne wr _ u0
    have l0 := World.block_lt_of_cell? wr _ c0
    have l1 := World.block_lt_of_cell? wr _ u0
    simp only at l0 l1
    obtain ⟨tk, htk⟩ : ∃ s, s = catT (l.take k) t.text := ⟨_, rfl⟩
    have hsz0 := hsz k
    have hsz1 := hsz (k + 1)
    rw [← htk] at hsz0 ⊢
    have nxt : k < l.length → catT (l.take (k + 1)) t.text = tk ++ x.text := fun hlt => by
      have h1 := (hl k _ (List.getElem?_eq_getElem hlt)).1
      rw [← hq, hx] at h1
      rw [List.take_succ_eq_append_getElem hlt, catT_snoc, ← htk, Option.some.inj h1]
    have fin0 : ¬ k < l.length → tk = catT l t.text := fun hlt => by
      have : k = l.length := by omega
      rw [htk, this, List.take_length]
    have hct := fun W (hW : SymRow K sy W) => contains_walk sy x.text hsy hW
    have NF := shut (And.intro nxt (And.intro fin0 (And.intro hsz0 hsz1)))
    have hb2 := hb.alloc hb.size (.cells #[.int .i64 x.kind, .string x.text, .int .i64 x.value, .string x.bytes, .int .i64 x.line, .int .i64 x.col, .bool x.joined] 100)
    have hK2 := hKs _ (hb2.drew.drew)
    clear hc hx hS htk nxt fin0 hsz0 hsz1 hst hKs hp b1
    have HJ := shut hj
    have HQ := shut hq
    clear hj hq
    go_wp2
    go_region_held3 (fun w' => w'.cell? ⟨Y, 0, none⟩ = some (.slice (some ⟨G, 0, none⟩) toks.length cap) ∧ w'.cell? ⟨Y, 1, none⟩ = some (.int .i64 pos) ∧
      w'.cell? ⟨G, q * 7, none⟩ = some (.int .i64 x.kind) ∧ w'.cell? ⟨G, q * 7 + 1, none⟩ = some (.string x.text) ∧ w'.cell? ⟨G, q * 7 + 2, none⟩ = some (.int .i64 x.value) ∧
      w'.cell? ⟨G, q * 7 + 3, none⟩ = some (.string x.bytes) ∧ w'.cell? ⟨G, q * 7 + 4, none⟩ = some (.int .i64 x.line) ∧ w'.cell? ⟨G, q * 7 + 5, none⟩ = some (.int .i64 x.col) ∧ w'.cell? ⟨G, q * 7 + 6, none⟩ = some (.bool x.joined)) (go_keep) (fail)
    go_wp2
    go_region_held3 (fun w' => w'.cell? ⟨Y, 0, none⟩ = some (.slice (some ⟨G, 0, none⟩) toks.length cap) ∧ w'.cell? ⟨Y, 1, none⟩ = some (.int .i64 pos) ∧
      w'.cell? ⟨G, q * 7, none⟩ = some (.int .i64 x.kind) ∧ w'.cell? ⟨G, q * 7 + 1, none⟩ = some (.string x.text) ∧ w'.cell? ⟨G, q * 7 + 2, none⟩ = some (.int .i64 x.value) ∧
      w'.cell? ⟨G, q * 7 + 3, none⟩ = some (.string x.bytes) ∧ w'.cell? ⟨G, q * 7 + 4, none⟩ = some (.int .i64 x.line) ∧ w'.cell? ⟨G, q * 7 + 5, none⟩ = some (.int .i64 x.col) ∧ w'.cell? ⟨G, q * 7 + 6, none⟩ = some (.bool x.joined)) (go_keep) (fail)
    have hjj : x.joined = false ∨ x.joined = true := by cases x.joined <;> simp
    rcases hjj with hj0 | hj0
    · have hn : ¬ k < l.length := fun hlt => by
        have := HJ.out
        rw [Joins, hj0, decide_eq_true hlt] at this
        cases this
      have hf := NF.out.2.1 hn
      have hkl : k = l.length := by omega
      subst hf
      subst hkl
      rw [hj0] at hb2 ⊢
      clear hct
      go_wp2
      refine bodyPost_ret (results_tmp2 rfl _ _ _) rfl ?_
      exact ⟨by simp, hb2.drew.drew⟩
    · rw [hj0] at hb2 hK2 ⊢
      cases nu with
      | false =>
        by_cases hk4 : x.kind = 4
        · have hk4' : decide (x.kind = 4) = true := decide_eq_true hk4
          rw [hk4] at hb2 hK2 ⊢
          cases hm : memB x.text sy with
          | true =>
            have hlt : k < l.length := by
              have := HJ.out
              rw [Joins, hj0, hk4', hm] at this
              simpa using this.symm
            have hnx := NF.out.1 hlt
            have had := fun ww => add_run tk x.text NF.out.2.2.1 (by have h1 := NF.out.2.2.2; rw [hnx] at h1; rw [ByteArray.size_append] at h1; omega) ww
            have hc1 := hct _ hK2
            rw [hm] at hc1
            go_wp2_with (go_at_call 136; (with_reducible refine hc1.mono ?_); rintro r w2 ⟨rfl, rfl⟩)
            clear hct
            go_wp2
            go_roundg (l.length + 1 - (k + 1))
            case measure => omega
            case rel => exact ⟨k + 1, by omega, rfl, by rw [hnx], by simp, hb2.drew.drew⟩
          | false =>
            have hn : ¬ k < l.length := fun hlt => by
              have := HJ.out
              rw [Joins, hj0, hk4', hm, decide_eq_true hlt] at this
              simp at this
            have hf := NF.out.2.1 hn
            have hkl : k = l.length := by omega
            rw [hf]
            have hc1 := hct _ hK2
            rw [hm] at hc1
            go_wp2_with (go_at_call 136; (with_reducible refine hc1.mono ?_); rintro r w2 ⟨rfl, rfl⟩)
            clear hct
            go_wp2
            refine bodyPost_ret (results_tmp2 rfl _ _ _) rfl ?_
            exact ⟨by simp, hb2.drew.drew⟩
        · have hk4' : decide (x.kind = 4) = false := decide_eq_false hk4; have hk4b : (x.kind == 4) = false := by simp [hk4]
          have hn : ¬ k < l.length := fun hlt => by
            have := HJ.out
            rw [Joins, hj0, hk4', decide_eq_true hlt] at this
            simp at this
          have hf := NF.out.2.1 hn
          have hkl : k = l.length := by omega
          rw [hf]
          clear hct
          go_wp2
          refine bodyPost_ret (results_tmp2 rfl _ _ _) rfl ?_
          exact ⟨by simp [hkl], hb2.drew.drew⟩
      | true =>
        by_cases hk2 : x.kind = 2
        · have hk2' : decide (x.kind = 2) = true := decide_eq_true hk2
          rw [hk2] at hb2 hK2 ⊢
          have hlt : k < l.length := by
            have := HJ.out
            rw [Joins, hj0, hk2'] at this
            simpa using this.symm
          have hnx := NF.out.1 hlt
          have had := fun ww => add_run tk x.text NF.out.2.2.1 (by have h1 := NF.out.2.2.2; rw [hnx] at h1; rw [ByteArray.size_append] at h1; omega) ww
          clear hct
          go_wp2
          go_roundg (l.length + 1 - (k + 1))
          case measure => omega
          case rel => exact ⟨k + 1, by omega, rfl, by rw [hnx], by simp, hb2.drew.drew⟩
        · have hk2' : decide (x.kind = 2) = false := decide_eq_false hk2; have hk2b : (x.kind == 2) = false := by simp [hk2]
          by_cases hk4 : x.kind = 4
          · have hk4' : decide (x.kind = 4) = true := decide_eq_true hk4
            rw [hk4] at hb2 hK2 ⊢
            cases hm : memB x.text sy with
            | true =>
              have hlt : k < l.length := by
                have := HJ.out
                rw [Joins, hj0, hk2', hk4', hm] at this
                simpa using this.symm
              have hnx := NF.out.1 hlt
              have had := fun ww => add_run tk x.text NF.out.2.2.1 (by have h1 := NF.out.2.2.2; rw [hnx] at h1; rw [ByteArray.size_append] at h1; omega) ww
              have hc1 := hct _ hK2
              rw [hm] at hc1
              go_wp2_with (go_at_call 136; (with_reducible refine hc1.mono ?_); rintro r w2 ⟨rfl, rfl⟩)
              clear hct
              go_wp2
              go_roundg (l.length + 1 - (k + 1))
              case measure => omega
              case rel => exact ⟨k + 1, by omega, rfl, by rw [hnx], by simp, hb2.drew.drew⟩
            | false =>
              have hn : ¬ k < l.length := fun hlt => by
                have := HJ.out
                rw [Joins, hj0, hk2', hk4', hm, decide_eq_true hlt] at this
                simp at this
              have hf := NF.out.2.1 hn
              have hkl : k = l.length := by omega
              rw [hf]
              have hc1 := hct _ hK2
              rw [hm] at hc1
              go_wp2_with (go_at_call 136; (with_reducible refine hc1.mono ?_); rintro r w2 ⟨rfl, rfl⟩)
              clear hct
              go_wp2
              refine bodyPost_ret (results_tmp2 rfl _ _ _) rfl ?_
              exact ⟨by simp, hb2.drew.drew⟩
          · have hk4' : decide (x.kind = 4) = false := decide_eq_false hk4; have hk4b : (x.kind == 4) = false := by simp [hk4]
            have hn : ¬ k < l.length := fun hlt => by
              have := HJ.out
              rw [Joins, hj0, hk2', hk4', decide_eq_true hlt] at this
              simp at this
            have hf := NF.out.2.1 hn
            have hkl : k = l.length := by omega
            rw [hf]
            clear hct
            go_wp2
            refine bodyPost_ret (results_tmp2 rfl _ _ _) rfl ?_
            exact ⟨by simp [hkl], hb2.drew.drew⟩
end
end Go.Proofs.YtholnnabakaliaaGreatDoor

namespace Go.Proofs.YtholnnabakaliaaGreatDoor
open Go.RowKit

def At (toks : List Tok) (pos : Nat) (ps : List Piece) : Prop := ∀ (i : Nat) (p : Piece), ps[i]? = some p → ∃ t, toks[pos + i]? = some t ∧ IsOf p t
section
variable {toks : List Tok} {pos : Nat} {t : Tok} {p : Piece}
theorem At.first {r : List Piece} (h : At toks pos (p :: r)) : ∃ t, toks[pos]? = some t ∧ IsOf p t := h 0 p rfl
theorem At.rest {r : List Piece} (h : At toks pos (p :: r)) : At toks (pos + 1) r := fun i q hq => by
  obtain ⟨t, ht, hi⟩ := h (i + 1) q (by simpa using hq)
  exact ⟨t, by rw [show pos + 1 + i = pos + (i + 1) by omega]; exact ht, hi⟩
theorem At.left {a c : List Piece} (h : At toks pos (a ++ c)) : At toks pos a := fun i q hq => h i q (by rw [List.getElem?_append_left (List.getElem?_eq_some_iff.1 hq).1]; exact hq)
theorem At.right {a c : List Piece} (h : At toks pos (a ++ c)) : At toks (pos + a.length) c := fun i q hq => by
  obtain ⟨t, ht, hi⟩ := h (a.length + i) q (by rw [List.getElem?_append_right (by omega)]; simpa using hq)
  exact ⟨t, by rw [show pos + a.length + i = pos + (a.length + i) by omega]; exact ht, hi⟩
theorem mk_inj {a c : List UInt8} (h : mk a = mk c) : a = c := by
  have := congrArg (fun s => s.data.toList) h
  simpa [mk] using this
theorem isTok_of (h : IsOf p t) (l : List UInt8) : IsTok t (mk l) = ((decide (p.kind = 1) || decide (p.kind = 4)) && decide (p.body = l)) := by
  obtain ⟨h1, h2, _, _, _⟩ := h
  have e : decide (mk p.body = mk l) = decide (p.body = l) := by
    by_cases hl : p.body = l
    · rw [hl]; simp
    · rw [decide_eq_false hl, decide_eq_false (fun e => hl (mk_inj e))]
  unfold IsTok
  rw [h1, h2, e]
def JoinsP (nu : Bool) (sy : List (List UInt8)) (p : Piece) : Bool := p.bl.isEmpty && ((nu && decide (p.kind = 2)) || (decide (p.kind = 4) && decide (p.body ∈ sy)))
theorem joins_of (h : IsOf p t) (nu : Bool) (sy : List (List UInt8)) : Joins nu (sy.map mk) t = JoinsP nu sy p := by
  obtain ⟨h1, h2, _, h4, _⟩ := h
  have e : memB (mk p.body) (sy.map mk) = decide (p.body ∈ sy) := by
    by_cases hl : p.body ∈ sy
    · rw [decide_eq_true hl, memB_yes (List.mem_map_of_mem hl)]
    · rw [decide_eq_false hl, memB_no]
      intro hm
      obtain ⟨x, hx, he⟩ := List.mem_map.1 hm
      exact hl (mk_inj he ▸ hx)
  unfold Joins JoinsP
  rw [h1, h2, h4, e]
theorem At.list : ∀ (qs : List Piece) (pos : Nat), At toks pos qs → ∃ l : List Tok, l.length = qs.length ∧ ∀ (i : Nat) (x : Tok), l[i]? = some x → toks[pos + i]? = some x ∧ ∃ q, qs[i]? = some q ∧ IsOf q x
  | [], _, _ => ⟨[], rfl, fun i x h => by simp at h⟩
  | q :: r, pos, h => by
    obtain ⟨t, ht, hi⟩ := h.first
    obtain ⟨l, hl, hp⟩ := At.list r (pos + 1) h.rest
    refine ⟨t :: l, by simp [hl], fun i x hx => ?_⟩
    cases i with
    | zero =>
      obtain rfl : t = x := by simpa using hx
      exact ⟨ht, q, rfl, hi⟩
    | succ i =>
      obtain ⟨h1, h2⟩ := hp i x (by simpa using hx)
      exact ⟨by rw [show pos + (i + 1) = pos + 1 + i by omega]; exact h1, by simpa using h2⟩
theorem catT_mk : ∀ (l : List Tok) (qs : List Piece) (s : List UInt8), l.length = qs.length → (∀ (i : Nat) (x : Tok), l[i]? = some x → ∃ q, qs[i]? = some q ∧ IsOf q x) → catT l (mk s) = mk (s ++ qs.flatMap (·.body))
  | [], [], s, _, _ => by simp [catT]
  | t :: l, q :: qs, s, hl, h => by
    obtain ⟨q', hq, hi⟩ := h 0 t rfl
    obtain rfl : q = q' := by simpa using hq
    rw [catT, hi.2.1, show mk s ++ mk q.body = mk (s ++ q.body) from mkB_append s q.body, catT_mk l qs _ (by simpa using hl) fun i x hx => by
      obtain ⟨q2, h2, h3⟩ := h (i + 1) x (by simpa using hx)
      exact ⟨q2, by simpa using h2, h3⟩]
    simp
theorem catT_app (a c : List Tok) (s : ByteArray) : catT (a ++ c) s = catT c (catT a s) := by
  induction a generalizing s with
  | nil => rfl
  | cons x r ih => exact ih _
theorem catT_ge (l : List Tok) (s : ByteArray) : s.size ≤ (catT l s).size := by
  induction l generalizing s with
  | nil => exact Nat.le_refl _
  | cons x r ih => exact Nat.le_trans (by rw [ByteArray.size_append]; omega) (ih _)
theorem catT_take (l : List Tok) (s : ByteArray) (k : Nat) : (catT (l.take k) s).size ≤ (catT l s).size := by
  have h := catT_app (l.take k) (l.drop k) s
  rw [List.take_append_drop] at h
  rw [h]
  exact catT_ge _ _
end
section
variable {Y M : Nat} {tv : Value} {toks : List Tok} {pos : Nat} {line col e : Int} {free : Bool} {ls ln : Int} {es : Array MapEntry} {clk : Nat} {w : World} {t : Tok} {K : Nat}
/-- The composed token of pieces that belong together, and one behind them that does not. -/
theorem composed_at (h : Prs Y M tv toks pos line col 0 free ls ln es clk w) (hpos : pos ≤ 1000000) (nu : Bool) (sy : List (List UInt8)) (hsy : sy.length ≤ 8) (hK : SymRow K (sy.map mk) w) (q : Piece) (qs : List Piece)
    (hA : At toks pos (q :: qs)) (hlen : qs.length ≤ 8) (hall : ∀ p ∈ qs, JoinsP nu sy p = true) {tn : Tok} (htn : toks[pos + (qs.length + 1)]? = some tn) (hno : Joins nu (sy.map mk) tn = false) (hsz : (q.body ++ qs.flatMap (·.body)).length ≤ 100000) :
    Calls Tryz.prog 110 #[.pointer (some ⟨Y, 0, none⟩), .bool nu, .slice (some ⟨K, 0, none⟩) sy.length sy.length] w fun r w' => r = .returned (.tuple #[.string (mk (q.body ++ qs.flatMap (·.body))), .int .i64 ((qs.length : Int) + 1)]) ∧ Below w.heap.size w w' := by
  obtain ⟨t, ht, hi⟩ := hA.first
  obtain ⟨l, hl, hp⟩ := At.list qs (pos + 1) hA.rest
  have hc : catT l t.text = mk (q.body ++ qs.flatMap (·.body)) := by rw [hi.2.1]; exact catT_mk l qs _ hl fun i x hx => (hp i x hx).2
  have := composed_walk h ht hpos nu (sy.map mk) (by rw [List.length_map]; exact hsy) hK l (fun i x hx => ⟨(hp i x hx).1, by
      obtain ⟨p, hq, hi⟩ := (hp i x hx).2
      rw [joins_of hi]; exact hall p (List.mem_of_getElem? hq)⟩) (by omega) (tn := tn) (by rw [show pos + 1 + l.length = pos + (qs.length + 1) by omega]; exact htn) hno
    (fun k => Nat.le_trans (catT_take l t.text k) (by rw [hc]; show (List.toArray _).size ≤ _; simpa using hsz))
  rw [hc, hl, List.length_map] at this
  exact this
end
end Go.Proofs.YtholnnabakaliaaGreatDoor

namespace Go.Proofs.YtholnnabakaliaaGreatDoor
open Go.RowKit

theorem Tryz.sizePitch : (Tryz.prog.info? 44).map (·.size) = some 3 := by kernel_rfl
theorem Tryz.sizeValue : (Tryz.prog.info? 25).map (·.size) = some 2 := by kernel_rfl
theorem Tabs.away {b : Nat} {bs : List Nat} {w w' : World} (T : Tabs b w) (h : Away bs w w') (hY : ∀ k ∈ bs, 7 ≤ k) : Tabs b w' :=
  ⟨h.heap T.t0 (fun hm => by have := hY _ hm; omega), h.heap T.t2 (fun hm => by have := hY _ hm; omega), h.heap T.t5 (fun hm => by have := hY _ hm; omega), h.heap T.t6 (fun hm => by have := hY _ hm; omega)⟩
theorem set3_self {w : World} {X : Nat} {cs : Array Value} {T : TypeId} (v0 v1 v2 : Value) (h : w.heap[X]? = some (.cells cs T (0, 0))) :
    (((w.setCell ⟨X, 0, none⟩ v0).setCell ⟨X, 1, none⟩ v1).setCell ⟨X, 2, none⟩ v2).heap[X]? = some (.cells (((cs.setIfInBounds 0 v0).setIfInBounds 1 v1).setIfInBounds 2 v2) T (0, 0)) :=
  Lib.heap_setCell_same (i := 2) (Lib.heap_setCell_same (i := 1) (Lib.heap_setCell_same (i := 0) h v0) v1) v2
theorem set2_self {w : World} {X : Nat} {cs : Array Value} {T : TypeId} (v0 v1 : Value) (h : w.heap[X]? = some (.cells cs T (0, 0))) :
    ((w.setCell ⟨X, 0, none⟩ v0).setCell ⟨X, 1, none⟩ v1).heap[X]? = some (.cells ((cs.setIfInBounds 0 v0).setIfInBounds 1 v1) T (0, 0)) :=
  Lib.heap_setCell_same (i := 1) (Lib.heap_setCell_same (i := 0) h v0) v1

section
variable {Y M : Nat} {tv : Value} {toks : List Tok} {pos : Nat} {line col e : Int} {free : Bool} {ls ln : Int} {es : Array MapEntry} {clk : Nat} {w : World} {t : Tok} {K : Nat}

set_option maxHeartbeats 8000000 in
set_option maxRecDepth 100000 in
theorem compose_pitch (h : Prs Y M tv toks pos line col 0 free ls ln es clk w) {tx : ByteArray} {st al oc : Int} (n : Nat) (hn : n ≤ 8) (hpos : pos ≤ 1000000)
    (hcm : ∀ w', Below w.heap.size w w' → Calls Tryz.prog 110 #[.pointer (some ⟨Y, 0, none⟩), .bool true, .slice (some ⟨K, 0, none⟩) 2 2] w' fun r w'' => r = .returned (.tuple #[.string tx, .int .i64 n]) ∧ Below w'.heap.size w' w'')
    (hf : ∀ w', Below w.heap.size w w' → Calls Tryz.prog 108 #[.string tx] w' fun e w'' => e = .returned (.tuple #[.agg #[.int .i64 st, .int .i64 al, .int .i64 oc], .bool true]) ∧ Below w'.heap.size w' w'') :
    Calls Tryz.prog 106 #[.pointer (some ⟨Y, 0, none⟩), .bool true, .int .i64 18, .func (.func 108) #[] #[], .bool true, .slice (some ⟨K, 0, none⟩) 2 2] w fun r w' =>
      r = .returned (.agg #[.int .i64 st, .int .i64 al, .int .i64 oc]) ∧ Prs Y M tv toks (pos + n) line col 0 free ls ln es clk w' ∧ Away [Y] w w' := by
  have b0 := ((Below.refl w.heap.size w).alloc (Nat.le_refl _) (.cells #[.int .i64 0, .int .i64 0, .int .i64 0] 44)).alloc (by simp) (.cells #[.int .i64 0, .int .i64 0, .int .i64 0] 44)
  have hR0 : ((w.alloc (.cells #[.int .i64 0, .int .i64 0, .int .i64 0] 44)).alloc (.cells #[.int .i64 0, .int .i64 0, .int .i64 0] 44)).heap[w.heap.size]? = some (.cells #[.int .i64 0, .int .i64 0, .int .i64 0] 44) := (Lib.alloc_old _ _ _ (by simp)).trans (heap_alloc_new w _)
  have xc := hcm _ b0
  have lY := h.lt
  have hw : IntKind.i64.wrap ((pos : Int) + n) = (pos : Int) + n := IntWalk.i64_in _ (by omega)
  go_enter Tryz.func106, Tryz.ntmps106
  go_wp2_with (go_at_call 110; refine xc.mono ?_)
  intro r w1; first | (intro he b1; subst he) | rintro ⟨rfl, b1⟩
  have hR1 := (b1.block _ (Array.getElem?_eq_some_iff.1 hR0).1).trans hR0
  have bb1 := b0.trans (b1.mono b0.size)
  clear xc hcm b0 b1 hR0
  have xf := hf w1 bb1
  clear hf
  go_wp2_with (go_at_call 108; refine xf.mono ?_)
  intro r w2; first | (intro he b2; subst he) | rintro ⟨rfl, b2⟩
  have hR2 := (b2.block _ (Array.getElem?_eq_some_iff.1 hR1).1).trans hR1
  have bb2 := bb1.trans (b2.mono bb1.size)
  clear xf hR1 bb1 b2
  have hS2 := h.step bb2
  clear h
  have c1 := hS2.c1
  have f1 := hS2.fz 1
  have lY2 := hS2.lt
  have lR2 := (Array.getElem?_eq_some_iff.1 hR2).1
  have hRY : w.heap.size ≠ Y := by omega
  have hYR : Y ≠ w.heap.size := by omega
  have r0 : w2.cell? ⟨w.heap.size, 0, none⟩ = some (.int .i64 0) := by rw [Lib.cell_of_heap hR2]; rfl
  have fr0 := Lib.frozen_of_heap hR2 0
  have r1 : w2.cell? ⟨w.heap.size, 1, none⟩ = some (.int .i64 0) := by rw [Lib.cell_of_heap hR2]; rfl
  have fr1 := Lib.frozen_of_heap hR2 1
  have r2 : w2.cell? ⟨w.heap.size, 2, none⟩ = some (.int .i64 0) := by rw [Lib.cell_of_heap hR2]; rfl
  have fr2 := Lib.frozen_of_heap hR2 2
  have nY := World.new_ne w2 _ c1
  have nR := World.new_ne w2 _ r0
  have hP3 := hS2.put (pos' := pos + n) (line' := line) (col' := col) (e' := 0) (ls' := ls) (ln' := ln) 1 (.int .i64 ((pos : Int) + n)) (fun h => h) (by rw [show ((pos + n : Nat) : Int) = (pos : Int) + n by omega]; rfl)
  have hR3 := (Below.heap_setCell w2 ⟨Y, 1, none⟩ (.int .i64 ((pos : Int) + n)) w.heap.size hRY).trans hR2
  have aw3 := (Away.of_below (bs := [Y]) bb2).setCell (p := ⟨Y, 1, none⟩) (.inl (by simp)) (.int .i64 ((pos : Int) + n))
  go_wp2
  have q0 := hP3.elsewhere hR3 (by decide) (by decide) 0 (.int .i64 st)
  have s0 := Lib.heap_setCell_same (i := 0) hR3 (.int .i64 st)
  have q1 := q0.elsewhere s0 (by decide) (by decide) 1 (.int .i64 al)
  have s1 := Lib.heap_setCell_same (i := 1) s0 (.int .i64 al)
  have q2 := q1.elsewhere s1 (by decide) (by decide) 2 (.int .i64 oc)
  have s2 := Lib.heap_setCell_same (i := 2) s1 (.int .i64 oc)
  refine bodyPost_ret (results_cell_row rfl _ _ w.heap.size 44 _ (0, 0) _ rfl ((Lib.alloc_old _ _ _ (Array.getElem?_eq_some_iff.1 s2).1).trans s2) Tryz.underlying44 rfl Tryz.sizePitch) rfl ?_
  exact ⟨rfl, q2.step ((Below.refl _ _).alloc (Nat.le_refl _) _), ((((aw3.setCell (p := ⟨w.heap.size, 0, none⟩) (.inr (Nat.le_refl _)) (.int .i64 st)).setCell (p := ⟨w.heap.size, 1, none⟩) (.inr (Nat.le_refl _)) (.int .i64 al)).setCell (p := ⟨w.heap.size, 2, none⟩) (.inr (Nat.le_refl _)) (.int .i64 oc))).alloc _⟩

set_option maxHeartbeats 8000000 in
set_option maxRecDepth 100000 in
theorem compose_value (h : Prs Y M tv toks pos line col 0 free ls ln es clk w) {tx : ByteArray} {a b : Int} (n : Nat) (hn : n ≤ 8) (hpos : pos ≤ 1000000)
    (hcm : ∀ w', Below w.heap.size w w' → Calls Tryz.prog 110 #[.pointer (some ⟨Y, 0, none⟩), .bool false, .slice (some ⟨K, 0, none⟩) 1 1] w' fun r w'' => r = .returned (.tuple #[.string tx, .int .i64 n]) ∧ Below w'.heap.size w' w'')
    (hf : ∀ w', Below w.heap.size w w' → Calls Tryz.prog 76 #[.string tx] w' fun e w'' => e = .returned (.tuple #[.agg #[.int .i64 a, .int .i64 b], .bool true]) ∧ Below w'.heap.size w' w'') :
    Calls Tryz.prog 75 #[.pointer (some ⟨Y, 0, none⟩), .bool true, .int .i64 17, .func (.func 76) #[] #[], .bool false, .slice (some ⟨K, 0, none⟩) 1 1] w fun r w' =>
      r = .returned (.agg #[.int .i64 a, .int .i64 b]) ∧ Prs Y M tv toks (pos + n) line col 0 free ls ln es clk w' ∧ Away [Y] w w' := by
  have b0 := ((Below.refl w.heap.size w).alloc (Nat.le_refl _) (.cells #[.int .i64 0, .int .i64 0] 25)).alloc (by simp) (.cells #[.int .i64 0, .int .i64 0] 25)
  have hR0 : ((w.alloc (.cells #[.int .i64 0, .int .i64 0] 25)).alloc (.cells #[.int .i64 0, .int .i64 0] 25)).heap[w.heap.size]? = some (.cells #[.int .i64 0, .int .i64 0] 25) := (Lib.alloc_old _ _ _ (by simp)).trans (heap_alloc_new w _)
  have xc := hcm _ b0
  have lY := h.lt
  have hw : IntKind.i64.wrap ((pos : Int) + n) = (pos : Int) + n := IntWalk.i64_in _ (by omega)
  go_enter Tryz.func75, Tryz.ntmps75
  go_wp2_with (go_at_call 110; refine xc.mono ?_)
  intro r w1; first | (intro he b1; subst he) | rintro ⟨rfl, b1⟩
  have hR1 := (b1.block _ (Array.getElem?_eq_some_iff.1 hR0).1).trans hR0
  have bb1 := b0.trans (b1.mono b0.size)
  clear xc hcm b0 b1 hR0
  have xf := hf w1 bb1
  clear hf
  go_wp2_with (go_at_call 76; refine xf.mono ?_)
  intro r w2; first | (intro he b2; subst he) | rintro ⟨rfl, b2⟩
  have hR2 := (b2.block _ (Array.getElem?_eq_some_iff.1 hR1).1).trans hR1
  have bb2 := bb1.trans (b2.mono bb1.size)
  clear xf hR1 bb1 b2
  have hS2 := h.step bb2
  clear h
  have c1 := hS2.c1
  have f1 := hS2.fz 1
  have lY2 := hS2.lt
  have lR2 := (Array.getElem?_eq_some_iff.1 hR2).1
  have hRY : w.heap.size ≠ Y := by omega
  have hYR : Y ≠ w.heap.size := by omega
  have r0 : w2.cell? ⟨w.heap.size, 0, none⟩ = some (.int .i64 0) := by rw [Lib.cell_of_heap hR2]; rfl
  have fr0 := Lib.frozen_of_heap hR2 0
  have r1 : w2.cell? ⟨w.heap.size, 1, none⟩ = some (.int .i64 0) := by rw [Lib.cell_of_heap hR2]; rfl
  have fr1 := Lib.frozen_of_heap hR2 1
  have nY := World.new_ne w2 _ c1
  have nR := World.new_ne w2 _ r0
  have hP3 := hS2.put (pos' := pos + n) (line' := line) (col' := col) (e' := 0) (ls' := ls) (ln' := ln) 1 (.int .i64 ((pos : Int) + n)) (fun h => h) (by rw [show ((pos + n : Nat) : Int) = (pos : Int) + n by omega]; rfl)
  have hR3 := (Below.heap_setCell w2 ⟨Y, 1, none⟩ (.int .i64 ((pos : Int) + n)) w.heap.size hRY).trans hR2
  have aw3 := (Away.of_below (bs := [Y]) bb2).setCell (p := ⟨Y, 1, none⟩) (.inl (by simp)) (.int .i64 ((pos : Int) + n))
  go_wp2
  have q0 := hP3.elsewhere hR3 (by decide) (by decide) 0 (.int .i64 a)
  have s0 := Lib.heap_setCell_same (i := 0) hR3 (.int .i64 a)
  have q1 := q0.elsewhere s0 (by decide) (by decide) 1 (.int .i64 b)
  have s1 := Lib.heap_setCell_same (i := 1) s0 (.int .i64 b)
  refine bodyPost_ret (results_cell_row rfl _ _ w.heap.size 25 _ (0, 0) _ rfl ((Lib.alloc_old _ _ _ (Array.getElem?_eq_some_iff.1 s1).1).trans s1) Tryz.underlying25 rfl Tryz.sizeValue) rfl ?_
  exact ⟨rfl, q1.step ((Below.refl _ _).alloc (Nat.le_refl _) _), (((aw3.setCell (p := ⟨w.heap.size, 0, none⟩) (.inr (Nat.le_refl _)) (.int .i64 a)).setCell (p := ⟨w.heap.size, 1, none⟩) (.inr (Nat.le_refl _)) (.int .i64 b))).alloc _⟩

def signsL : List (List UInt8) := [[35], [45]]
def dotL : List (List UInt8) := [[46]]
theorem word_extra {p : PitchV} (h : pitchE p = 0) : wordOfP p ++ (extraPs p).flatMap (·.body) = pitchL p := by
  have ha := al_cases h
  unfold extraPs wordOfP pitchL signL
  by_cases hm : p.oc = -1
  · rcases ha with ha | ha | ha | ha | ha <;> simp [ha, hm, symP, numP, octL]
  · rcases ha with ha | ha | ha | ha | ha <;> simp [ha, hm, symP, numP, octL]
theorem extra_joins {p : PitchV} (h : pitchE p = 0) : (∀ q ∈ extraPs p, JoinsP true signsL q = true) ∧ (extraPs p).length ≤ 4 := by
  have ha := al_cases h
  have h1 : JoinsP true signsL (symP [] 35) = true := by decide
  have h2 : JoinsP true signsL (symP [] 45) = true := by decide
  have h3 : JoinsP true signsL (numP [] [49] 1) = true := by decide
  have h4 : ∀ l v, JoinsP true signsL (numP [] l v) = true := fun l v => by simp [JoinsP, numP]
  unfold extraPs
  by_cases hm : p.oc = -1
  · rcases ha with ha | ha | ha | ha | ha <;> simp [ha, hm, h1, h2, h3]
  · rcases ha with ha | ha | ha | ha | ha <;> simp [ha, hm, h1, h4]
set_option maxRecDepth 100000 in
theorem word_first : allP.all (fun p => match wordOfP p with | c :: _ => decide (65 ≤ c.toNat) && decide (c.toNat ≤ 71) | [] => false) = true := by decide +kernel

set_option maxHeartbeats 8000000 in
set_option maxRecDepth 100000 in
theorem pitch_at (h : Prs Y M tv toks pos line col 0 free ls ln es clk w) (hpos : pos ≤ 1000000) {p : PitchV} (hp : pitchE p = 0) {bl : List UInt8} (hA : At toks pos (pitchPs bl p)) {tn : Tok} (htn : toks[pos + (pitchPs bl p).length]? = some tn) (hno : Joins true (signsL.map mk) tn = false) {b : Nat} (T : Tabs b w) :
    Calls Tryz.prog 74 #[.pointer (some ⟨Y, 0, none⟩)] w fun r w' => r = .returned (.agg #[.int .i64 p.st, .int .i64 p.al, .int .i64 p.oc]) ∧ Prs Y M tv toks (pos + (pitchPs bl p).length) line col 0 free ls ln es clk w' ∧ Away [Y] w w' := by
  obtain ⟨t, ht, hi⟩ := hA.first
  have hk : t.kind = 1 := hi.1
  have hx : t.text = mk (wordOfP p) := hi.2.1
  have hf := List.all_eq_true.1 word_first p (mem_allP hp)
  obtain ⟨hlen, h65, h71⟩ : ∃ hlen : 0 < t.text.size, (65 : Int) ≤ (((t.text[0]'hlen).toNat : Nat) : Int) ∧ (((t.text[0]'hlen).toNat : Nat) : Int) ≤ 71 := by
    cases hwp : wordOfP p with
    | nil => rw [hwp] at hf; cases hf
    | cons c r =>
      rw [hwp] at hf hx
      simp only [Bool.and_eq_true, decide_eq_true_eq] at hf
      rw [hx]
      refine ⟨by show 0 < (c :: r).toArray.size; simp, ?_, ?_⟩
      · show (65 : Int) ≤ ((c.toNat : Nat) : Int); omega
      · show ((c.toNat : Nat) : Int) ≤ (71 : Int); omega
  obtain ⟨hej, hel⟩ := extra_joins hp
  have hpl : (pitchPs bl p).length = (extraPs p).length + 1 := rfl
  have b0 := (Below.refl w.heap.size w).alloc (Nat.le_refl _) (.cells #[.int .i64 0, .int .i64 0, .int .i64 0] 44)
  have hR0 := heap_alloc_new w (.cells #[.int .i64 0, .int .i64 0, .int .i64 0] 44)
  have h0 := h.step b0
  have lY := h.lt
  have xi := isPitch_yes h0 ht hk hlen h65 h71
  have hcm : ∀ (K : Nat) w', Prs Y M tv toks pos line col 0 free ls ln es clk w' → SymRow K (signsL.map mk) w' → Calls Tryz.prog 110 #[.pointer (some ⟨Y, 0, none⟩), .bool true, .slice (some ⟨K, 0, none⟩) 2 2] w' fun r w'' => r = .returned (.tuple #[.string (mkB (pitchL p)), .int .i64 (((extraPs p).length + 1 : Nat) : Int)]) ∧ Below w'.heap.size w' w'' := fun K w' hS hK => by
    have hm := composed_at hS hpos true signsL (by decide) hK (wordP bl (wordOfP p)) (extraPs p) hA (by omega) hej htn hno (by rw [show (wordP bl (wordOfP p)).body = wordOfP p from rfl, word_extra hp]; have := pitchL_len hp; omega)
    rw [show (wordP bl (wordOfP p)).body = wordOfP p from rfl, word_extra hp] at hm
    exact hm
  rw [hpl]
  generalize hnn : (extraPs p).length + 1 = nn at hcm ⊢
  have hn8 : nn ≤ 8 := by omega
  have hpr := fun W (bW : Below w.heap.size w W) => pitch_reads hp W (T.step bW)
  generalize mkB (pitchL p) = tx at hcm hpr
  clear hA htn hno hf hej hel hpl hnn hx hi
  go_enter Tryz.func74, Tryz.ntmps74
  go_wp2_with (go_at_call 107; refine xi.mono ?_)
  intro r w1; first | (intro he b1; subst he) | rintro ⟨rfl, b1⟩
  have h1 := (h0.step b1).step ((Below.refl _ w1).alloc (Nat.le_refl _) (.cells #[.string ⟨#[35]⟩, .string ⟨#[45]⟩] 9))
  have hR1 := (b1.block _ (Array.getElem?_eq_some_iff.1 hR0).1).trans hR0
  have lR1 := (Array.getElem?_eq_some_iff.1 hR1).1
  have hR2 := (Lib.alloc_old w1 (.cells #[.string ⟨#[35]⟩, .string ⟨#[45]⟩] 9) _ lR1).trans hR1
  have bb := (b0.trans (b1.mono b0.size)).alloc ((b0.trans (b1.mono b0.size)).size) (.cells #[.string ⟨#[35]⟩, .string ⟨#[45]⟩] 9)
  have hK : (w1.alloc (.cells #[.string ⟨#[35]⟩, .string ⟨#[45]⟩] 9)).heap[w1.heap.size]? = some (.cells ((signsL.map mk).map Value.string).toArray 9 (0, 0)) := heap_alloc_new w1 (.cells #[.string ⟨#[35]⟩, .string ⟨#[45]⟩] 9)
  have xc := compose_pitch (K := w1.heap.size) (tx := tx) (st := p.st) (al := p.al) (oc := p.oc) h1 nn hn8 hpos (fun w' b => hcm w1.heap.size w' (h1.step b) ((b.block _ (by simp)).trans hK)) (fun w' b => hpr w' (bb.trans (b.mono bb.size)))
  clear xi h h0 b0 hR0 hpr hcm
  go_wp2_with (go_at_call 106; refine xc.mono ?_)
  intro r w2; first | (intro he hS b2; subst he) | rintro ⟨rfl, hS, b2⟩
  have hR3 := b2.heap hR2 (by simp; omega)
  have aw := (Away.of_below (bs := [Y]) bb).trans b2
  clear xc h1 hR1 hR2 b1 b2 bb hK lR1
  obtain ⟨st, al, oc⟩ := p
  simp only at *
  have r0 : w2.cell? ⟨w.heap.size, 0, none⟩ = some (.int .i64 0) := by rw [Lib.cell_of_heap hR3]; rfl
  have fr0 := Lib.frozen_of_heap hR3 0
  have r1 : w2.cell? ⟨w.heap.size, 1, none⟩ = some (.int .i64 0) := by rw [Lib.cell_of_heap hR3]; rfl
  have fr1 := Lib.frozen_of_heap hR3 1
  have r2 : w2.cell? ⟨w.heap.size, 2, none⟩ = some (.int .i64 0) := by rw [Lib.cell_of_heap hR3]; rfl
  have fr2 := Lib.frozen_of_heap hR3 2
  go_wp2
  have q0 := hS.elsewhere hR3 (by decide) (by decide) 0 (.int .i64 st)
  have s0 := Lib.heap_setCell_same (i := 0) hR3 (.int .i64 st)
  have q1 := q0.elsewhere s0 (by decide) (by decide) 1 (.int .i64 al)
  have s1 := Lib.heap_setCell_same (i := 1) s0 (.int .i64 al)
  have q2 := q1.elsewhere s1 (by decide) (by decide) 2 (.int .i64 oc)
  have s2 := Lib.heap_setCell_same (i := 2) s1 (.int .i64 oc)
  refine bodyPost_ret (results_cell_row rfl _ _ w.heap.size 44 _ (0, 0) _ rfl s2 Tryz.underlying44 rfl Tryz.sizePitch) rfl ?_
  exact ⟨rfl, q2, ((aw.setCell (p := ⟨w.heap.size, 0, none⟩) (.inr (Nat.le_refl _)) (.int .i64 st)).setCell (p := ⟨w.heap.size, 1, none⟩) (.inr (Nat.le_refl _)) (.int .i64 al)).setCell (p := ⟨w.heap.size, 2, none⟩) (.inr (Nat.le_refl _)) (.int .i64 oc)⟩
end
end Go.Proofs.YtholnnabakaliaaGreatDoor

namespace Go.Proofs.YtholnnabakaliaaGreatDoor
open Go.RowKit

section
variable {Y M : Nat} {tv : Value} {toks : List Tok} {pos : Nat} {line col e : Int} {free : Bool} {ls ln : Int} {es : Array MapEntry} {clk : Nat} {w : World} {t : Tok} {K : Nat}

theorem val_first (bl : List UInt8) (lg dt : Int) : valPs bl lg dt = (if lg = -1 then wordP bl [98] else numP bl (powL lg) (2 ^ lg.toNat)) :: List.replicate dt.toNat (symP [] 46) := rfl
theorem dots_body : ∀ n : Nat, (List.replicate n (symP [] 46)).flatMap (·.body) = List.replicate n 46
  | 0 => rfl
  | n + 1 => by rw [List.replicate_succ, List.flatMap_cons, dots_body n]; rfl
theorem val_body (bl : List UInt8) (lg dt : Int) : (if lg = -1 then wordP bl [98] else numP bl (powL lg) (2 ^ lg.toNat)).body ++ (List.replicate dt.toNat (symP [] 46)).flatMap (·.body) = valueL lg dt := by
  rw [dots_body, valueL]
  split <;> rfl

set_option maxHeartbeats 8000000 in
set_option maxRecDepth 100000 in
theorem value_at (h : Prs Y M tv toks pos line col 0 free ls ln es clk w) (hpos : pos ≤ 1000000) {lg dt : Int} (hv : valueE lg dt = 0) {bl : List UInt8} (hA : At toks pos (valPs bl lg dt)) {tn : Tok} (htn : toks[pos + (valPs bl lg dt).length]? = some tn) (hno : Joins false (dotL.map mk) tn = false) {b : Nat} (T : Tabs b w) :
    Calls Tryz.prog 53 #[.pointer (some ⟨Y, 0, none⟩)] w fun r w' => r = .returned (.agg #[.int .i64 lg, .int .i64 dt]) ∧ Prs Y M tv toks (pos + (valPs bl lg dt).length) line col 0 free ls ln es clk w' ∧ Away [Y] w w' := by
  obtain ⟨t, ht, hi⟩ := hA.first
  have h' : ¬ (lg < -1 ∨ 8 < lg ∨ dt < 0 ∨ 3 < dt) := fun e => by unfold valueE at hv; rw [if_pos e] at hv; cases hv
  have hel : (List.replicate dt.toNat (symP [] 46)).length ≤ 4 := by rw [List.length_replicate]; omega
  have hej : ∀ q ∈ List.replicate dt.toNat (symP [] 46), JoinsP false dotL q = true := fun q hq => by rw [(List.mem_replicate.1 hq).2]; decide
  have hpl : (valPs bl lg dt).length = (List.replicate dt.toNat (symP [] 46)).length + 1 := rfl
  have b0 := (Below.refl w.heap.size w).alloc (Nat.le_refl _) (.cells #[.int .i64 0, .int .i64 0] 25)
  have hR0 := heap_alloc_new w (.cells #[.int .i64 0, .int .i64 0] 25)
  have h0 := h.step b0
  have lY := h.lt
  have hcm : ∀ (K : Nat) w', Prs Y M tv toks pos line col 0 free ls ln es clk w' → SymRow K (dotL.map mk) w' → Calls Tryz.prog 110 #[.pointer (some ⟨Y, 0, none⟩), .bool false, .slice (some ⟨K, 0, none⟩) 1 1] w' fun r w'' => r = .returned (.tuple #[.string (mkB (valueL lg dt)), .int .i64 (((List.replicate dt.toNat (symP [] 46)).length + 1 : Nat) : Int)]) ∧ Below w'.heap.size w' w'' := fun K w' hS hK => by
    have hm := composed_at hS hpos false dotL (by decide) hK _ (List.replicate dt.toNat (symP [] 46)) hA (by omega) hej htn hno (by rw [val_body]; have := valueL_len hv; omega)
    rw [val_body] at hm
    exact hm
  rw [hpl]
  generalize hnn : (List.replicate dt.toNat (symP [] 46)).length + 1 = nn at hcm ⊢
  have hn8 : nn ≤ 8 := by omega
  have hpr := fun W (bW : Below w.heap.size w W) => value_reads hv W (T.step bW)
  generalize mkB (valueL lg dt) = tx at hcm hpr
  have xp := peek_ok h0 ht
  have hfd := field0_run t.kind (.string t.text) (.int .i64 t.value) (.string t.bytes) (.int .i64 t.line) (.int .i64 t.col) (.bool t.joined)
  by_cases hlg : lg = -1
  · have hk : t.kind = 1 := by have := hi.1; rw [if_pos hlg] at this; exact this
    have hb : IsTok t ⟨#[98]⟩ = true := by have := isTok_of hi [98]; rw [if_pos hlg] at this; exact this.trans (by simp [wordP])
    have xi := fun w' (b : Below w.heap.size w w') => is_ok (h.step b) ht ⟨#[98]⟩ hb
    rw [hk] at xp hfd
    clear hA htn hno hej hel hpl hnn hi hlg hb ht
    go_enter Tryz.func53, Tryz.ntmps53
    go_wp2_with (go_at_call 56; refine xp.mono ?_)
    intro r w1; first | (intro he b1; subst he) | rintro ⟨rfl, b1⟩
    have bb1 := b0.trans (b1.mono b0.size)
    have xi1 := xi w1 bb1
    go_wp2_with (go_at_call 72; (with_reducible refine xi1.mono ?_))
    intro r w2b; first | (intro he b1b; subst he) | rintro ⟨rfl, b1b⟩
    have b1' := b1.trans (b1b.mono b1.size)
    clear b1 bb1 xi xi1 b1b
    have b1 := b1'
    clear b1'
    have h1 := (h0.step b1).step ((Below.refl _ w2b).alloc (Nat.le_refl _) (.cells #[.string ⟨#[46]⟩] 9))
    have hR1 := (b1.block _ (Array.getElem?_eq_some_iff.1 hR0).1).trans hR0
    have lR1 := (Array.getElem?_eq_some_iff.1 hR1).1
    have hR2 := (Lib.alloc_old w2b (.cells #[.string ⟨#[46]⟩] 9) _ lR1).trans hR1
    have bb := (b0.trans (b1.mono b0.size)).alloc ((b0.trans (b1.mono b0.size)).size) (.cells #[.string ⟨#[46]⟩] 9)
    have hK : (w2b.alloc (.cells #[.string ⟨#[46]⟩] 9)).heap[w2b.heap.size]? = some (.cells ((dotL.map mk).map Value.string).toArray 9 (0, 0)) := heap_alloc_new w2b (.cells #[.string ⟨#[46]⟩] 9)
    have xc := compose_value (K := w2b.heap.size) (tx := tx) (a := lg) (b := dt) h1 nn hn8 hpos (fun w' b => hcm w2b.heap.size w' (h1.step b) ((b.block _ (by simp)).trans hK)) (fun w' b => hpr w' (bb.trans (b.mono bb.size)))
    clear xp h h0 b0 hR0 hpr hcm
    go_wp2_with (go_at_call 75; refine xc.mono ?_)
    intro r w2; first | (intro he hS b2; subst he) | rintro ⟨rfl, hS, b2⟩
    have hR3 := b2.heap hR2 (by simp; omega)
    have aw := (Away.of_below (bs := [Y]) bb).trans b2
    clear xc h1 hR1 hR2 b1 b2 bb hK lR1
    have r0 : w2.cell? ⟨w.heap.size, 0, none⟩ = some (.int .i64 0) := by rw [Lib.cell_of_heap hR3]; rfl
    have fr0 := Lib.frozen_of_heap hR3 0
    have r1 : w2.cell? ⟨w.heap.size, 1, none⟩ = some (.int .i64 0) := by rw [Lib.cell_of_heap hR3]; rfl
    have fr1 := Lib.frozen_of_heap hR3 1
    go_wp2
    have q0 := hS.elsewhere hR3 (by decide) (by decide) 0 (.int .i64 lg)
    have s0 := Lib.heap_setCell_same (i := 0) hR3 (.int .i64 lg)
    have q1 := q0.elsewhere s0 (by decide) (by decide) 1 (.int .i64 dt)
    have s1 := Lib.heap_setCell_same (i := 1) s0 (.int .i64 dt)
    refine bodyPost_ret (results_cell_row rfl _ _ w.heap.size 25 _ (0, 0) _ rfl s1 Tryz.underlying25 rfl Tryz.sizeValue) rfl ?_
    exact ⟨rfl, q1, (aw.setCell (p := ⟨w.heap.size, 0, none⟩) (.inr (Nat.le_refl _)) (.int .i64 lg)).setCell (p := ⟨w.heap.size, 1, none⟩) (.inr (Nat.le_refl _)) (.int .i64 dt)⟩
  · have hk : t.kind = 2 := by have := hi.1; rw [if_neg hlg] at this; exact this
    rw [hk] at xp hfd
    clear hA htn hno hej hel hpl hnn hi hlg ht
    go_enter Tryz.func53, Tryz.ntmps53
    go_wp2_with (go_at_call 56; refine xp.mono ?_)
    intro r w1; first | (intro he b1; subst he) | rintro ⟨rfl, b1⟩
    have h1 := (h0.step b1).step ((Below.refl _ w1).alloc (Nat.le_refl _) (.cells #[.string ⟨#[46]⟩] 9))
    have hR1 := (b1.block _ (Array.getElem?_eq_some_iff.1 hR0).1).trans hR0
    have lR1 := (Array.getElem?_eq_some_iff.1 hR1).1
    have hR2 := (Lib.alloc_old w1 (.cells #[.string ⟨#[46]⟩] 9) _ lR1).trans hR1
    have bb := (b0.trans (b1.mono b0.size)).alloc ((b0.trans (b1.mono b0.size)).size) (.cells #[.string ⟨#[46]⟩] 9)
    have hK : (w1.alloc (.cells #[.string ⟨#[46]⟩] 9)).heap[w1.heap.size]? = some (.cells ((dotL.map mk).map Value.string).toArray 9 (0, 0)) := heap_alloc_new w1 (.cells #[.string ⟨#[46]⟩] 9)
    have xc := compose_value (K := w1.heap.size) (tx := tx) (a := lg) (b := dt) h1 nn hn8 hpos (fun w' b => hcm w1.heap.size w' (h1.step b) ((b.block _ (by simp)).trans hK)) (fun w' b => hpr w' (bb.trans (b.mono bb.size)))
    clear xp h h0 b0 hR0 hpr hcm
    go_wp2_with (go_at_call 75; refine xc.mono ?_)
    intro r w2; first | (intro he hS b2; subst he) | rintro ⟨rfl, hS, b2⟩
    have hR3 := b2.heap hR2 (by simp; omega)
    have aw := (Away.of_below (bs := [Y]) bb).trans b2
    clear xc h1 hR1 hR2 b1 b2 bb hK lR1
    have r0 : w2.cell? ⟨w.heap.size, 0, none⟩ = some (.int .i64 0) := by rw [Lib.cell_of_heap hR3]; rfl
    have fr0 := Lib.frozen_of_heap hR3 0
    have r1 : w2.cell? ⟨w.heap.size, 1, none⟩ = some (.int .i64 0) := by rw [Lib.cell_of_heap hR3]; rfl
    have fr1 := Lib.frozen_of_heap hR3 1
    go_wp2
    have q0 := hS.elsewhere hR3 (by decide) (by decide) 0 (.int .i64 lg)
    have s0 := Lib.heap_setCell_same (i := 0) hR3 (.int .i64 lg)
    have q1 := q0.elsewhere s0 (by decide) (by decide) 1 (.int .i64 dt)
    have s1 := Lib.heap_setCell_same (i := 1) s0 (.int .i64 dt)
    refine bodyPost_ret (results_cell_row rfl _ _ w.heap.size 25 _ (0, 0) _ rfl s1 Tryz.underlying25 rfl Tryz.sizeValue) rfl ?_
    exact ⟨rfl, q1, (aw.setCell (p := ⟨w.heap.size, 0, none⟩) (.inr (Nat.le_refl _)) (.int .i64 lg)).setCell (p := ⟨w.heap.size, 1, none⟩) (.inr (Nat.le_refl _)) (.int .i64 dt)⟩
end
end Go.Proofs.YtholnnabakaliaaGreatDoor
