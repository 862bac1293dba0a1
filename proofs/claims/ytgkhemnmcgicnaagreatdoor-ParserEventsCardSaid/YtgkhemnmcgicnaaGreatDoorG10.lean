/- Towards the law ParserEvents, true for every text (no condition): one part of the proof. -/
import Derived.Test.YtgkhemnmcgicnaaGreatDoorG01
import Derived.Test.YtgkhemnmcgicnaaGreatDoorG09
import Derived.Deep.LoopGhost
import Derived.Deep.RegionHeld3
import Derived.Deep.RegionHeld
namespace Go.Proofs.YtgkhemnmcgicnaaGreatDoor
set_option maxHeartbeats 16000000
set_option maxRecDepth 100000
open Go.RowKit
theorem shut {p : Prop} (h : p) : Shut p := h
section
variable {Y M : Nat} {tv : Value} {toks : List Tok} {pos : Nat} {line col e : Int} {free : Bool} {ls ln : Int} {es : Array MapEntry} {clk : Nat} {w : World} {t : Tok} {K : Nat}
def SymRow (K : Nat) (sy : List ByteArray) (w : World) : Prop := w.heap[K]? = some (.cells (sy.map Value.string).toArray 9 (0, 0))
theorem SymRow.cell {sy : List ByteArray} (h : SymRow K sy w) {i : Nat} (hi : i < sy.length) : w.cell? ⟨K, i, none⟩ = some (.string sy[i]) := by
 rw [Lib.cell_of_heap h]; simp [hi]
theorem SymRow.step {sy : List ByteArray} {w' : World} (h : SymRow K sy w) (b : Below w.heap.size w w') : SymRow K sy w' := (b.block K (Array.getElem?_eq_some_iff.1 h).1).trans h
theorem index_walk (sy : List ByteArray) (x : ByteArray) (hn : sy.length <= 8) (h : SymRow K sy w) :
  Calls Tryz.prog 207 #[.slice (some ⟨K, 0, none⟩) sy.length sy.length, .string x] w fun r w' => (∃ i : Int, r = .returned (I i) /\ ((0 <= i /\ x ∈ sy) \/ (i < 0 /\ x ∉ sy))) /\ w' = w := by
 go_enter Tryz.func207, Tryz.ntmps207
 go_wp2
 go_loopg [8] sy.length (fun g v wr => ∃ k : Nat, k <= sy.length /\ g = sy.length - k /\ v = I (k : Nat) /\ wr = w /\ x ∉ sy.take k)
 case atStart => exact ⟨0, Nat.zero_le _, rfl, rfl, rfl, by simp⟩
 case round =>
  obtain ⟨k, hk, hg, rfl, rfl, hno⟩ := hrel
  by_cases hlt : k < sy.length
  ·have hlt' : (k : Int) < (sy.length : Int) := by omega
   have hk0 : (0 : Int) <= (k : Int) := by omega
   have c0 := h.cell hlt
   have m1 : IntKind.i64.wrap ((k : Int) + 1) = (k : Int) + 1 := IntWalk.i64_in _ (by omega)
   have hmem : sy[k] ∈ sy := List.getElem_mem hlt
   have htk : sy.take (k + 1) = sy.take k ++ [sy[k]] := List.take_succ_eq_append_getElem hlt
   generalize sy[k] = y at *
   by_cases hx : x = y
   ·subst hx
    clear hno htk h
    go_wp2
    go_ret
    exact ⟨⟨k, rfl, .inl ⟨by omega, hmem⟩⟩, rfl⟩
   ·have hx' := toList_ne hx
    have hbe : (x.toList == y.toList) = false := by simpa using hx'
    clear hmem h
    go_wp2
    go_roundg (sy.length - (k + 1))
    case measure => omega
    case rel => exact ⟨k + 1, by omega, rfl, by simp, rfl, by rw [htk]; simp [hno, hx]⟩
  ·have : k = sy.length := by omega
   subst this
   rw [List.take_length] at hno
   clear h
   go_wp2
   go_ret
   exact ⟨⟨-1, rfl, .inr ⟨by omega, hno⟩⟩, rfl⟩
theorem memB_yes {x : ByteArray} {sy : List ByteArray} (h : x ∈ sy) : memB x sy = true := List.any_eq_true.2 ⟨x, h, by simp⟩
theorem memB_no {x : ByteArray} {sy : List ByteArray} (h : x ∉ sy) : memB x sy = false := by
 cases hb : memB x sy with
 | false => rfl
 | true =>
  obtain ⟨y, hy, he⟩ := List.any_eq_true.1 hb
  exact absurd (of_decide_eq_true he ▸ hy) h
theorem contains_walk (sy : List ByteArray) (x : ByteArray) (hn : sy.length <= 8) (h : SymRow K sy w) :
  Calls Tryz.prog 178 #[.slice (some ⟨K, 0, none⟩) sy.length sy.length, .string x] w fun r w' => r = .returned (.bool (memB x sy)) /\ w' = w := by
 have hf := index_walk sy x hn h
 clear h
 go_enter Tryz.func178, Tryz.ntmps178
 go_wp2_with (go_at_call 207; refine hf.mono ?_)
 rintro r w1 ⟨⟨i, rfl, hi⟩, rfl⟩
 rcases hi with ⟨h0, hm⟩ | ⟨h0, hm⟩
 ·go_wp2
  go_ret
  exact ⟨by simp [memB_yes hm], rfl⟩
 ·have h0' : ¬ (0 : Int) <= i := by omega
  clear h0
  go_wp2
  go_ret
  exact ⟨by simp [memB_no hm]; omega, rfl⟩
theorem add_run (s t : ByteArray) (hs : s.size <= 20000000) (ht : t.size <= 20000000) (w : World) : (Op.stringOp .add s t).run Tryz.prog w = .ok (.string (s ++ t)) w :=
 Go.run_string_add_sum (P := Tryz.prog) (w := w) s t (by omega)
theorem Prs.tokAt (h : Prs Y M tv toks pos line col 0 free ls ln es clk w) (i : Nat) {t : Tok} (ht : toks[i]? = some t) :
  ∃ G cap, tv = .slice (some ⟨G, 0, none⟩) toks.length cap /\ ∀ j u, t.cells[j]? = some u -> w.cell? ⟨G, i * 7 + j, none⟩ = some u := by
 have hr := h.row rfl
 have hp : i < toks.length := (List.getElem?_eq_some_iff.1 ht).1
 obtain ⟨G, cap, rfl, _, _⟩ := hr.form (by omega)
 refine ⟨G, cap, rfl, fun j u hj => ?_⟩
 have := hr.cells (g := G) rfl (i * 7 + j) u (cells_at _ _ _ _ _ ht hj)
 have hadd : (⟨G, 0, none⟩ : Addr).add (i * 7 + j) = ⟨G, i * 7 + j, none⟩ := by unfold Addr.add; split <;> simp_all
 rwa [hadd] at this
theorem catT_snoc (l : List Tok) (s : ByteArray) (t : Tok) : catT (l ++ [t]) s = catT l s ++ t.text := by
 induction l generalizing s with
 | nil => rfl
 | cons a r ih => simp only [List.cons_append, catT]; exact ih _
theorem composed_walk (h : Prs Y M tv toks pos line col 0 free ls ln es clk w) {t tn : Tok} (ht : toks[pos]? = some t) (hpos : pos <= 1000000) (nu : Bool) (sy : List ByteArray) (hsy : sy.length <= 8) (hK : SymRow K sy w)
  (l : List Tok) (hl : ∀ (i : Nat) (x : Tok), l[i]? = some x -> toks[pos + 1 + i]? = some x /\ Joins nu sy x = true) (hlen : l.length <= 5000) (htn : toks[pos + 1 + l.length]? = some tn) (hno : Joins nu sy tn = false)
  (hsz : ∀ k, (catT (l.take k) t.text).size <= 20000000) :
  Calls Tryz.prog 144 #[.pointer (some ⟨Y, 0, none⟩), .bool nu, .slice (some ⟨K, 0, none⟩) sy.length sy.length] w fun r w' => r = .returned (.tuple #[.string (catT l t.text), I ((l.length : Int) + 1)]) /\ Below w.heap.size w w' := by
 have hp := peek_ok h ht
 have hst := fun w' (b : Below w.heap.size w w') => h.step b
 have hKs := fun w' (b : Below w.heap.size w w') => hK.step b
 have hlenT : pos + 1 + l.length < toks.length := (List.getElem?_eq_some_iff.1 htn).1
 have hfd := ftok1 t.kind t.value t.line t.col t.text t.bytes t.joined
 clear h ht hK
 go_enter Tryz.func144, Tryz.ntmps144
 go_wp2_with (go_at_call 62; refine hp.mono ?_)
 intro r w1; first | (intro he b1; subst he) | rintro ⟨rfl, b1⟩
 go_wp2
 go_loopg [8, 9] (l.length + 1) (fun g v u wr => ∃ k : Nat, k <= l.length /\ g = l.length + 1 - k /\ v = .string (catT (l.take k) t.text) /\ u = I ((k : Int) + 1) /\ Below w.heap.size w wr)
 case atStart => exact ⟨0, Nat.zero_le _, rfl, rfl, rfl, b1⟩
 case round =>
  obtain ⟨k, hk, hg, rfl, rfl, hb⟩ := hrel
  have hS := hst _ hb
  have hK1 := hKs _ hb
  obtain ⟨q, hq⟩ : ∃ q, q = pos + 1 + k := ⟨_, rfl⟩
  obtain ⟨x, hx, hj⟩ : ∃ x, toks[q]? = some x /\ Joins nu sy x = decide (k < l.length) := by
   by_cases hlt : k < l.length
   ·have h1 := hl k _ (List.getElem?_eq_getElem hlt)
    exact ⟨l[k], by rw [hq]; exact h1.1, by rw [h1.2]; simp [hlt]⟩
   ·have : k = l.length := by omega
    subst this
    exact ⟨tn, by rw [hq]; exact htn, by rw [hno]; simp⟩
  have hw : IntKind.i64.wrap ((pos : Int) + ((k : Int) + 1)) = (q : Int) := by rw [hq, IntWalk.i64_in _ (by omega)]; omega
  have hw2 : IntKind.i64.wrap ((k : Int) + 1 + 1) = (k : Int) + 1 + 1 := IntWalk.i64_in _ (by omega)
  have hlt : (q : Int) < (toks.length : Int) := by omega
  have hp0 : (0 : Int) <= (q : Int) := by omega
  obtain ⟨G, cap, rfl, hc⟩ := hS.tokAt q hx
  have c0 := hS.c0
  have c1 := hS.c1
  have u0 : wr.cell? ⟨G, q * 7, none⟩ = some (I x.kind) := hc 0 _ rfl
  have u1 := hc 1 _ rfl
  have u2 := hc 2 _ rfl
  have u3 := hc 3 _ rfl
  have u4 := hc 4 _ rfl
  have u5 := hc 5 _ rfl
  have u6 := hc 6 _ rfl
  have n0 := World.new_ne wr _ c0
  have n1 := World.new_ne wr _ u0
  have l0 := World.block_lt_of_cell? wr _ c0
  have l1 := World.block_lt_of_cell? wr _ u0
  simp only at l0 l1
  obtain ⟨tk, htk⟩ : ∃ s, s = catT (l.take k) t.text := ⟨_, rfl⟩
  have hsz0 := hsz k
  have hsz1 := hsz (k + 1)
  rw [<- htk] at hsz0 ⊢
  have nxt : k < l.length -> catT (l.take (k + 1)) t.text = tk ++ x.text := fun hlt => by
   have h1 := (hl k _ (List.getElem?_eq_getElem hlt)).1
   rw [<- hq, hx] at h1
   rw [List.take_succ_eq_append_getElem hlt, catT_snoc, <- htk, Option.some.inj h1]
  have fin0 : ¬ k < l.length -> tk = catT l t.text := fun hlt => by
   have : k = l.length := by omega
   rw [htk, this, List.take_length]
  have hct := fun W (hW : SymRow K sy W) => contains_walk sy x.text hsy hW
  have NF := shut (And.intro nxt (And.intro fin0 (And.intro hsz0 hsz1)))
  have hb2 := hb.alloc hb.size (.cells #[I x.kind, .string x.text, I x.value, .string x.bytes, I x.line, I x.col, .bool x.joined] 59)
  have hK2 := hKs _ (hb2.drew.drew)
  clear hc hx hS htk nxt fin0 hsz0 hsz1 hst hKs hp b1
  have HJ := shut hj
  have HQ := shut hq
  clear hj hq
  go_wp2
  go_region_held3 (fun w' => w'.cell? ⟨Y, 0, none⟩ = some (.slice (some ⟨G, 0, none⟩) toks.length cap) /\ w'.cell? ⟨Y, 1, none⟩ = some (I pos) /\
   w'.cell? ⟨G, q * 7, none⟩ = some (I x.kind) /\ w'.cell? ⟨G, q * 7 + 1, none⟩ = some (.string x.text) /\ w'.cell? ⟨G, q * 7 + 2, none⟩ = some (I x.value) /\
   w'.cell? ⟨G, q * 7 + 3, none⟩ = some (.string x.bytes) /\ w'.cell? ⟨G, q * 7 + 4, none⟩ = some (I x.line) /\ w'.cell? ⟨G, q * 7 + 5, none⟩ = some (I x.col) /\ w'.cell? ⟨G, q * 7 + 6, none⟩ = some (.bool x.joined)) (go_keep) (fail)
  go_wp2
  go_region_held3 (fun w' => w'.cell? ⟨Y, 0, none⟩ = some (.slice (some ⟨G, 0, none⟩) toks.length cap) /\ w'.cell? ⟨Y, 1, none⟩ = some (I pos) /\
   w'.cell? ⟨G, q * 7, none⟩ = some (I x.kind) /\ w'.cell? ⟨G, q * 7 + 1, none⟩ = some (.string x.text) /\ w'.cell? ⟨G, q * 7 + 2, none⟩ = some (I x.value) /\
   w'.cell? ⟨G, q * 7 + 3, none⟩ = some (.string x.bytes) /\ w'.cell? ⟨G, q * 7 + 4, none⟩ = some (I x.line) /\ w'.cell? ⟨G, q * 7 + 5, none⟩ = some (I x.col) /\ w'.cell? ⟨G, q * 7 + 6, none⟩ = some (.bool x.joined)) (go_keep) (fail)
  have hjj : x.joined = false \/ x.joined = true := by cases x.joined <;> simp
  rcases hjj with hj0 | hj0
  ·have hn : ¬ k < l.length := fun hlt => by
    have := HJ.out
    rw [Joins, hj0, decide_eq_true hlt] at this
    cases this
   have hf := NF.out.2.1 hn
   have hkl : k = l.length := by omega
   subst hf
   subst hkl
   rw [hj0] at hb2 ⊢
   clear hct
   go_wp2
   refine bodyPost_ret (results_tmp2 rfl _ _ _) rfl ?_
   exact ⟨by simp, hb2.drew.drew⟩
  ·rw [hj0] at hb2 hK2 ⊢
   cases nu with
   | false =>
    by_cases hk4 : x.kind = 4
    ·have hk4' : decide (x.kind = 4) = true := decide_eq_true hk4
     rw [hk4] at hb2 hK2 ⊢
     cases hm : memB x.text sy with
     | true =>
      have hlt : k < l.length := by
       have := HJ.out
       rw [Joins, hj0, hk4', hm] at this
       simpa using this.symm
      have hnx := NF.out.1 hlt
      have had := fun ww => add_run tk x.text NF.out.2.2.1 (by have h1 := NF.out.2.2.2; rw [hnx] at h1; rw [ByteArray.size_append] at h1; omega) ww
      have hc1 := hct _ hK2
      rw [hm] at hc1
      go_wp2_with (go_at_call 178; (with_reducible refine hc1.mono ?_); rintro r w2 ⟨rfl, rfl⟩)
      clear hct
      go_wp2
      go_roundg (l.length + 1 - (k + 1))
      case measure => omega
      case rel => exact ⟨k + 1, by omega, rfl, by rw [hnx], by simp, hb2.drew.drew⟩
     | false =>
      have hn : ¬ k < l.length := fun hlt => by
       have := HJ.out
       rw [Joins, hj0, hk4', hm, decide_eq_true hlt] at this
       simp at this
      have hf := NF.out.2.1 hn
      have hkl : k = l.length := by omega
      rw [hf]
      have hc1 := hct _ hK2
      rw [hm] at hc1
      go_wp2_with (go_at_call 178; (with_reducible refine hc1.mono ?_); rintro r w2 ⟨rfl, rfl⟩)
      clear hct
      go_wp2
      refine bodyPost_ret (results_tmp2 rfl _ _ _) rfl ?_
      exact ⟨by simp, hb2.drew.drew⟩
    ·have hk4' : decide (x.kind = 4) = false := decide_eq_false hk4; have hk4b : (x.kind == 4) = false := by simp [hk4]
     have hn : ¬ k < l.length := fun hlt => by
      have := HJ.out
      rw [Joins, hj0, hk4', decide_eq_true hlt] at this
      simp at this
     have hf := NF.out.2.1 hn
     have hkl : k = l.length := by omega
     rw [hf]
     clear hct
     go_wp2
     refine bodyPost_ret (results_tmp2 rfl _ _ _) rfl ?_
     exact ⟨by simp [hkl], hb2.drew.drew⟩
   | true =>
    by_cases hk2 : x.kind = 2
    ·have hk2' : decide (x.kind = 2) = true := decide_eq_true hk2
     rw [hk2] at hb2 hK2 ⊢
     have hlt : k < l.length := by
      have := HJ.out
      rw [Joins, hj0, hk2'] at this
      simpa using this.symm
     have hnx := NF.out.1 hlt
     have had := fun ww => add_run tk x.text NF.out.2.2.1 (by have h1 := NF.out.2.2.2; rw [hnx] at h1; rw [ByteArray.size_append] at h1; omega) ww
     clear hct
     go_wp2
     go_roundg (l.length + 1 - (k + 1))
     case measure => omega
     case rel => exact ⟨k + 1, by omega, rfl, by rw [hnx], by simp, hb2.drew.drew⟩
    ·have hk2' : decide (x.kind = 2) = false := decide_eq_false hk2; have hk2b : (x.kind == 2) = false := by simp [hk2]
     by_cases hk4 : x.kind = 4
     ·have hk4' : decide (x.kind = 4) = true := decide_eq_true hk4
      rw [hk4] at hb2 hK2 ⊢
      cases hm : memB x.text sy with
      | true =>
       have hlt : k < l.length := by
        have := HJ.out
        rw [Joins, hj0, hk2', hk4', hm] at this
        simpa using this.symm
       have hnx := NF.out.1 hlt
       have had := fun ww => add_run tk x.text NF.out.2.2.1 (by have h1 := NF.out.2.2.2; rw [hnx] at h1; rw [ByteArray.size_append] at h1; omega) ww
       have hc1 := hct _ hK2
       rw [hm] at hc1
       go_wp2_with (go_at_call 178; (with_reducible refine hc1.mono ?_); rintro r w2 ⟨rfl, rfl⟩)
       clear hct
       go_wp2
       go_roundg (l.length + 1 - (k + 1))
       case measure => omega
       case rel => exact ⟨k + 1, by omega, rfl, by rw [hnx], by simp, hb2.drew.drew⟩
      | false =>
       have hn : ¬ k < l.length := fun hlt => by
        have := HJ.out
        rw [Joins, hj0, hk2', hk4', hm, decide_eq_true hlt] at this
        simp at this
       have hf := NF.out.2.1 hn
       have hkl : k = l.length := by omega
       rw [hf]
       have hc1 := hct _ hK2
       rw [hm] at hc1
       go_wp2_with (go_at_call 178; (with_reducible refine hc1.mono ?_); rintro r w2 ⟨rfl, rfl⟩)
       clear hct
       go_wp2
       refine bodyPost_ret (results_tmp2 rfl _ _ _) rfl ?_
       exact ⟨by simp, hb2.drew.drew⟩
     ·have hk4' : decide (x.kind = 4) = false := decide_eq_false hk4; have hk4b : (x.kind == 4) = false := by simp [hk4]
      have hn : ¬ k < l.length := fun hlt => by
       have := HJ.out
       rw [Joins, hj0, hk2', hk4', decide_eq_true hlt] at this
       simp at this
      have hf := NF.out.2.1 hn
      have hkl : k = l.length := by omega
      rw [hf]
      clear hct
      go_wp2
      refine bodyPost_ret (results_tmp2 rfl _ _ _) rfl ?_
      exact ⟨by simp [hkl], hb2.drew.drew⟩
end
theorem take_stop {α : Type} (p : α -> Bool) : ∀ (l : List α), (∃ x ∈ l, p x = false) -> ∃ x, l[(l.takeWhile p).length]? = some x /\ p x = false
 | [], h => by obtain ⟨x, hx, _⟩ := h; cases hx
 | a :: r, h => by
  cases hp : p a with
  | false => exact ⟨a, by simp [hp], hp⟩
  | true =>
   obtain ⟨x, hx, hf⟩ := h
   have hxr : x ∈ r := by
    rcases List.mem_cons.1 hx with rfl | hx
    ·rw [hp] at hf; cases hf
    ·exact hx
   obtain ⟨y, hy, hyf⟩ := take_stop p r ⟨x, hxr, hf⟩
   refine ⟨y, ?_, hyf⟩
   rw [List.takeWhile_cons, hp]
   simpa using hy
theorem take_get {α : Type} (p : α -> Bool) : ∀ (l : List α) (i : Nat) (x : α), (l.takeWhile p)[i]? = some x -> l[i]? = some x /\ p x = true
 | [], i, x, h => by simp at h
 | a :: r, i, x, h => by
  rw [List.takeWhile_cons] at h
  cases hp : p a with
  | false => rw [hp] at h; simp at h
  | true =>
   rw [hp] at h
   cases i with
   | zero =>
    have : a = x := by simpa using h
    subst this
    exact ⟨rfl, hp⟩
   | succ i => simpa using take_get p r i x (by simpa using h)
theorem run_spec {T : List Tok} (g : GoodT T) (nu : Bool) (sy : List ByteArray) {p : Nat} (hp : p + 1 < T.length) :
  (∀ (i : Nat) (x : Tok), (runS T nu sy (.ok p))[i]? = some x -> T[p + 1 + i]? = some x /\ Joins nu sy x = true) /\
  ∃ tn, T[p + 1 + (runS T nu sy (.ok p)).length]? = some tn /\ Joins nu sy tn = false := by
 unfold runS
 refine ⟨fun i x h => ?_, ?_⟩
 ·obtain ⟨h1, h2⟩ := take_get _ _ i x h
  rw [List.getElem?_drop] at h1
  exact ⟨h1, h2⟩
 ·have hl := g.last.1
  have hlast : (T.drop (p + 1)).getD (T.length - 1 - (p + 1)) noTok = T.getD (T.length - 1) noTok := by
   rw [List.getD_eq_getElem?_getD, List.getD_eq_getElem?_getD, List.getElem?_drop, show p + 1 + (T.length - 1 - (p + 1)) = T.length - 1 by omega]
  obtain ⟨x, h1, h2⟩ := take_stop (Joins nu sy) (T.drop (p + 1)) ⟨T.getD (T.length - 1) noTok, by
   rw [<- hlast, List.getD_eq_getElem?_getD, List.getElem?_eq_getElem (by rw [List.length_drop]; omega)]
   exact List.getElem_mem _, by unfold Joins; rw [hl]; simp⟩
  rw [List.getElem?_drop] at h1
  exact ⟨x, h1, h2⟩
theorem run_len {T : List Tok} (g : GoodT T) (nu : Bool) (sy : List ByteArray) {p : Nat} (hp : p + 1 < T.length) : p + 1 + (runS T nu sy (.ok p)).length < T.length := by
 obtain ⟨_, tn, h, _⟩ := run_spec g nu sy hp
 exact (List.getElem?_eq_some_iff.1 h).1
theorem text_le {T : List Tok} (g : GoodT T) (i : Nat) (hi : i < T.length) : (T.getD i noTok).text.size <= 4000 := by
 rcases Nat.lt_or_ge (i + 1) T.length with h | h
 ·exact (g.ok i h).sz
 ·rw [show i = T.length - 1 by omega]; exact g.last.2
theorem catT_size : ∀ (l : List Tok) (s : ByteArray), (∀ x ∈ l, x.text.size <= 4000) -> (catT l s).size <= s.size + 4000 * l.length
 | [], s, _ => by simp [catT]
 | t :: r, s, h => by
  have h1 := catT_size r (s ++ t.text) fun x hx => h x (List.mem_cons_of_mem _ hx)
  have h2 := h t List.mem_cons_self
  rw [catT, List.length_cons]
  rw [ByteArray.size_append] at h1
  omega
theorem run_size {T : List Tok} (g : GoodT T) (nu : Bool) (sy : List ByteArray) {p : Nat} (hp : p + 1 < T.length) (k : Nat) : (catT ((runS T nu sy (.ok p)).take k) (T.getD p noTok).text).size <= 20000000 := by
 have hl := run_len g nu sy hp
 have hm := g.max
 have hs := (run_spec g nu sy hp).1
 have h1 := catT_size ((runS T nu sy (.ok p)).take k) (T.getD p noTok).text fun x hx => by
  obtain ⟨i, hi, rfl⟩ := List.mem_iff_getElem.1 (List.mem_of_mem_take hx)
  have h2 := (hs i _ (List.getElem?_eq_getElem hi)).1
  have h3 := (List.getElem?_eq_some_iff.1 h2).1
  have h4 := text_le g _ h3
  rw [List.getD_eq_getElem?_getD, h2] at h4
  exact h4
 have h2 := text_le g p (by omega)
 have h3 : ((runS T nu sy (.ok p)).take k).length <= (runS T nu sy (.ok p)).length := by rw [List.length_take]; omega
 omega
section
variable {T : List Tok} {Y M K : Nat} {free : Bool} {w : World}
theorem composed_s {p : Nat} (h : PS T Y M free (.ok p) w) (hp : p + 1 < T.length) (nu : Bool) (sy : List ByteArray) (hsy : sy.length <= 8) (hK : SymRow K sy w) :
  Calls Tryz.prog 144 #[.pointer (some ⟨Y, 0, none⟩), .bool nu, .slice (some ⟨K, 0, none⟩) sy.length sy.length] w fun r w' => r = .returned (.tuple #[.string (compF T nu sy (.ok p)), I (((runS T nu sy (.ok p)).length : Int) + 1)]) /\ Below w.heap.size w w' := by
 obtain ⟨g, tv, pos, line, col, e, ls, ln, es, clk, h1, h2, h3⟩ := h
 obtain ⟨rfl, rfl, rfl, rfl, hlt⟩ := h3
 have hm := g.max
 have hl := run_len g nu sy hp
 obtain ⟨hs, tn, htn, hno⟩ := run_spec g nu sy hp
 exact composed_walk h1 (getD_some hlt) (by omega) nu sy hsy hK (runS T nu sy (.ok p)) hs (by omega) htn hno (run_size g nu sy hp)
end
end Go.Proofs.YtgkhemnmcgicnaaGreatDoor
