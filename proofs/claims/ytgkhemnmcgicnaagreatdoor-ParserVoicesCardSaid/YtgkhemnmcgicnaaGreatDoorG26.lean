/- Towards the law ParserVoices, true for every text (no condition): one part of the proof. -/
import Derived.Test.YtgkhemnmcgicnaaGreatDoorG01
import Derived.Test.YtgkhemnmcgicnaaGreatDoorG25
namespace Go.Proofs.YtgkhemnmcgicnaaGreatDoor
set_option maxHeartbeats 32000000
set_option maxRecDepth 100000
open Go.RowKit
def iA (f : Bool) (x : bD) (sy : List ByteArray) (i : Nat) : Bool := f || (decide (x.kind = 4) && xF x.text (sy.take i))
theorem iA.zero (f : Bool) (x : bD) (sy : List ByteArray) : iA f x sy 0 = f := by simp [iA, xF]
theorem iA.hit {f : Bool} {x : bD} {sy : List ByteArray} {i : Nat} (h : iA f x sy i = true) : iA f x sy (i + 1) = true := by
 unfold iA at *
 simp only [Bool.or_eq_true, qqx] at *
 rcases h with h | ⟨h1, h2⟩
 ·exact .inl h
 ·refine .inr ⟨h1, ?_⟩
  obtain ⟨y, hy, he⟩ := List.any_eq_true.1 h2
  exact List.any_eq_true.2 ⟨y, by rw [List.take_add_one]; exact List.mem_append_left _ hy, he⟩
theorem TT (x : ByteArray) (a b : List ByteArray) : xF x (a ++ b) = (xF x a || xF x b) := by unfold xF; rw [List.any_append]
theorem iA.next {f : Bool} {x : bD} {sy : List ByteArray} {i : Nat} (h : iA f x sy i = false) (hi : i < sy.length) : iA f x sy (i + 1) = (decide (x.kind = 4) && decide (x.text = sy[i])) := by
 unfold iA at *
 simp only [Bool.or_eq_false_iff, Bool.and_eq_false_imp] at h
 obtain ⟨rfl, h2⟩ := h
 rw [Bool.false_or, qqy hi, TT]
 cases h4 : decide (x.kind = 4) with
 | false => rfl
 | true => rw [h2 h4]; simp [xF]
section
variable {T : List bD} {X : Nat} {free : Bool} {lv iv : Value} {w : World}
theorem A4 {p : Nat} (h : MS T X free lv iv (.ok p) w) (hp : p + 1 < T.length) (ys : ByteArray) (sy : List ByteArray) (hsy : sy.length = ys.size) (hys : ys.size <= 8) (hget : ∀ i (h : i < sy.length), ys.extract i (i + 1) = sy[i]) :
  Calls Tryz.prog 66 #[.pointer (some ⟨X, 0, none⟩), .string ys, .bool false] w fun r w' => r = .returned (.tuple #[.string (kG T false sy (.ok p)), I (((gK T false sy (.ok p)).length : Int) + 1)]) /\ Below w.heap.size w w' := by
 have hn := pR h
 obtain ⟨g, pos, is, im, n, xs, e, line, col, h1, h2, h3⟩ := h
 obtain ⟨rfl, rfl, rfl, rfl, hlt0⟩ := h2
 have hm := g.max
 have hl := oN g false sy hp
 obtain ⟨hs, tn, htn, hno⟩ := tF g false sy hp
 have hsz := xP g false sy hp
 have hst := fun w' (b : Below w.heap.size w w') => h1.step b
 unfold kG
 generalize gK T false sy (.ok p) = l at hl hs htn hsz |-
 rw [show T.getD p dA = aW T (.ok p) from rfl] at hsz
 generalize aW T (.ok p) = t at hn hsz |-
 have hfd := QF t.kind t.value t.line t.col t.text t.bytes t.joined
 unfold fK at hn
 clear h1 g h3
 go_enter Tryz.func66, Tryz.ntmps66
 go_wp2_with (go_at_call 31; refine hn.mono ?_)
 intro r w1; first | (intro he b1; subst he) | rintro ⟨rfl, b1⟩
 go_wp2
 go_loopg [8, 9] (l.length + 1) (fun g v u wr => ∃ k : Nat, k <= l.length /\ g = l.length + 1 - k /\ v = .string (nT (l.take k) t.text) /\ u = I ((k : Int) + 1) /\ Below w.heap.size w wr)
 case atStart => exact ⟨0, qn _, rfl, rfl, rfl, b1⟩
 case round =>
  obtain ⟨k, hk, hg, rfl, rfl, hb⟩ := hrel
  have hS := hst _ hb
  obtain ⟨q, hq⟩ : ∃ q, q = p + 1 + k := ⟨_, rfl⟩
  obtain ⟨x, hx, hj⟩ : ∃ x, T[q]? = some x /\ Joins false sy x = decide (k < l.length) := by
   by_cases hlt : k < l.length
   ·have h1 := hs k _ (qo hlt)
    exact ⟨l[k], by rw [hq]; exact h1.1, by rw [h1.2]; simp [hlt]⟩
   ·have : k = l.length := by omega
    subst this
    exact ⟨tn, by rw [hq]; exact htn, by rw [hno]; simp⟩
  have hw : IntKind.i64.wrap ((p : Int) + ((k : Int) + 1)) = (q : Int) := by rw [hq, IntWalk.i64_in _ (by omega)]; omega
  have hw2 : IntKind.i64.wrap ((k : Int) + 1 + 1) = (k : Int) + 1 + 1 := IntWalk.i64_in _ (by omega)
  have hlt : (q : Int) < (T.length : Int) := by omega
  have hp0 : (0 : Int) <= (q : Int) := by omega
  obtain ⟨G, cap, rfl, hc⟩ := hS.tok q hx
  have c0 := hS.c0
  have c1 := hS.c1
  have u0 : wr.cell? ⟨G, q * 7, none⟩ = some (I x.kind) := hc 0 _ rfl
  have u1 := hc 1 _ rfl
  have u2 := hc 2 _ rfl
  have u3 := hc 3 _ rfl
  have u4 := hc 4 _ rfl
  have u5 := hc 5 _ rfl
  have u6 := hc 6 _ rfl
  have n0 := qr wr _ c0
  have n1 := qr wr _ u0
  have l0 := ql wr _ c0
  have l1 := ql wr _ u0
  simp only at l0 l1
  obtain ⟨tk, htk⟩ : ∃ s, s = nT (l.take k) t.text := ⟨_, rfl⟩
  have hsz0 := hsz k
  have hsz1 := hsz (k + 1)
  rw [<- htk] at hsz0 |-
  have nxt : k < l.length -> nT (l.take (k + 1)) t.text = tk ++ x.text := fun hlt => by
   have h1 := (hs k _ (qo hlt)).1
   rw [<- hq, hx] at h1
   rw [qqy hlt, xX, <- htk, qqz h1]
  have fin0 : ¬ k < l.length -> tk = nT l t.text := fun hlt => by
   have : k = l.length := by omega
   rw [htk, this, List.take_length]
  have NF := aQ (And.intro nxt (And.intro fin0 (And.intro hsz0 hsz1)))
  have hb2 := (hb.alloc hb.size (.cells #[I x.kind, .string x.text, I x.value, .string x.bytes, I x.line, I x.col, .bool x.joined] 59)).drew.drew
  have hb1 := hb.drew
  have hBt : ((wr.alloc (.cells #[I x.kind, .string x.text, I x.value, .string x.bytes, I x.line, I x.col, .bool x.joined] 59)).drew.drew).heap[wr.heap.size]? = _ := qc wr _
  clear hc hx hS htk nxt fin0 hsz0 hsz1 hst hn b1
  have HJ := aQ hj
  have HQ := aQ hq
  have HS := aQ hsy
  clear hj hq hsy
  have hjj : x.joined = false \/ x.joined = true := by cases x.joined <;> simp
  rcases hjj with hj0 | hj0
  ·have hn : ¬ k < l.length := fun hlt => by
    have := HJ.out
    rw [Joins, hj0, qu hlt] at this
    cases this
   have hf := NF.out.2.1 hn
   have hkl : k = l.length := by omega
   subst hf
   subst hkl
   rw [hj0] at u6
   go_wp2
   go_region_held3 (fun w' => w'.cell? ⟨X, 0, none⟩ = some (.slice (some ⟨G, 0, none⟩) T.length cap) /\ w'.cell? ⟨X, 1, none⟩ = some (I p) /\ w'.cell? ⟨G, q * 7 + 6, none⟩ = some (.bool false)) (go_keep) (fail)
   go_wp2
   refine qf (qqg rfl _ _ _) rfl ?_
   exact ⟨by simp, hb1⟩
  ·rw [hj0] at u6 hb2 hBt
   go_wp2
   go_region_held3 (fun w' => w'.cell? ⟨X, 0, none⟩ = some (.slice (some ⟨G, 0, none⟩) T.length cap) /\ w'.cell? ⟨X, 1, none⟩ = some (I p) /\ w'.cell? ⟨G, q * 7 + 6, none⟩ = some (.bool true)) (go_keep) (fail)
   go_wp2
   go_region_held3 (fun w' => w'.cell? ⟨X, 0, none⟩ = some (.slice (some ⟨G, 0, none⟩) T.length cap) /\ w'.cell? ⟨X, 1, none⟩ = some (I p) /\
    w'.cell? ⟨G, q * 7, none⟩ = some (I x.kind) /\ w'.cell? ⟨G, q * 7 + 1, none⟩ = some (.string x.text) /\ w'.cell? ⟨G, q * 7 + 2, none⟩ = some (I x.value) /\
    w'.cell? ⟨G, q * 7 + 3, none⟩ = some (.string x.bytes) /\ w'.cell? ⟨G, q * 7 + 4, none⟩ = some (I x.line) /\ w'.cell? ⟨G, q * 7 + 5, none⟩ = some (I x.col) /\ w'.cell? ⟨G, q * 7 + 6, none⟩ = some (.bool true)) (go_keep) (fail)
   generalize hBB : wr.heap.size = Bt at hBt |-
   generalize hWO : (wr.alloc (.cells #[I x.kind, .string x.text, I x.value, .string x.bytes, I x.line, I x.col, .bool true] 59)).drew.drew = wo at hb2 hBt |-
   have j0 : wo.cell? ⟨Bt, 0, none⟩ = some (I x.kind) := by rw [Lib.cell_of_heap hBt]; rfl
   have j1 : wo.cell? ⟨Bt, 1, none⟩ = some (.string x.text) := by rw [Lib.cell_of_heap hBt]; rfl
   clear u0 u1 u2 u3 u4 u5 u6 n0 n1 l0 l1 c0 c1 hb1 hWO hBB hw hlt hp0
   have HB := aQ hb
   clear hb
   go_wp2
   go_loopg [11, 12] (ys.size + 1) (fun g v u wr => ∃ i : Nat, i <= ys.size /\ g = ys.size + 1 - i /\ u = I (i : Nat) /\ v = .bool (iA false x sy i) /\ Below w.heap.size w wr /\ wr.heap[Bt]? = some (.cells #[I x.kind, .string x.text, I x.value, .string x.bytes, I x.line, I x.col, .bool true] 59 (0, 0)))
   case atStart => exact ⟨0, qn _, rfl, rfl, by rw [iA.zero], hb2, hBt⟩
   case round =>
    clear hb2 hBt j0 j1
    obtain ⟨i, hi, hgi, rfl, rfl, hbi, hBi⟩ := hrel
    have i0 : wr.cell? ⟨Bt, 0, none⟩ = some (I x.kind) := by rw [Lib.cell_of_heap hBi]; rfl
    have i1 : wr.cell? ⟨Bt, 1, none⟩ = some (.string x.text) := by rw [Lib.cell_of_heap hBi]; rfl
    by_cases hlti : i < ys.size
    ·have hlti' : (i : Int) < (ys.size : Int) := by omega
     have hi0 : (0 : Int) <= (i : Int) := by omega
     obtain ⟨i2, hi2⟩ : ∃ i2, i2 = i + 1 := ⟨_, rfl⟩
     have mi : IntKind.i64.wrap ((i : Int) + 1) = (i2 : Int) := by rw [hi2, IntWalk.i64_in _ (by omega)]; omega
     have his : i < sy.length := by have := HS.out; omega
     have hge := hget i his
     rw [<- hi2] at hge
     have HI := aQ hi2
     have hi3 : (i : Int) <= (i2 : Int) := by omega
     have hi4 : (i2 : Int) <= (ys.size : Int) := by omega
     cases hF : iA false x sy i with
     | true =>
      have hnx := iA.hit hF
      rw [<- hi2] at hnx
      clear hi2 hge hget
      go_wp2
      have hSd : wr.drew.cell? ⟨Bt, 0, none⟩ = some (I x.kind) /\ wr.drew.cell? ⟨Bt, 1, none⟩ = some (.string x.text) := ⟨i0, i1⟩
      refine qx ?_
      refine qp (S := fun w' => w'.cell? ⟨Bt, 0, none⟩ = some (I x.kind) /\ w'.cell? ⟨Bt, 1, none⟩ = some (.string x.text)) (by kernel_rfl) hSd (fun hHeld => ?_)
      refine bZ 0 (.bool true) rfl ?_
      try simp only [ap, nm]
      refine bZ 1 (.bool true) rfl ?_
      try simp only [ap, nm]
      refine dU 2 rfl ?_
      try simp only [ap, nm]
      refine dU 3 rfl ?_
      try simp only [ap, nm]
      refine dU 4 rfl ?_
      try simp only [ap, nm]
      refine dU 5 rfl ?_
      try simp only [ap, nm]
      refine dU 6 rfl ?_
      try simp only [ap, nm]
      refine dU 7 rfl ?_
      try simp only [ap, nm]
      refine dU 8 rfl ?_
      try simp only [ap, nm]
      refine dU 9 rfl ?_
      try simp only [ap, nm]
      refine dU 10 rfl ?_
      try simp only [ap, nm]
      refine dU 11 rfl ?_
      try simp only [ap, nm]
      refine dU 12 rfl ?_
      try simp only [ap, nm]
      refine dU 13 rfl ?_
      try simp only [ap, nm]
      refine dU 14 rfl ?_
      try simp only [ap, nm]
      refine bZ 15 (.bool true) rfl ?_
      try simp only [ap, nm]
      refine bZ 16 (.bool true) rfl ?_
      try simp only [ap, nm]
      refine qqr (by kernel_rfl) ?_ _
      refine qqf ?_
      clear i0 i1
      go_wp2
      go_roundg (ys.size + 1 - i2)
      case measure => have := HI.out; omega
      case rel => exact ⟨i2, by have := HI.out; omega, rfl, rfl, by rw [hnx]; first | done | rfl | simp, hbi.drew, hBi⟩
     | false =>
      have hnx := iA.next hF his
      rw [<- hi2, <- hge] at hnx
      clear hi2 hge hget
      by_cases hk4 : x.kind = 4
      ·have hk4b : (x.kind == 4) = true := by simp [hk4]
       rw [hk4] at i0
       by_cases htx : x.text = ys.extract i i2
       ·rw [qu hk4, qu htx] at hnx
        rw [htx] at i1
        go_wp2
        have hSd : wr.drew.cell? ⟨Bt, 0, none⟩ = some (I 4) /\ wr.drew.cell? ⟨Bt, 1, none⟩ = some (.string (ys.extract i i2)) := ⟨i0, i1⟩
        refine qx ?_
        refine qp (S := fun w' => w'.cell? ⟨Bt, 0, none⟩ = some (I 4) /\ w'.cell? ⟨Bt, 1, none⟩ = some (.string (ys.extract i i2))) (by kernel_rfl) hSd (fun hHeld => ?_)
        refine bZ 0 (.bool false) rfl ?_
        try simp only [ap, nm]
        refine bZ 1 (.bool false) rfl ?_
        try simp only [ap, nm]
        refine gA 2 ?v2 rfl ?hy2 ?_
        case hy2 => (intro wq hSw; go_simp; try (with_reducible rfl))
        try simp only [ap, nm]
        refine gA 3 (I 4) rfl ?hy3 ?_
        case hy3 => (intro wq hSw; obtain ⟨hS0, hS1⟩ := hSw; go_simp; try rfl)
        try simp only [ap, nm]
        refine bZ 4 (.bool true) rfl ?_
        try simp only [ap, nm]
        refine bZ 5 (.bool true) rfl ?_
        try simp only [ap, nm]
        refine gA 6 ?v6 rfl ?hy6 ?_
        case hy6 => (intro wq hSw; go_simp; try (with_reducible rfl))
        try simp only [ap, nm]
        refine gA 7 (.string (ys.extract i i2)) rfl ?hy7 ?_
        case hy7 => (intro wq hSw; obtain ⟨hS0, hS1⟩ := hSw; go_simp; try rfl)
        try simp only [ap, nm]
        refine bZ 8 (.string ys) rfl ?_
        try simp only [ap, nm]
        refine bZ 9 (I (i : Nat)) rfl ?_
        try simp only [ap, nm]
        refine bZ 10 (I (i : Nat)) rfl ?_
        try simp only [ap, nm]
        refine bZ 11 (I (i2 : Nat)) rfl ?_
        try simp only [ap, nm]
        refine bZ 12 (.string (ys.extract i i2)) rfl ?_
        try simp only [ap, nm]
        refine bZ 13 (.bool true) rfl ?_
        try simp only [ap, nm]
        refine bZ 14 (.bool true) rfl ?_
        try simp only [ap, nm]
        refine bZ 15 (.bool true) rfl ?_
        try simp only [ap, nm]
        refine bZ 16 (.bool true) rfl ?_
        try simp only [ap, nm]
        refine qqr (by kernel_rfl) ?_ _
        refine qqf ?_
        clear i0 i1
        go_wp2
        go_roundg (ys.size + 1 - i2)
        case measure => have := HI.out; omega
        case rel => exact ⟨i2, by have := HI.out; omega, rfl, rfl, by rw [hnx]; first | done | rfl | simp, hbi.drew, hBi⟩
       ·rw [qu hk4, qt htx] at hnx
        have htb := iY htx
        go_wp2
        have hSd : wr.drew.cell? ⟨Bt, 0, none⟩ = some (I 4) /\ wr.drew.cell? ⟨Bt, 1, none⟩ = some (.string x.text) := ⟨i0, i1⟩
        refine qx ?_
        refine qp (S := fun w' => w'.cell? ⟨Bt, 0, none⟩ = some (I 4) /\ w'.cell? ⟨Bt, 1, none⟩ = some (.string x.text)) (by kernel_rfl) hSd (fun hHeld => ?_)
        refine bZ 0 (.bool false) rfl ?_
        try simp only [ap, nm]
        refine bZ 1 (.bool false) rfl ?_
        try simp only [ap, nm]
        refine gA 2 ?v2 rfl ?hy2 ?_
        case hy2 => (intro wq hSw; go_simp; try (with_reducible rfl))
        try simp only [ap, nm]
        refine gA 3 (I 4) rfl ?hy3 ?_
        case hy3 => (intro wq hSw; obtain ⟨hS0, hS1⟩ := hSw; go_simp; try rfl)
        try simp only [ap, nm]
        refine bZ 4 (.bool true) rfl ?_
        try simp only [ap, nm]
        refine bZ 5 (.bool true) rfl ?_
        try simp only [ap, nm]
        refine gA 6 ?v6 rfl ?hy6 ?_
        case hy6 => (intro wq hSw; go_simp; try (with_reducible rfl))
        try simp only [ap, nm]
        refine gA 7 (.string x.text) rfl ?hy7 ?_
        case hy7 => (intro wq hSw; obtain ⟨hS0, hS1⟩ := hSw; go_simp; try rfl)
        try simp only [ap, nm]
        refine bZ 8 (.string ys) rfl ?_
        try simp only [ap, nm]
        refine bZ 9 (I (i : Nat)) rfl ?_
        try simp only [ap, nm]
        refine bZ 10 (I (i : Nat)) rfl ?_
        try simp only [ap, nm]
        refine bZ 11 (I (i2 : Nat)) rfl ?_
        try simp only [ap, nm]
        refine bZ 12 (.string (ys.extract i i2)) rfl ?_
        try simp only [ap, nm]
        refine bZ 13 (.bool false) rfl ?_
        try simp only [ap, nm]
        refine bZ 14 (.bool false) rfl ?_
        try simp only [ap, nm]
        refine bZ 15 (.bool false) rfl ?_
        try simp only [ap, nm]
        refine bZ 16 (.bool false) rfl ?_
        try simp only [ap, nm]
        refine qqr (by kernel_rfl) ?_ _
        refine qqf ?_
        clear i0 i1
        go_wp2
        go_roundg (ys.size + 1 - i2)
        case measure => have := HI.out; omega
        case rel => exact ⟨i2, by have := HI.out; omega, rfl, rfl, by rw [hnx]; first | done | rfl | simp, hbi.drew, hBi⟩
      ·rw [qt hk4] at hnx
       have hk4b : (x.kind == 4) = false := by simp [hk4]
       go_wp2
       have hSd : wr.drew.cell? ⟨Bt, 0, none⟩ = some (I x.kind) /\ wr.drew.cell? ⟨Bt, 1, none⟩ = some (.string x.text) := ⟨i0, i1⟩
       refine qx ?_
       refine qp (S := fun w' => w'.cell? ⟨Bt, 0, none⟩ = some (I x.kind) /\ w'.cell? ⟨Bt, 1, none⟩ = some (.string x.text)) (by kernel_rfl) hSd (fun hHeld => ?_)
       refine bZ 0 (.bool false) rfl ?_
       try simp only [ap, nm]
       refine bZ 1 (.bool false) rfl ?_
       try simp only [ap, nm]
       refine gA 2 ?v2 rfl ?hy2 ?_
       case hy2 => (intro wq hSw; go_simp; try (with_reducible rfl))
       try simp only [ap, nm]
       refine gA 3 (I x.kind) rfl ?hy3 ?_
       case hy3 => (intro wq hSw; obtain ⟨hS0, hS1⟩ := hSw; go_simp; try rfl)
       try simp only [ap, nm]
       refine bZ 4 (.bool false) rfl ?_
       try simp only [ap, nm]
       refine bZ 5 (.bool false) rfl ?_
       try simp only [ap, nm]
       refine dU 6 rfl ?_
       try simp only [ap, nm]
       refine dU 7 rfl ?_
       try simp only [ap, nm]
       refine dU 8 rfl ?_
       try simp only [ap, nm]
       refine dU 9 rfl ?_
       try simp only [ap, nm]
       refine dU 10 rfl ?_
       try simp only [ap, nm]
       refine dU 11 rfl ?_
       try simp only [ap, nm]
       refine dU 12 rfl ?_
       try simp only [ap, nm]
       refine dU 13 rfl ?_
       try simp only [ap, nm]
       refine bZ 14 (.bool false) rfl ?_
       try simp only [ap, nm]
       refine bZ 15 (.bool false) rfl ?_
       try simp only [ap, nm]
       refine bZ 16 (.bool false) rfl ?_
       try simp only [ap, nm]
       refine qqr (by kernel_rfl) ?_ _
       refine qqf ?_
       clear i0 i1
       go_wp2
       go_roundg (ys.size + 1 - i2)
       case measure => have := HI.out; omega
       case rel => exact ⟨i2, by have := HI.out; omega, rfl, rfl, by rw [hnx]; first | done | rfl | simp, hbi.drew, hBi⟩
    ·have hii : i = ys.size := by omega
     have hJo : Joins false sy x = iA false x sy i := by
      have h1 : sy.take i = sy := by rw [List.take_of_length_le (by have := HS.out; omega)]
      rw [Joins, iA, hj0, h1]
      simp only [Bool.true_and]
      rfl
     have hni : ¬ (i : Int) < (ys.size : Int) := by omega
     cases hF : iA false x sy i with
     | true =>
      have hltk : k < l.length := by
       have := HJ.out
       rw [hJo, hF] at this
       simpa using this.symm
      have hnx := NF.out.1 hltk
      have had := fun ww => pY tk x.text NF.out.2.2.1 (by have h1 := NF.out.2.2.2; rw [hnx] at h1; rw [ByteArray.size_append] at h1; omega) ww
      clear hJo
      go_wp2
      go_roundg (l.length + 1 - (k + 1))
      case measure => omega
      case rel => exact ⟨k + 1, by omega, rfl, by rw [hnx], by simp, hbi⟩
     | false =>
      have hn : ¬ k < l.length := fun hlt => by
       have := HJ.out
       rw [hJo, hF, qu hlt] at this
       cases this
      have hf := NF.out.2.1 hn
      have hkl : k = l.length := by omega
      rw [hf]
      clear hJo
      go_wp2
      refine qf (qqg rfl _ _ _) rfl ?_
      exact ⟨by simp, hbi⟩
end
end Go.Proofs.YtgkhemnmcgicnaaGreatDoor
