/- Towards the law ParserVoices, true for every text (no condition): one part of the proof. -/
import Derived.Test.YtgkhemnmcgicnaaGreatDoorG01
import Derived.Test.YtgkhemnmcgicnaaGreatDoorG26
import Derived.Test.YtgkhemnmcgicnaaGreatDoorG25
namespace Go.Proofs.YtgkhemnmcgicnaaGreatDoor
set_option maxHeartbeats 32000000
set_option maxRecDepth 100000
open Go.RowKit
section
variable {T : List bD} {X : Nat} {free : Bool} {lv iv : Value} {w : World}
theorem C5 {p : Nat} (h : MS T X free lv iv (.ok p) w) (hp : p + 1 < T.length) (ys : ByteArray) (sy : List ByteArray) (hsy : sy.length = ys.size) (hys : ys.size <= 8) (hget : ∀ i (h : i < sy.length), ys.extract i (i + 1) = sy[i]) :
  Calls Tryz.prog 66 #[.pointer (some ⟨X, 0, none⟩), .string ys, .bool true] w fun r w' => r = .returned (.tuple #[.string (kG T true sy (.ok p)), I (((gK T true sy (.ok p)).length : Int) + 1)]) /\ Below w.heap.size w w' := by
 have hn := pR h
 obtain ⟨g, pos, is, im, n, xs, e, line, col, h1, h2, h3⟩ := h
 obtain ⟨rfl, rfl, rfl, rfl, hlt0⟩ := h2
 have hm := g.max
 have hl := oN g true sy hp
 obtain ⟨hs, tn, htn, hno⟩ := tF g true sy hp
 have hsz := xP g true sy hp
 have hst := fun w' (b : Below w.heap.size w w') => h1.step b
 unfold kG
 generalize gK T true sy (.ok p) = l at hl hs htn hsz |-
 rw [show T.getD p dA = aW T (.ok p) from rfl] at hsz
 generalize aW T (.ok p) = t at hn hsz |-
 have hfd := QF t.kind t.value t.line t.col t.text t.bytes t.joined
 unfold fK at hn
 clear h1 g h3
 go_enter Tryz.func66, Tryz.ntmps66
 go_wp2_with (go_at_call 31; refine hn.mono ?_)
 intro r w1; first | (intro he b1; subst he) | rintro ⟨rfl, b1⟩
 go_wp2
 go_loopg [8, 9] (l.length + 1) (fun g v u wr => ∃ k : Nat, k <= l.length /\ g = l.length + 1 - k /\ v = .string (nT (l.take k) t.text) /\ u = I ((k : Int) + 1) /\ Below w.heap.size w wr)
 case atStart => exact ⟨0, qn _, rfl, rfl, rfl, b1⟩
 case round =>
  obtain ⟨k, hk, hg, rfl, rfl, hb⟩ := hrel
  have hS := hst _ hb
  obtain ⟨q, hq⟩ : ∃ q, q = p + 1 + k := ⟨_, rfl⟩
  obtain ⟨x, hx, hj⟩ : ∃ x, T[q]? = some x /\ Joins true sy x = decide (k < l.length) := by
   by_cases hlt : k < l.length
   ·have h1 := hs k _ (qo hlt)
    exact ⟨l[k], by rw [hq]; exact h1.1, by rw [h1.2]; simp [hlt]⟩
   ·have : k = l.length := by omega
    subst this
    exact ⟨tn, by rw [hq]; exact htn, by rw [hno]; simp⟩
  have hw : IntKind.i64.wrap ((p : Int) + ((k : Int) + 1)) = (q : Int) := by rw [hq, IntWalk.i64_in _ (by omega)]; omega
  have hw2 : IntKind.i64.wrap ((k : Int) + 1 + 1) = (k : Int) + 1 + 1 := IntWalk.i64_in _ (by omega)
  have hlt : (q : Int) < (T.length : Int) := by omega
  have hp0 : (0 : Int) <= (q : Int) := by omega
  obtain ⟨G, cap, rfl, hc⟩ := hS.tok q hx
  have c0 := hS.c0
  have c1 := hS.c1
  have u0 : wr.cell? ⟨G, q * 7, none⟩ = some (I x.kind) := hc 0 _ rfl
  have u1 := hc 1 _ rfl
  have u2 := hc 2 _ rfl
  have u3 := hc 3 _ rfl
  have u4 := hc 4 _ rfl
  have u5 := hc 5 _ rfl
  have u6 := hc 6 _ rfl
  have n0 := qr wr _ c0
  have n1 := qr wr _ u0
  have l0 := ql wr _ c0
  have l1 := ql wr _ u0
  simp only at l0 l1
  obtain ⟨tk, htk⟩ : ∃ s, s = nT (l.take k) t.text := ⟨_, rfl⟩
  have hsz0 := hsz k
  have hsz1 := hsz (k + 1)
  rw [<- htk] at hsz0 |-
  have nxt : k < l.length -> nT (l.take (k + 1)) t.text = tk ++ x.text := fun hlt => by
   have h1 := (hs k _ (qo hlt)).1
   rw [<- hq, hx] at h1
   rw [qqy hlt, xX, <- htk, qqz h1]
  have fin0 : ¬ k < l.length -> tk = nT l t.text := fun hlt => by
   have : k = l.length := by omega
   rw [htk, this, List.take_length]
  have NF := aQ (And.intro nxt (And.intro fin0 (And.intro hsz0 hsz1)))
  have hb2 := (hb.alloc hb.size (.cells #[I x.kind, .string x.text, I x.value, .string x.bytes, I x.line, I x.col, .bool x.joined] 59)).drew.drew
  have hb1 := hb.drew
  have hBt : ((wr.alloc (.cells #[I x.kind, .string x.text, I x.value, .string x.bytes, I x.line, I x.col, .bool x.joined] 59)).drew.drew).heap[wr.heap.size]? = _ := qc wr _
  clear hc hx hS htk nxt fin0 hsz0 hsz1 hst hn b1
  have HJ := aQ hj
  have HQ := aQ hq
  have HS := aQ hsy
  clear hj hq hsy
  have hjj : x.joined = false \/ x.joined = true := by cases x.joined <;> simp
  rcases hjj with hj0 | hj0
  ·have hn : ¬ k < l.length := fun hlt => by
    have := HJ.out
    rw [Joins, hj0, qu hlt] at this
    cases this
   have hf := NF.out.2.1 hn
   have hkl : k = l.length := by omega
   subst hf
   subst hkl
   rw [hj0] at u6
   go_wp2
   go_region_held3 (fun w' => w'.cell? ⟨X, 0, none⟩ = some (.slice (some ⟨G, 0, none⟩) T.length cap) /\ w'.cell? ⟨X, 1, none⟩ = some (I p) /\ w'.cell? ⟨G, q * 7 + 6, none⟩ = some (.bool false)) (go_keep) (fail)
   go_wp2
   refine qf (qqg rfl _ _ _) rfl ?_
   exact ⟨by simp, hb1⟩
  ·rw [hj0] at u6 hb2 hBt
   by_cases hk2 : x.kind = 2
   ·have hk2b : (x.kind == 2) = true := by simp [hk2]
    rw [hk2] at u0 hb2 hBt
    go_wp2
    go_region_held3 (fun w' => w'.cell? ⟨X, 0, none⟩ = some (.slice (some ⟨G, 0, none⟩) T.length cap) /\ w'.cell? ⟨X, 1, none⟩ = some (I p) /\ w'.cell? ⟨G, q * 7 + 6, none⟩ = some (.bool true)) (go_keep) (fail)
    go_wp2
    go_region_held3 (fun w' => w'.cell? ⟨X, 0, none⟩ = some (.slice (some ⟨G, 0, none⟩) T.length cap) /\ w'.cell? ⟨X, 1, none⟩ = some (I p) /\
     w'.cell? ⟨G, q * 7, none⟩ = some (I 2) /\ w'.cell? ⟨G, q * 7 + 1, none⟩ = some (.string x.text) /\ w'.cell? ⟨G, q * 7 + 2, none⟩ = some (I x.value) /\
     w'.cell? ⟨G, q * 7 + 3, none⟩ = some (.string x.bytes) /\ w'.cell? ⟨G, q * 7 + 4, none⟩ = some (I x.line) /\ w'.cell? ⟨G, q * 7 + 5, none⟩ = some (I x.col) /\ w'.cell? ⟨G, q * 7 + 6, none⟩ = some (.bool true)) (go_keep) (fail)
    generalize hBB : wr.heap.size = Bt at hBt |-
    generalize hWO : (wr.alloc (.cells #[I 2, .string x.text, I x.value, .string x.bytes, I x.line, I x.col, .bool true] 59)).drew.drew = wo at hb2 hBt |-
    have j0 : wo.cell? ⟨Bt, 0, none⟩ = some (I 2) := by rw [Lib.cell_of_heap hBt]; rfl
    have j1 : wo.cell? ⟨Bt, 1, none⟩ = some (.string x.text) := by rw [Lib.cell_of_heap hBt]; rfl
    clear u0 u1 u2 u3 u4 u5 u6 n0 n1 l0 l1 c0 c1 hb1 hWO hBB hw hlt hp0
    have HB := aQ hb
    clear hb
    go_wp2
    go_loopg [11, 12] (ys.size + 1) (fun g v u wr => ∃ i : Nat, i <= ys.size /\ g = ys.size + 1 - i /\ u = I (i : Nat) /\ v = .bool (iA true x sy i) /\ Below w.heap.size w wr /\ wr.heap[Bt]? = some (.cells #[I 2, .string x.text, I x.value, .string x.bytes, I x.line, I x.col, .bool true] 59 (0, 0)))
    case atStart => exact ⟨0, qn _, rfl, rfl, by rw [iA.zero], hb2, hBt⟩
    case round =>
     clear hb2 hBt j0 j1
     obtain ⟨i, hi, hgi, rfl, rfl, hbi, hBi⟩ := hrel
     have i0 : wr.cell? ⟨Bt, 0, none⟩ = some (I 2) := by rw [Lib.cell_of_heap hBi]; rfl
     have i1 : wr.cell? ⟨Bt, 1, none⟩ = some (.string x.text) := by rw [Lib.cell_of_heap hBi]; rfl
     by_cases hlti : i < ys.size
     ·have hlti' : (i : Int) < (ys.size : Int) := by omega
      have hi0 : (0 : Int) <= (i : Int) := by omega
      obtain ⟨i2, hi2⟩ : ∃ i2, i2 = i + 1 := ⟨_, rfl⟩
      have mi : IntKind.i64.wrap ((i : Int) + 1) = (i2 : Int) := by rw [hi2, IntWalk.i64_in _ (by omega)]; omega
      have his : i < sy.length := by have := HS.out; omega
      have hge := hget i his
      rw [<- hi2] at hge
      have HI := aQ hi2
      have hi3 : (i : Int) <= (i2 : Int) := by omega
      have hi4 : (i2 : Int) <= (ys.size : Int) := by omega
      cases hF : iA true x sy i with
      | true =>
       have hnx := iA.hit (x := x) hF
       rw [<- hi2] at hnx
       clear hi2 hge hget
       go_wp2
       have hSd : wr.drew.cell? ⟨Bt, 0, none⟩ = some (I 2) /\ wr.drew.cell? ⟨Bt, 1, none⟩ = some (.string x.text) := ⟨i0, i1⟩
       refine qx ?_
       refine qp (S := fun w' => w'.cell? ⟨Bt, 0, none⟩ = some (I 2) /\ w'.cell? ⟨Bt, 1, none⟩ = some (.string x.text)) (by kernel_rfl) hSd (fun hHeld => ?_)
       refine bZ 0 (.bool true) rfl ?_
       try simp only [ap, nm]
       refine bZ 1 (.bool true) rfl ?_
       try simp only [ap, nm]
       refine dU 2 rfl ?_
       try simp only [ap, nm]
       refine dU 3 rfl ?_
       try simp only [ap, nm]
       refine dU 4 rfl ?_
       try simp only [ap, nm]
       refine dU 5 rfl ?_
       try simp only [ap, nm]
       refine dU 6 rfl ?_
       try simp only [ap, nm]
       refine dU 7 rfl ?_
       try simp only [ap, nm]
       refine dU 8 rfl ?_
       try simp only [ap, nm]
       refine dU 9 rfl ?_
       try simp only [ap, nm]
       refine dU 10 rfl ?_
       try simp only [ap, nm]
       refine dU 11 rfl ?_
       try simp only [ap, nm]
       refine dU 12 rfl ?_
       try simp only [ap, nm]
       refine dU 13 rfl ?_
       try simp only [ap, nm]
       refine dU 14 rfl ?_
       try simp only [ap, nm]
       refine bZ 15 (.bool true) rfl ?_
       try simp only [ap, nm]
       refine bZ 16 (.bool true) rfl ?_
       try simp only [ap, nm]
       refine qqr (by kernel_rfl) ?_ _
       refine qqf ?_
       clear i0 i1
       go_wp2
       go_roundg (ys.size + 1 - i2)
       case measure => have := HI.out; omega
       case rel => exact ⟨i2, by have := HI.out; omega, rfl, rfl, by rw [hnx]; first | done | rfl | simp, hbi.drew, hBi⟩
      | false => exact absurd hF (by simp [iA])
     ·have hii : i = ys.size := by omega
      have hJo : Joins true sy x = iA true x sy i := by
       have h1 : sy.take i = sy := by rw [List.take_of_length_le (by have := HS.out; omega)]
       rw [Joins, iA, hj0, h1]
       simp only [Bool.true_and]
       simp [hk2]
      have hni : ¬ (i : Int) < (ys.size : Int) := by omega
      cases hF : iA true x sy i with
      | true =>
       have hltk : k < l.length := by
        have := HJ.out
        rw [hJo, hF] at this
        simpa using this.symm
       have hnx := NF.out.1 hltk
       have had := fun ww => pY tk x.text NF.out.2.2.1 (by have h1 := NF.out.2.2.2; rw [hnx] at h1; rw [ByteArray.size_append] at h1; omega) ww
       clear hJo
       go_wp2
       go_roundg (l.length + 1 - (k + 1))
       case measure => omega
       case rel => exact ⟨k + 1, by omega, rfl, by rw [hnx], by simp, hbi⟩
      | false => exact absurd hF (by simp [iA])
   ·have hk2b : (x.kind == 2) = false := by simp [hk2]
    go_wp2
    go_region_held3 (fun w' => w'.cell? ⟨X, 0, none⟩ = some (.slice (some ⟨G, 0, none⟩) T.length cap) /\ w'.cell? ⟨X, 1, none⟩ = some (I p) /\ w'.cell? ⟨G, q * 7 + 6, none⟩ = some (.bool true)) (go_keep) (fail)
    go_wp2
    go_region_held3 (fun w' => w'.cell? ⟨X, 0, none⟩ = some (.slice (some ⟨G, 0, none⟩) T.length cap) /\ w'.cell? ⟨X, 1, none⟩ = some (I p) /\
     w'.cell? ⟨G, q * 7, none⟩ = some (I x.kind) /\ w'.cell? ⟨G, q * 7 + 1, none⟩ = some (.string x.text) /\ w'.cell? ⟨G, q * 7 + 2, none⟩ = some (I x.value) /\
     w'.cell? ⟨G, q * 7 + 3, none⟩ = some (.string x.bytes) /\ w'.cell? ⟨G, q * 7 + 4, none⟩ = some (I x.line) /\ w'.cell? ⟨G, q * 7 + 5, none⟩ = some (I x.col) /\ w'.cell? ⟨G, q * 7 + 6, none⟩ = some (.bool true)) (go_keep) (fail)
    generalize hBB : wr.heap.size = Bt at hBt |-
    generalize hWO : (wr.alloc (.cells #[I x.kind, .string x.text, I x.value, .string x.bytes, I x.line, I x.col, .bool true] 59)).drew.drew = wo at hb2 hBt |-
    have j0 : wo.cell? ⟨Bt, 0, none⟩ = some (I x.kind) := by rw [Lib.cell_of_heap hBt]; rfl
    have j1 : wo.cell? ⟨Bt, 1, none⟩ = some (.string x.text) := by rw [Lib.cell_of_heap hBt]; rfl
    clear u0 u1 u2 u3 u4 u5 u6 n0 n1 l0 l1 c0 c1 hb1 hWO hBB hw hlt hp0
    have HB := aQ hb
    clear hb
    go_wp2
    go_loopg [11, 12] (ys.size + 1) (fun g v u wr => ∃ i : Nat, i <= ys.size /\ g = ys.size + 1 - i /\ u = I (i : Nat) /\ v = .bool (iA false x sy i) /\ Below w.heap.size w wr /\ wr.heap[Bt]? = some (.cells #[I x.kind, .string x.text, I x.value, .string x.bytes, I x.line, I x.col, .bool true] 59 (0, 0)))
    case atStart => exact ⟨0, qn _, rfl, rfl, by rw [iA.zero], hb2, hBt⟩
    case round =>
     clear hb2 hBt j0 j1
     obtain ⟨i, hi, hgi, rfl, rfl, hbi, hBi⟩ := hrel
     have i0 : wr.cell? ⟨Bt, 0, none⟩ = some (I x.kind) := by rw [Lib.cell_of_heap hBi]; rfl
     have i1 : wr.cell? ⟨Bt, 1, none⟩ = some (.string x.text) := by rw [Lib.cell_of_heap hBi]; rfl
     by_cases hlti : i < ys.size
     ·have hlti' : (i : Int) < (ys.size : Int) := by omega
      have hi0 : (0 : Int) <= (i : Int) := by omega
      obtain ⟨i2, hi2⟩ : ∃ i2, i2 = i + 1 := ⟨_, rfl⟩
      have mi : IntKind.i64.wrap ((i : Int) + 1) = (i2 : Int) := by rw [hi2, IntWalk.i64_in _ (by omega)]; omega
      have his : i < sy.length := by have := HS.out; omega
      have hge := hget i his
      rw [<- hi2] at hge
      have HI := aQ hi2
      have hi3 : (i : Int) <= (i2 : Int) := by omega
      have hi4 : (i2 : Int) <= (ys.size : Int) := by omega
      cases hF : iA false x sy i with
      | true =>
       have hnx := iA.hit hF
       rw [<- hi2] at hnx
       clear hi2 hge hget
       go_wp2
       have hSd : wr.drew.cell? ⟨Bt, 0, none⟩ = some (I x.kind) /\ wr.drew.cell? ⟨Bt, 1, none⟩ = some (.string x.text) := ⟨i0, i1⟩
       refine qx ?_
       refine qp (S := fun w' => w'.cell? ⟨Bt, 0, none⟩ = some (I x.kind) /\ w'.cell? ⟨Bt, 1, none⟩ = some (.string x.text)) (by kernel_rfl) hSd (fun hHeld => ?_)
       refine bZ 0 (.bool true) rfl ?_
       try simp only [ap, nm]
       refine bZ 1 (.bool true) rfl ?_
       try simp only [ap, nm]
       refine dU 2 rfl ?_
       try simp only [ap, nm]
       refine dU 3 rfl ?_
       try simp only [ap, nm]
       refine dU 4 rfl ?_
       try simp only [ap, nm]
       refine dU 5 rfl ?_
       try simp only [ap, nm]
       refine dU 6 rfl ?_
       try simp only [ap, nm]
       refine dU 7 rfl ?_
       try simp only [ap, nm]
       refine dU 8 rfl ?_
       try simp only [ap, nm]
       refine dU 9 rfl ?_
       try simp only [ap, nm]
       refine dU 10 rfl ?_
       try simp only [ap, nm]
       refine dU 11 rfl ?_
       try simp only [ap, nm]
       refine dU 12 rfl ?_
       try simp only [ap, nm]
       refine dU 13 rfl ?_
       try simp only [ap, nm]
       refine dU 14 rfl ?_
       try simp only [ap, nm]
       refine bZ 15 (.bool true) rfl ?_
       try simp only [ap, nm]
       refine bZ 16 (.bool true) rfl ?_
       try simp only [ap, nm]
       refine qqr (by kernel_rfl) ?_ _
       refine qqf ?_
       clear i0 i1
       go_wp2
       go_roundg (ys.size + 1 - i2)
       case measure => have := HI.out; omega
       case rel => exact ⟨i2, by have := HI.out; omega, rfl, rfl, by rw [hnx]; first | done | rfl | simp, hbi.drew, hBi⟩
      | false =>
       have hnx := iA.next hF his
       rw [<- hi2, <- hge] at hnx
       clear hi2 hge hget
       by_cases hk4 : x.kind = 4
       ·have hk4b : (x.kind == 4) = true := by simp [hk4]
        rw [hk4] at i0
        by_cases htx : x.text = ys.extract i i2
        ·rw [qu hk4, qu htx] at hnx
         rw [htx] at i1
         go_wp2
         have hSd : wr.drew.cell? ⟨Bt, 0, none⟩ = some (I 4) /\ wr.drew.cell? ⟨Bt, 1, none⟩ = some (.string (ys.extract i i2)) := ⟨i0, i1⟩
         refine qx ?_
         refine qp (S := fun w' => w'.cell? ⟨Bt, 0, none⟩ = some (I 4) /\ w'.cell? ⟨Bt, 1, none⟩ = some (.string (ys.extract i i2))) (by kernel_rfl) hSd (fun hHeld => ?_)
         refine bZ 0 (.bool false) rfl ?_
         try simp only [ap, nm]
         refine bZ 1 (.bool false) rfl ?_
         try simp only [ap, nm]
         refine gA 2 ?v2 rfl ?hy2 ?_
         case hy2 => (intro wq hSw; go_simp; try (with_reducible rfl))
         try simp only [ap, nm]
         refine gA 3 (I 4) rfl ?hy3 ?_
         case hy3 => (intro wq hSw; obtain ⟨hS0, hS1⟩ := hSw; go_simp; try rfl)
         try simp only [ap, nm]
         refine bZ 4 (.bool true) rfl ?_
         try simp only [ap, nm]
         refine bZ 5 (.bool true) rfl ?_
         try simp only [ap, nm]
         refine gA 6 ?v6 rfl ?hy6 ?_
         case hy6 => (intro wq hSw; go_simp; try (with_reducible rfl))
         try simp only [ap, nm]
         refine gA 7 (.string (ys.extract i i2)) rfl ?hy7 ?_
         case hy7 => (intro wq hSw; obtain ⟨hS0, hS1⟩ := hSw; go_simp; try rfl)
         try simp only [ap, nm]
         refine bZ 8 (.string ys) rfl ?_
         try simp only [ap, nm]
         refine bZ 9 (I (i : Nat)) rfl ?_
         try simp only [ap, nm]
         refine bZ 10 (I (i : Nat)) rfl ?_
         try simp only [ap, nm]
         refine bZ 11 (I (i2 : Nat)) rfl ?_
         try simp only [ap, nm]
         refine bZ 12 (.string (ys.extract i i2)) rfl ?_
         try simp only [ap, nm]
         refine bZ 13 (.bool true) rfl ?_
         try simp only [ap, nm]
         refine bZ 14 (.bool true) rfl ?_
         try simp only [ap, nm]
         refine bZ 15 (.bool true) rfl ?_
         try simp only [ap, nm]
         refine bZ 16 (.bool true) rfl ?_
         try simp only [ap, nm]
         refine qqr (by kernel_rfl) ?_ _
         refine qqf ?_
         clear i0 i1
         go_wp2
         go_roundg (ys.size + 1 - i2)
         case measure => have := HI.out; omega
         case rel => exact ⟨i2, by have := HI.out; omega, rfl, rfl, by rw [hnx]; first | done | rfl | simp, hbi.drew, hBi⟩
        ·rw [qu hk4, qt htx] at hnx
         have htb := iY htx
         go_wp2
         have hSd : wr.drew.cell? ⟨Bt, 0, none⟩ = some (I 4) /\ wr.drew.cell? ⟨Bt, 1, none⟩ = some (.string x.text) := ⟨i0, i1⟩
         refine qx ?_
         refine qp (S := fun w' => w'.cell? ⟨Bt, 0, none⟩ = some (I 4) /\ w'.cell? ⟨Bt, 1, none⟩ = some (.string x.text)) (by kernel_rfl) hSd (fun hHeld => ?_)
         refine bZ 0 (.bool false) rfl ?_
         try simp only [ap, nm]
         refine bZ 1 (.bool false) rfl ?_
         try simp only [ap, nm]
         refine gA 2 ?v2 rfl ?hy2 ?_
         case hy2 => (intro wq hSw; go_simp; try (with_reducible rfl))
         try simp only [ap, nm]
         refine gA 3 (I 4) rfl ?hy3 ?_
         case hy3 => (intro wq hSw; obtain ⟨hS0, hS1⟩ := hSw; go_simp; try rfl)
         try simp only [ap, nm]
         refine bZ 4 (.bool true) rfl ?_
         try simp only [ap, nm]
         refine bZ 5 (.bool true) rfl ?_
         try simp only [ap, nm]
         refine gA 6 ?v6 rfl ?hy6 ?_
         case hy6 => (intro wq hSw; go_simp; try (with_reducible rfl))
         try simp only [ap, nm]
         refine gA 7 (.string x.text) rfl ?hy7 ?_
         case hy7 => (intro wq hSw; obtain ⟨hS0, hS1⟩ := hSw; go_simp; try rfl)
         try simp only [ap, nm]
         refine bZ 8 (.string ys) rfl ?_
         try simp only [ap, nm]
         refine bZ 9 (I (i : Nat)) rfl ?_
         try simp only [ap, nm]
         refine bZ 10 (I (i : Nat)) rfl ?_
         try simp only [ap, nm]
         refine bZ 11 (I (i2 : Nat)) rfl ?_
         try simp only [ap, nm]
         refine bZ 12 (.string (ys.extract i i2)) rfl ?_
         try simp only [ap, nm]
         refine bZ 13 (.bool false) rfl ?_
         try simp only [ap, nm]
         refine bZ 14 (.bool false) rfl ?_
         try simp only [ap, nm]
         refine bZ 15 (.bool false) rfl ?_
         try simp only [ap, nm]
         refine bZ 16 (.bool false) rfl ?_
         try simp only [ap, nm]
         refine qqr (by kernel_rfl) ?_ _
         refine qqf ?_
         clear i0 i1
         go_wp2
         go_roundg (ys.size + 1 - i2)
         case measure => have := HI.out; omega
         case rel => exact ⟨i2, by have := HI.out; omega, rfl, rfl, by rw [hnx]; first | done | rfl | simp, hbi.drew, hBi⟩
       ·rw [qt hk4] at hnx
        have hk4b : (x.kind == 4) = false := by simp [hk4]
        go_wp2
        have hSd : wr.drew.cell? ⟨Bt, 0, none⟩ = some (I x.kind) /\ wr.drew.cell? ⟨Bt, 1, none⟩ = some (.string x.text) := ⟨i0, i1⟩
        refine qx ?_
        refine qp (S := fun w' => w'.cell? ⟨Bt, 0, none⟩ = some (I x.kind) /\ w'.cell? ⟨Bt, 1, none⟩ = some (.string x.text)) (by kernel_rfl) hSd (fun hHeld => ?_)
        refine bZ 0 (.bool false) rfl ?_
        try simp only [ap, nm]
        refine bZ 1 (.bool false) rfl ?_
        try simp only [ap, nm]
        refine gA 2 ?v2 rfl ?hy2 ?_
        case hy2 => (intro wq hSw; go_simp; try (with_reducible rfl))
        try simp only [ap, nm]
        refine gA 3 (I x.kind) rfl ?hy3 ?_
        case hy3 => (intro wq hSw; obtain ⟨hS0, hS1⟩ := hSw; go_simp; try rfl)
        try simp only [ap, nm]
        refine bZ 4 (.bool false) rfl ?_
        try simp only [ap, nm]
        refine bZ 5 (.bool false) rfl ?_
        try simp only [ap, nm]
        refine dU 6 rfl ?_
        try simp only [ap, nm]
        refine dU 7 rfl ?_
        try simp only [ap, nm]
        refine dU 8 rfl ?_
        try simp only [ap, nm]
        refine dU 9 rfl ?_
        try simp only [ap, nm]
        refine dU 10 rfl ?_
        try simp only [ap, nm]
        refine dU 11 rfl ?_
        try simp only [ap, nm]
        refine dU 12 rfl ?_
        try simp only [ap, nm]
        refine dU 13 rfl ?_
        try simp only [ap, nm]
        refine bZ 14 (.bool false) rfl ?_
        try simp only [ap, nm]
        refine bZ 15 (.bool false) rfl ?_
        try simp only [ap, nm]
        refine bZ 16 (.bool false) rfl ?_
        try simp only [ap, nm]
        refine qqr (by kernel_rfl) ?_ _
        refine qqf ?_
        clear i0 i1
        go_wp2
        go_roundg (ys.size + 1 - i2)
        case measure => have := HI.out; omega
        case rel => exact ⟨i2, by have := HI.out; omega, rfl, rfl, by rw [hnx]; first | done | rfl | simp, hbi.drew, hBi⟩
     ·have hii : i = ys.size := by omega
      have hJo : Joins true sy x = iA false x sy i := by
       have h1 : sy.take i = sy := by rw [List.take_of_length_le (by have := HS.out; omega)]
       rw [Joins, iA, hj0, h1]
       simp only [Bool.true_and]
       simp [hk2]
      have hni : ¬ (i : Int) < (ys.size : Int) := by omega
      cases hF : iA false x sy i with
      | true =>
       have hltk : k < l.length := by
        have := HJ.out
        rw [hJo, hF] at this
        simpa using this.symm
       have hnx := NF.out.1 hltk
       have had := fun ww => pY tk x.text NF.out.2.2.1 (by have h1 := NF.out.2.2.2; rw [hnx] at h1; rw [ByteArray.size_append] at h1; omega) ww
       clear hJo
       go_wp2
       go_roundg (l.length + 1 - (k + 1))
       case measure => omega
       case rel => exact ⟨k + 1, by omega, rfl, by rw [hnx], by simp, hbi⟩
      | false =>
       have hn : ¬ k < l.length := fun hlt => by
        have := HJ.out
        rw [hJo, hF, qu hlt] at this
        cases this
       have hf := NF.out.2.1 hn
       have hkl : k = l.length := by omega
       rw [hf]
       clear hJo
       go_wp2
       refine qf (qqg rfl _ _ _) rfl ?_
       exact ⟨by simp, hbi⟩
end
theorem dS (w : World) (X : Nat) (a b c : Value) (k : Nat) (hk : k ≠ X) : (eJ w X a b c).heap[k]? = w.heap[k]? := by
 unfold eJ
 rw [qg _ ⟨X, 2, none⟩ _ k hk, qg _ ⟨X, 1, none⟩ _ k hk, qg _ ⟨X, 0, none⟩ _ k hk]
theorem fY {bs : List Nat} {a w : World} {X : Nat} (h : aB bs a w) (hX : a.heap.size <= X) (u v z : Value) : aB bs a (eJ w X u v z) :=
 ((h.setCell (p := ⟨X, 0, none⟩) (.inr hX) u).setCell (p := ⟨X, 1, none⟩) (.inr hX) v).setCell (p := ⟨X, 2, none⟩) (.inr hX) z
theorem LK {T : List bD} {st : aU} (h : fG T st = true) : ∃ p, st = .ok p := by
 cases st with
 | ok p => exact ⟨p, rfl⟩
 | bad e l c => cases h
theorem LL {T : List bD} (g : i6 T) {p : Nat} (hp : p < T.length) (h : fG T (.ok p) = true) : p + 1 < T.length := by
 refine g.more hp ?_
 rw [KZ] at h
 unfold yS at h
 simp only [qqx, decide_eq_true_eq] at h
 rw [show (T.getD p dA).kind = 1 from h.1]; decide
def TZ : ByteArray := ⟨#[35, 45]⟩
theorem T0 : ∀ i (h : i < dP.length), TZ.extract i (i + 1) = dP[i] := by decide
theorem t7 {T : List bD} (g : i6 T) (nu : Bool) (sy : List ByteArray) {p : Nat} (hp : p + 1 < T.length) : (kG T nu sy (.ok p)).size <= 281474976710656 := by
 have h := xP g nu sy hp (gK T nu sy (.ok p)).length
 rw [List.take_length] at h
 exact qv h (by decide)
section
variable {W0 : World} {T : List bD} {X : Nat} {free : Bool} {lv iv : Value} {st : aU} {w : World}
theorem MS.jump {p q : Nat} (h : MS T X free lv iv (.ok p) w) (hq : q < T.length) (hpq : p <= q) : MS T X free lv iv (.ok q) (w.setCell ⟨X, 1, none⟩ (I (q : Nat))) := by
 obtain ⟨g, pos, is, im, n, xs, e, line, col, h1, h2, h3, h4⟩ := h
 obtain ⟨rfl, rfl, rfl, rfl, hlt⟩ := h2
 have hn := h4 rfl
 exact ⟨g, q, is, im, n, xs, 0, 0, 0, h1.put 1 _ (fun h => h) rfl, ⟨rfl, rfl, rfl, rfl, hq⟩, h3, fun _ => by omega⟩
theorem MS.atCell {p : Nat} (h : MS T X free lv iv (.ok p) w) : w.cell? ⟨X, 1, none⟩ = some (I p) /\ w.frozen? ⟨X, 1, none⟩ = false /\ p < T.length := by
 obtain ⟨g, pos, is, im, n, xs, e, line, col, h1, h2, h3, h4⟩ := h
 obtain ⟨rfl, rfl, rfl, rfl, hlt⟩ := h2
 exact ⟨h1.c1, h1.fz 1, hlt⟩
theorem LM (h : MS T X free lv iv st w) (B : lG W0 [X] w) : Calls Tryz.prog 65 #[.pointer (some ⟨X, 0, none⟩)] w fun r w' => r = .returned (rK (aT aD T st).1) /\ MS T X free lv iv (aT aD T st).2 w' /\ aB [X] w w' := by
 have hXl := h.lt
 have hR := qc w (.cells #[I 0, I 0, I 0] 75)
 have b0 := (qa _ w).alloc (qb _) (.cells #[I 0, I 0, I 0] 75)
 have hx1 := C1 (h.step b0)
 have hst := fun w' (b : Below w.heap.size w w') => h.step b
 cases hp : fG T st with
 | false =>
  have e1 : aT aD T st = (zP, bF T 13 st) := by unfold aT; rw [if_neg (by rw [hp]; decide)]; rfl
  rw [e1, show rK zP = .agg #[I 0, I 0, I 0] from rfl]
  rw [hp] at hx1
  clear e1 hp
  simp only
  have c1 := fun w' (h : MS T X free lv iv st w') => gP h 13 (by decide)
  have hel := fun (s1 : aU) (w1 w2 : World) (h1 : MS T X free lv iv s1 w1) (R : Nat) => h1.else (w' := w2) (R := R) h
  generalize bF T 13 st = s1 at c1 |-
  clear h
  go_enter Tryz.func65, Tryz.ntmps65
  go_wp2_with (go_at_call 79; refine hx1.mono ?_)
  intro r w1; first | (intro he b1; subst he) | rintro ⟨rfl, b1⟩
  have b01 := b0.trans (b1.mono b0.size)
  have hR1 := (b1.block _ (aA hR)).trans hR
  have hx2 := c1 _ (hst _ b01)
  have hRl := aA hR
  clear hx1 c1
  go_wp2_with (go_at_call 32; refine hx2.mono ?_)
  intro r w2; first | (intro he hS2 a2; subst he) | rintro ⟨rfl, hS2, a2⟩
  have hR2 := a2.at hR1 (by simp; omega)
  have a02 := (aB.of_below (bs := [X]) b01).trans a2
  generalize hRR : w.heap.size = R at hR hR1 hR2 hRl |-
  obtain ⟨q0, q1, q2, f0, f1, f2⟩ := dH hR2
  have hR3 := eE (a := I 0) (b := I 0) (c := I 0) hR2
  have hS3 := hel _ w2 (eJ w2 R (I 0) (I 0) (I 0)) hS2 R (qe hRR) (qe (lH _ _ _ _ _).symm) (fun j hj => dS _ _ _ _ _ j hj)
  have a3 := fY a02 (qe hRR) (I 0) (I 0) (I 0)
  clear hel hst hR hR1 hR2 hx2 hS2
  unfold eJ at hR3 hS3 a3
  go_wp2
  refine qf (qh rfl _ _ R 75 _ (0, 0) _ rfl hR3 Tryz.underlying75 rfl Tryz.sizePitch3) rfl ?_
  exact ⟨rfl, hS3, a3⟩
 | true =>
  obtain ⟨p, rfl⟩ := LK hp
  have g := h.good
  have hpl := (h.atCell).2.2
  have hlt := LL g hpl hp
  have hrl := oN g true dP hlt
  have hm := g.max
  have hcs := t7 g true dP hlt
  rw [hp] at hx1
  have c2 := fun w' (b : Below w.heap.size w w') => C5 (h.step b) hlt TZ dP rfl (by decide) T0
  have c3 := fun w' (b : lG W0 [X] w') => QN _ hcs w' b.glo
  have hBs := fun w' (b : Below w.heap.size w w') => B.step b
  have hel := fun (s1 : aU) (w1 w2 : World) (h1 : MS T X free lv iv s1 w1) (R : Nat) => h1.else (w' := w2) (R := R) h
  have hwq : IntKind.i64.wrap ((p : Int) + (((gK T true dP (.ok p)).length : Int) + 1)) = ((p + ((gK T true dP (.ok p)).length + 1) : Nat) : Int) := by
   rw [IntWalk.i64_in _ (by omega)]; omega
  have hq : p + ((gK T true dP (.ok p)).length + 1) < T.length := by omega
  have hpq : p <= p + ((gK T true dP (.ok p)).length + 1) := by omega
  have epit : aT aD T (.ok p) = match aD.pit (kG T true dP (.ok p)) with
    | none => (⟨0, 0, 0⟩, bF T 18 (.ok p))
    | some v => (v, .ok (p + ((gK T true dP (.ok p)).length + 1))) := by unfold aT; rw [if_pos hp]; rfl
  rw [epit]
  have hpt := LU (kG T true dP (.ok p))
  generalize kG T true dP (.ok p) = cs at c2 c3 hpt |-
  generalize (gK T true dP (.ok p)).length = m at c2 hwq hq hpq |-
  generalize yV cs = pr at c3 hpt
  obtain ⟨pv, pa, pe⟩ := pr
  simp only [TZ] at c2 hpt c3
  rcases hpt with ⟨ho, hne⟩ | ⟨v, ho, rfl, rfl⟩
  ·have hne' : ¬ pe = 0 := hne
   clear hne
   rw [ho, show rK (⟨0, 0, 0⟩ : jT) = .agg #[I 0, I 0, I 0] from rfl]
   simp only
   have c4 := fun w' (h : MS T X free lv iv (.ok p) w') => gP h 18 (by decide)
   generalize bF T 18 (.ok p) = s1 at c4 |-
   obtain ⟨vs, va, vo⟩ := pv
   simp only [rK] at c3
   clear ho hp h
   go_enter Tryz.func65, Tryz.ntmps65
   go_wp2_with (go_at_call 79; refine hx1.mono ?_)
   intro r w1; first | (intro he b1; subst he) | rintro ⟨rfl, b1⟩
   have b01 := b0.trans (b1.mono b0.size)
   have hR1 := (b1.block _ (aA hR)).trans hR
   have hRl := aA hR
   have hx2 := c2 _ b01
   clear hx1 c2
   go_wp2_with (go_at_call 66; refine hx2.mono ?_)
   intro r w2; first | (intro he b2; subst he) | rintro ⟨rfl, b2⟩
   have b02 := b01.trans (b2.mono b01.size)
   have hR2 := (b2.block _ (aA hR1)).trans hR1
   have hx3 := c3 _ (hBs _ b02)
   clear hx2 c3
   go_wp2_with (go_at_call 111; refine hx3.mono ?_)
   intro r w3; first | (intro he b3; subst he) | rintro ⟨rfl, b3⟩
   have b03 := (b02.trans (b3.mono b02.size)).alloc (qv b02.size b3.size) (.cells #[I vs, I va, I vo] 75)
   have hR3 := (((qa _ w3).alloc (qb _) (.cells #[I vs, I va, I vo] 75)).block _ (qk (aA hR2) b3.size)).trans ((b3.block _ (aA hR2)).trans hR2)
   have hx4 := c4 _ (hst _ b03)
   clear hx3 c4
   go_wp2_with (go_at_call 32; refine hx4.mono ?_)
   intro r w4; first | (intro he hS4 a4; subst he) | rintro ⟨rfl, hS4, a4⟩
   have hR4 := a4.at hR3 (by simp; omega)
   have a04 := (aB.of_below (bs := [X]) b03).trans a4
   generalize hRR : w.heap.size = R at hR hR1 hR2 hR3 hR4 hRl |-
   obtain ⟨q0, q1, q2, f0, f1, f2⟩ := dH hR4
   have hR5 := eE (a := I 0) (b := I 0) (c := I 0) hR4
   have hS5 := hel _ w4 (eJ w4 R (I 0) (I 0) (I 0)) hS4 R (qe hRR) (qe (lH _ _ _ _ _).symm) (fun j hj => dS _ _ _ _ _ j hj)
   have a5 := fY a04 (qe hRR) (I 0) (I 0) (I 0)
   clear hel hst hR hR1 hR2 hR3 hR4 hx4 hS4 hBs
   unfold eJ at hR5 hS5 a5
   go_wp2
   refine qf (qh rfl _ _ R 75 _ (0, 0) _ rfl hR5 Tryz.underlying75 rfl Tryz.sizePitch3) rfl ?_
   exact ⟨rfl, hS5, a5⟩
  ·rw [ho]
   simp only
   obtain ⟨vs, va, vo⟩ := pv
   simp only [rK] at c3 |-
   clear ho hp
   generalize hQQ : p + (m + 1) = q at hwq hq hpq |-
   go_enter Tryz.func65, Tryz.ntmps65
   go_wp2_with (go_at_call 79; refine hx1.mono ?_)
   intro r w1; first | (intro he b1; subst he) | rintro ⟨rfl, b1⟩
   have b01 := b0.trans (b1.mono b0.size)
   have hR1 := (b1.block _ (aA hR)).trans hR
   have hRl := aA hR
   have hx2 := c2 _ b01
   clear hx1 c2
   go_wp2_with (go_at_call 66; refine hx2.mono ?_)
   intro r w2; first | (intro he b2; subst he) | rintro ⟨rfl, b2⟩
   have b02 := b01.trans (b2.mono b01.size)
   have hR2 := (b2.block _ (aA hR1)).trans hR1
   have hx3 := c3 _ (hBs _ b02)
   clear hx2 c3
   go_wp2_with (go_at_call 111; refine hx3.mono ?_)
   intro r w3; first | (intro he b3; subst he) | rintro ⟨rfl, b3⟩
   have b03 := b02.trans (b3.mono b02.size)
   have hR3 := (b3.block _ (aA hR2)).trans hR2
   have hS3 := hst _ b03
   obtain ⟨x1, xf1, _⟩ := hS3.atCell
   have n1 := qr w3 _ x1
   have l1 := hS3.lt
   have hS4 := hS3.jump hq hpq
   have a4 := (aB.of_below (bs := [X]) b03).setCell (p := ⟨X, 1, none⟩) (.inl (by simp)) (I (q : Nat))
   have hRX : w.heap.size ≠ X := by omega
   have hR4 : (w3.setCell ⟨X, 1, none⟩ (I (q : Nat))).heap[w.heap.size]? = _ := (qg w3 ⟨X, 1, none⟩ _ _ hRX).trans hR3
   have hRn : w.heap.size ≠ w3.heap.size := by have := aA hR3; omega
   have hwl := aA hR3
   generalize hRR : w.heap.size = R at hR hR1 hR2 hR3 hR4 hRl hRX hRn hwl |-
   obtain ⟨q0, q1, q2, f0, f1, f2⟩ := dH hR3
   have hR5 := eE (a := I vs) (b := I va) (c := I vo) hR4
   have hS5 := hel _ _ (eJ (w3.setCell ⟨X, 1, none⟩ (I (q : Nat))) R (I vs) (I va) (I vo)) hS4 R (qe hRR) (qe (lH _ _ _ _ _).symm) (fun j hj => dS _ _ _ _ _ j hj)
   have a5 := fY a4 (qe hRR) (I vs) (I va) (I vo)
   have hS6 := hS5.step ((qa _ _).alloc (qb _) (.cells #[I vs, I va, I vo] 75))
   have a6 := a5.alloc (.cells #[I vs, I va, I vo] 75)
   have hR6 := (Lib.alloc_old _ (.cells #[I vs, I va, I vo] 75) R (aA hR5)).trans hR5
   clear hel hst hR hR1 hR2 hR3 hR4 hS3 hS4 hS5 hBs a4 a5 hR5 h
   unfold eJ at hR6 hS6 a6
   go_wp2
   refine qf (qh rfl _ _ R 75 _ (0, 0) _ rfl hR6 Tryz.underlying75 rfl Tryz.sizePitch3) rfl ?_
   exact ⟨rfl, hS6, a6⟩
end
end Go.Proofs.YtgkhemnmcgicnaaGreatDoor
