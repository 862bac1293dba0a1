/- Towards the law ParserEvents, true for every text (no condition): one part of the proof. -/
import Derived.Test.YtgkhemnmcgicnaaGreatDoorG01
import Derived.Test.YtgkhemnmcgicnaaGreatDoorG10
namespace Go.Proofs.YtgkhemnmcgicnaaGreatDoor
set_option maxHeartbeats 32000000
set_option maxRecDepth 100000
open Go.RowKit
def FitS (f : Bool) (x : Tok) (sy : List ByteArray) (i : Nat) : Bool := f || (decide (x.kind = 4) && memB x.text (sy.take i))
theorem FitS.zero (f : Bool) (x : Tok) (sy : List ByteArray) : FitS f x sy 0 = f := by simp [FitS, memB]
theorem FitS.hit {f : Bool} {x : Tok} {sy : List ByteArray} {i : Nat} (h : FitS f x sy i = true) : FitS f x sy (i + 1) = true := by
 unfold FitS at *
 simp only [Bool.or_eq_true, Bool.and_eq_true] at *
 rcases h with h | ⟨h1, h2⟩
 ·exact .inl h
 ·refine .inr ⟨h1, ?_⟩
  obtain ⟨y, hy, he⟩ := List.any_eq_true.1 h2
  exact List.any_eq_true.2 ⟨y, by rw [List.take_add_one]; exact List.mem_append_left _ hy, he⟩
theorem memB_app (x : ByteArray) (a b : List ByteArray) : memB x (a ++ b) = (memB x a || memB x b) := by unfold memB; rw [List.any_append]
theorem FitS.next {f : Bool} {x : Tok} {sy : List ByteArray} {i : Nat} (h : FitS f x sy i = false) (hi : i < sy.length) : FitS f x sy (i + 1) = (decide (x.kind = 4) && decide (x.text = sy[i])) := by
 unfold FitS at *
 simp only [Bool.or_eq_false_iff, Bool.and_eq_false_imp] at h
 obtain ⟨rfl, h2⟩ := h
 rw [Bool.false_or, List.take_succ_eq_append_getElem hi, memB_app]
 cases h4 : decide (x.kind = 4) with
 | false => rfl
 | true => rw [h2 h4]; simp [memB]
section
variable {T : List Tok} {X : Nat} {free : Bool} {lv iv : Value} {w : World}
theorem mcomposed_false {p : Nat} (h : MS T X free lv iv (.ok p) w) (hp : p + 1 < T.length) (ys : ByteArray) (sy : List ByteArray) (hsy : sy.length = ys.size) (hys : ys.size <= 8) (hget : ∀ i (h : i < sy.length), ys.extract i (i + 1) = sy[i]) :
  Calls Tryz.prog 66 #[.pointer (some ⟨X, 0, none⟩), .string ys, .bool false] w fun r w' => r = .returned (.tuple #[.string (compF T false sy (.ok p)), I (((runS T false sy (.ok p)).length : Int) + 1)]) /\ Below w.heap.size w w' := by
 have hn := now_s h
 obtain ⟨g, pos, is, im, n, xs, e, line, col, h1, h2, h3⟩ := h
 obtain ⟨rfl, rfl, rfl, rfl, hlt0⟩ := h2
 have hm := g.max
 have hl := run_len g false sy hp
 obtain ⟨hs, tn, htn, hno⟩ := run_spec g false sy hp
 have hsz := run_size g false sy hp
 have hst := fun w' (b : Below w.heap.size w w') => h1.step b
 unfold compF
 generalize runS T false sy (.ok p) = l at hl hs htn hsz ⊢
 rw [show T.getD p noTok = tokS T (.ok p) from rfl] at hsz
 generalize tokS T (.ok p) = t at hn hsz ⊢
 have hfd := ftok1 t.kind t.value t.line t.col t.text t.bytes t.joined
 unfold tokV at hn
 clear h1 g h3
 go_enter Tryz.func66, Tryz.ntmps66
 go_wp2_with (go_at_call 31; refine hn.mono ?_)
 intro r w1; first | (intro he b1; subst he) | rintro ⟨rfl, b1⟩
 go_wp2
 go_loopg [8, 9] (l.length + 1) (fun g v u wr => ∃ k : Nat, k <= l.length /\ g = l.length + 1 - k /\ v = .string (catT (l.take k) t.text) /\ u = I ((k : Int) + 1) /\ Below w.heap.size w wr)
 case atStart => exact ⟨0, Nat.zero_le _, rfl, rfl, rfl, b1⟩
 case round =>
  obtain ⟨k, hk, hg, rfl, rfl, hb⟩ := hrel
  have hS := hst _ hb
  obtain ⟨q, hq⟩ : ∃ q, q = p + 1 + k := ⟨_, rfl⟩
  obtain ⟨x, hx, hj⟩ : ∃ x, T[q]? = some x /\ Joins false sy x = decide (k < l.length) := by
   by_cases hlt : k < l.length
   ·have h1 := hs k _ (List.getElem?_eq_getElem hlt)
    exact ⟨l[k], by rw [hq]; exact h1.1, by rw [h1.2]; simp [hlt]⟩
   ·have : k = l.length := by omega
    subst this
    exact ⟨tn, by rw [hq]; exact htn, by rw [hno]; simp⟩
  have hw : IntKind.i64.wrap ((p : Int) + ((k : Int) + 1)) = (q : Int) := by rw [hq, IntWalk.i64_in _ (by omega)]; omega
  have hw2 : IntKind.i64.wrap ((k : Int) + 1 + 1) = (k : Int) + 1 + 1 := IntWalk.i64_in _ (by omega)
  have hlt : (q : Int) < (T.length : Int) := by omega
  have hp0 : (0 : Int) <= (q : Int) := by omega
  obtain ⟨G, cap, rfl, hc⟩ := hS.tok q hx
  have c0 := hS.c0
  have c1 := hS.c1
  have u0 : wr.cell? ⟨G, q * 7, none⟩ = some (I x.kind) := hc 0 _ rfl
  have u1 := hc 1 _ rfl
  have u2 := hc 2 _ rfl
  have u3 := hc 3 _ rfl
  have u4 := hc 4 _ rfl
  have u5 := hc 5 _ rfl
  have u6 := hc 6 _ rfl
  have n0 := World.new_ne wr _ c0
  have n1 := World.new_ne wr _ u0
  have l0 := World.block_lt_of_cell? wr _ c0
  have l1 := World.block_lt_of_cell? wr _ u0
  simp only at l0 l1
  obtain ⟨tk, htk⟩ : ∃ s, s = catT (l.take k) t.text := ⟨_, rfl⟩
  have hsz0 := hsz k
  have hsz1 := hsz (k + 1)
  rw [<- htk] at hsz0 ⊢
  have nxt : k < l.length -> catT (l.take (k + 1)) t.text = tk ++ x.text := fun hlt => by
   have h1 := (hs k _ (List.getElem?_eq_getElem hlt)).1
   rw [<- hq, hx] at h1
   rw [List.take_succ_eq_append_getElem hlt, catT_snoc, <- htk, Option.some.inj h1]
  have fin0 : ¬ k < l.length -> tk = catT l t.text := fun hlt => by
   have : k = l.length := by omega
   rw [htk, this, List.take_length]
  have NF := shut (And.intro nxt (And.intro fin0 (And.intro hsz0 hsz1)))
  have hb2 := (hb.alloc hb.size (.cells #[I x.kind, .string x.text, I x.value, .string x.bytes, I x.line, I x.col, .bool x.joined] 59)).drew.drew
  have hb1 := hb.drew
  have hBt : ((wr.alloc (.cells #[I x.kind, .string x.text, I x.value, .string x.bytes, I x.line, I x.col, .bool x.joined] 59)).drew.drew).heap[wr.heap.size]? = _ := heap_alloc_new wr _
  clear hc hx hS htk nxt fin0 hsz0 hsz1 hst hn b1
  have HJ := shut hj
  have HQ := shut hq
  have HS := shut hsy
  clear hj hq hsy
  have hjj : x.joined = false \/ x.joined = true := by cases x.joined <;> simp
  rcases hjj with hj0 | hj0
  ·have hn : ¬ k < l.length := fun hlt => by
    have := HJ.out
    rw [Joins, hj0, decide_eq_true hlt] at this
    cases this
   have hf := NF.out.2.1 hn
   have hkl : k = l.length := by omega
   subst hf
   subst hkl
   rw [hj0] at u6
   go_wp2
   go_region_held3 (fun w' => w'.cell? ⟨X, 0, none⟩ = some (.slice (some ⟨G, 0, none⟩) T.length cap) /\ w'.cell? ⟨X, 1, none⟩ = some (I p) /\ w'.cell? ⟨G, q * 7 + 6, none⟩ = some (.bool false)) (go_keep) (fail)
   go_wp2
   refine bodyPost_ret (results_tmp2 rfl _ _ _) rfl ?_
   exact ⟨by simp, hb1⟩
  ·rw [hj0] at u6 hb2 hBt
   go_wp2
   go_region_held3 (fun w' => w'.cell? ⟨X, 0, none⟩ = some (.slice (some ⟨G, 0, none⟩) T.length cap) /\ w'.cell? ⟨X, 1, none⟩ = some (I p) /\ w'.cell? ⟨G, q * 7 + 6, none⟩ = some (.bool true)) (go_keep) (fail)
   go_wp2
   go_region_held3 (fun w' => w'.cell? ⟨X, 0, none⟩ = some (.slice (some ⟨G, 0, none⟩) T.length cap) /\ w'.cell? ⟨X, 1, none⟩ = some (I p) /\
    w'.cell? ⟨G, q * 7, none⟩ = some (I x.kind) /\ w'.cell? ⟨G, q * 7 + 1, none⟩ = some (.string x.text) /\ w'.cell? ⟨G, q * 7 + 2, none⟩ = some (I x.value) /\
    w'.cell? ⟨G, q * 7 + 3, none⟩ = some (.string x.bytes) /\ w'.cell? ⟨G, q * 7 + 4, none⟩ = some (I x.line) /\ w'.cell? ⟨G, q * 7 + 5, none⟩ = some (I x.col) /\ w'.cell? ⟨G, q * 7 + 6, none⟩ = some (.bool true)) (go_keep) (fail)
   generalize hBB : wr.heap.size = Bt at hBt ⊢
   generalize hWO : (wr.alloc (.cells #[I x.kind, .string x.text, I x.value, .string x.bytes, I x.line, I x.col, .bool true] 59)).drew.drew = wo at hb2 hBt ⊢
   have j0 : wo.cell? ⟨Bt, 0, none⟩ = some (I x.kind) := by rw [Lib.cell_of_heap hBt]; rfl
   have j1 : wo.cell? ⟨Bt, 1, none⟩ = some (.string x.text) := by rw [Lib.cell_of_heap hBt]; rfl
   clear u0 u1 u2 u3 u4 u5 u6 n0 n1 l0 l1 c0 c1 hb1 hWO hBB hw hlt hp0
   have HB := shut hb
   clear hb
   go_wp2
   go_loopg [11, 12] (ys.size + 1) (fun g v u wr => ∃ i : Nat, i <= ys.size /\ g = ys.size + 1 - i /\ u = I (i : Nat) /\ v = .bool (FitS false x sy i) /\ Below w.heap.size w wr /\ wr.heap[Bt]? = some (.cells #[I x.kind, .string x.text, I x.value, .string x.bytes, I x.line, I x.col, .bool true] 59 (0, 0)))
   case atStart => exact ⟨0, Nat.zero_le _, rfl, rfl, by rw [FitS.zero], hb2, hBt⟩
   case round =>
    clear hb2 hBt j0 j1
    obtain ⟨i, hi, hgi, rfl, rfl, hbi, hBi⟩ := hrel
    have i0 : wr.cell? ⟨Bt, 0, none⟩ = some (I x.kind) := by rw [Lib.cell_of_heap hBi]; rfl
    have i1 : wr.cell? ⟨Bt, 1, none⟩ = some (.string x.text) := by rw [Lib.cell_of_heap hBi]; rfl
    by_cases hlti : i < ys.size
    ·have hlti' : (i : Int) < (ys.size : Int) := by omega
     have hi0 : (0 : Int) <= (i : Int) := by omega
     obtain ⟨i2, hi2⟩ : ∃ i2, i2 = i + 1 := ⟨_, rfl⟩
     have mi : IntKind.i64.wrap ((i : Int) + 1) = (i2 : Int) := by rw [hi2, IntWalk.i64_in _ (by omega)]; omega
     have his : i < sy.length := by have := HS.out; omega
     have hge := hget i his
     rw [<- hi2] at hge
     have HI := shut hi2
     have hi3 : (i : Int) <= (i2 : Int) := by omega
     have hi4 : (i2 : Int) <= (ys.size : Int) := by omega
     cases hF : FitS false x sy i with
     | true =>
      have hnx := FitS.hit hF
      rw [<- hi2] at hnx
      clear hi2 hge hget
      go_wp2
      have hSd : wr.drew.cell? ⟨Bt, 0, none⟩ = some (I x.kind) /\ wr.drew.cell? ⟨Bt, 1, none⟩ = some (.string x.text) := ⟨i0, i1⟩
      refine wp_region_noPanic ?_
      refine wp_region_held_drew (S := fun w' => w'.cell? ⟨Bt, 0, none⟩ = some (I x.kind) /\ w'.cell? ⟨Bt, 1, none⟩ = some (.string x.text)) (by kernel_rfl) hSd (fun hHeld => ?_)
      refine tkw 0 (.bool true) rfl ?_
      try simp only [ap, nm]
      refine tkw 1 (.bool true) rfl ?_
      try simp only [ap, nm]
      refine tku 2 rfl ?_
      try simp only [ap, nm]
      refine tku 3 rfl ?_
      try simp only [ap, nm]
      refine tku 4 rfl ?_
      try simp only [ap, nm]
      refine tku 5 rfl ?_
      try simp only [ap, nm]
      refine tku 6 rfl ?_
      try simp only [ap, nm]
      refine tku 7 rfl ?_
      try simp only [ap, nm]
      refine tku 8 rfl ?_
      try simp only [ap, nm]
      refine tku 9 rfl ?_
      try simp only [ap, nm]
      refine tku 10 rfl ?_
      try simp only [ap, nm]
      refine tku 11 rfl ?_
      try simp only [ap, nm]
      refine tku 12 rfl ?_
      try simp only [ap, nm]
      refine tku 13 rfl ?_
      try simp only [ap, nm]
      refine tku 14 rfl ?_
      try simp only [ap, nm]
      refine tkw 15 (.bool true) rfl ?_
      try simp only [ap, nm]
      refine tkw 16 (.bool true) rfl ?_
      try simp only [ap, nm]
      refine wpAnyH_done (by kernel_rfl) ?_ _
      refine NoPanic.normal ?_
      clear i0 i1
      go_wp2
      go_roundg (ys.size + 1 - i2)
      case measure => have := HI.out; omega
      case rel => exact ⟨i2, by have := HI.out; omega, rfl, rfl, by rw [hnx]; first | done | rfl | simp, hbi.drew, hBi⟩
     | false =>
      have hnx := FitS.next hF his
      rw [<- hi2, <- hge] at hnx
      clear hi2 hge hget
      by_cases hk4 : x.kind = 4
      ·have hk4b : (x.kind == 4) = true := by simp [hk4]
       rw [hk4] at i0
       by_cases htx : x.text = ys.extract i i2
       ·rw [decide_eq_true hk4, decide_eq_true htx] at hnx
        rw [htx] at i1
        go_wp2
        have hSd : wr.drew.cell? ⟨Bt, 0, none⟩ = some (I 4) /\ wr.drew.cell? ⟨Bt, 1, none⟩ = some (.string (ys.extract i i2)) := ⟨i0, i1⟩
        refine wp_region_noPanic ?_
        refine wp_region_held_drew (S := fun w' => w'.cell? ⟨Bt, 0, none⟩ = some (I 4) /\ w'.cell? ⟨Bt, 1, none⟩ = some (.string (ys.extract i i2))) (by kernel_rfl) hSd (fun hHeld => ?_)
        refine tkw 0 (.bool false) rfl ?_
        try simp only [ap, nm]
        refine tkw 1 (.bool false) rfl ?_
        try simp only [ap, nm]
        refine tkv 2 ?v2 rfl ?hy2 ?_
        case hy2 => (intro wq hSw; go_simp; try (with_reducible rfl))
        try simp only [ap, nm]
        refine tkv 3 (I 4) rfl ?hy3 ?_
        case hy3 => (intro wq hSw; obtain ⟨hS0, hS1⟩ := hSw; go_simp; try rfl)
        try simp only [ap, nm]
        refine tkw 4 (.bool true) rfl ?_
        try simp only [ap, nm]
        refine tkw 5 (.bool true) rfl ?_
        try simp only [ap, nm]
        refine tkv 6 ?v6 rfl ?hy6 ?_
        case hy6 => (intro wq hSw; go_simp; try (with_reducible rfl))
        try simp only [ap, nm]
        refine tkv 7 (.string (ys.extract i i2)) rfl ?hy7 ?_
        case hy7 => (intro wq hSw; obtain ⟨hS0, hS1⟩ := hSw; go_simp; try rfl)
        try simp only [ap, nm]
        refine tkw 8 (.string ys) rfl ?_
        try simp only [ap, nm]
        refine tkw 9 (I (i : Nat)) rfl ?_
        try simp only [ap, nm]
        refine tkw 10 (I (i : Nat)) rfl ?_
        try simp only [ap, nm]
        refine tkw 11 (I (i2 : Nat)) rfl ?_
        try simp only [ap, nm]
        refine tkw 12 (.string (ys.extract i i2)) rfl ?_
        try simp only [ap, nm]
        refine tkw 13 (.bool true) rfl ?_
        try simp only [ap, nm]
        refine tkw 14 (.bool true) rfl ?_
        try simp only [ap, nm]
        refine tkw 15 (.bool true) rfl ?_
        try simp only [ap, nm]
        refine tkw 16 (.bool true) rfl ?_
        try simp only [ap, nm]
        refine wpAnyH_done (by kernel_rfl) ?_ _
        refine NoPanic.normal ?_
        clear i0 i1
        go_wp2
        go_roundg (ys.size + 1 - i2)
        case measure => have := HI.out; omega
        case rel => exact ⟨i2, by have := HI.out; omega, rfl, rfl, by rw [hnx]; first | done | rfl | simp, hbi.drew, hBi⟩
       ·rw [decide_eq_true hk4, decide_eq_false htx] at hnx
        have htb := toList_ne htx
        go_wp2
        have hSd : wr.drew.cell? ⟨Bt, 0, none⟩ = some (I 4) /\ wr.drew.cell? ⟨Bt, 1, none⟩ = some (.string x.text) := ⟨i0, i1⟩
        refine wp_region_noPanic ?_
        refine wp_region_held_drew (S := fun w' => w'.cell? ⟨Bt, 0, none⟩ = some (I 4) /\ w'.cell? ⟨Bt, 1, none⟩ = some (.string x.text)) (by kernel_rfl) hSd (fun hHeld => ?_)
        refine tkw 0 (.bool false) rfl ?_
        try simp only [ap, nm]
        refine tkw 1 (.bool false) rfl ?_
        try simp only [ap, nm]
        refine tkv 2 ?v2 rfl ?hy2 ?_
        case hy2 => (intro wq hSw; go_simp; try (with_reducible rfl))
        try simp only [ap, nm]
        refine tkv 3 (I 4) rfl ?hy3 ?_
        case hy3 => (intro wq hSw; obtain ⟨hS0, hS1⟩ := hSw; go_simp; try rfl)
        try simp only [ap, nm]
        refine tkw 4 (.bool true) rfl ?_
        try simp only [ap, nm]
        refine tkw 5 (.bool true) rfl ?_
        try simp only [ap, nm]
        refine tkv 6 ?v6 rfl ?hy6 ?_
        case hy6 => (intro wq hSw; go_simp; try (with_reducible rfl))
        try simp only [ap, nm]
        refine tkv 7 (.string x.text) rfl ?hy7 ?_
        case hy7 => (intro wq hSw; obtain ⟨hS0, hS1⟩ := hSw; go_simp; try rfl)
        try simp only [ap, nm]
        refine tkw 8 (.string ys) rfl ?_
        try simp only [ap, nm]
        refine tkw 9 (I (i : Nat)) rfl ?_
        try simp only [ap, nm]
        refine tkw 10 (I (i : Nat)) rfl ?_
        try simp only [ap, nm]
        refine tkw 11 (I (i2 : Nat)) rfl ?_
        try simp only [ap, nm]
        refine tkw 12 (.string (ys.extract i i2)) rfl ?_
        try simp only [ap, nm]
        refine tkw 13 (.bool false) rfl ?_
        try simp only [ap, nm]
        refine tkw 14 (.bool false) rfl ?_
        try simp only [ap, nm]
        refine tkw 15 (.bool false) rfl ?_
        try simp only [ap, nm]
        refine tkw 16 (.bool false) rfl ?_
        try simp only [ap, nm]
        refine wpAnyH_done (by kernel_rfl) ?_ _
        refine NoPanic.normal ?_
        clear i0 i1
        go_wp2
        go_roundg (ys.size + 1 - i2)
        case measure => have := HI.out; omega
        case rel => exact ⟨i2, by have := HI.out; omega, rfl, rfl, by rw [hnx]; first | done | rfl | simp, hbi.drew, hBi⟩
      ·rw [decide_eq_false hk4] at hnx
       have hk4b : (x.kind == 4) = false := by simp [hk4]
       go_wp2
       have hSd : wr.drew.cell? ⟨Bt, 0, none⟩ = some (I x.kind) /\ wr.drew.cell? ⟨Bt, 1, none⟩ = some (.string x.text) := ⟨i0, i1⟩
       refine wp_region_noPanic ?_
       refine wp_region_held_drew (S := fun w' => w'.cell? ⟨Bt, 0, none⟩ = some (I x.kind) /\ w'.cell? ⟨Bt, 1, none⟩ = some (.string x.text)) (by kernel_rfl) hSd (fun hHeld => ?_)
       refine tkw 0 (.bool false) rfl ?_
       try simp only [ap, nm]
       refine tkw 1 (.bool false) rfl ?_
       try simp only [ap, nm]
       refine tkv 2 ?v2 rfl ?hy2 ?_
       case hy2 => (intro wq hSw; go_simp; try (with_reducible rfl))
       try simp only [ap, nm]
       refine tkv 3 (I x.kind) rfl ?hy3 ?_
       case hy3 => (intro wq hSw; obtain ⟨hS0, hS1⟩ := hSw; go_simp; try rfl)
       try simp only [ap, nm]
       refine tkw 4 (.bool false) rfl ?_
       try simp only [ap, nm]
       refine tkw 5 (.bool false) rfl ?_
       try simp only [ap, nm]
       refine tku 6 rfl ?_
       try simp only [ap, nm]
       refine tku 7 rfl ?_
       try simp only [ap, nm]
       refine tku 8 rfl ?_
       try simp only [ap, nm]
       refine tku 9 rfl ?_
       try simp only [ap, nm]
       refine tku 10 rfl ?_
       try simp only [ap, nm]
       refine tku 11 rfl ?_
       try simp only [ap, nm]
       refine tku 12 rfl ?_
       try simp only [ap, nm]
       refine tku 13 rfl ?_
       try simp only [ap, nm]
       refine tkw 14 (.bool false) rfl ?_
       try simp only [ap, nm]
       refine tkw 15 (.bool false) rfl ?_
       try simp only [ap, nm]
       refine tkw 16 (.bool false) rfl ?_
       try simp only [ap, nm]
       refine wpAnyH_done (by kernel_rfl) ?_ _
       refine NoPanic.normal ?_
       clear i0 i1
       go_wp2
       go_roundg (ys.size + 1 - i2)
       case measure => have := HI.out; omega
       case rel => exact ⟨i2, by have := HI.out; omega, rfl, rfl, by rw [hnx]; first | done | rfl | simp, hbi.drew, hBi⟩
    ·have hii : i = ys.size := by omega
     have hJo : Joins false sy x = FitS false x sy i := by
      have h1 : sy.take i = sy := by rw [List.take_of_length_le (by have := HS.out; omega)]
      rw [Joins, FitS, hj0, h1]
      simp only [Bool.true_and]
      rfl
     have hni : ¬ (i : Int) < (ys.size : Int) := by omega
     cases hF : FitS false x sy i with
     | true =>
      have hltk : k < l.length := by
       have := HJ.out
       rw [hJo, hF] at this
       simpa using this.symm
      have hnx := NF.out.1 hltk
      have had := fun ww => add_run tk x.text NF.out.2.2.1 (by have h1 := NF.out.2.2.2; rw [hnx] at h1; rw [ByteArray.size_append] at h1; omega) ww
      clear hJo
      go_wp2
      go_roundg (l.length + 1 - (k + 1))
      case measure => omega
      case rel => exact ⟨k + 1, by omega, rfl, by rw [hnx], by simp, hbi⟩
     | false =>
      have hn : ¬ k < l.length := fun hlt => by
       have := HJ.out
       rw [hJo, hF, decide_eq_true hlt] at this
       cases this
      have hf := NF.out.2.1 hn
      have hkl : k = l.length := by omega
      rw [hf]
      clear hJo
      go_wp2
      refine bodyPost_ret (results_tmp2 rfl _ _ _) rfl ?_
      exact ⟨by simp, hbi⟩
end
end Go.Proofs.YtgkhemnmcgicnaaGreatDoor
