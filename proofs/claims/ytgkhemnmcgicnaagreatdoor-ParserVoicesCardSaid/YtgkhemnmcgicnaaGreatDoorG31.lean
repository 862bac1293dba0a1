/- Towards the law ParserVoices, true for every text (no condition): one part of the proof. -/
import Derived.Test.YtgkhemnmcgicnaaGreatDoorG01
import Derived.Test.YtgkhemnmcgicnaaGreatDoorG30
import Derived.Test.YtgkhemnmcgicnaaGreatDoorG08
namespace Go.Proofs.YtgkhemnmcgicnaaGreatDoor
set_option maxHeartbeats 16000000
set_option maxRecDepth 100000
open Go.RowKit
def Pw (k : Nat) (pw : Int) : Prop := (k = 1 /\ pw = 2) \/ (k = 2 /\ pw = 4) \/ (k = 3 /\ pw = 8) \/ (k = 4 /\ pw = 16) \/ (k = 5 /\ pw = 32) \/ (k = 6 /\ pw = 64)
theorem XX {k : Nat} (h1 : 1 <= k) (h6 : k <= 6) : ∃ pw, Pw k pw := by
 unfold Pw
 rcases (by omega : k = 1 \/ k = 2 \/ k = 3 \/ k = 4 \/ k = 5 \/ k = 6) with rfl | rfl | rfl | rfl | rfl | rfl <;> simp
theorem UH {k : Nat} {pw : Int} (h : Pw k pw) : kT pw = k := by
 rcases h with ⟨rfl, rfl⟩ | ⟨rfl, rfl⟩ | ⟨rfl, rfl⟩ | ⟨rfl, rfl⟩ | ⟨rfl, rfl⟩ | ⟨rfl, rfl⟩ <;> decide
theorem Y2 {v : Int} (h : kT v ≠ 0) : ∃ k : Nat, Pw k v /\ kT v = k := by
 unfold kT at h |-
 unfold Pw
 by_cases h1 : v = 2
 ·exact ⟨1, by simp [h1]⟩
 by_cases h2 : v = 4
 ·exact ⟨2, by simp [h2]⟩
 by_cases h3 : v = 8
 ·exact ⟨3, by simp [h3]⟩
 by_cases h4 : v = 16
 ·exact ⟨4, by simp [h4]⟩
 by_cases h5 : v = 32
 ·exact ⟨5, by simp [h5]⟩
 by_cases h6 : v = 64
 ·exact ⟨6, by simp [h6]⟩
 simp [h1, h2, h3, h4, h5, h6] at h
section
variable {W0 : World} {T : List bD} {Y M : Nat} {free : Bool} {st : aU} {w : World}
theorem QQ (h : PS T Y M free st w) (B : lG W0 [Y, M] w) : Calls Tryz.prog 56 #[.pointer (some ⟨Y, 0, none⟩)] w fun r w' => r = .returned (A6 (aY aD T 7 st).1) /\ PS T Y M free (aY aD T 7 st).2 w' /\ aB [Y, M] w w' := by
 have hYl := h.lt
 have hMl := h.ltM
 have hR := qc w (.cells #[I 0, I 0, I 0, I 0, .bool false] 77)
 have b0 := (qa _ w).alloc (qb _) (.cells #[I 0, I 0, I 0, I 0, .bool false] 77)
 have hRl := aA hR
 have hRY : w.heap.size ∉ [Y, M] := by simp; omega
 have hx1 := fU (h.step b0) ⟨#[47]⟩
 have g := h.good
 have hm := g.max
 have hBs := fun w' (a : aB [Y, M] w w') => B.away a
 have hel := fun (s1 : aU) (w1 w2 : World) (h1 : PS T Y M free s1 w1) (R : Nat) => h1.else (w' := w2) (R := R) h
 have hh : aY aD T 7 st = if (aW T (bE T ⟨#[58]⟩ (aT aD T (aS T ⟨#[47]⟩ st)).2)).kind ≠ 2 then (⟨(aT aD T (aS T ⟨#[47]⟩ st)).1, 0, isS T ⟨#[47]⟩ st⟩, bF T 13 (bE T ⟨#[58]⟩ (aT aD T (aS T ⟨#[47]⟩ st)).2))
   else if kT (aW T (bE T ⟨#[58]⟩ (aT aD T (aS T ⟨#[47]⟩ st)).2)).value = 0 then (⟨(aT aD T (aS T ⟨#[47]⟩ st)).1, 7, isS T ⟨#[47]⟩ st⟩, bF T 2 (bE T ⟨#[58]⟩ (aT aD T (aS T ⟨#[47]⟩ st)).2))
   else (⟨(aT aD T (aS T ⟨#[47]⟩ st)).1, kT (aW T (bE T ⟨#[58]⟩ (aT aD T (aS T ⟨#[47]⟩ st)).2)).value, isS T ⟨#[47]⟩ st⟩, (bE T ⟨#[58]⟩ (aT aD T (aS T ⟨#[47]⟩ st)).2).next 1) := rfl
 rw [hh]
 clear hh
 have c2 := fun w' (h : PS T Y M free (aS T ⟨#[47]⟩ st) w') (b : lG W0 [Y, M] w') => QS h b
 generalize isS T ⟨#[47]⟩ st = sl at hx1 |-
 generalize aS T ⟨#[47]⟩ st = s1 at hx1 c2 |-
 generalize aT aD T s1 = q2 at c2 |-
 obtain ⟨⟨ps, pa, po⟩, s2⟩ := q2
 simp only [rK] at c2 |-
 have c3 := fun w' (h : PS T Y M free s2 w') => iR h ⟨#[58]⟩
 generalize bE T ⟨#[58]⟩ s2 = s3 at c3 |-
 have c4 := fun w' (h : PS T Y M free s3 w') => pA h
 by_cases hk : (aW T s3).kind ≠ 2
 ·rw [if_pos hk]
  simp only [A6]
  have c5 := fun w' (h : PS T Y M free s3 w') => kV h 13 (by decide)
  generalize bF T 13 s3 = s4 at c5 |-
  unfold fK at c4
  generalize aW T s3 = t at c4 hk
  obtain ⟨kd, text, v, bt, lin, cl, j⟩ := t
  simp only at hk c4
  clear h
  go_enter Tryz.func56, Tryz.ntmps56
  go_wp2_with (go_at_call 53; refine hx1.mono ?_)
  intro r w1; first | (intro he hS1 a1; subst he) | rintro ⟨rfl, hS1, a1⟩
  have hR1 := a1.at hR hRY
  have a01 := (aB.of_below (bs := [Y, M]) b0).trans a1
  have hx2 := c2 _ hS1 (hBs _ a01)
  have hs1 := a1.size
  clear hx1 c2
  go_wp2_with (go_at_call 102; refine hx2.mono ?_)
  intro r w2; first | (intro he hS2 a2; subst he) | rintro ⟨rfl, hS2, a2⟩
  have hR2 := a2.at hR1 hRY
  have a02 := a01.trans a2
  have bq := (qa _ w2).alloc (qb _) (.cells #[I ps, I pa, I po, I 0, .bool sl] 77)
  have hQ3 := qc w2 (.cells #[I ps, I pa, I po, I 0, .bool sl] 77)
  have hR3 := (bq.block _ (aA hR2)).trans hR2
  have a03 := a02.trans (aB.of_below bq)
  have hx3 := c3 _ (hS2.step bq)
  have hwQ : w.heap.size < w2.heap.size := aA hR2
  have hYQ := hS2.lt
  have hMQ := hS2.ltM
  clear hx2 c3
  go_wp2_with (go_at_call 54; refine hx3.mono ?_)
  intro r w4; first | (intro he hS4 a4; subst he) | rintro ⟨rfl, hS4, a4⟩
  generalize hRR : w.heap.size = R at hR hR1 hR2 hR3 hRl hRY hwQ |-
  generalize hQQ : w2.heap.size = Q at hQ3 hwQ hYQ hMQ |-
  have hQY : Q ∉ [Y, M] := by simp; omega
  have hQR : Q ≠ R := by omega
  have hQYn : Q ≠ Y := by omega
  have hRYn : R ≠ Y := by omega
  have hR4 := a4.at hR3 hRY
  have hQ4 := a4.at hQ3 hQY
  have a04 := a03.trans a4
  have hx4 := c4 _ hS4
  clear hx3 c4 a03 hR3 hQ3 bq
  go_wp2_with (go_at_call 62; refine hx4.mono ?_)
  intro r w5; first | (intro he b5; subst he) | rintro ⟨rfl, b5⟩
  have bt5 := (qa _ w5).alloc (qb _) (.cells #[I kd, .string text, I v, .string bt, I lin, I cl, .bool j] 59)
  have b45 := b5.trans (bt5.mono b5.size)
  have hR5 := (b45.block _ (aA hR4)).trans hR4
  have hQ5 := (b45.block _ (aA hQ4)).trans hQ4
  have hT5 := qc w5 (.cells #[I kd, .string text, I v, .string bt, I lin, I cl, .bool j] 59)
  have hS5 := hS4.step b45
  have a05 := a04.trans (aB.of_below b45)
  have hsz5 := b5.size
  have hsz4 := aA hQ4
  have hsz4r := aA hR4
  have hYl5 := hS4.lt
  have hMl5 := hS4.ltM
  clear hx4
  have hx5 := c5 _ hS5
  clear c5
  go_wp2_with (go_at_call 63; refine hx5.mono ?_)
  intro r w6; first | (intro he hS6 a6; subst he) | rintro ⟨rfl, hS6, a6⟩
  have hR6 := a6.at hR5 hRY
  have hQ6 := a6.at hQ5 hQY
  have a06 := a05.trans a6
  clear hx5
  obtain ⟨⟨r0, r1, r2, r3, r4⟩, g0, g1, g2, g3, g4⟩ := aN hR6
  obtain ⟨⟨q0, q1, q2, q3, q4⟩, f0, f1, f2, f3, f4⟩ := aN hQ6
  have hR7 := cQ (I ps) (I pa) (I po) (I 0) (.bool sl) hR6
  have hS7 := hel _ _ (eB w6 R (I ps) (I pa) (I po) (I 0) (.bool sl)) hS6 R (qe hRR) hR6 (by decide) (fun j hj => bH _ _ _ _ _ _ _ j hj)
  have a7 := cS a06 (qe hRR) (I ps) (I pa) (I po) (I 0) (.bool sl)
  clear hel
  unfold eB at hR7 hS7 a7
  go_wp2
  refine qf (qh rfl _ _ R 77 _ (0, 0) _ rfl hR7 Tryz.underlying77 rfl Tryz.sizeGrace) rfl ?_
  exact ⟨rfl, hS7, a7⟩
 ·rw [if_neg hk]
  have hk2 : (aW T s3).kind = 2 := by omega
  obtain ⟨p, rfl⟩ := TX hk2
  have hp4 : p <= 4001 := by
   by_cases hlt : p < T.length
   ·omega
   ·exact absurd hk2 (by show (T.getD p dA).kind ≠ 2; rw [qqm, List.getElem?_eq_none (by omega)]; decide)
  have hmore : p < T.length -> p + 1 < T.length := fun hp => g.more hp (by rw [show (T.getD p dA).kind = 2 from hk2]; decide)
  have c6 := fun w' (h : PS T Y M free (.ok p) w') => kV h 2 (by decide)
  have c7 := fun w' (h : PS T Y M free (.ok p) w') => h.atCell
  have c8 := fun w' (h : PS T Y M free (.ok p) w') => h.jump (hmore h.atCell.2.2)
  unfold fK at c4
  generalize aW T (.ok p) = t at c4 hk2 |-
  obtain ⟨kd, text, v, bt, lin, cl, j⟩ := t
  simp only at hk2 c4 |-
  subst hk2
  clear h hk g
  by_cases hlg : kT v = 0
  ·rw [if_pos hlg]
   generalize bF T 2 (.ok p) = s4 at c6 |-
   simp only [A6]
   have HL := aQ hlg
   clear hlg
   go_enter Tryz.func56, Tryz.ntmps56
   go_wp2_with (go_at_call 53; refine hx1.mono ?_)
   intro r w1; first | (intro he hS1 a1; subst he) | rintro ⟨rfl, hS1, a1⟩
   have hR1 := a1.at hR hRY
   have a01 := (aB.of_below (bs := [Y, M]) b0).trans a1
   have hx2 := c2 _ hS1 (hBs _ a01)
   have hs1 := a1.size
   clear hx1 c2
   go_wp2_with (go_at_call 102; refine hx2.mono ?_)
   intro r w2; first | (intro he hS2 a2; subst he) | rintro ⟨rfl, hS2, a2⟩
   have hR2 := a2.at hR1 hRY
   have a02 := a01.trans a2
   have bq := (qa _ w2).alloc (qb _) (.cells #[I ps, I pa, I po, I 0, .bool sl] 77)
   have hQ3 := qc w2 (.cells #[I ps, I pa, I po, I 0, .bool sl] 77)
   have hR3 := (bq.block _ (aA hR2)).trans hR2
   have a03 := a02.trans (aB.of_below bq)
   have hx3 := c3 _ (hS2.step bq)
   have hwQ : w.heap.size < w2.heap.size := aA hR2
   have hYQ := hS2.lt
   have hMQ := hS2.ltM
   clear hx2 c3
   go_wp2_with (go_at_call 54; refine hx3.mono ?_)
   intro r w4; first | (intro he hS4 a4; subst he) | rintro ⟨rfl, hS4, a4⟩
   generalize hRR : w.heap.size = R at hR hR1 hR2 hR3 hRl hRY hwQ |-
   generalize hQQ : w2.heap.size = Q at hQ3 hwQ hYQ hMQ |-
   have hQY : Q ∉ [Y, M] := by simp; omega
   have hQR : Q ≠ R := by omega
   have hQYn : Q ≠ Y := by omega
   have hRYn : R ≠ Y := by omega
   have hR4 := a4.at hR3 hRY
   have hQ4 := a4.at hQ3 hQY
   have a04 := a03.trans a4
   have hx4 := c4 _ hS4
   clear hx3 c4 a03 hR3 hQ3 bq
   go_wp2_with (go_at_call 62; refine hx4.mono ?_)
   intro r w5; first | (intro he b5; subst he) | rintro ⟨rfl, b5⟩
   have bt5 := (qa _ w5).alloc (qb _) (.cells #[I 2, .string text, I v, .string bt, I lin, I cl, .bool j] 59)
   have b45 := b5.trans (bt5.mono b5.size)
   have hR5 := (b45.block _ (aA hR4)).trans hR4
   have hQ5 := (b45.block _ (aA hQ4)).trans hQ4
   have hT5 := qc w5 (.cells #[I 2, .string text, I v, .string bt, I lin, I cl, .bool j] 59)
   have hS5 := hS4.step b45
   have a05 := a04.trans (aB.of_below b45)
   have hsz5 := b5.size
   have hsz4 := aA hQ4
   have hsz4r := aA hR4
   have hYl5 := hS4.lt
   have hMl5 := hS4.ltM
   clear hx4
   have hT5' := hT5
   have hBQ : w5.heap.size ≠ Q := by omega
   have hBR : w5.heap.size ≠ R := by omega
   have q3a : w5.cell? ⟨Q, 3, none⟩ = some (I 0) := by
    have := (b5.block _ hsz4).trans hQ4
    rw [Lib.cell_of_heap this]; rfl
   have f3a : w5.frozen? ⟨Q, 3, none⟩ = false := Lib.frozen_of_heap ((b5.block _ hsz4).trans hQ4) 3
   have hQ6 : ((w5.setCell ⟨Q, 3, none⟩ (I 1)).alloc (.cells #[I 2, .string text, I v, .string bt, I lin, I cl, .bool j] 59)).heap[Q]? = some (.cells #[I ps, I pa, I po, I ((1 : Nat) : Int), .bool sl] 77 (0, 0)) := by
    have h1 := (Lib.heap_setCell_same (i := 3) ((b5.block _ hsz4).trans hQ4) (I 1))
    exact (Lib.alloc_old _ _ _ (aA h1)).trans (h1.trans rfl)
   have hR6 : ((w5.setCell ⟨Q, 3, none⟩ (I 1)).alloc (.cells #[I 2, .string text, I v, .string bt, I lin, I cl, .bool j] 59)).heap[R]? = some (.cells #[I 0, I 0, I 0, I 0, .bool false] 77 (0, 0)) := by
    have h1 := (aE w5 Q 3 (I 1) R hQR.symm).trans ((b5.block _ hsz4r).trans hR4)
    exact (Lib.alloc_old _ _ _ (aA h1)).trans h1
   have hT6 : ((w5.setCell ⟨Q, 3, none⟩ (I 1)).alloc (.cells #[I 2, .string text, I v, .string bt, I lin, I cl, .bool j] 59)).heap[w5.heap.size]? = some (.cells #[I 2, .string text, I v, .string bt, I lin, I cl, .bool j] 59 (0, 0)) := by
    have := qc (w5.setCell ⟨Q, 3, none⟩ (I 1)) (.cells #[I 2, .string text, I v, .string bt, I lin, I cl, .bool j] 59)
    rw [show (w5.setCell ⟨Q, 3, none⟩ (I 1)).heap.size = w5.heap.size by simp [World.setCell]] at this
    exact this
   have hS6 := (hel _ w5 (w5.setCell ⟨Q, 3, none⟩ (I 1)) (hS4.step b5) Q (by omega) ((b5.block _ hsz4).trans hQ4) (by decide) (aE _ _ _ _)).step ((qa _ _).alloc (qb _) (.cells #[I 2, .string text, I v, .string bt, I lin, I cl, .bool j] 59))
   have a06 := ((a04.trans (aB.of_below b5)).setCell (p := ⟨Q, 3, none⟩) (.inr (by show w.heap.size <= Q; omega)) (I 1)).alloc (.cells #[I 2, .string text, I v, .string bt, I lin, I cl, .bool j] 59)
   have hQn : Q ≠ w5.heap.size := hBQ.symm
   have n3a := qr w5 _ q3a
   have l3a := ql w5 _ q3a
   simp only at l3a
   have f3b : (w5.alloc (.cells #[I 2, .string text, I v, .string bt, I lin, I cl, .bool j] 59)).frozen? ⟨Q, 3, none⟩ = false := Lib.frozen_of_heap ((Lib.alloc_old w5 (.cells #[I 2, .string text, I v, .string bt, I lin, I cl, .bool j] 59) Q l3a).trans ((b5.block _ hsz4).trans hQ4)) 3
   clear hS5 a05 hT5 hR5 hQ5 hS4 a04 hR4 hQ4 bt5 b45 hT5'
   go_wp2
   generalize hW6 : (w5.setCell ⟨Q, 3, none⟩ (I 1)).alloc (.cells #[I 2, .string text, I v, .string bt, I lin, I cl, .bool j] 59) = W6 at hQ6 hR6 hT6 hS6 a06 |-
   clear n3a l3a f3b
   generalize hTT : w5.heap.size = Bt at hT6 hBQ hBR hQn |-
   have HC := aQ (And.intro c6 (And.intro c7 c8))
   have HE := aQ hel
   clear c6 c7 c8 hel hmore hBs q3a f3a
   go_loopg [] (6 : Nat) (fun gq wr => ∃ k : Nat, 1 <= k /\ k <= 7 /\ gq = 7 - k /\ (∀ j pw, j < k -> Pw j pw -> v ≠ pw) /\ PS T Y M free (.ok p) wr /\ aB [Y, M] w wr /\ wr.heap[Bt]? = some (.cells #[I 2, .string text, I v, .string bt, I lin, I cl, .bool j] 59 (0, 0)) /\ wr.heap[R]? = some (.cells #[I 0, I 0, I 0, I 0, .bool false] 77 (0, 0)) /\
    wr.heap[Q]? = some (.cells #[I ps, I pa, I po, I (k : Nat), .bool sl] 77 (0, 0)))
   case atStart => exact ⟨1, qb _, by omega, rfl, fun j pw hj hp => by rcases hp with ⟨h, _⟩ | ⟨h, _⟩ | ⟨h, _⟩ | ⟨h, _⟩ | ⟨h, _⟩ | ⟨h, _⟩ <;> omega, hS6, a06, hT6, hR6, hQ6⟩
   case round =>
    clear hS6 a06 hT6 hR6 hQ6
    obtain ⟨k, hk1, hk7, hgq, hmiss, hSk, ak, hTk, hRk, hQk⟩ := hrel
    have HM := aQ hmiss
    clear hmiss
    have t2 : wr.cell? ⟨Bt, 2, none⟩ = some (I v) := by rw [Lib.cell_of_heap hTk]; rfl
    obtain ⟨⟨q0, q1, q2, q3, q4⟩, f0, f1, f2, f3, f4⟩ := aN hQk
    by_cases hk6 : k <= 6
    ·obtain ⟨pw, hpw⟩ := XX hk1 hk6
     have hk6' : (k : Int) <= 6 := by omega
     have HP := aQ hpw
     clear hpw
     by_cases hv : v = pw
     ·exact absurd (HL.out) (by rw [hv, UH HP.out]; omega)
     ·have hvd : (v != pw) = true := by simpa using hv
      go_wp2
      have hSd0 : wr.drew.cell? ⟨Q, 3, none⟩ = some (I (k : Nat)) /\ wr.drew.cell? ⟨Bt, 2, none⟩ = some (I v) := ⟨q3, t2⟩
      refine qx ?_
      refine qp (S := fun w' => w'.cell? ⟨Q, 3, none⟩ = some (I (k : Nat)) /\ w'.cell? ⟨Bt, 2, none⟩ = some (I v)) (by kernel_rfl) hSd0 (fun hHeld => ?_)
      refine gA 0 ?v0 rfl ?hy0 ?_
      case hy0 => (intro wq hSw; go_simp; try (with_reducible rfl))
      try simp only [ap, nm]
      refine gA 1 (I (k : Nat)) rfl ?hy1 ?_
      case hy1 => (intro wq hSw; obtain ⟨hS0, hS1⟩ := hSw; go_simp; try rfl)
      try simp only [ap, nm]
      refine bZ 2 (.bool true) rfl ?_
      try simp only [ap, nm]
      refine bZ 3 (.bool true) rfl ?_
      try simp only [ap, nm]
      refine gA 4 ?v4 rfl ?hy4 ?_
      case hy4 => (intro wq hSw; go_simp; try (with_reducible rfl))
      try simp only [ap, nm]
      refine gA 5 (I v) rfl ?hy5 ?_
      case hy5 => (intro wq hSw; obtain ⟨hS0, hS1⟩ := hSw; go_simp; try rfl)
      try simp only [ap, nm]
      refine gA 6 ?v6 rfl ?hy6 ?_
      case hy6 => (intro wq hSw; go_simp; try (with_reducible rfl))
      try simp only [ap, nm]
      refine gA 7 (I (k : Nat)) rfl ?hy7 ?_
      case hy7 => (intro wq hSw; obtain ⟨hS0, hS1⟩ := hSw; go_simp; try rfl)
      try simp only [ap, nm]
      refine gA 8 (I pw) rfl ?hy8 ?_
      case hy8 => (intro wq hSw; rcases HP.out with ⟨rfl, rfl⟩ | ⟨rfl, rfl⟩ | ⟨rfl, rfl⟩ | ⟨rfl, rfl⟩ | ⟨rfl, rfl⟩ | ⟨rfl, rfl⟩ <;> (go_simp; try rfl))
      try simp only [ap, nm]
      refine bZ 9 (.bool true) rfl ?_
      try simp only [ap, nm]
      refine bZ 10 (.bool true) rfl ?_
      try simp only [ap, nm]
      refine qqr (by kernel_rfl) ?_ _
      refine qqf ?_
      have hSd := hSk.step ((qa _ wr).drew)
      have ad := ak.drew
      have mk : IntKind.i64.wrap ((k : Int) + 1) = ((k + 1 : Nat) : Int) := by rw [show ((k + 1 : Nat) : Int) = (k : Int) + 1 by omega]; exact IntWalk.i64_in _ (by omega)
      have hS8 := HE.out _ wr.drew (wr.drew.setCell ⟨Q, 3, none⟩ (I ((k + 1 : Nat) : Int))) hSd Q (by omega) hQk (by decide) (aE _ _ _ _)
      have hQ8 : (wr.drew.setCell ⟨Q, 3, none⟩ (I ((k + 1 : Nat) : Int))).heap[Q]? = some (.cells #[I ps, I pa, I po, I ((k + 1 : Nat) : Int), .bool sl] 77 (0, 0)) := (Lib.heap_setCell_same (w := wr.drew) hQk (I ((k + 1 : Nat) : Int)) (i := 3)).trans rfl
      have hR8 : (wr.drew.setCell ⟨Q, 3, none⟩ (I ((k + 1 : Nat) : Int))).heap[R]? = _ := (aE wr.drew Q 3 (I ((k + 1 : Nat) : Int)) R hQR.symm).trans hRk
      have hT8 : (wr.drew.setCell ⟨Q, 3, none⟩ (I ((k + 1 : Nat) : Int))).heap[Bt]? = _ := (aE wr.drew Q 3 (I ((k + 1 : Nat) : Int)) Bt hBQ).trans hTk
      have a8 := ad.setCell (p := ⟨Q, 3, none⟩) (.inr (by show w.heap.size <= Q; omega)) (I ((k + 1 : Nat) : Int))
      have HZ := aQ (And.intro hS8 (And.intro a8 (And.intro hT8 (And.intro hR8 hQ8))))
      clear hS8 hQ8 hR8 hT8 a8 hSk ak hTk hRk hQk hSd ad
      go_wp2
      go_roundg (7 - (k + 1))
      case measure => omega
      case rel =>
       obtain ⟨z1, z2, z3, z4, z5⟩ := HZ.out
       refine ⟨k + 1, by omega, by omega, rfl, fun j pj hj hp => ?_, z1, z2, z3, z4, z5⟩
       rcases (by omega : j < k \/ j = k) with h1 | rfl
       ·exact HM.out j pj h1 hp
       ·have e : pj = pw := by
         have := HP.out
         rcases hp with ⟨h, rfl⟩ | ⟨h, rfl⟩ | ⟨h, rfl⟩ | ⟨h, rfl⟩ | ⟨h, rfl⟩ | ⟨h, rfl⟩ <;> rcases this with ⟨h', rfl⟩ | ⟨h', rfl⟩ | ⟨h', rfl⟩ | ⟨h', rfl⟩ | ⟨h', rfl⟩ | ⟨h', rfl⟩ <;> first | rfl | omega
        rw [e]; exact hv
    ·have hk77 : k = 7 := by omega
     subst hk77
     go_wp2
     have hSd0 : wr.drew.cell? ⟨Q, 3, none⟩ = some (I 7) /\ wr.drew.cell? ⟨Bt, 2, none⟩ = some (I v) := ⟨q3, t2⟩
     refine qx ?_
     refine qp (S := fun w' => w'.cell? ⟨Q, 3, none⟩ = some (I 7) /\ w'.cell? ⟨Bt, 2, none⟩ = some (I v)) (by kernel_rfl) hSd0 (fun hHeld => ?_)
     refine gA 0 ?v0 rfl ?hy0 ?_
     case hy0 => (intro wq hSw; go_simp; try (with_reducible rfl))
     try simp only [ap, nm]
     refine gA 1 (I 7) rfl ?hy1 ?_
     case hy1 => (intro wq hSw; obtain ⟨hS0, hS1⟩ := hSw; go_simp; try rfl)
     try simp only [ap, nm]
     refine bZ 2 (.bool false) rfl ?_
     try simp only [ap, nm]
     refine bZ 3 (.bool false) rfl ?_
     try simp only [ap, nm]
     refine dU 4 rfl ?_
     try simp only [ap, nm]
     refine dU 5 rfl ?_
     try simp only [ap, nm]
     refine dU 6 rfl ?_
     try simp only [ap, nm]
     refine dU 7 rfl ?_
     try simp only [ap, nm]
     refine dU 8 rfl ?_
     try simp only [ap, nm]
     refine dU 9 rfl ?_
     try simp only [ap, nm]
     refine bZ 10 (.bool false) rfl ?_
     try simp only [ap, nm]
     refine qqr (by kernel_rfl) ?_ _
     refine qqf ?_
     have hel := HE.out
     obtain ⟨c6, c7, c8⟩ := HC.out
     have hSd := hSk.step ((qa _ wr).drew)
     have hx9 := c6 _ hSd
     have ad := ak.drew
     clear HE HC HM c6 c7 c8
     go_wp2_with (go_at_call 63; refine hx9.mono ?_)
     intro r w9; first | (intro he hS9 a9; subst he) | rintro ⟨rfl, hS9, a9⟩
     have hR9 := a9.at (w := wr.drew) hRk hRY
     have hQ9 := a9.at (w := wr.drew) hQk hQY
     have a09 := ad.trans a9
     clear hx9 f0 f1 f2 f3 f4 q0 q1 q2 q3 q4 t2 hSk ak hTk hRk hQk
     obtain ⟨⟨r0, r1, r2, r3, r4⟩, g0, g1, g2, g3, g4⟩ := aN hR9
     obtain ⟨⟨q0, q1, q2, q3, q4⟩, f0, f1, f2, f3, f4⟩ := aN hQ9
     have hR7 := cQ (I ps) (I pa) (I po) (I 7) (.bool sl) hR9
     have hS7 := hel _ _ (eB w9 R (I ps) (I pa) (I po) (I 7) (.bool sl)) hS9 R (qe hRR) hR9 (by decide) (fun j hj => bH _ _ _ _ _ _ _ j hj)
     have a7 := cS a09 (qe hRR) (I ps) (I pa) (I po) (I 7) (.bool sl)
     clear hel
     unfold eB at hR7 hS7 a7
     go_wp2
     refine qf (qh rfl _ _ R 77 _ (0, 0) _ rfl hR7 Tryz.underlying77 rfl Tryz.sizeGrace) rfl ?_
     exact ⟨rfl, hS7, a7⟩
  ·rw [if_neg hlg]
   obtain ⟨kq, hpq, hlk⟩ := Y2 hlg
   rw [hlk, show aU.next 1 (.ok p) = .ok (p + 1) from rfl]
   simp only [A6]
   have HL := aQ (And.intro hpq hlk)
   clear hlg hpq hlk
   go_enter Tryz.func56, Tryz.ntmps56
   go_wp2_with (go_at_call 53; refine hx1.mono ?_)
   intro r w1; first | (intro he hS1 a1; subst he) | rintro ⟨rfl, hS1, a1⟩
   have hR1 := a1.at hR hRY
   have a01 := (aB.of_below (bs := [Y, M]) b0).trans a1
   have hx2 := c2 _ hS1 (hBs _ a01)
   have hs1 := a1.size
   clear hx1 c2
   go_wp2_with (go_at_call 102; refine hx2.mono ?_)
   intro r w2; first | (intro he hS2 a2; subst he) | rintro ⟨rfl, hS2, a2⟩
   have hR2 := a2.at hR1 hRY
   have a02 := a01.trans a2
   have bq := (qa _ w2).alloc (qb _) (.cells #[I ps, I pa, I po, I 0, .bool sl] 77)
   have hQ3 := qc w2 (.cells #[I ps, I pa, I po, I 0, .bool sl] 77)
   have hR3 := (bq.block _ (aA hR2)).trans hR2
   have a03 := a02.trans (aB.of_below bq)
   have hx3 := c3 _ (hS2.step bq)
   have hwQ : w.heap.size < w2.heap.size := aA hR2
   have hYQ := hS2.lt
   have hMQ := hS2.ltM
   clear hx2 c3
   go_wp2_with (go_at_call 54; refine hx3.mono ?_)
   intro r w4; first | (intro he hS4 a4; subst he) | rintro ⟨rfl, hS4, a4⟩
   generalize hRR : w.heap.size = R at hR hR1 hR2 hR3 hRl hRY hwQ |-
   generalize hQQ : w2.heap.size = Q at hQ3 hwQ hYQ hMQ |-
   have hQY : Q ∉ [Y, M] := by simp; omega
   have hQR : Q ≠ R := by omega
   have hQYn : Q ≠ Y := by omega
   have hRYn : R ≠ Y := by omega
   have hR4 := a4.at hR3 hRY
   have hQ4 := a4.at hQ3 hQY
   have a04 := a03.trans a4
   have hx4 := c4 _ hS4
   clear hx3 c4 a03 hR3 hQ3 bq
   go_wp2_with (go_at_call 62; refine hx4.mono ?_)
   intro r w5; first | (intro he b5; subst he) | rintro ⟨rfl, b5⟩
   have bt5 := (qa _ w5).alloc (qb _) (.cells #[I 2, .string text, I v, .string bt, I lin, I cl, .bool j] 59)
   have b45 := b5.trans (bt5.mono b5.size)
   have hR5 := (b45.block _ (aA hR4)).trans hR4
   have hQ5 := (b45.block _ (aA hQ4)).trans hQ4
   have hT5 := qc w5 (.cells #[I 2, .string text, I v, .string bt, I lin, I cl, .bool j] 59)
   have hS5 := hS4.step b45
   have a05 := a04.trans (aB.of_below b45)
   have hsz5 := b5.size
   have hsz4 := aA hQ4
   have hsz4r := aA hR4
   have hYl5 := hS4.lt
   have hMl5 := hS4.ltM
   clear hx4
   have hT5' := hT5
   have hBQ : w5.heap.size ≠ Q := by omega
   have hBR : w5.heap.size ≠ R := by omega
   have q3a : w5.cell? ⟨Q, 3, none⟩ = some (I 0) := by
    have := (b5.block _ hsz4).trans hQ4
    rw [Lib.cell_of_heap this]; rfl
   have f3a : w5.frozen? ⟨Q, 3, none⟩ = false := Lib.frozen_of_heap ((b5.block _ hsz4).trans hQ4) 3
   have hQ6 : ((w5.setCell ⟨Q, 3, none⟩ (I 1)).alloc (.cells #[I 2, .string text, I v, .string bt, I lin, I cl, .bool j] 59)).heap[Q]? = some (.cells #[I ps, I pa, I po, I ((1 : Nat) : Int), .bool sl] 77 (0, 0)) := by
    have h1 := (Lib.heap_setCell_same (i := 3) ((b5.block _ hsz4).trans hQ4) (I 1))
    exact (Lib.alloc_old _ _ _ (aA h1)).trans (h1.trans rfl)
   have hR6 : ((w5.setCell ⟨Q, 3, none⟩ (I 1)).alloc (.cells #[I 2, .string text, I v, .string bt, I lin, I cl, .bool j] 59)).heap[R]? = some (.cells #[I 0, I 0, I 0, I 0, .bool false] 77 (0, 0)) := by
    have h1 := (aE w5 Q 3 (I 1) R hQR.symm).trans ((b5.block _ hsz4r).trans hR4)
    exact (Lib.alloc_old _ _ _ (aA h1)).trans h1
   have hT6 : ((w5.setCell ⟨Q, 3, none⟩ (I 1)).alloc (.cells #[I 2, .string text, I v, .string bt, I lin, I cl, .bool j] 59)).heap[w5.heap.size]? = some (.cells #[I 2, .string text, I v, .string bt, I lin, I cl, .bool j] 59 (0, 0)) := by
    have := qc (w5.setCell ⟨Q, 3, none⟩ (I 1)) (.cells #[I 2, .string text, I v, .string bt, I lin, I cl, .bool j] 59)
    rw [show (w5.setCell ⟨Q, 3, none⟩ (I 1)).heap.size = w5.heap.size by simp [World.setCell]] at this
    exact this
   have hS6 := (hel _ w5 (w5.setCell ⟨Q, 3, none⟩ (I 1)) (hS4.step b5) Q (by omega) ((b5.block _ hsz4).trans hQ4) (by decide) (aE _ _ _ _)).step ((qa _ _).alloc (qb _) (.cells #[I 2, .string text, I v, .string bt, I lin, I cl, .bool j] 59))
   have a06 := ((a04.trans (aB.of_below b5)).setCell (p := ⟨Q, 3, none⟩) (.inr (by show w.heap.size <= Q; omega)) (I 1)).alloc (.cells #[I 2, .string text, I v, .string bt, I lin, I cl, .bool j] 59)
   have hQn : Q ≠ w5.heap.size := hBQ.symm
   have n3a := qr w5 _ q3a
   have l3a := ql w5 _ q3a
   simp only at l3a
   have f3b : (w5.alloc (.cells #[I 2, .string text, I v, .string bt, I lin, I cl, .bool j] 59)).frozen? ⟨Q, 3, none⟩ = false := Lib.frozen_of_heap ((Lib.alloc_old w5 (.cells #[I 2, .string text, I v, .string bt, I lin, I cl, .bool j] 59) Q l3a).trans ((b5.block _ hsz4).trans hQ4)) 3
   clear hS5 a05 hT5 hR5 hQ5 hS4 a04 hR4 hQ4 bt5 b45 hT5'
   go_wp2
   generalize hW6 : (w5.setCell ⟨Q, 3, none⟩ (I 1)).alloc (.cells #[I 2, .string text, I v, .string bt, I lin, I cl, .bool j] 59) = W6 at hQ6 hR6 hT6 hS6 a06 |-
   clear n3a l3a f3b
   generalize hTT : w5.heap.size = Bt at hT6 hBQ hBR hQn |-
   have HC := aQ (And.intro c6 (And.intro c7 c8))
   have HE := aQ hel
   clear c6 c7 c8 hel hmore hBs q3a f3a
   go_loopg [] (6 : Nat) (fun gq wr => ∃ k : Nat, 1 <= k /\ k <= 7 /\ gq = 7 - k /\ (∀ j pw, j < k -> Pw j pw -> v ≠ pw) /\ PS T Y M free (.ok p) wr /\ aB [Y, M] w wr /\ wr.heap[Bt]? = some (.cells #[I 2, .string text, I v, .string bt, I lin, I cl, .bool j] 59 (0, 0)) /\ wr.heap[R]? = some (.cells #[I 0, I 0, I 0, I 0, .bool false] 77 (0, 0)) /\
    wr.heap[Q]? = some (.cells #[I ps, I pa, I po, I (k : Nat), .bool sl] 77 (0, 0)))
   case atStart => exact ⟨1, qb _, by omega, rfl, fun j pw hj hp => by rcases hp with ⟨h, _⟩ | ⟨h, _⟩ | ⟨h, _⟩ | ⟨h, _⟩ | ⟨h, _⟩ | ⟨h, _⟩ <;> omega, hS6, a06, hT6, hR6, hQ6⟩
   case round =>
    clear hS6 a06 hT6 hR6 hQ6
    obtain ⟨k, hk1, hk7, hgq, hmiss, hSk, ak, hTk, hRk, hQk⟩ := hrel
    have HM := aQ hmiss
    clear hmiss
    have t2 : wr.cell? ⟨Bt, 2, none⟩ = some (I v) := by rw [Lib.cell_of_heap hTk]; rfl
    obtain ⟨⟨q0, q1, q2, q3, q4⟩, f0, f1, f2, f3, f4⟩ := aN hQk
    by_cases hk6 : k <= 6
    ·obtain ⟨pw, hpw⟩ := XX hk1 hk6
     have hk6' : (k : Int) <= 6 := by omega
     have HP := aQ hpw
     clear hpw
     by_cases hv : v = pw
     ·have hkq : k = kq := by have h1 := UH HP.out; have h2 := HL.out.2; rw [hv] at h2; omega
      subst hkq
      have hvd : (v != pw) = false := by simpa using hv
      go_wp2
      have hSd0 : wr.drew.cell? ⟨Q, 3, none⟩ = some (I (k : Nat)) /\ wr.drew.cell? ⟨Bt, 2, none⟩ = some (I v) := ⟨q3, t2⟩
      refine qx ?_
      refine qp (S := fun w' => w'.cell? ⟨Q, 3, none⟩ = some (I (k : Nat)) /\ w'.cell? ⟨Bt, 2, none⟩ = some (I v)) (by kernel_rfl) hSd0 (fun hHeld => ?_)
      refine gA 0 ?x0 rfl ?hx0 ?_
      case hx0 => (intro wq hSw; go_simp; try (with_reducible rfl))
      try simp only [ap, nm]
      refine gA 1 (I (k : Nat)) rfl ?hx1 ?_
      case hx1 => (intro wq hSw; obtain ⟨hS0, hS1⟩ := hSw; go_simp; try rfl)
      try simp only [ap, nm]
      refine bZ 2 (.bool true) rfl ?_
      try simp only [ap, nm]
      refine bZ 3 (.bool true) rfl ?_
      try simp only [ap, nm]
      refine gA 4 ?x4 rfl ?hx4 ?_
      case hx4 => (intro wq hSw; go_simp; try (with_reducible rfl))
      try simp only [ap, nm]
      refine gA 5 (I v) rfl ?hx5 ?_
      case hx5 => (intro wq hSw; obtain ⟨hS0, hS1⟩ := hSw; go_simp; try rfl)
      try simp only [ap, nm]
      refine gA 6 ?x6 rfl ?hx6 ?_
      case hx6 => (intro wq hSw; go_simp; try (with_reducible rfl))
      try simp only [ap, nm]
      refine gA 7 (I (k : Nat)) rfl ?hx7 ?_
      case hx7 => (intro wq hSw; obtain ⟨hS0, hS1⟩ := hSw; go_simp; try rfl)
      try simp only [ap, nm]
      refine gA 8 (I pw) rfl ?hx8 ?_
      case hx8 => (intro wq hSw; rcases HP.out with ⟨rfl, rfl⟩ | ⟨rfl, rfl⟩ | ⟨rfl, rfl⟩ | ⟨rfl, rfl⟩ | ⟨rfl, rfl⟩ | ⟨rfl, rfl⟩ <;> (go_simp; try rfl))
      try simp only [ap, nm]
      refine bZ 9 (.bool false) rfl ?_
      try simp only [ap, nm]
      refine bZ 10 (.bool false) rfl ?_
      try simp only [ap, nm]
      refine qqr (by kernel_rfl) ?_ _
      refine qqf ?_
      have hel := HE.out
      obtain ⟨c6, c7, c8⟩ := HC.out
      have hSd := hSk.step ((qa _ wr).drew)
      have ad := ak.drew
      have hQd : wr.drew.heap[Q]? = some (.cells #[I ps, I pa, I po, I (k : Nat), .bool sl] 77 (0, 0)) := hQk
      have hRd : wr.drew.heap[R]? = some (.cells #[I 0, I 0, I 0, I 0, .bool false] 77 (0, 0)) := hRk
      clear f0 f1 f2 f3 f4 q0 q1 q2 q3 q4 t2 hSk ak hTk hRk hQk hSd0
      generalize wr.drew = wd at hSd ad hQd hRd |-
      obtain ⟨x1, xf1, hpp⟩ := c7 _ hSd
      have hS9 := c8 _ hSd
      have hR9 := (aE wd Y 1 (I ((p : Int) + 1)) R hRYn).trans hRd
      have hQ9 := (aE wd Y 1 (I ((p : Int) + 1)) Q hQYn).trans hQd
      have a09 := ad.setCell (p := ⟨Y, 1, none⟩) (.inl (by simp)) (I ((p : Int) + 1))
      have mp : IntKind.i64.wrap ((p : Int) + 1) = (p : Int) + 1 := IntWalk.i64_in _ (by omega)
      rw [show ((p + 1 : Nat) : Int) = (p : Int) + 1 by omega] at hS9
      have hk66 : ¬ (6 : Int) < (k : Nat) := by omega
      obtain ⟨⟨q0, q1, q2, q3, q4⟩, f0, f1, f2, f3, f4⟩ := aN hQd
      have HK := aQ (And.intro hk1 (And.intro hk7 (And.intro hgq hk6')))
      clear hk1 hk7 hgq hk6 hk6'
      clear HE HC HM c6 c7 c8 HP HL hv hvd
      go_upto_region 14 with (fail)
      generalize wd.setCell ⟨Y, 1, none⟩ (I ((p : Int) + 1)) = w9 at hS9 hR9 hQ9 a09 |-
      clear x1 xf1 f0 f1 f2 f3 f4 q0 q1 q2 q3 q4 hSd ad hQd hRd
      obtain ⟨⟨r0, r1, r2, r3, r4⟩, g0, g1, g2, g3, g4⟩ := aN hR9
      obtain ⟨⟨q0, q1, q2, q3, q4⟩, f0, f1, f2, f3, f4⟩ := aN hQ9
      have hR7 := cQ (I ps) (I pa) (I po) (I (k : Nat)) (.bool sl) hR9
      have hS7 := hel _ _ (eB w9 R (I ps) (I pa) (I po) (I (k : Nat)) (.bool sl)) hS9 R (qe hRR) hR9 (by decide) (fun j hj => bH _ _ _ _ _ _ _ j hj)
      have a7 := cS a09 (qe hRR) (I ps) (I pa) (I po) (I (k : Nat)) (.bool sl)
      clear hel
      unfold eB at hR7 hS7 a7
      go_wp2
      refine qf (qh rfl _ _ R 77 _ (0, 0) _ rfl hR7 Tryz.underlying77 rfl Tryz.sizeGrace) rfl ?_
      exact ⟨rfl, hS7, a7⟩
     ·have hvd : (v != pw) = true := by simpa using hv
      go_wp2
      have hSd0 : wr.drew.cell? ⟨Q, 3, none⟩ = some (I (k : Nat)) /\ wr.drew.cell? ⟨Bt, 2, none⟩ = some (I v) := ⟨q3, t2⟩
      refine qx ?_
      refine qp (S := fun w' => w'.cell? ⟨Q, 3, none⟩ = some (I (k : Nat)) /\ w'.cell? ⟨Bt, 2, none⟩ = some (I v)) (by kernel_rfl) hSd0 (fun hHeld => ?_)
      refine gA 0 ?u0 rfl ?hz0 ?_
      case hz0 => (intro wq hSw; go_simp; try (with_reducible rfl))
      try simp only [ap, nm]
      refine gA 1 (I (k : Nat)) rfl ?hz1 ?_
      case hz1 => (intro wq hSw; obtain ⟨hS0, hS1⟩ := hSw; go_simp; try rfl)
      try simp only [ap, nm]
      refine bZ 2 (.bool true) rfl ?_
      try simp only [ap, nm]
      refine bZ 3 (.bool true) rfl ?_
      try simp only [ap, nm]
      refine gA 4 ?u4 rfl ?hz4 ?_
      case hz4 => (intro wq hSw; go_simp; try (with_reducible rfl))
      try simp only [ap, nm]
      refine gA 5 (I v) rfl ?hz5 ?_
      case hz5 => (intro wq hSw; obtain ⟨hS0, hS1⟩ := hSw; go_simp; try rfl)
      try simp only [ap, nm]
      refine gA 6 ?u6 rfl ?hz6 ?_
      case hz6 => (intro wq hSw; go_simp; try (with_reducible rfl))
      try simp only [ap, nm]
      refine gA 7 (I (k : Nat)) rfl ?hz7 ?_
      case hz7 => (intro wq hSw; obtain ⟨hS0, hS1⟩ := hSw; go_simp; try rfl)
      try simp only [ap, nm]
      refine gA 8 (I pw) rfl ?hz8 ?_
      case hz8 => (intro wq hSw; rcases HP.out with ⟨rfl, rfl⟩ | ⟨rfl, rfl⟩ | ⟨rfl, rfl⟩ | ⟨rfl, rfl⟩ | ⟨rfl, rfl⟩ | ⟨rfl, rfl⟩ <;> (go_simp; try rfl))
      try simp only [ap, nm]
      refine bZ 9 (.bool true) rfl ?_
      try simp only [ap, nm]
      refine bZ 10 (.bool true) rfl ?_
      try simp only [ap, nm]
      refine qqr (by kernel_rfl) ?_ _
      refine qqf ?_
      have hSd := hSk.step ((qa _ wr).drew)
      have ad := ak.drew
      have mk : IntKind.i64.wrap ((k : Int) + 1) = ((k + 1 : Nat) : Int) := by rw [show ((k + 1 : Nat) : Int) = (k : Int) + 1 by omega]; exact IntWalk.i64_in _ (by omega)
      have hS8 := HE.out _ wr.drew (wr.drew.setCell ⟨Q, 3, none⟩ (I ((k + 1 : Nat) : Int))) hSd Q (by omega) hQk (by decide) (aE _ _ _ _)
      have hQ8 : (wr.drew.setCell ⟨Q, 3, none⟩ (I ((k + 1 : Nat) : Int))).heap[Q]? = some (.cells #[I ps, I pa, I po, I ((k + 1 : Nat) : Int), .bool sl] 77 (0, 0)) := (Lib.heap_setCell_same (w := wr.drew) hQk (I ((k + 1 : Nat) : Int)) (i := 3)).trans rfl
      have hR8 : (wr.drew.setCell ⟨Q, 3, none⟩ (I ((k + 1 : Nat) : Int))).heap[R]? = _ := (aE wr.drew Q 3 (I ((k + 1 : Nat) : Int)) R hQR.symm).trans hRk
      have hT8 : (wr.drew.setCell ⟨Q, 3, none⟩ (I ((k + 1 : Nat) : Int))).heap[Bt]? = _ := (aE wr.drew Q 3 (I ((k + 1 : Nat) : Int)) Bt hBQ).trans hTk
      have a8 := ad.setCell (p := ⟨Q, 3, none⟩) (.inr (by show w.heap.size <= Q; omega)) (I ((k + 1 : Nat) : Int))
      have HZ := aQ (And.intro hS8 (And.intro a8 (And.intro hT8 (And.intro hR8 hQ8))))
      clear hS8 hQ8 hR8 hT8 a8 hSk ak hTk hRk hQk hSd ad
      go_wp2
      go_roundg (7 - (k + 1))
      case measure => omega
      case rel =>
       obtain ⟨z1, z2, z3, z4, z5⟩ := HZ.out
       refine ⟨k + 1, by omega, by omega, rfl, fun j pj hj hp => ?_, z1, z2, z3, z4, z5⟩
       rcases (by omega : j < k \/ j = k) with h1 | rfl
       ·exact HM.out j pj h1 hp
       ·have e : pj = pw := by
         have := HP.out
         rcases hp with ⟨h, rfl⟩ | ⟨h, rfl⟩ | ⟨h, rfl⟩ | ⟨h, rfl⟩ | ⟨h, rfl⟩ | ⟨h, rfl⟩ <;> rcases this with ⟨h', rfl⟩ | ⟨h', rfl⟩ | ⟨h', rfl⟩ | ⟨h', rfl⟩ | ⟨h', rfl⟩ | ⟨h', rfl⟩ <;> first | rfl | omega
        rw [e]; exact hv
    ·have hk77 : k = 7 := by omega
     subst hk77
     exact absurd rfl (HM.out kq v (by rcases HL.out.1 with ⟨h, _⟩ | ⟨h, _⟩ | ⟨h, _⟩ | ⟨h, _⟩ | ⟨h, _⟩ | ⟨h, _⟩ <;> omega) HL.out.1)
end
section
variable {O : A7} {T : List bD}
theorem NT (c : Int) (s : aU) : (bF T c s).good = false := by cases s <;> rfl
theorem QL (x : ByteArray) (e l c : Int) : isS T x (.bad e l c) = false := rfl
theorem pV (x : ByteArray) (e l c : Int) : bE T x (.bad e l c) = .bad e l c := rfl
theorem tZ (s : aU) : s.good = true \/ ∃ e l c, s = .bad e l c := by
 cases s with
 | ok p => exact .inl rfl
 | bad e l c => exact .inr ⟨e, l, c, rfl⟩
theorem RR {x : ByteArray} {s : aU} (h : (bE T x s).good = true) : s.good = true := by
 rcases tZ s with h1 | ⟨e, l, c, rfl⟩
 ·exact h1
 ·rw [pV] at h; cases h
theorem RT (e l c : Int) : (pU O T (.bad e l c)).2 = .bad e l c := rfl
theorem TY (kd e l c : Int) : (H8 O T kd (.bad e l c)).2 = .bad e l c := by
 unfold H8
 split
 ·rfl
 ·rfl
theorem NU (e l c : Int) : (gU T (.bad e l c)).2 = .bad e l c := rfl
theorem tD (k : Nat) (e l c : Int) : (j2 T k (.bad e l c)).2 = .bad e l c := by cases k <;> rfl
theorem m0 {α : Type} (f : aU -> α × aU) (cl : ByteArray) (k : Nat) (e l c : Int) : bT T f cl k (.bad e l c) = ([], .bad e l c) := by cases k <;> rfl
def FP {α : Type} (f g : aU -> α × aU) : Prop := ∀ s, (f s).2 = (g s).2 /\ ((f s).2.good = true -> (f s).1 = (g s).1)
theorem C8 {α : Type} {f g : aU -> α × aU} (h : FP f g) (cl : ByteArray) : ∀ k s, (bT T f cl k s).2 = (bT T g cl k s).2 /\ ((bT T f cl k s).2.good = true -> (bT T f cl k s).1 = (bT T g cl k s).1)
 | 0, s => ⟨rfl, fun _ => rfl⟩
 | k + 1, s => by
  obtain ⟨h1, h2⟩ := h s
  unfold bT
  split
  ·obtain ⟨i1, i2⟩ := C8 h cl k (f s).2
   refine ⟨by show (bT T f cl k (f s).2).2 = (bT T g cl k (g s).2).2; rw [<- h1]; exact i1, fun hg => ?_⟩
   have hgood : (f s).2.good = true := by
    rcases tZ (f s).2 with h3 | ⟨e, l, c, h3⟩
    ·exact h3
    ·rw [h3, m0] at hg; cases hg
   show (f s).1 :: (bT T f cl k (f s).2).1 = (g s).1 :: (bT T g cl k (g s).2).1
   rw [h2 hgood, i2 hg, h1]
  ·exact ⟨rfl, fun _ => rfl⟩
theorem RU {α : Type} {f g : aU -> α × aU} (h : FP f g) (cl : ByteArray) : FP (kW T f cl) (kW T g cl) := fun s => by
 obtain ⟨h1, h2⟩ := h s
 obtain ⟨i1, i2⟩ := C8 (T := T) h cl T.length (f s).2
 unfold kW
 refine ⟨by show bE T cl (bT T f cl T.length (f s).2).2 = bE T cl (bT T g cl T.length (g s).2).2; rw [<- h1, i1], fun hg => ?_⟩
 have hg2 := RR hg
 have hgood : (f s).2.good = true := by
  rcases tZ (f s).2 with h3 | ⟨e, l, c, h3⟩
  ·exact h3
  ·rw [h3, m0] at hg2; cases hg2
 show (f s).1 :: (bT T f cl T.length (f s).2).1 = (g s).1 :: (bT T g cl T.length (g s).2).1
 rw [h2 hgood, i2 hg2, h1]
theorem NV (q r : Int) : FP (aY O T q) (aY O T r) := fun s => by
 unfold aY
 simp only
 split
 ·exact ⟨rfl, fun _ => rfl⟩
 ·split
  ·refine ⟨rfl, fun h => ?_⟩
   simp only [NT] at h
   cases h
  ·exact ⟨rfl, fun _ => rfl⟩
theorem LH (q r : Int) : FP (gQ O T q) (gQ O T r) := fun s => by
 unfold gQ
 split
 ·exact RU (NV q r) _ _
 ·exact ⟨rfl, fun _ => rfl⟩
theorem C9 (q r : Int) : FP (eX O T q) (eX O T r) := fun s => by
 obtain ⟨h1, h2⟩ := LH (O := O) (T := T) q r (vP T s).2
 unfold eX
 simp only
 rw [<- h1]
 refine ⟨rfl, fun hg => ?_⟩
 have hgood : (gQ O T q (vP T s).2).2.good = true := by
  rcases tZ (gQ O T q (vP T s).2).2 with h3 | ⟨e, l, c, h3⟩
  ·exact h3
  ·rw [h3, RT, TY, NU, tD] at hg; cases hg
 rw [h2 hgood]
theorem mG (q r : Int) : ∀ (k : Nat) (v u : gJ) (least n : Int) (s : aU), (bP O T q k v least n s).2 = (bP O T r k u least n s).2
 | 0, _, _, _, _, _ => rfl
 | k + 1, v, u, least, n, s => by
  rw [bP, bP]
  split
  ·rfl
  ·split
   ·simp only
    rw [mG q r k _ ⟨u.evs, u.tups ++ [⟨u.evs.length, 0, (bS T 1 32 (s.next 1)).1, (bS T 1 32 (bE T ⟨#[58]⟩ (bS T 1 32 (s.next 1)).2)).1⟩]⟩ 1 0 _]
    exact mG q r k _ _ least (n + 1) _
   ·split
    ·rw [<- (C9 q r s).1]
     exact mG q r k _ _ least (n + 1) _
    ·rfl
theorem qM (q : Int) (k : Nat) (v : gJ) (least n e l c : Int) : bP O T q k v least n (.bad e l c) = (v, .bad e l c) := by cases k <;> rfl
theorem qN (q r : Int) : ∀ (k : Nat) (v : gJ) (least n : Int) (s : aU), (bP O T q k v least n s).2.good = true -> (bP O T q k v least n s).1 = (bP O T r k v least n s).1
 | 0, _, _, _, _ => fun _ => rfl
 | k + 1, v, least, n, s => by
  rw [bP, bP]
  split
  ·exact fun _ => rfl
  ·split
   ·simp only
    generalize hb : bS T 1 32 (bE T ⟨#[58]⟩ (bS T 1 32 (s.next 1)).2) = b
    generalize bS T 1 32 (s.next 1) = a
    generalize hv0 : (⟨v.evs, v.tups ++ [⟨v.evs.length, 0, a.1, b.1⟩]⟩ : gJ) = v0
    intro hg
    have hst := mG (O := O) (T := T) q r k v0 v0 1 0 b.2
    have hgood : (bP O T q k v0 1 0 b.2).2.good = true := by
     rcases tZ (bP O T q k v0 1 0 b.2).2 with h3 | ⟨e, l, c, h3⟩
     ·exact h3
     ·rw [h3, pV, qM] at hg; cases hg
    have hv := qN q r k v0 1 0 b.2 hgood
    rw [<- hst, <- hv]
    exact qN q r k _ least (n + 1) _ hg
   ·split
    ·obtain ⟨h1, h2⟩ := C9 (O := O) (T := T) q r s
     intro hg
     have hgood : (eX O T q s).2.good = true := by
      rcases tZ (eX O T q s).2 with h3 | ⟨e, l, c, h3⟩
      ·exact h3
      ·rw [h3, qM] at hg; cases hg
     rw [<- h1, <- h2 hgood]
     exact qN q r k _ least (n + 1) _ hg
    ·exact fun _ => rfl
end
end Go.Proofs.YtgkhemnmcgicnaaGreatDoor
