/- Towards the law ParserVoices, true for every text (no condition): one part of the proof. -/
import Derived.Test.YtgkhemnmcgicnaaGreatDoorG01
import Derived.Test.YtgkhemnmcgicnaaGreatDoorG28
namespace Go.Proofs.YtgkhemnmcgicnaaGreatDoor
set_option maxHeartbeats 16000000
set_option maxRecDepth 100000
open Go.RowKit
def A6 (g : cY) : Value := .agg #[I g.p.st, I g.p.al, I g.p.oc, I g.lg, .bool g.sl]
theorem Tryz.sizeGrace : (Tryz.prog.info? 77).map (·.size) = some 5 := by kernel_rfl
def EB (v : Int) (k : Nat) : Int := if kT v < (k : Int) then kT v else 0
theorem LD (v : Int) : EB v 1 = 0 := by
 unfold EB kT
 repeat' split
 all_goals omega
theorem LE (v : Int) : EB v 7 = kT v := by
 unfold EB kT
 repeat' split
 all_goals omega
theorem LF (v : Int) (k : Nat) (h1 : 1 <= k) (h6 : k <= 6) (h : v = 2 ^ k) : EB v (k + 1) = k := by
 rcases (by omega : k = 1 \/ k = 2 \/ k = 3 \/ k = 4 \/ k = 5 \/ k = 6) with rfl | rfl | rfl | rfl | rfl | rfl <;> (subst h; decide)
theorem FM (v : Int) (k : Nat) (h1 : 1 <= k) (h6 : k <= 6) (h : v ≠ 2 ^ k) : EB v (k + 1) = EB v k := by
 unfold EB kT
 rcases (by omega : k = 1 \/ k = 2 \/ k = 3 \/ k = 4 \/ k = 5 \/ k = 6) with rfl | rfl | rfl | rfl | rfl | rfl
 all_goals
  simp only [Int.reducePow] at h
  repeat' split
  all_goals omega
theorem vN {w : World} {X : Nat} {a b c x y z u v : Value} {t : TypeId} (h : w.heap[X]? = some (.cells #[x, y, z, u, v] t (0, 0))) : (eJ w X a b c).heap[X]? = some (.cells #[a, b, c, u, v] t (0, 0)) := by
 unfold eJ
 rw [Lib.heap_setCell_same (i := 2) (Lib.heap_setCell_same (i := 1) (Lib.heap_setCell_same (i := 0) h a) b) c]; rfl
section
variable {W0 : World} {T : List bD} {X : Nat} {free : Bool} {lv iv : Value} {st : aU} {w : World}
theorem MS.failNext {p : Nat} (h : MS T X free lv iv (.ok p) w) : Calls Tryz.prog 32 #[.pointer (some ⟨X, 0, none⟩), I 2] w fun r w' => r = .returned (.tuple #[]) /\
  (w'.cell? ⟨X, 1, none⟩ = some (I p) /\ w'.frozen? ⟨X, 1, none⟩ = false /\ MS T X free lv iv (bF T 2 (.ok p)) (w'.setCell ⟨X, 1, none⟩ (I ((p : Int) + 1)))) /\ aB [X] w w' := by
 obtain ⟨g, pos, is, im, n, xs, e, line, col, h1, h2, h3, h4⟩ := h
 obtain ⟨rfl, rfl, rfl, rfl, hlt⟩ := h2
 have hm := g.max
 refine (LB h1 (getD_some hlt) 2 (by decide)).mono ?_
 rintro r w' ⟨rfl, hS, ha⟩
 refine ⟨rfl, ⟨hS.c1, hS.fz 1, ⟨g, p + 1, is, im, n, xs, 2, _, _, hS.next, ⟨rfl, by decide, rfl, rfl, by omega⟩, h3, fun h => by cases h⟩⟩, ha⟩
theorem TX {s : aU} (h : (aW T s).kind = 2) : ∃ p, s = .ok p := by
 cases s with
 | ok p => exact ⟨p, rfl⟩
 | bad e l c => exact absurd h (by simp [aW, dA])
theorem LG (h : MS T X free lv iv st w) (B : lG W0 [X] w) : Calls Tryz.prog 26 #[.pointer (some ⟨X, 0, none⟩)] w fun r w' => r = .returned (A6 (aY aD T 0 st).1) /\ MS T X free lv iv (aY aD T 0 st).2 w' /\ aB [X] w w' := by
 have hXl := h.lt
 have hR := qc w (.cells #[I 0, I 0, I 0, I 0, .bool false] 77)
 have b0 := (qa _ w).alloc (qb _) (.cells #[I 0, I 0, I 0, I 0, .bool false] 77)
 have hRl := aA hR
 have hx1 := eD (h.step b0) ⟨#[47]⟩
 have g := h.good
 have hm := g.max
 have hBs := fun w' (a : aB [X] w w') => B.away a
 have hel := fun (s1 : aU) (w1 w2 : World) (h1 : MS T X free lv iv s1 w1) (R : Nat) => h1.else (w' := w2) (R := R) h
 have hh : aY aD T 0 st = if (aW T (bE T ⟨#[58]⟩ (aT aD T (aS T ⟨#[47]⟩ st)).2)).kind ≠ 2 then (⟨(aT aD T (aS T ⟨#[47]⟩ st)).1, 0, isS T ⟨#[47]⟩ st⟩, bF T 13 (bE T ⟨#[58]⟩ (aT aD T (aS T ⟨#[47]⟩ st)).2))
   else if kT (aW T (bE T ⟨#[58]⟩ (aT aD T (aS T ⟨#[47]⟩ st)).2)).value = 0 then (⟨(aT aD T (aS T ⟨#[47]⟩ st)).1, 0, isS T ⟨#[47]⟩ st⟩, bF T 2 (bE T ⟨#[58]⟩ (aT aD T (aS T ⟨#[47]⟩ st)).2))
   else (⟨(aT aD T (aS T ⟨#[47]⟩ st)).1, kT (aW T (bE T ⟨#[58]⟩ (aT aD T (aS T ⟨#[47]⟩ st)).2)).value, isS T ⟨#[47]⟩ st⟩, (bE T ⟨#[58]⟩ (aT aD T (aS T ⟨#[47]⟩ st)).2).next 1) := rfl
 rw [hh]
 clear hh
 have c2 := fun w' (h : MS T X free lv iv (aS T ⟨#[47]⟩ st) w') (b : lG W0 [X] w') => LM h b
 generalize isS T ⟨#[47]⟩ st = sl at hx1 |-
 generalize aS T ⟨#[47]⟩ st = s1 at hx1 c2 |-
 generalize aT aD T s1 = q2 at c2 |-
 obtain ⟨⟨ps, pa, po⟩, s2⟩ := q2
 simp only [rK] at c2 |-
 have c3 := fun w' (h : MS T X free lv iv s2 w') => fM h ⟨#[58]⟩
 generalize bE T ⟨#[58]⟩ s2 = s3 at c3 |-
 have c4 := fun w' (h : MS T X free lv iv s3 w') => pR h
 by_cases hk : (aW T s3).kind ≠ 2
 ·rw [if_pos hk]
  simp only [A6]
  have c5 := fun w' (h : MS T X free lv iv s3 w') => gP h 13 (by decide)
  generalize bF T 13 s3 = s4 at c5 |-
  unfold fK at c4
  generalize aW T s3 = t at c4 hk
  obtain ⟨kd, text, v, bt, lin, cl, j⟩ := t
  simp only at hk c4
  clear h
  go_enter Tryz.func26, Tryz.ntmps26
  go_wp2_with (go_at_call 24; refine hx1.mono ?_)
  intro r w1; first | (intro he hS1 a1; subst he) | rintro ⟨rfl, hS1, a1⟩
  have hR1 := a1.at hR (by simp; omega)
  have a01 := (aB.of_below (bs := [X]) b0).trans a1
  have bq := (qa _ w1).alloc (qb _) (.cells #[I 0, I 0, I 0, I 0, .bool sl] 77)
  have hQ1 := qc w1 (.cells #[I 0, I 0, I 0, I 0, .bool sl] 77)
  have hR1' := (bq.block _ (aA hR1)).trans hR1
  have a01' := a01.trans (aB.of_below bq)
  have hx2 := c2 _ (hS1.step bq) (hBs _ a01')
  have hw1 := a01.size
  have hs1 := a1.size
  clear hx1 c2
  go_wp2_with (go_at_call 65; refine hx2.mono ?_)
  intro r w2; first | (intro he hS2 a2; subst he) | rintro ⟨rfl, hS2, a2⟩
  have hR2 := a2.at hR1' (by simp; omega)
  have hQ2 := a2.at hQ1 (by simp; omega)
  have a02 := a01'.trans a2
  generalize hQQ : w1.heap.size = Q at hQ1 hQ2 hw1 hs1 |-
  generalize hRR : w.heap.size = R at hR hR1 hR1' hR2 hRl hw1 hs1 |-
  have hQR : Q ≠ R := by omega
  obtain ⟨⟨q0, q1, q2, q3, q4⟩, f0, f1, f2, f3, f4⟩ := aN hQ2
  have hQ3 := vN (a := I ps) (b := I pa) (c := I po) hQ2
  have hR3 := (dS w2 Q (I ps) (I pa) (I po) R hQR.symm).trans hR2
  have hS3 := hel _ w2 (eJ w2 Q (I ps) (I pa) (I po)) hS2 Q (by omega) (qe (lH _ _ _ _ _).symm) (fun j hj => dS _ _ _ _ _ j hj)
  have a03 := fY a02 (by omega : w.heap.size <= Q) (I ps) (I pa) (I po)
  have hx3 := c3 _ hS3
  clear hx2 c3 hS3
  unfold eJ at hQ3 hR3 a03 hx3
  go_wp2_with (go_at_call 25; refine hx3.mono ?_)
  intro r w4; first | (intro he hS4 a4; subst he) | rintro ⟨rfl, hS4, a4⟩
  have hR4 := a4.at hR3 (by simp; omega)
  have hQ4 := a4.at hQ3 (by simp; omega)
  have a04 := a03.trans a4
  have hx4 := c4 _ hS4
  clear hx3 c4 a03 hR3 hQ3
  go_wp2_with (go_at_call 31; refine hx4.mono ?_)
  intro r w5; first | (intro he b5; subst he) | rintro ⟨rfl, b5⟩
  have bt5 := (qa _ w5).alloc (qb _) (.cells #[I kd, .string text, I v, .string bt, I lin, I cl, .bool j] 59)
  have b45 := b5.trans (bt5.mono b5.size)
  have hR5 := (b45.block _ (aA hR4)).trans hR4
  have hQ5 := (b45.block _ (aA hQ4)).trans hQ4
  have hT5 := qc w5 (.cells #[I kd, .string text, I v, .string bt, I lin, I cl, .bool j] 59)
  have hS5 := hS4.step b45
  have a05 := a04.trans (aB.of_below b45)
  have hsz5 := b5.size
  have hsz4 := aA hQ4
  have hsz4r := aA hR4
  have hXl5 := hS4.lt
  clear hx4
  have hx5 := c5 _ hS5
  clear c5
  go_wp2_with (go_at_call 32; refine hx5.mono ?_)
  intro r w6; first | (intro he hS6 a6; subst he) | rintro ⟨rfl, hS6, a6⟩
  have hR6 := a6.at hR5 (by simp; omega)
  have hQ6 := a6.at hQ5 (by simp; omega)
  have a06 := a05.trans a6
  clear hx5
  obtain ⟨⟨r0, r1, r2, r3, r4⟩, g0, g1, g2, g3, g4⟩ := aN hR6
  obtain ⟨⟨q0, q1, q2, q3, q4⟩, f0, f1, f2, f3, f4⟩ := aN hQ6
  have hR7 := cQ (I ps) (I pa) (I po) (I 0) (.bool sl) hR6
  have hS7 := hel _ _ (eB w6 R (I ps) (I pa) (I po) (I 0) (.bool sl)) hS6 R (qe hRR) (qe (lC _ _ _ _ _ _ _).symm) (fun j hj => bH _ _ _ _ _ _ _ j hj)
  have a7 := cS a06 (qe hRR) (I ps) (I pa) (I po) (I 0) (.bool sl)
  clear hel
  unfold eB at hR7 hS7 a7
  go_wp2
  refine qf (qh rfl _ _ R 77 _ (0, 0) _ rfl hR7 Tryz.underlying77 rfl Tryz.sizeGrace) rfl ?_
  exact ⟨rfl, hS7, a7⟩
 ·rw [if_neg hk]
  have hk2 : (aW T s3).kind = 2 := by omega
  obtain ⟨p, rfl⟩ := TX hk2
  have c6 := fun w' (h : MS T X free lv iv (.ok p) w') => h.failNext
  have c7 := fun w' (h : MS T X free lv iv (.ok p) w') => h.atCell
  have hmore : p < T.length -> p + 1 < T.length := fun hp => g.more hp (by rw [show (T.getD p dA).kind = 2 from hk2]; decide)
  have c8 := fun w' (h : MS T X free lv iv (.ok p) w') => h.jump (hmore h.atCell.2.2) (Nat.le_succ p)
  have hpl := fun w' (h : MS T X free lv iv (.ok p) w') => h.atCell.2.2
  have hp4 : p <= 4001 := by
   by_cases hlt : p < T.length
   ·omega
   ·exact absurd hk2 (by show (T.getD p dA).kind ≠ 2; rw [qqm, List.getElem?_eq_none (by omega)]; decide)
  unfold fK at c4
  generalize aW T (.ok p) = t at c4 hk2 |-
  obtain ⟨kd, text, v, bt, lin, cl, j⟩ := t
  simp only at hk2 c4 |-
  subst hk2
  clear h hk
  by_cases hlg : kT v = 0
  ·rw [if_pos hlg]
   simp only [A6]
   generalize bF T 2 (.ok p) = s9 at c6 |-
   go_enter Tryz.func26, Tryz.ntmps26
   go_wp2_with (go_at_call 24; refine hx1.mono ?_)
   intro r w1; first | (intro he hS1 a1; subst he) | rintro ⟨rfl, hS1, a1⟩
   have hR1 := a1.at hR (by simp; omega)
   have a01 := (aB.of_below (bs := [X]) b0).trans a1
   have bq := (qa _ w1).alloc (qb _) (.cells #[I 0, I 0, I 0, I 0, .bool sl] 77)
   have hQ1 := qc w1 (.cells #[I 0, I 0, I 0, I 0, .bool sl] 77)
   have hR1' := (bq.block _ (aA hR1)).trans hR1
   have a01' := a01.trans (aB.of_below bq)
   have hx2 := c2 _ (hS1.step bq) (hBs _ a01')
   have hw1 := a01.size
   have hs1 := a1.size
   clear hx1 c2
   go_wp2_with (go_at_call 65; refine hx2.mono ?_)
   intro r w2; first | (intro he hS2 a2; subst he) | rintro ⟨rfl, hS2, a2⟩
   have hR2 := a2.at hR1' (by simp; omega)
   have hQ2 := a2.at hQ1 (by simp; omega)
   have a02 := a01'.trans a2
   generalize hQQ : w1.heap.size = Q at hQ1 hQ2 hw1 hs1 |-
   generalize hRR : w.heap.size = R at hR hR1 hR1' hR2 hRl hw1 hs1 |-
   have hQR : Q ≠ R := by omega
   obtain ⟨⟨q0, q1, q2, q3, q4⟩, f0, f1, f2, f3, f4⟩ := aN hQ2
   have hQ3 := vN (a := I ps) (b := I pa) (c := I po) hQ2
   have hR3 := (dS w2 Q (I ps) (I pa) (I po) R hQR.symm).trans hR2
   have hS3 := hel _ w2 (eJ w2 Q (I ps) (I pa) (I po)) hS2 Q (by omega) (qe (lH _ _ _ _ _).symm) (fun j hj => dS _ _ _ _ _ j hj)
   have a03 := fY a02 (by omega : w.heap.size <= Q) (I ps) (I pa) (I po)
   have hx3 := c3 _ hS3
   clear hx2 c3 hS3
   unfold eJ at hQ3 hR3 a03 hx3
   go_wp2_with (go_at_call 25; refine hx3.mono ?_)
   intro r w4; first | (intro he hS4 a4; subst he) | rintro ⟨rfl, hS4, a4⟩
   have hR4 := a4.at hR3 (by simp; omega)
   have hQ4 := a4.at hQ3 (by simp; omega)
   have a04 := a03.trans a4
   have hx4 := c4 _ hS4
   clear hx3 c4 a03 hR3 hQ3
   go_wp2_with (go_at_call 31; refine hx4.mono ?_)
   intro r w5; first | (intro he b5; subst he) | rintro ⟨rfl, b5⟩
   have bt5 := (qa _ w5).alloc (qb _) (.cells #[I 2, .string text, I v, .string bt, I lin, I cl, .bool j] 59)
   have b45 := b5.trans (bt5.mono b5.size)
   have hR5 := (b45.block _ (aA hR4)).trans hR4
   have hQ5 := (b45.block _ (aA hQ4)).trans hQ4
   have hT5 := qc w5 (.cells #[I 2, .string text, I v, .string bt, I lin, I cl, .bool j] 59)
   have hS5 := hS4.step b45
   have a05 := a04.trans (aB.of_below b45)
   have hsz5 := b5.size
   have hsz4 := aA hQ4
   have hsz4r := aA hR4
   have hXl5 := hS4.lt
   clear hx4
   go_wp2
   generalize hW6 : w5.alloc (.cells #[I 2, .string text, I v, .string bt, I lin, I cl, .bool j] 59) = W6 at bt5 b45 hR5 hQ5 hT5 hS5 a05 |-
   generalize hTT : w5.heap.size = Bt at hT5 hsz5 |-
   have hBQ : Bt ≠ Q := by omega
   have hBR : Bt ≠ R := by omega
   have hBX : Bt ≠ X := by omega
   have hQX : Q ≠ X := by omega
   have HC := aQ (And.intro c6 (And.intro c7 (And.intro c8 hpl)))
   have HH := aQ hmore
   have HE := aQ hel
   clear c6 c7 c8 hpl hmore hel hBs
   go_loopg [5] (6 : Nat) (fun gq u wr => ∃ k : Nat, 1 <= k /\ k <= 7 /\ gq = 7 - k /\ u = I (k : Nat) /\ MS T X free lv iv (.ok p) wr /\ aB [X] w wr /\ wr.heap[Bt]? = some (.cells #[I 2, .string text, I v, .string bt, I lin, I cl, .bool j] 59 (0, 0)) /\ wr.heap[R]? = some (.cells #[I 0, I 0, I 0, I 0, .bool false] 77 (0, 0)) /\
    wr.heap[Q]? = some (.cells #[I ps, I pa, I po, I (EB v k), .bool sl] 77 (0, 0)))
   case atStart => exact ⟨1, qb _, by omega, rfl, rfl, hS5, a05, hT5, hR5, by rw [LD]; exact hQ5⟩
   case round =>
    clear hS5 a05 hT5 hR5 hQ5 hS4 a04 hR4 hQ4 bt5 b45
    obtain ⟨k, hk1, hk7, hgq, rfl, hSk, ak, hTk, hRk, hQk⟩ := hrel
    have t2 : wr.cell? ⟨Bt, 2, none⟩ = some (I v) := by rw [Lib.cell_of_heap hTk]; rfl
    obtain ⟨⟨q0, q1, q2, q3, q4⟩, f0, f1, f2, f3, f4⟩ := aN hQk
    by_cases hk6 : k <= 6
    ·have hk6' : (k : Int) <= 6 := by omega
     have mk : IntKind.i64.wrap ((k : Int) + 1) = ((k + 1 : Nat) : Int) := by rw [show ((k + 1 : Nat) : Int) = (k : Int) + 1 by omega]; exact IntWalk.i64_in _ (by omega)
     have hSd := hSk.step ((qa _ wr).drew)
     have ad := ak.drew
     by_cases hv : v = 2 ^ k
     ·have hnx := LF v k hk1 hk6 hv
      have hS8 := HE.out _ wr.drew (wr.drew.setCell ⟨Q, 3, none⟩ (I (k : Nat))) hSd Q (by omega) (eC _ _ _ _) (aE _ _ _ _)
      have hQ8 : (wr.drew.setCell ⟨Q, 3, none⟩ (I (k : Nat))).heap[Q]? = some (.cells #[I ps, I pa, I po, I (k : Nat), .bool sl] 77 (0, 0)) := (Lib.heap_setCell_same (w := wr.drew) hQk (I (k : Nat)) (i := 3)).trans rfl
      have hR8 : (wr.drew.setCell ⟨Q, 3, none⟩ (I (k : Nat))).heap[R]? = _ := (aE wr.drew Q 3 (I (k : Nat)) R hQR.symm).trans hRk
      have hT8 : (wr.drew.setCell ⟨Q, 3, none⟩ (I (k : Nat))).heap[Bt]? = _ := (aE wr.drew Q 3 (I (k : Nat)) Bt hBQ).trans hTk
      have a8 := ad.setCell (p := ⟨Q, 3, none⟩) (.inr (by show w.heap.size <= Q; omega)) (I (k : Nat))
      have HZ := aQ (And.intro hS8 (And.intro a8 (And.intro hT8 (And.intro hR8 (And.intro hQ8 hnx)))))
      clear hS8 hQ8 hR8 hT8 a8 hnx hSk ak hTk hRk hQk hSd ad
      obtain ⟨kk, hkk⟩ : ∃ kk, kk = k := ⟨_, rfl⟩
      rcases (by omega : k = 1 \/ k = 2 \/ k = 3 \/ k = 4 \/ k = 5 \/ k = 6) with rfl | rfl | rfl | rfl | rfl | rfl
      all_goals
       simp only [Int.reducePow] at hv
       go_wp2
       go_region_held3 (fun w' => w'.cell? ⟨Bt, 2, none⟩ = some (I v)) (go_keep) (fail)
       go_wp2
       go_roundg (7 - (kk + 1))
       case measure => omega
       case rel =>
        obtain ⟨z1, z2, z3, z4, z5, z6⟩ := HZ.out
        exact ⟨kk + 1, by omega, by omega, by omega, by subst hkk; rfl, z1, z2, z3, z4, by subst hkk; rw [z6]; exact z5⟩
     ·have hnx := FM v k hk1 hk6 hv
      have HZ := aQ (And.intro hSd (And.intro ad (And.intro hTk (And.intro hRk (And.intro hQk hnx)))))
      clear hnx hSk ak hTk hRk hQk hSd ad
      have hw2 : IntKind.i64.wrap ((2 : Int) ^ k) = 2 ^ k := by rcases (by omega : k = 1 \/ k = 2 \/ k = 3 \/ k = 4 \/ k = 5 \/ k = 6) with rfl | rfl | rfl | rfl | rfl | rfl <;> decide
      have hvd : (v == IntKind.i64.wrap ((2 : Int) ^ k)) = false := by rw [hw2]; simpa using hv
      clear hw2
      obtain ⟨kk, hkk⟩ : ∃ kk, kk = k := ⟨_, rfl⟩
      rcases (by omega : k = 1 \/ k = 2 \/ k = 3 \/ k = 4 \/ k = 5 \/ k = 6) with rfl | rfl | rfl | rfl | rfl | rfl
      all_goals
       simp only [Int.reducePow] at hv hvd
       go_wp2
       go_region_held3 (fun w' => w'.cell? ⟨Bt, 2, none⟩ = some (I v)) (go_keep) (fail)
       go_wp2
       go_roundg (7 - (kk + 1))
       case measure => omega
       case rel =>
        obtain ⟨z1, z2, z3, z4, z5, z6⟩ := HZ.out
        exact ⟨kk + 1, by omega, by omega, by omega, by subst hkk; rfl, z1, z2, z3, z4, by subst hkk; rw [z6]; exact z5⟩
    ·have hk77 : k = 7 := by omega
     subst hk77
     rw [LE] at hQk q3
     have hel := HE.out
     obtain ⟨c6, c7, c8, hpl⟩ := HC.out
     rw [hlg] at hQk q3
     have hx9 := c6 _ hSk
     clear HE HC HH c6 c7 c8 hpl
     go_wp2_with (go_at_call 32; refine hx9.mono ?_)
     intro r w8; first | (intro he hS8 a8; subst he) | rintro ⟨rfl, hS8, a8⟩
     obtain ⟨x1, xf1, hS9⟩ := hS8
     have hR8 := a8.at hRk (by simp; omega)
     have hQ8 := a8.at hQk (by simp; omega)
     have a08 := ak.trans a8
     have hRX : R ≠ X := by omega
     have hR9 := (aE w8 X 1 (I ((p : Int) + 1)) R hRX).trans hR8
     have hQ9 := (aE w8 X 1 (I ((p : Int) + 1)) Q hQX).trans hQ8
     have a09 := a08.setCell (p := ⟨X, 1, none⟩) (.inl (by simp)) (I ((p : Int) + 1))
     have mp : IntKind.i64.wrap ((p : Int) + 1) = (p : Int) + 1 := IntWalk.i64_in _ (by have := hp4; omega)
     clear hx9 hR8 hQ8 a08
     go_upto_region 16 with (fail)
     generalize w8.setCell ⟨X, 1, none⟩ (I ((p : Int) + 1)) = w9 at hS9 hR9 hQ9 a09 |-
     clear x1 xf1 f0 f1 f2 f3 f4 q0 q1 q2 q3 q4
     obtain ⟨⟨r0, r1, r2, r3, r4⟩, g0, g1, g2, g3, g4⟩ := aN hR9
     obtain ⟨⟨q0, q1, q2, q3, q4⟩, f0, f1, f2, f3, f4⟩ := aN hQ9
     have hR7 := cQ (I ps) (I pa) (I po) (I 0) (.bool sl) hR9
     have hS7 := hel _ _ (eB w9 R (I ps) (I pa) (I po) (I 0) (.bool sl)) hS9 R (qe hRR) (qe (lC _ _ _ _ _ _ _).symm) (fun j hj => bH _ _ _ _ _ _ _ j hj)
     have a7 := cS a09 (qe hRR) (I ps) (I pa) (I po) (I 0) (.bool sl)
     clear hel
     unfold eB at hR7 hS7 a7
     go_wp2
     refine qf (qh rfl _ _ R 77 _ (0, 0) _ rfl hR7 Tryz.underlying77 rfl Tryz.sizeGrace) rfl ?_
     exact ⟨rfl, hS7, a7⟩
  ·rw [if_neg hlg]
   simp only [A6]
   rw [show aU.next 1 (.ok p) = .ok (p + 1) from rfl]
   obtain ⟨lg, hlv⟩ : ∃ lg, Shut (kT v = lg) := ⟨_, rfl⟩
   rw [hlv.out] at hlg |-
   go_enter Tryz.func26, Tryz.ntmps26
   go_wp2_with (go_at_call 24; refine hx1.mono ?_)
   intro r w1; first | (intro he hS1 a1; subst he) | rintro ⟨rfl, hS1, a1⟩
   have hR1 := a1.at hR (by simp; omega)
   have a01 := (aB.of_below (bs := [X]) b0).trans a1
   have bq := (qa _ w1).alloc (qb _) (.cells #[I 0, I 0, I 0, I 0, .bool sl] 77)
   have hQ1 := qc w1 (.cells #[I 0, I 0, I 0, I 0, .bool sl] 77)
   have hR1' := (bq.block _ (aA hR1)).trans hR1
   have a01' := a01.trans (aB.of_below bq)
   have hx2 := c2 _ (hS1.step bq) (hBs _ a01')
   have hw1 := a01.size
   have hs1 := a1.size
   clear hx1 c2
   go_wp2_with (go_at_call 65; refine hx2.mono ?_)
   intro r w2; first | (intro he hS2 a2; subst he) | rintro ⟨rfl, hS2, a2⟩
   have hR2 := a2.at hR1' (by simp; omega)
   have hQ2 := a2.at hQ1 (by simp; omega)
   have a02 := a01'.trans a2
   generalize hQQ : w1.heap.size = Q at hQ1 hQ2 hw1 hs1 |-
   generalize hRR : w.heap.size = R at hR hR1 hR1' hR2 hRl hw1 hs1 |-
   have hQR : Q ≠ R := by omega
   obtain ⟨⟨q0, q1, q2, q3, q4⟩, f0, f1, f2, f3, f4⟩ := aN hQ2
   have hQ3 := vN (a := I ps) (b := I pa) (c := I po) hQ2
   have hR3 := (dS w2 Q (I ps) (I pa) (I po) R hQR.symm).trans hR2
   have hS3 := hel _ w2 (eJ w2 Q (I ps) (I pa) (I po)) hS2 Q (by omega) (qe (lH _ _ _ _ _).symm) (fun j hj => dS _ _ _ _ _ j hj)
   have a03 := fY a02 (by omega : w.heap.size <= Q) (I ps) (I pa) (I po)
   have hx3 := c3 _ hS3
   clear hx2 c3 hS3
   unfold eJ at hQ3 hR3 a03 hx3
   go_wp2_with (go_at_call 25; refine hx3.mono ?_)
   intro r w4; first | (intro he hS4 a4; subst he) | rintro ⟨rfl, hS4, a4⟩
   have hR4 := a4.at hR3 (by simp; omega)
   have hQ4 := a4.at hQ3 (by simp; omega)
   have a04 := a03.trans a4
   have hx4 := c4 _ hS4
   clear hx3 c4 a03 hR3 hQ3
   go_wp2_with (go_at_call 31; refine hx4.mono ?_)
   intro r w5; first | (intro he b5; subst he) | rintro ⟨rfl, b5⟩
   have bt5 := (qa _ w5).alloc (qb _) (.cells #[I 2, .string text, I v, .string bt, I lin, I cl, .bool j] 59)
   have b45 := b5.trans (bt5.mono b5.size)
   have hR5 := (b45.block _ (aA hR4)).trans hR4
   have hQ5 := (b45.block _ (aA hQ4)).trans hQ4
   have hT5 := qc w5 (.cells #[I 2, .string text, I v, .string bt, I lin, I cl, .bool j] 59)
   have hS5 := hS4.step b45
   have a05 := a04.trans (aB.of_below b45)
   have hsz5 := b5.size
   have hsz4 := aA hQ4
   have hsz4r := aA hR4
   have hXl5 := hS4.lt
   clear hx4
   go_wp2
   generalize hW6 : w5.alloc (.cells #[I 2, .string text, I v, .string bt, I lin, I cl, .bool j] 59) = W6 at bt5 b45 hR5 hQ5 hT5 hS5 a05 |-
   generalize hTT : w5.heap.size = Bt at hT5 hsz5 |-
   have hBQ : Bt ≠ Q := by omega
   have hBR : Bt ≠ R := by omega
   have hBX : Bt ≠ X := by omega
   have hQX : Q ≠ X := by omega
   have HC := aQ (And.intro c6 (And.intro c7 (And.intro c8 hpl)))
   have HH := aQ hmore
   have HE := aQ hel
   clear c6 c7 c8 hpl hmore hel hBs
   go_loopg [5] (6 : Nat) (fun gq u wr => ∃ k : Nat, 1 <= k /\ k <= 7 /\ gq = 7 - k /\ u = I (k : Nat) /\ MS T X free lv iv (.ok p) wr /\ aB [X] w wr /\ wr.heap[Bt]? = some (.cells #[I 2, .string text, I v, .string bt, I lin, I cl, .bool j] 59 (0, 0)) /\ wr.heap[R]? = some (.cells #[I 0, I 0, I 0, I 0, .bool false] 77 (0, 0)) /\
    wr.heap[Q]? = some (.cells #[I ps, I pa, I po, I (EB v k), .bool sl] 77 (0, 0)))
   case atStart => exact ⟨1, qb _, by omega, rfl, rfl, hS5, a05, hT5, hR5, by rw [LD]; exact hQ5⟩
   case round =>
    clear hS5 a05 hT5 hR5 hQ5 hS4 a04 hR4 hQ4 bt5 b45
    obtain ⟨k, hk1, hk7, hgq, rfl, hSk, ak, hTk, hRk, hQk⟩ := hrel
    have t2 : wr.cell? ⟨Bt, 2, none⟩ = some (I v) := by rw [Lib.cell_of_heap hTk]; rfl
    obtain ⟨⟨q0, q1, q2, q3, q4⟩, f0, f1, f2, f3, f4⟩ := aN hQk
    by_cases hk6 : k <= 6
    ·have hk6' : (k : Int) <= 6 := by omega
     have mk : IntKind.i64.wrap ((k : Int) + 1) = ((k + 1 : Nat) : Int) := by rw [show ((k + 1 : Nat) : Int) = (k : Int) + 1 by omega]; exact IntWalk.i64_in _ (by omega)
     have hSd := hSk.step ((qa _ wr).drew)
     have ad := ak.drew
     by_cases hv : v = 2 ^ k
     ·have hnx := LF v k hk1 hk6 hv
      have hS8 := HE.out _ wr.drew (wr.drew.setCell ⟨Q, 3, none⟩ (I (k : Nat))) hSd Q (by omega) (eC _ _ _ _) (aE _ _ _ _)
      have hQ8 : (wr.drew.setCell ⟨Q, 3, none⟩ (I (k : Nat))).heap[Q]? = some (.cells #[I ps, I pa, I po, I (k : Nat), .bool sl] 77 (0, 0)) := (Lib.heap_setCell_same (w := wr.drew) hQk (I (k : Nat)) (i := 3)).trans rfl
      have hR8 : (wr.drew.setCell ⟨Q, 3, none⟩ (I (k : Nat))).heap[R]? = _ := (aE wr.drew Q 3 (I (k : Nat)) R hQR.symm).trans hRk
      have hT8 : (wr.drew.setCell ⟨Q, 3, none⟩ (I (k : Nat))).heap[Bt]? = _ := (aE wr.drew Q 3 (I (k : Nat)) Bt hBQ).trans hTk
      have a8 := ad.setCell (p := ⟨Q, 3, none⟩) (.inr (by show w.heap.size <= Q; omega)) (I (k : Nat))
      have HZ := aQ (And.intro hS8 (And.intro a8 (And.intro hT8 (And.intro hR8 (And.intro hQ8 hnx)))))
      clear hS8 hQ8 hR8 hT8 a8 hnx hSk ak hTk hRk hQk hSd ad
      obtain ⟨kk, hkk⟩ : ∃ kk, kk = k := ⟨_, rfl⟩
      rcases (by omega : k = 1 \/ k = 2 \/ k = 3 \/ k = 4 \/ k = 5 \/ k = 6) with rfl | rfl | rfl | rfl | rfl | rfl
      all_goals
       simp only [Int.reducePow] at hv
       go_wp2
       go_region_held3 (fun w' => w'.cell? ⟨Bt, 2, none⟩ = some (I v)) (go_keep) (fail)
       go_wp2
       go_roundg (7 - (kk + 1))
       case measure => omega
       case rel =>
        obtain ⟨z1, z2, z3, z4, z5, z6⟩ := HZ.out
        exact ⟨kk + 1, by omega, by omega, by omega, by subst hkk; rfl, z1, z2, z3, z4, by subst hkk; rw [z6]; exact z5⟩
     ·have hnx := FM v k hk1 hk6 hv
      have HZ := aQ (And.intro hSd (And.intro ad (And.intro hTk (And.intro hRk (And.intro hQk hnx)))))
      clear hnx hSk ak hTk hRk hQk hSd ad
      have hw2 : IntKind.i64.wrap ((2 : Int) ^ k) = 2 ^ k := by rcases (by omega : k = 1 \/ k = 2 \/ k = 3 \/ k = 4 \/ k = 5 \/ k = 6) with rfl | rfl | rfl | rfl | rfl | rfl <;> decide
      have hvd : (v == IntKind.i64.wrap ((2 : Int) ^ k)) = false := by rw [hw2]; simpa using hv
      clear hw2
      obtain ⟨kk, hkk⟩ : ∃ kk, kk = k := ⟨_, rfl⟩
      rcases (by omega : k = 1 \/ k = 2 \/ k = 3 \/ k = 4 \/ k = 5 \/ k = 6) with rfl | rfl | rfl | rfl | rfl | rfl
      all_goals
       simp only [Int.reducePow] at hv hvd
       go_wp2
       go_region_held3 (fun w' => w'.cell? ⟨Bt, 2, none⟩ = some (I v)) (go_keep) (fail)
       go_wp2
       go_roundg (7 - (kk + 1))
       case measure => omega
       case rel =>
        obtain ⟨z1, z2, z3, z4, z5, z6⟩ := HZ.out
        exact ⟨kk + 1, by omega, by omega, by omega, by subst hkk; rfl, z1, z2, z3, z4, by subst hkk; rw [z6]; exact z5⟩
    ·have hk77 : k = 7 := by omega
     subst hk77
     rw [LE] at hQk q3
     have hel := HE.out
     obtain ⟨c6, c7, c8, hpl⟩ := HC.out
     rw [hlv.out] at hQk q3
     obtain ⟨x1, xf1, hpp⟩ := c7 _ hSk
     have hS9 := c8 _ hSk
     have hRX : R ≠ X := by omega
     have hR9 := (aE wr X 1 (I ((p : Int) + 1)) R hRX).trans hRk
     have hQ9 := (aE wr X 1 (I ((p : Int) + 1)) Q hQX).trans hQk
     have a09 := ak.setCell (p := ⟨X, 1, none⟩) (.inl (by simp)) (I ((p : Int) + 1))
     have mp : IntKind.i64.wrap ((p : Int) + 1) = (p : Int) + 1 := IntWalk.i64_in _ (by omega)
     rw [show ((p + 1 : Nat) : Int) = (p : Int) + 1 by omega] at hS9
     clear HE HC HH c6 c7 c8 hpl
     go_upto_region 16 with (fail)
     generalize wr.setCell ⟨X, 1, none⟩ (I ((p : Int) + 1)) = w9 at hS9 hR9 hQ9 a09 |-
     clear x1 xf1 f0 f1 f2 f3 f4 q0 q1 q2 q3 q4
     obtain ⟨⟨r0, r1, r2, r3, r4⟩, g0, g1, g2, g3, g4⟩ := aN hR9
     obtain ⟨⟨q0, q1, q2, q3, q4⟩, f0, f1, f2, f3, f4⟩ := aN hQ9
     have hR7 := cQ (I ps) (I pa) (I po) (I lg) (.bool sl) hR9
     have hS7 := hel _ _ (eB w9 R (I ps) (I pa) (I po) (I lg) (.bool sl)) hS9 R (qe hRR) (qe (lC _ _ _ _ _ _ _).symm) (fun j hj => bH _ _ _ _ _ _ _ j hj)
     have a7 := cS a09 (qe hRR) (I ps) (I pa) (I po) (I lg) (.bool sl)
     clear hel
     unfold eB at hR7 hS7 a7
     go_wp2
     refine qf (qh rfl _ _ R 77 _ (0, 0) _ rfl hR7 Tryz.underlying77 rfl Tryz.sizeGrace) rfl ?_
     exact ⟨rfl, hS7, a7⟩
end
theorem lN {P : Program} {fn : Func} {p t : Tmp} {ty : TypeId} (h : fn.results = #[.cell p ty, .tmp t]) (tmps : Array Value) (w : World) (g : Nat) (T : TypeId) (cs : Array Value) (fr : Nat × Nat) (d : TypeDesc)
  (hp : tmps.getD p undef = .pointer (some ⟨g, 0, none⟩)) (hg : w.heap[g]? = some (.cells cs T fr))
  (hu : P.underlying ty = some d) (hd : (match d with | .struct _ | .array _ _ => true | _ => false) = true) (hi : (P.info? ty).map (·.size) = some cs.size) :
  (results fn tmps).run P w = .ok (.tuple #[.agg cs, tmps.getD t undef]) w := by
 have hp' : tmps[p]?.getD undef = .pointer (some ⟨g, 0, none⟩) := by simpa using hp
 simp [results, h, hp', asAddr, run_loadVar_row w g T ty cs fr d hg hu hd hi, Result.andThen]
theorem AQ {B : Nat} {a w : World} {X : Nat} (h : Below B a w) (hX : B <= X) (u v : Value) : Below B a (dL w X u v) :=
 (h.setCell (p := ⟨X, 0, none⟩) hX u).setCell (p := ⟨X, 1, none⟩) hX v
section
variable {T : List bD} {Y M : Nat} {free : Bool} {w : World}
theorem PS.jump {p q : Nat} (h : PS T Y M free (.ok p) w) (hq : q < T.length) : PS T Y M free (.ok q) (w.setCell ⟨Y, 1, none⟩ (I (q : Nat))) := by
 obtain ⟨g, tv, pos, line, col, e, ls, ln, es, clk, h1, h2, h3⟩ := h
 obtain ⟨rfl, rfl, rfl, rfl, hlt⟩ := h3
 exact ⟨g, tv, q, 0, 0, 0, ls, ln, es, clk, h1.put 1 _ (fun h => h) rfl, h2, rfl, rfl, rfl, rfl, hq⟩
theorem PS.atCell {p : Nat} (h : PS T Y M free (.ok p) w) : w.cell? ⟨Y, 1, none⟩ = some (I p) /\ w.frozen? ⟨Y, 1, none⟩ = false /\ p < T.length := by
 obtain ⟨g, tv, pos, line, col, e, ls, ln, es, clk, h1, h2, h3⟩ := h
 obtain ⟨rfl, rfl, rfl, rfl, hlt⟩ := h3
 exact ⟨h1.c1, h1.fz 1, hlt⟩
end
section
variable {W0 : World} {T : List bD} {Y M KK : Nat} {free : Bool} {st : aU} {w : World}
theorem UF (s : ByteArray) (hs : s.size <= 281474976710656) (g : FR w) : Calls Tryz.prog 143 #[.string s] w fun r w' => (∃ b, r = .returned (.tuple #[rK (yV s).1, .bool b]) /\ (b = true ↔ (yV s).2.2 = 0)) /\ Below w.heap.size w w' := by
 have hR := qc w (.cells #[I 0, I 0, I 0] 75)
 have b0 := (qa _ w).alloc (qb _) (.cells #[I 0, I 0, I 0] 75)
 have hc := QN s hs _ (g.stay b0)
 generalize yV s = pr at hc |-
 obtain ⟨pv, pa, pe⟩ := pr
 obtain ⟨vs, va, vo⟩ := pv
 simp only [rK] at hc |-
 clear g
 by_cases he : pe = 0
 ·subst he
  go_enter Tryz.func143, Tryz.ntmps143
  go_wp2_with (go_at_call 111; refine hc.mono ?_)
  intro r w1; first | (intro he1 b1; subst he1) | rintro ⟨rfl, b1⟩
  have hR1 := (b1.block _ (by first | exact aA hR | simpa using aA hR)).trans hR
  have b01 := b0.trans (b1.mono (by first | exact b0.size | simpa using b0.size))
  have hRl := aA hR1
  have hRn : w.heap.size ≠ w1.heap.size := by omega
  generalize hRR : w.heap.size = R at hR hR1 hRl hRn |-
  obtain ⟨q0, q1, q2, f0, f1, f2⟩ := dH hR1
  have hR5 := eE (a := I vs) (b := I va) (c := I vo) hR1
  have b5 := kH b01 (qe hRR) (I vs) (I va) (I vo)
  have hR6 := (Lib.alloc_old _ (.cells #[I vs, I va, I vo] 75) R (aA hR5)).trans hR5
  have b6 := b5.alloc b5.size (.cells #[I vs, I va, I vo] 75)
  clear hR hR1 hc b01 hR5 b5
  unfold eJ at hR6 b6
  go_wp2
  exact qf (lN rfl _ _ R 75 _ (0, 0) _ rfl hR6 Tryz.underlying75 rfl Tryz.sizePitch3) rfl ⟨⟨true, rfl, by simp⟩, b6⟩
 ·go_enter Tryz.func143, Tryz.ntmps143
  go_wp2_with (go_at_call 111; refine hc.mono ?_)
  intro r w1; first | (intro he1 b1; subst he1) | rintro ⟨rfl, b1⟩
  have hR1 := (b1.block _ (by first | exact aA hR | simpa using aA hR)).trans hR
  have b01 := b0.trans (b1.mono (by first | exact b0.size | simpa using b0.size))
  have hRl := aA hR1
  have hRn : w.heap.size ≠ w1.heap.size := by omega
  generalize hRR : w.heap.size = R at hR hR1 hRl hRn |-
  obtain ⟨q0, q1, q2, f0, f1, f2⟩ := dH hR1
  have hR5 := eE (a := I vs) (b := I va) (c := I vo) hR1
  have b5 := kH b01 (qe hRR) (I vs) (I va) (I vo)
  have hR6 := (Lib.alloc_old _ (.cells #[I vs, I va, I vo] 75) R (aA hR5)).trans hR5
  have b6 := b5.alloc b5.size (.cells #[I vs, I va, I vo] 75)
  clear hR hR1 hc b01 hR5 b5
  unfold eJ at hR6 b6
  go_wp2
  exact qf (lN rfl _ _ R 75 _ (0, 0) _ rfl hR6 Tryz.underlying75 rfl Tryz.sizePitch3) rfl ⟨⟨false, by first | rfl | simp [he], by simp [he]⟩, b6⟩
theorem ED (h : PS T Y M free st w) (B : lG W0 [Y, M] w) (hK : gM KK dP w) {b : Bool} (hb : fG T st = b) :
  Calls Tryz.prog 142 #[.pointer (some ⟨Y, 0, none⟩), .bool b, I 18, .func (.func 143) #[] #[], .bool true, .slice (some ⟨KK, 0, none⟩) 2 2] w fun r w' =>
   r = .returned (rK (aT aD T st).1) /\ PS T Y M free (aT aD T st).2 w' /\ aB [Y, M] w w' := by
 have hYl := h.lt
 have hMl := h.ltM
 have hR := (Lib.alloc_old (w.alloc (.cells #[I 0, I 0, I 0] 75)) (.cells #[I 0, I 0, I 0] 75) w.heap.size (aA (qc w _))).trans (qc w (.cells #[I 0, I 0, I 0] 75))
 have hZ := qc (w.alloc (.cells #[I 0, I 0, I 0] 75)) (.cells #[I 0, I 0, I 0] 75)
 have b0 := ((qa _ w).alloc (qb _) (.cells #[I 0, I 0, I 0] 75)).alloc (by simp) (.cells #[I 0, I 0, I 0] 75)
 have hel := fun (s1 : aU) (w1 w2 : World) (h1 : PS T Y M free s1 w1) (R : Nat) => h1.else (w' := w2) (R := R) h
 have hRl := aA hR
 rw [World.size_alloc] at hZ
 cases b with
 | false =>
  have e1 : aT aD T st = (zP, bF T 13 st) := if_neg (by rw [hb]; decide)
  rw [e1]
  simp only [rK, zP]
  have hx2 := kV (h.step b0) 13 (by decide)
  generalize bF T 13 st = s1 at hx2 |-
  clear e1 hb h
  go_enter Tryz.func142, Tryz.ntmps142
  go_wp2_with (go_at_call 63; refine hx2.mono ?_)
  intro r w2; first | (intro he hS2 a2; subst he) | rintro ⟨rfl, hS2, a2⟩
  have hR2 := a2.at hR (by simp; omega)
  have hZ2 := a2.at hZ (by simp; omega)
  have a02 := (aB.of_below (bs := [Y, M]) b0).trans a2
  generalize hRR : w.heap.size = R at hR hZ hZ2 hR2 hRl |-
  obtain ⟨q0, q1, q2, f0, f1, f2⟩ := dH hR2
  obtain ⟨z0, z1, z2, zf0, zf1, zf2⟩ := dH hZ2
  have hR3 := eE (a := I 0) (b := I 0) (c := I 0) hR2
  have hS3 := hel _ w2 (eJ w2 R (I 0) (I 0) (I 0)) hS2 R (qe hRR) hR2 (by decide) (fun j hj => dS _ _ _ _ _ j hj)
  have a3 := fY a02 (qe hRR) (I 0) (I 0) (I 0)
  clear hel hR hR2 hx2 hS2 hZ hZ2
  unfold eJ at hR3 hS3 a3
  go_wp2
  refine qf (qh rfl _ _ R 75 _ (0, 0) _ rfl hR3 Tryz.underlying75 rfl Tryz.sizePitch3) rfl ?_
  exact ⟨rfl, hS3, a3⟩
 | true =>
  obtain ⟨p, rfl⟩ := LK hb
  have g := h.good
  have hpl := h.atCell.2.2
  have hlt := LL g hpl hb
  have hrl := oN g true dP hlt
  have hm := g.max
  have hcs := t7 g true dP hlt
  have c2 := fun w' (h : PS T Y M free (.ok p) w') (hk : gM KK dP w') => DF h hlt true dP (by decide) hk
  have c3 := fun w' (b : lG W0 [Y, M] w') => UF (w := w') _ hcs b.glo
  have hst := fun w' (b : Below w.heap.size w w') => h.step b
  have hwq : IntKind.i64.wrap ((p : Int) + (((gK T true dP (.ok p)).length : Int) + 1)) = ((p + ((gK T true dP (.ok p)).length + 1) : Nat) : Int) := by
   rw [IntWalk.i64_in _ (by omega)]; omega
  have hq : p + ((gK T true dP (.ok p)).length + 1) < T.length := by omega
  have hBs := fun w' (b : Below w.heap.size w w') => B.step b
  have hKs := fun w' (b : Below w.heap.size w w') => hK.step b
  have epit : aT aD T (.ok p) = match aD.pit (kG T true dP (.ok p)) with
    | none => (zP, bF T 18 (.ok p))
    | some v => (v, .ok (p + ((gK T true dP (.ok p)).length + 1))) := by unfold aT; rw [if_pos hb]; rfl
  rw [epit]
  have hpt := LU (kG T true dP (.ok p))
  generalize kG T true dP (.ok p) = cs at c2 c3 hpt |-
  generalize (gK T true dP (.ok p)).length = m at c2 hwq hq |-
  generalize yV cs = pr at c3 hpt
  obtain ⟨pv, pa, pe⟩ := pr
  obtain ⟨vs, va, vo⟩ := pv
  simp only [rK] at c3 |-
  simp only [dP, qj, qqi, Nat.zero_add, Nat.reduceAdd] at c2
  rcases hpt with ⟨ho, hne⟩ | ⟨v, ho, rfl, hpe⟩
  ·have hne' : ¬ pe = 0 := hne
   clear hne
   rw [ho]
   simp only [zP]
   have c4 := fun w' (h : PS T Y M free (.ok p) w') => kV h 18 (by decide)
   generalize bF T 18 (.ok p) = s1 at c4 |-
   clear ho hb h
   go_enter Tryz.func142, Tryz.ntmps142
   have hx2 := c2 _ (hst _ b0) (hKs _ b0)
   clear c2
   go_wp2_with (go_at_call 144; refine hx2.mono ?_)
   intro r w1; first | (intro he b1; subst he) | rintro ⟨rfl, b1⟩
   have b01 := b0.trans (b1.mono (by first | exact b0.size | simpa using b0.size))
   have hR1 := (b1.block _ (by first | exact aA hR | simpa using aA hR)).trans hR
   have hZ1 := (b1.block _ (by first | exact aA hZ | simpa using aA hZ)).trans hZ
   have hx3 := c3 _ (hBs _ b01)
   clear hx2 c3
   go_wp2_with (go_at_call 143; refine hx3.mono ?_)
   rintro r w3 ⟨⟨bk, rfl, hbk⟩, b3⟩
   have hbf : bk = false := by
    cases bk with
    | false => rfl
    | true => exact absurd (hbk.1 rfl) hne'
   subst hbf
   have b03 := (b01.trans (b3.mono b01.size)).alloc (qv b01.size b3.size) (.cells #[I vs, I va, I vo] 75)
   have bt3 := (qa _ w3).alloc (qb _) (.cells #[I vs, I va, I vo] 75)
   have hR3 := (bt3.block _ (qk (aA hR1) b3.size)).trans ((b3.block _ (aA hR1)).trans hR1)
   have hZ3 := (bt3.block _ (qk (aA hZ1) b3.size)).trans ((b3.block _ (aA hZ1)).trans hZ1)
   have hx4 := c4 _ (hst _ b03)
   clear hx3 c4 hbk
   go_wp2_with (go_at_call 63; refine hx4.mono ?_)
   intro r w4; first | (intro he hS4 a4; subst he) | rintro ⟨rfl, hS4, a4⟩
   have hR4 := a4.at hR3 (by simp; omega)
   have hZ4 := a4.at hZ3 (by simp; omega)
   have a04 := (aB.of_below (bs := [Y, M]) b03).trans a4
   generalize hRR : w.heap.size = R at hR hR1 hR3 hR4 hZ hZ1 hZ3 hZ4 hRl |-
   obtain ⟨q0, q1, q2, f0, f1, f2⟩ := dH hR4
   obtain ⟨z0, z1, z2, zf0, zf1, zf2⟩ := dH hZ4
   have hR5 := eE (a := I 0) (b := I 0) (c := I 0) hR4
   have hS5 := hel _ w4 (eJ w4 R (I 0) (I 0) (I 0)) hS4 R (qe hRR) hR4 (by decide) (fun j hj => dS _ _ _ _ _ j hj)
   have a5 := fY a04 (qe hRR) (I 0) (I 0) (I 0)
   clear hel hst hR hR1 hR3 hR4 hx4 hS4 hBs hKs hZ hZ1 hZ3 hZ4
   unfold eJ at hR5 hS5 a5
   go_wp2
   refine qf (qh rfl _ _ R 75 _ (0, 0) _ rfl hR5 Tryz.underlying75 rfl Tryz.sizePitch3) rfl ?_
   exact ⟨rfl, hS5, a5⟩
  ·rw [ho]
   simp only
   clear ho hb
   generalize hQQ : p + (m + 1) = q at hwq hq |-
   go_enter Tryz.func142, Tryz.ntmps142
   have hx2 := c2 _ (hst _ b0) (hKs _ b0)
   clear c2
   go_wp2_with (go_at_call 144; refine hx2.mono ?_)
   intro r w1; first | (intro he b1; subst he) | rintro ⟨rfl, b1⟩
   have b01 := b0.trans (b1.mono (by first | exact b0.size | simpa using b0.size))
   have hR1 := (b1.block _ (by first | exact aA hR | simpa using aA hR)).trans hR
   have hx3 := c3 _ (hBs _ b01)
   clear hx2 c3
   go_wp2_with (go_at_call 143; refine hx3.mono ?_)
   rintro r w3 ⟨⟨bk, rfl, hbk⟩, b3⟩
   obtain rfl : bk = true := hbk.2 hpe
   have b03 := b01.trans (b3.mono b01.size)
   have hR3 := (b3.block _ (aA hR1)).trans hR1
   have hS3 := hst _ b03
   obtain ⟨x1, xf1, _⟩ := hS3.atCell
   have n1 := qr w3 _ x1
   have l1 := hS3.lt
   have hS4 := hS3.jump hq
   have a4 := (aB.of_below (bs := [Y, M]) b03).setCell (p := ⟨Y, 1, none⟩) (.inl (by simp)) (I (q : Nat))
   have hRX : w.heap.size ≠ Y := by omega
   have hR4 : (w3.setCell ⟨Y, 1, none⟩ (I (q : Nat))).heap[w.heap.size]? = _ := (qg w3 ⟨Y, 1, none⟩ _ _ hRX).trans hR3
   have hRn : w.heap.size ≠ w3.heap.size := by have := aA hR3; omega
   have hwl := aA hR3
   generalize hRR : w.heap.size = R at hR hR1 hR3 hR4 hRl hRX hRn hwl hZ |-
   obtain ⟨q0, q1, q2, f0, f1, f2⟩ := dH hR3
   have hR5 := eE (a := I vs) (b := I va) (c := I vo) hR4
   have hS5 := hel _ _ (eJ (w3.setCell ⟨Y, 1, none⟩ (I (q : Nat))) R (I vs) (I va) (I vo)) hS4 R (qe hRR) hR4 (by decide) (fun j hj => dS _ _ _ _ _ j hj)
   have a5 := fY a4 (qe hRR) (I vs) (I va) (I vo)
   have hS6 := hS5.step ((qa _ _).alloc (qb _) (.cells #[I vs, I va, I vo] 75))
   have a6 := a5.alloc (.cells #[I vs, I va, I vo] 75)
   have hR6 := (Lib.alloc_old _ (.cells #[I vs, I va, I vo] 75) R (aA hR5)).trans hR5
   clear hel hst hR hR1 hR3 hR4 hS3 hS4 hS5 hBs hKs a4 a5 hR5 h hZ hbk
   unfold eJ at hR6 hS6 a6
   go_wp2
   refine qf (qh rfl _ _ R 75 _ (0, 0) _ rfl hR6 Tryz.underlying75 rfl Tryz.sizePitch3) rfl ?_
   exact ⟨rfl, hS6, a6⟩
end
end Go.Proofs.YtgkhemnmcgicnaaGreatDoor
