/- Towards the law ParserEvents, true for every text (no condition): one part of the proof. -/
import Derived.Test.YtgkhemnmcgicnaaGreatDoorG01
import Derived.Test.YtgkhemnmcgicnaaGreatDoorG23
namespace Go.Proofs.YtgkhemnmcgicnaaGreatDoor
set_option maxHeartbeats 16000000
set_option maxRecDepth 100000
open Go.RowKit
def gAgg (g : GraceV) : Value := .agg #[I g.p.st, I g.p.al, I g.p.oc, I g.lg, .bool g.sl]
theorem Tryz.sizeGrace : (Tryz.prog.info? 77).map (·.size) = some 5 := by kernel_rfl
def loUp (v : Int) (k : Nat) : Int := if logOf v < (k : Int) then logOf v else 0
theorem loUp_one (v : Int) : loUp v 1 = 0 := by
 unfold loUp logOf
 repeat' split
 all_goals omega
theorem loUp_end (v : Int) : loUp v 7 = logOf v := by
 unfold loUp logOf
 repeat' split
 all_goals omega
theorem loUp_hit (v : Int) (k : Nat) (h1 : 1 <= k) (h6 : k <= 6) (h : v = 2 ^ k) : loUp v (k + 1) = k := by
 rcases (by omega : k = 1 \/ k = 2 \/ k = 3 \/ k = 4 \/ k = 5 \/ k = 6) with rfl | rfl | rfl | rfl | rfl | rfl <;> (subst h; decide)
theorem loUp_miss (v : Int) (k : Nat) (h1 : 1 <= k) (h6 : k <= 6) (h : v ≠ 2 ^ k) : loUp v (k + 1) = loUp v k := by
 unfold loUp logOf
 rcases (by omega : k = 1 \/ k = 2 \/ k = 3 \/ k = 4 \/ k = 5 \/ k = 6) with rfl | rfl | rfl | rfl | rfl | rfl
 all_goals
  simp only [Int.reducePow] at h
  repeat' split
  all_goals omega
theorem fill3_five {w : World} {X : Nat} {a b c x y z u v : Value} {t : TypeId} (h : w.heap[X]? = some (.cells #[x, y, z, u, v] t (0, 0))) : (fill3 w X a b c).heap[X]? = some (.cells #[a, b, c, u, v] t (0, 0)) := by
 unfold fill3
 rw [Lib.heap_setCell_same (i := 2) (Lib.heap_setCell_same (i := 1) (Lib.heap_setCell_same (i := 0) h a) b) c]; rfl
section
variable {W0 : World} {T : List Tok} {X : Nat} {free : Bool} {lv iv : Value} {st : Stt} {w : World}
theorem MS.failNext {p : Nat} (h : MS T X free lv iv (.ok p) w) : Calls Tryz.prog 32 #[.pointer (some ⟨X, 0, none⟩), I 2] w fun r w' => r = .returned (.tuple #[]) /\
  (w'.cell? ⟨X, 1, none⟩ = some (I p) /\ w'.frozen? ⟨X, 1, none⟩ = false /\ MS T X free lv iv (failS T 2 (.ok p)) (w'.setCell ⟨X, 1, none⟩ (I ((p : Int) + 1)))) /\ Away [X] w w' := by
 obtain ⟨g, pos, is, im, n, xs, e, line, col, h1, h2, h3, h4⟩ := h
 obtain ⟨rfl, rfl, rfl, rfl, hlt⟩ := h2
 have hm := g.max
 refine (mfail_ok h1 (getD_some hlt) 2 (by decide)).mono ?_
 rintro r w' ⟨rfl, hS, ha⟩
 refine ⟨rfl, ⟨hS.c1, hS.fz 1, ⟨g, p + 1, is, im, n, xs, 2, _, _, hS.next, ⟨rfl, by decide, rfl, rfl, by omega⟩, h3, fun h => by cases h⟩⟩, ha⟩
theorem num_ok {s : Stt} (h : (tokS T s).kind = 2) : ∃ p, s = .ok p := by
 cases s with
 | ok p => exact ⟨p, rfl⟩
 | bad e l c => exact absurd h (by simp [tokS, noTok])
theorem mgrace_s (h : MS T X free lv iv st w) (B : Bas W0 [X] w) : Calls Tryz.prog 26 #[.pointer (some ⟨X, 0, none⟩)] w fun r w' => r = .returned (gAgg (graceF theO T 0 st).1) /\ MS T X free lv iv (graceF theO T 0 st).2 w' /\ Away [X] w w' := by
 have hXl := h.lt
 have hR := heap_alloc_new w (.cells #[I 0, I 0, I 0, I 0, .bool false] 77)
 have b0 := (Below.refl _ w).alloc (Nat.le_refl _) (.cells #[I 0, I 0, I 0, I 0, .bool false] 77)
 have hRl := heap_lt hR
 have hx1 := maccept_s (h.step b0) ⟨#[47]⟩
 have g := h.good
 have hm := g.max
 have hBs := fun w' (a : Away [X] w w') => B.away a
 have hel := fun (s1 : Stt) (w1 w2 : World) (h1 : MS T X free lv iv s1 w1) (R : Nat) => h1.else (w' := w2) (R := R) h
 have hh : graceF theO T 0 st = if (tokS T (expS T ⟨#[58]⟩ (pitchF theO T (accS T ⟨#[47]⟩ st)).2)).kind ≠ 2 then (⟨(pitchF theO T (accS T ⟨#[47]⟩ st)).1, 0, isS T ⟨#[47]⟩ st⟩, failS T 13 (expS T ⟨#[58]⟩ (pitchF theO T (accS T ⟨#[47]⟩ st)).2))
   else if logOf (tokS T (expS T ⟨#[58]⟩ (pitchF theO T (accS T ⟨#[47]⟩ st)).2)).value = 0 then (⟨(pitchF theO T (accS T ⟨#[47]⟩ st)).1, 0, isS T ⟨#[47]⟩ st⟩, failS T 2 (expS T ⟨#[58]⟩ (pitchF theO T (accS T ⟨#[47]⟩ st)).2))
   else (⟨(pitchF theO T (accS T ⟨#[47]⟩ st)).1, logOf (tokS T (expS T ⟨#[58]⟩ (pitchF theO T (accS T ⟨#[47]⟩ st)).2)).value, isS T ⟨#[47]⟩ st⟩, (expS T ⟨#[58]⟩ (pitchF theO T (accS T ⟨#[47]⟩ st)).2).next 1) := rfl
 rw [hh]
 clear hh
 have c2 := fun w' (h : MS T X free lv iv (accS T ⟨#[47]⟩ st) w') (b : Bas W0 [X] w') => mpitch_s h b
 generalize isS T ⟨#[47]⟩ st = sl at hx1 ⊢
 generalize accS T ⟨#[47]⟩ st = s1 at hx1 c2 ⊢
 generalize pitchF theO T s1 = q2 at c2 ⊢
 obtain ⟨⟨ps, pa, po⟩, s2⟩ := q2
 simp only [pAgg] at c2 ⊢
 have c3 := fun w' (h : MS T X free lv iv s2 w') => mexpect_s h ⟨#[58]⟩
 generalize expS T ⟨#[58]⟩ s2 = s3 at c3 ⊢
 have c4 := fun w' (h : MS T X free lv iv s3 w') => now_s h
 by_cases hk : (tokS T s3).kind ≠ 2
 ·rw [if_pos hk]
  simp only [gAgg]
  have c5 := fun w' (h : MS T X free lv iv s3 w') => mfail_s h 13 (by decide)
  generalize failS T 13 s3 = s4 at c5 ⊢
  unfold tokV at c4
  generalize tokS T s3 = t at c4 hk
  obtain ⟨kd, text, v, bt, lin, cl, j⟩ := t
  simp only at hk c4
  clear h
  go_enter Tryz.func26, Tryz.ntmps26
  go_wp2_with (go_at_call 24; refine hx1.mono ?_)
  intro r w1; first | (intro he hS1 a1; subst he) | rintro ⟨rfl, hS1, a1⟩
  have hR1 := a1.at hR (by simp; omega)
  have a01 := (Away.of_below (bs := [X]) b0).trans a1
  have bq := (Below.refl _ w1).alloc (Nat.le_refl _) (.cells #[I 0, I 0, I 0, I 0, .bool sl] 77)
  have hQ1 := heap_alloc_new w1 (.cells #[I 0, I 0, I 0, I 0, .bool sl] 77)
  have hR1' := (bq.block _ (heap_lt hR1)).trans hR1
  have a01' := a01.trans (Away.of_below bq)
  have hx2 := c2 _ (hS1.step bq) (hBs _ a01')
  have hw1 := a01.size
  have hs1 := a1.size
  clear hx1 c2
  go_wp2_with (go_at_call 65; refine hx2.mono ?_)
  intro r w2; first | (intro he hS2 a2; subst he) | rintro ⟨rfl, hS2, a2⟩
  have hR2 := a2.at hR1' (by simp; omega)
  have hQ2 := a2.at hQ1 (by simp; omega)
  have a02 := a01'.trans a2
  generalize hQQ : w1.heap.size = Q at hQ1 hQ2 hw1 hs1 ⊢
  generalize hRR : w.heap.size = R at hR hR1 hR1' hR2 hRl hw1 hs1 ⊢
  have hQR : Q ≠ R := by omega
  obtain ⟨⟨q0, q1, q2, q3, q4⟩, f0, f1, f2, f3, f4⟩ := five_cells hQ2
  have hQ3 := fill3_five (a := I ps) (b := I pa) (c := I po) hQ2
  have hR3 := (fill3_other w2 Q (I ps) (I pa) (I po) R hQR.symm).trans hR2
  have hS3 := hel _ w2 (fill3 w2 Q (I ps) (I pa) (I po)) hS2 Q (by omega) (Nat.le_of_eq (fill3_size _ _ _ _ _).symm) (fun j hj => fill3_other _ _ _ _ _ j hj)
  have a03 := fill3_away a02 (by omega : w.heap.size <= Q) (I ps) (I pa) (I po)
  have hx3 := c3 _ hS3
  clear hx2 c3 hS3
  unfold fill3 at hQ3 hR3 a03 hx3
  go_wp2_with (go_at_call 25; refine hx3.mono ?_)
  intro r w4; first | (intro he hS4 a4; subst he) | rintro ⟨rfl, hS4, a4⟩
  have hR4 := a4.at hR3 (by simp; omega)
  have hQ4 := a4.at hQ3 (by simp; omega)
  have a04 := a03.trans a4
  have hx4 := c4 _ hS4
  clear hx3 c4 a03 hR3 hQ3
  go_wp2_with (go_at_call 31; refine hx4.mono ?_)
  intro r w5; first | (intro he b5; subst he) | rintro ⟨rfl, b5⟩
  have bt5 := (Below.refl _ w5).alloc (Nat.le_refl _) (.cells #[I kd, .string text, I v, .string bt, I lin, I cl, .bool j] 59)
  have b45 := b5.trans (bt5.mono b5.size)
  have hR5 := (b45.block _ (heap_lt hR4)).trans hR4
  have hQ5 := (b45.block _ (heap_lt hQ4)).trans hQ4
  have hT5 := heap_alloc_new w5 (.cells #[I kd, .string text, I v, .string bt, I lin, I cl, .bool j] 59)
  have hS5 := hS4.step b45
  have a05 := a04.trans (Away.of_below b45)
  have hsz5 := b5.size
  have hsz4 := heap_lt hQ4
  have hsz4r := heap_lt hR4
  have hXl5 := hS4.lt
  clear hx4
  have hx5 := c5 _ hS5
  clear c5
  go_wp2_with (go_at_call 32; refine hx5.mono ?_)
  intro r w6; first | (intro he hS6 a6; subst he) | rintro ⟨rfl, hS6, a6⟩
  have hR6 := a6.at hR5 (by simp; omega)
  have hQ6 := a6.at hQ5 (by simp; omega)
  have a06 := a05.trans a6
  clear hx5
  obtain ⟨⟨r0, r1, r2, r3, r4⟩, g0, g1, g2, g3, g4⟩ := five_cells hR6
  obtain ⟨⟨q0, q1, q2, q3, q4⟩, f0, f1, f2, f3, f4⟩ := five_cells hQ6
  have hR7 := fill5_self (I ps) (I pa) (I po) (I 0) (.bool sl) hR6
  have hS7 := hel _ _ (fill5 w6 R (I ps) (I pa) (I po) (I 0) (.bool sl)) hS6 R (Nat.le_of_eq hRR) (Nat.le_of_eq (fill5_size _ _ _ _ _ _ _).symm) (fun j hj => fill5_other _ _ _ _ _ _ _ j hj)
  have a7 := fill5_away a06 (Nat.le_of_eq hRR) (I ps) (I pa) (I po) (I 0) (.bool sl)
  clear hel
  unfold fill5 at hR7 hS7 a7
  go_wp2
  refine bodyPost_ret (results_cell_row rfl _ _ R 77 _ (0, 0) _ rfl hR7 Tryz.underlying77 rfl Tryz.sizeGrace) rfl ?_
  exact ⟨rfl, hS7, a7⟩
 ·rw [if_neg hk]
  have hk2 : (tokS T s3).kind = 2 := by omega
  obtain ⟨p, rfl⟩ := num_ok hk2
  have c6 := fun w' (h : MS T X free lv iv (.ok p) w') => h.failNext
  have c7 := fun w' (h : MS T X free lv iv (.ok p) w') => h.atCell
  have hmore : p < T.length -> p + 1 < T.length := fun hp => g.more hp (by rw [show (T.getD p noTok).kind = 2 from hk2]; decide)
  have c8 := fun w' (h : MS T X free lv iv (.ok p) w') => h.jump (hmore h.atCell.2.2) (Nat.le_succ p)
  have hpl := fun w' (h : MS T X free lv iv (.ok p) w') => h.atCell.2.2
  have hp4 : p <= 4001 := by
   by_cases hlt : p < T.length
   ·omega
   ·exact absurd hk2 (by show (T.getD p noTok).kind ≠ 2; rw [List.getD_eq_getElem?_getD, List.getElem?_eq_none (by omega)]; decide)
  unfold tokV at c4
  generalize tokS T (.ok p) = t at c4 hk2 ⊢
  obtain ⟨kd, text, v, bt, lin, cl, j⟩ := t
  simp only at hk2 c4 ⊢
  subst hk2
  clear h hk
  by_cases hlg : logOf v = 0
  ·rw [if_pos hlg]
   simp only [gAgg]
   generalize failS T 2 (.ok p) = s9 at c6 ⊢
   go_enter Tryz.func26, Tryz.ntmps26
   go_wp2_with (go_at_call 24; refine hx1.mono ?_)
   intro r w1; first | (intro he hS1 a1; subst he) | rintro ⟨rfl, hS1, a1⟩
   have hR1 := a1.at hR (by simp; omega)
   have a01 := (Away.of_below (bs := [X]) b0).trans a1
   have bq := (Below.refl _ w1).alloc (Nat.le_refl _) (.cells #[I 0, I 0, I 0, I 0, .bool sl] 77)
   have hQ1 := heap_alloc_new w1 (.cells #[I 0, I 0, I 0, I 0, .bool sl] 77)
   have hR1' := (bq.block _ (heap_lt hR1)).trans hR1
   have a01' := a01.trans (Away.of_below bq)
   have hx2 := c2 _ (hS1.step bq) (hBs _ a01')
   have hw1 := a01.size
   have hs1 := a1.size
   clear hx1 c2
   go_wp2_with (go_at_call 65; refine hx2.mono ?_)
   intro r w2; first | (intro he hS2 a2; subst he) | rintro ⟨rfl, hS2, a2⟩
   have hR2 := a2.at hR1' (by simp; omega)
   have hQ2 := a2.at hQ1 (by simp; omega)
   have a02 := a01'.trans a2
   generalize hQQ : w1.heap.size = Q at hQ1 hQ2 hw1 hs1 ⊢
   generalize hRR : w.heap.size = R at hR hR1 hR1' hR2 hRl hw1 hs1 ⊢
   have hQR : Q ≠ R := by omega
   obtain ⟨⟨q0, q1, q2, q3, q4⟩, f0, f1, f2, f3, f4⟩ := five_cells hQ2
   have hQ3 := fill3_five (a := I ps) (b := I pa) (c := I po) hQ2
   have hR3 := (fill3_other w2 Q (I ps) (I pa) (I po) R hQR.symm).trans hR2
   have hS3 := hel _ w2 (fill3 w2 Q (I ps) (I pa) (I po)) hS2 Q (by omega) (Nat.le_of_eq (fill3_size _ _ _ _ _).symm) (fun j hj => fill3_other _ _ _ _ _ j hj)
   have a03 := fill3_away a02 (by omega : w.heap.size <= Q) (I ps) (I pa) (I po)
   have hx3 := c3 _ hS3
   clear hx2 c3 hS3
   unfold fill3 at hQ3 hR3 a03 hx3
   go_wp2_with (go_at_call 25; refine hx3.mono ?_)
   intro r w4; first | (intro he hS4 a4; subst he) | rintro ⟨rfl, hS4, a4⟩
   have hR4 := a4.at hR3 (by simp; omega)
   have hQ4 := a4.at hQ3 (by simp; omega)
   have a04 := a03.trans a4
   have hx4 := c4 _ hS4
   clear hx3 c4 a03 hR3 hQ3
   go_wp2_with (go_at_call 31; refine hx4.mono ?_)
   intro r w5; first | (intro he b5; subst he) | rintro ⟨rfl, b5⟩
   have bt5 := (Below.refl _ w5).alloc (Nat.le_refl _) (.cells #[I 2, .string text, I v, .string bt, I lin, I cl, .bool j] 59)
   have b45 := b5.trans (bt5.mono b5.size)
   have hR5 := (b45.block _ (heap_lt hR4)).trans hR4
   have hQ5 := (b45.block _ (heap_lt hQ4)).trans hQ4
   have hT5 := heap_alloc_new w5 (.cells #[I 2, .string text, I v, .string bt, I lin, I cl, .bool j] 59)
   have hS5 := hS4.step b45
   have a05 := a04.trans (Away.of_below b45)
   have hsz5 := b5.size
   have hsz4 := heap_lt hQ4
   have hsz4r := heap_lt hR4
   have hXl5 := hS4.lt
   clear hx4
   go_wp2
   generalize hW6 : w5.alloc (.cells #[I 2, .string text, I v, .string bt, I lin, I cl, .bool j] 59) = W6 at bt5 b45 hR5 hQ5 hT5 hS5 a05 ⊢
   generalize hTT : w5.heap.size = Bt at hT5 hsz5 ⊢
   have hBQ : Bt ≠ Q := by omega
   have hBR : Bt ≠ R := by omega
   have hBX : Bt ≠ X := by omega
   have hQX : Q ≠ X := by omega
   have HC := shut (And.intro c6 (And.intro c7 (And.intro c8 hpl)))
   have HH := shut hmore
   have HE := shut hel
   clear c6 c7 c8 hpl hmore hel hBs
   go_loopg [5] (6 : Nat) (fun gq u wr => ∃ k : Nat, 1 <= k /\ k <= 7 /\ gq = 7 - k /\ u = I (k : Nat) /\ MS T X free lv iv (.ok p) wr /\ Away [X] w wr /\ wr.heap[Bt]? = some (.cells #[I 2, .string text, I v, .string bt, I lin, I cl, .bool j] 59 (0, 0)) /\ wr.heap[R]? = some (.cells #[I 0, I 0, I 0, I 0, .bool false] 77 (0, 0)) /\
    wr.heap[Q]? = some (.cells #[I ps, I pa, I po, I (loUp v k), .bool sl] 77 (0, 0)))
   case atStart => exact ⟨1, Nat.le_refl _, by omega, rfl, rfl, hS5, a05, hT5, hR5, by rw [loUp_one]; exact hQ5⟩
   case round =>
    clear hS5 a05 hT5 hR5 hQ5 hS4 a04 hR4 hQ4 bt5 b45
    obtain ⟨k, hk1, hk7, hgq, rfl, hSk, ak, hTk, hRk, hQk⟩ := hrel
    have t2 : wr.cell? ⟨Bt, 2, none⟩ = some (I v) := by rw [Lib.cell_of_heap hTk]; rfl
    obtain ⟨⟨q0, q1, q2, q3, q4⟩, f0, f1, f2, f3, f4⟩ := five_cells hQk
    by_cases hk6 : k <= 6
    ·have hk6' : (k : Int) <= 6 := by omega
     have mk : IntKind.i64.wrap ((k : Int) + 1) = ((k + 1 : Nat) : Int) := by rw [show ((k + 1 : Nat) : Int) = (k : Int) + 1 by omega]; exact IntWalk.i64_in _ (by omega)
     have hSd := hSk.step ((Below.refl _ wr).drew)
     have ad := ak.drew
     by_cases hv : v = 2 ^ k
     ·have hnx := loUp_hit v k hk1 hk6 hv
      have hS8 := HE.out _ wr.drew (wr.drew.setCell ⟨Q, 3, none⟩ (I (k : Nat))) hSd Q (by omega) (set_size _ _ _ _) (set_other _ _ _ _)
      have hQ8 : (wr.drew.setCell ⟨Q, 3, none⟩ (I (k : Nat))).heap[Q]? = some (.cells #[I ps, I pa, I po, I (k : Nat), .bool sl] 77 (0, 0)) := (Lib.heap_setCell_same (w := wr.drew) hQk (I (k : Nat)) (i := 3)).trans rfl
      have hR8 : (wr.drew.setCell ⟨Q, 3, none⟩ (I (k : Nat))).heap[R]? = _ := (set_other wr.drew Q 3 (I (k : Nat)) R hQR.symm).trans hRk
      have hT8 : (wr.drew.setCell ⟨Q, 3, none⟩ (I (k : Nat))).heap[Bt]? = _ := (set_other wr.drew Q 3 (I (k : Nat)) Bt hBQ).trans hTk
      have a8 := ad.setCell (p := ⟨Q, 3, none⟩) (.inr (by show w.heap.size <= Q; omega)) (I (k : Nat))
      have HZ := shut (And.intro hS8 (And.intro a8 (And.intro hT8 (And.intro hR8 (And.intro hQ8 hnx)))))
      clear hS8 hQ8 hR8 hT8 a8 hnx hSk ak hTk hRk hQk hSd ad
      obtain ⟨kk, hkk⟩ : ∃ kk, kk = k := ⟨_, rfl⟩
      rcases (by omega : k = 1 \/ k = 2 \/ k = 3 \/ k = 4 \/ k = 5 \/ k = 6) with rfl | rfl | rfl | rfl | rfl | rfl
      all_goals
       simp only [Int.reducePow] at hv
       go_wp2
       go_region_held3 (fun w' => w'.cell? ⟨Bt, 2, none⟩ = some (I v)) (go_keep) (fail)
       go_wp2
       go_roundg (7 - (kk + 1))
       case measure => omega
       case rel =>
        obtain ⟨z1, z2, z3, z4, z5, z6⟩ := HZ.out
        exact ⟨kk + 1, by omega, by omega, by omega, by subst hkk; rfl, z1, z2, z3, z4, by subst hkk; rw [z6]; exact z5⟩
     ·have hnx := loUp_miss v k hk1 hk6 hv
      have HZ := shut (And.intro hSd (And.intro ad (And.intro hTk (And.intro hRk (And.intro hQk hnx)))))
      clear hnx hSk ak hTk hRk hQk hSd ad
      have hw2 : IntKind.i64.wrap ((2 : Int) ^ k) = 2 ^ k := by rcases (by omega : k = 1 \/ k = 2 \/ k = 3 \/ k = 4 \/ k = 5 \/ k = 6) with rfl | rfl | rfl | rfl | rfl | rfl <;> decide
      have hvd : (v == IntKind.i64.wrap ((2 : Int) ^ k)) = false := by rw [hw2]; simpa using hv
      clear hw2
      obtain ⟨kk, hkk⟩ : ∃ kk, kk = k := ⟨_, rfl⟩
      rcases (by omega : k = 1 \/ k = 2 \/ k = 3 \/ k = 4 \/ k = 5 \/ k = 6) with rfl | rfl | rfl | rfl | rfl | rfl
      all_goals
       simp only [Int.reducePow] at hv hvd
       go_wp2
       go_region_held3 (fun w' => w'.cell? ⟨Bt, 2, none⟩ = some (I v)) (go_keep) (fail)
       go_wp2
       go_roundg (7 - (kk + 1))
       case measure => omega
       case rel =>
        obtain ⟨z1, z2, z3, z4, z5, z6⟩ := HZ.out
        exact ⟨kk + 1, by omega, by omega, by omega, by subst hkk; rfl, z1, z2, z3, z4, by subst hkk; rw [z6]; exact z5⟩
    ·have hk77 : k = 7 := by omega
     subst hk77
     rw [loUp_end] at hQk q3
     have hel := HE.out
     obtain ⟨c6, c7, c8, hpl⟩ := HC.out
     rw [hlg] at hQk q3
     have hx9 := c6 _ hSk
     clear HE HC HH c6 c7 c8 hpl
     go_wp2_with (go_at_call 32; refine hx9.mono ?_)
     intro r w8; first | (intro he hS8 a8; subst he) | rintro ⟨rfl, hS8, a8⟩
     obtain ⟨x1, xf1, hS9⟩ := hS8
     have hR8 := a8.at hRk (by simp; omega)
     have hQ8 := a8.at hQk (by simp; omega)
     have a08 := ak.trans a8
     have hRX : R ≠ X := by omega
     have hR9 := (set_other w8 X 1 (I ((p : Int) + 1)) R hRX).trans hR8
     have hQ9 := (set_other w8 X 1 (I ((p : Int) + 1)) Q hQX).trans hQ8
     have a09 := a08.setCell (p := ⟨X, 1, none⟩) (.inl (by simp)) (I ((p : Int) + 1))
     have mp : IntKind.i64.wrap ((p : Int) + 1) = (p : Int) + 1 := IntWalk.i64_in _ (by have := hp4; omega)
     clear hx9 hR8 hQ8 a08
     go_upto_region 16 with (fail)
     generalize w8.setCell ⟨X, 1, none⟩ (I ((p : Int) + 1)) = w9 at hS9 hR9 hQ9 a09 ⊢
     clear x1 xf1 f0 f1 f2 f3 f4 q0 q1 q2 q3 q4
     obtain ⟨⟨r0, r1, r2, r3, r4⟩, g0, g1, g2, g3, g4⟩ := five_cells hR9
     obtain ⟨⟨q0, q1, q2, q3, q4⟩, f0, f1, f2, f3, f4⟩ := five_cells hQ9
     have hR7 := fill5_self (I ps) (I pa) (I po) (I 0) (.bool sl) hR9
     have hS7 := hel _ _ (fill5 w9 R (I ps) (I pa) (I po) (I 0) (.bool sl)) hS9 R (Nat.le_of_eq hRR) (Nat.le_of_eq (fill5_size _ _ _ _ _ _ _).symm) (fun j hj => fill5_other _ _ _ _ _ _ _ j hj)
     have a7 := fill5_away a09 (Nat.le_of_eq hRR) (I ps) (I pa) (I po) (I 0) (.bool sl)
     clear hel
     unfold fill5 at hR7 hS7 a7
     go_wp2
     refine bodyPost_ret (results_cell_row rfl _ _ R 77 _ (0, 0) _ rfl hR7 Tryz.underlying77 rfl Tryz.sizeGrace) rfl ?_
     exact ⟨rfl, hS7, a7⟩
  ·rw [if_neg hlg]
   simp only [gAgg]
   rw [show Stt.next 1 (.ok p) = .ok (p + 1) from rfl]
   obtain ⟨lg, hlv⟩ : ∃ lg, Shut (logOf v = lg) := ⟨_, rfl⟩
   rw [hlv.out] at hlg ⊢
   go_enter Tryz.func26, Tryz.ntmps26
   go_wp2_with (go_at_call 24; refine hx1.mono ?_)
   intro r w1; first | (intro he hS1 a1; subst he) | rintro ⟨rfl, hS1, a1⟩
   have hR1 := a1.at hR (by simp; omega)
   have a01 := (Away.of_below (bs := [X]) b0).trans a1
   have bq := (Below.refl _ w1).alloc (Nat.le_refl _) (.cells #[I 0, I 0, I 0, I 0, .bool sl] 77)
   have hQ1 := heap_alloc_new w1 (.cells #[I 0, I 0, I 0, I 0, .bool sl] 77)
   have hR1' := (bq.block _ (heap_lt hR1)).trans hR1
   have a01' := a01.trans (Away.of_below bq)
   have hx2 := c2 _ (hS1.step bq) (hBs _ a01')
   have hw1 := a01.size
   have hs1 := a1.size
   clear hx1 c2
   go_wp2_with (go_at_call 65; refine hx2.mono ?_)
   intro r w2; first | (intro he hS2 a2; subst he) | rintro ⟨rfl, hS2, a2⟩
   have hR2 := a2.at hR1' (by simp; omega)
   have hQ2 := a2.at hQ1 (by simp; omega)
   have a02 := a01'.trans a2
   generalize hQQ : w1.heap.size = Q at hQ1 hQ2 hw1 hs1 ⊢
   generalize hRR : w.heap.size = R at hR hR1 hR1' hR2 hRl hw1 hs1 ⊢
   have hQR : Q ≠ R := by omega
   obtain ⟨⟨q0, q1, q2, q3, q4⟩, f0, f1, f2, f3, f4⟩ := five_cells hQ2
   have hQ3 := fill3_five (a := I ps) (b := I pa) (c := I po) hQ2
   have hR3 := (fill3_other w2 Q (I ps) (I pa) (I po) R hQR.symm).trans hR2
   have hS3 := hel _ w2 (fill3 w2 Q (I ps) (I pa) (I po)) hS2 Q (by omega) (Nat.le_of_eq (fill3_size _ _ _ _ _).symm) (fun j hj => fill3_other _ _ _ _ _ j hj)
   have a03 := fill3_away a02 (by omega : w.heap.size <= Q) (I ps) (I pa) (I po)
   have hx3 := c3 _ hS3
   clear hx2 c3 hS3
   unfold fill3 at hQ3 hR3 a03 hx3
   go_wp2_with (go_at_call 25; refine hx3.mono ?_)
   intro r w4; first | (intro he hS4 a4; subst he) | rintro ⟨rfl, hS4, a4⟩
   have hR4 := a4.at hR3 (by simp; omega)
   have hQ4 := a4.at hQ3 (by simp; omega)
   have a04 := a03.trans a4
   have hx4 := c4 _ hS4
   clear hx3 c4 a03 hR3 hQ3
   go_wp2_with (go_at_call 31; refine hx4.mono ?_)
   intro r w5; first | (intro he b5; subst he) | rintro ⟨rfl, b5⟩
   have bt5 := (Below.refl _ w5).alloc (Nat.le_refl _) (.cells #[I 2, .string text, I v, .string bt, I lin, I cl, .bool j] 59)
   have b45 := b5.trans (bt5.mono b5.size)
   have hR5 := (b45.block _ (heap_lt hR4)).trans hR4
   have hQ5 := (b45.block _ (heap_lt hQ4)).trans hQ4
   have hT5 := heap_alloc_new w5 (.cells #[I 2, .string text, I v, .string bt, I lin, I cl, .bool j] 59)
   have hS5 := hS4.step b45
   have a05 := a04.trans (Away.of_below b45)
   have hsz5 := b5.size
   have hsz4 := heap_lt hQ4
   have hsz4r := heap_lt hR4
   have hXl5 := hS4.lt
   clear hx4
   go_wp2
   generalize hW6 : w5.alloc (.cells #[I 2, .string text, I v, .string bt, I lin, I cl, .bool j] 59) = W6 at bt5 b45 hR5 hQ5 hT5 hS5 a05 ⊢
   generalize hTT : w5.heap.size = Bt at hT5 hsz5 ⊢
   have hBQ : Bt ≠ Q := by omega
   have hBR : Bt ≠ R := by omega
   have hBX : Bt ≠ X := by omega
   have hQX : Q ≠ X := by omega
   have HC := shut (And.intro c6 (And.intro c7 (And.intro c8 hpl)))
   have HH := shut hmore
   have HE := shut hel
   clear c6 c7 c8 hpl hmore hel hBs
   go_loopg [5] (6 : Nat) (fun gq u wr => ∃ k : Nat, 1 <= k /\ k <= 7 /\ gq = 7 - k /\ u = I (k : Nat) /\ MS T X free lv iv (.ok p) wr /\ Away [X] w wr /\ wr.heap[Bt]? = some (.cells #[I 2, .string text, I v, .string bt, I lin, I cl, .bool j] 59 (0, 0)) /\ wr.heap[R]? = some (.cells #[I 0, I 0, I 0, I 0, .bool false] 77 (0, 0)) /\
    wr.heap[Q]? = some (.cells #[I ps, I pa, I po, I (loUp v k), .bool sl] 77 (0, 0)))
   case atStart => exact ⟨1, Nat.le_refl _, by omega, rfl, rfl, hS5, a05, hT5, hR5, by rw [loUp_one]; exact hQ5⟩
   case round =>
    clear hS5 a05 hT5 hR5 hQ5 hS4 a04 hR4 hQ4 bt5 b45
    obtain ⟨k, hk1, hk7, hgq, rfl, hSk, ak, hTk, hRk, hQk⟩ := hrel
    have t2 : wr.cell? ⟨Bt, 2, none⟩ = some (I v) := by rw [Lib.cell_of_heap hTk]; rfl
    obtain ⟨⟨q0, q1, q2, q3, q4⟩, f0, f1, f2, f3, f4⟩ := five_cells hQk
    by_cases hk6 : k <= 6
    ·have hk6' : (k : Int) <= 6 := by omega
     have mk : IntKind.i64.wrap ((k : Int) + 1) = ((k + 1 : Nat) : Int) := by rw [show ((k + 1 : Nat) : Int) = (k : Int) + 1 by omega]; exact IntWalk.i64_in _ (by omega)
     have hSd := hSk.step ((Below.refl _ wr).drew)
     have ad := ak.drew
     by_cases hv : v = 2 ^ k
     ·have hnx := loUp_hit v k hk1 hk6 hv
      have hS8 := HE.out _ wr.drew (wr.drew.setCell ⟨Q, 3, none⟩ (I (k : Nat))) hSd Q (by omega) (set_size _ _ _ _) (set_other _ _ _ _)
      have hQ8 : (wr.drew.setCell ⟨Q, 3, none⟩ (I (k : Nat))).heap[Q]? = some (.cells #[I ps, I pa, I po, I (k : Nat), .bool sl] 77 (0, 0)) := (Lib.heap_setCell_same (w := wr.drew) hQk (I (k : Nat)) (i := 3)).trans rfl
      have hR8 : (wr.drew.setCell ⟨Q, 3, none⟩ (I (k : Nat))).heap[R]? = _ := (set_other wr.drew Q 3 (I (k : Nat)) R hQR.symm).trans hRk
      have hT8 : (wr.drew.setCell ⟨Q, 3, none⟩ (I (k : Nat))).heap[Bt]? = _ := (set_other wr.drew Q 3 (I (k : Nat)) Bt hBQ).trans hTk
      have a8 := ad.setCell (p := ⟨Q, 3, none⟩) (.inr (by show w.heap.size <= Q; omega)) (I (k : Nat))
      have HZ := shut (And.intro hS8 (And.intro a8 (And.intro hT8 (And.intro hR8 (And.intro hQ8 hnx)))))
      clear hS8 hQ8 hR8 hT8 a8 hnx hSk ak hTk hRk hQk hSd ad
      obtain ⟨kk, hkk⟩ : ∃ kk, kk = k := ⟨_, rfl⟩
      rcases (by omega : k = 1 \/ k = 2 \/ k = 3 \/ k = 4 \/ k = 5 \/ k = 6) with rfl | rfl | rfl | rfl | rfl | rfl
      all_goals
       simp only [Int.reducePow] at hv
       go_wp2
       go_region_held3 (fun w' => w'.cell? ⟨Bt, 2, none⟩ = some (I v)) (go_keep) (fail)
       go_wp2
       go_roundg (7 - (kk + 1))
       case measure => omega
       case rel =>
        obtain ⟨z1, z2, z3, z4, z5, z6⟩ := HZ.out
        exact ⟨kk + 1, by omega, by omega, by omega, by subst hkk; rfl, z1, z2, z3, z4, by subst hkk; rw [z6]; exact z5⟩
     ·have hnx := loUp_miss v k hk1 hk6 hv
      have HZ := shut (And.intro hSd (And.intro ad (And.intro hTk (And.intro hRk (And.intro hQk hnx)))))
      clear hnx hSk ak hTk hRk hQk hSd ad
      have hw2 : IntKind.i64.wrap ((2 : Int) ^ k) = 2 ^ k := by rcases (by omega : k = 1 \/ k = 2 \/ k = 3 \/ k = 4 \/ k = 5 \/ k = 6) with rfl | rfl | rfl | rfl | rfl | rfl <;> decide
      have hvd : (v == IntKind.i64.wrap ((2 : Int) ^ k)) = false := by rw [hw2]; simpa using hv
      clear hw2
      obtain ⟨kk, hkk⟩ : ∃ kk, kk = k := ⟨_, rfl⟩
      rcases (by omega : k = 1 \/ k = 2 \/ k = 3 \/ k = 4 \/ k = 5 \/ k = 6) with rfl | rfl | rfl | rfl | rfl | rfl
      all_goals
       simp only [Int.reducePow] at hv hvd
       go_wp2
       go_region_held3 (fun w' => w'.cell? ⟨Bt, 2, none⟩ = some (I v)) (go_keep) (fail)
       go_wp2
       go_roundg (7 - (kk + 1))
       case measure => omega
       case rel =>
        obtain ⟨z1, z2, z3, z4, z5, z6⟩ := HZ.out
        exact ⟨kk + 1, by omega, by omega, by omega, by subst hkk; rfl, z1, z2, z3, z4, by subst hkk; rw [z6]; exact z5⟩
    ·have hk77 : k = 7 := by omega
     subst hk77
     rw [loUp_end] at hQk q3
     have hel := HE.out
     obtain ⟨c6, c7, c8, hpl⟩ := HC.out
     rw [hlv.out] at hQk q3
     obtain ⟨x1, xf1, hpp⟩ := c7 _ hSk
     have hS9 := c8 _ hSk
     have hRX : R ≠ X := by omega
     have hR9 := (set_other wr X 1 (I ((p : Int) + 1)) R hRX).trans hRk
     have hQ9 := (set_other wr X 1 (I ((p : Int) + 1)) Q hQX).trans hQk
     have a09 := ak.setCell (p := ⟨X, 1, none⟩) (.inl (by simp)) (I ((p : Int) + 1))
     have mp : IntKind.i64.wrap ((p : Int) + 1) = (p : Int) + 1 := IntWalk.i64_in _ (by omega)
     rw [show ((p + 1 : Nat) : Int) = (p : Int) + 1 by omega] at hS9
     clear HE HC HH c6 c7 c8 hpl
     go_upto_region 16 with (fail)
     generalize wr.setCell ⟨X, 1, none⟩ (I ((p : Int) + 1)) = w9 at hS9 hR9 hQ9 a09 ⊢
     clear x1 xf1 f0 f1 f2 f3 f4 q0 q1 q2 q3 q4
     obtain ⟨⟨r0, r1, r2, r3, r4⟩, g0, g1, g2, g3, g4⟩ := five_cells hR9
     obtain ⟨⟨q0, q1, q2, q3, q4⟩, f0, f1, f2, f3, f4⟩ := five_cells hQ9
     have hR7 := fill5_self (I ps) (I pa) (I po) (I lg) (.bool sl) hR9
     have hS7 := hel _ _ (fill5 w9 R (I ps) (I pa) (I po) (I lg) (.bool sl)) hS9 R (Nat.le_of_eq hRR) (Nat.le_of_eq (fill5_size _ _ _ _ _ _ _).symm) (fun j hj => fill5_other _ _ _ _ _ _ _ j hj)
     have a7 := fill5_away a09 (Nat.le_of_eq hRR) (I ps) (I pa) (I po) (I lg) (.bool sl)
     clear hel
     unfold fill5 at hR7 hS7 a7
     go_wp2
     refine bodyPost_ret (results_cell_row rfl _ _ R 77 _ (0, 0) _ rfl hR7 Tryz.underlying77 rfl Tryz.sizeGrace) rfl ?_
     exact ⟨rfl, hS7, a7⟩
end
end Go.Proofs.YtgkhemnmcgicnaaGreatDoor
