/- Towards the law ParserEvents, true for every text (no condition): one part of the proof. -/
import Derived.Test.YtgkhemnmcgicnaaGreatDoorG01
import Derived.Test.YtgkhemnmcgicnaaGreatDoorG25
import Derived.Deep.Cut
import Derived.Deep.CutRange
namespace Go.Proofs.YtgkhemnmcgicnaaGreatDoor
set_option maxHeartbeats 16000000
set_option maxRecDepth 100000
open Go.RowKit
section
variable {W0 : World} {T : List Tok} {Y M : Nat} {free : Bool} {st : Stt} {w : World}
theorem head_s (h : PS T Y M free st w) (B : Bas W0 [Y, M] w) : Calls Tryz.prog 58 #[.pointer (some ⟨Y, 0, none⟩)] w fun r w' => r = .returned (hAgg (headF theO T st).1) /\ PS T Y M free (headF theO T st).2 w' /\ Away [Y, M] w w' := by
 have hYl := h.lt
 have hMl := h.ltM
 have hel := fun (s1 : Stt) (w1 w2 : World) (h1 : PS T Y M free s1 w1) (R : Nat) => h1.else (w' := w2) (R := R) h
 have hh : headF theO T st = if isS T ⟨#[33]⟩ (accS T ⟨#[126]⟩ (pitchF theO T st).2) = true then (⟨(pitchF theO T st).1, isS T ⟨#[126]⟩ (pitchF theO T st).2, 1⟩, accS T ⟨#[33]⟩ (accS T ⟨#[126]⟩ (pitchF theO T st).2))
   else if isS T ⟨#[63]⟩ (accS T ⟨#[126]⟩ (pitchF theO T st).2) = true then (⟨(pitchF theO T st).1, isS T ⟨#[126]⟩ (pitchF theO T st).2, 2⟩, accS T ⟨#[63]⟩ (accS T ⟨#[126]⟩ (pitchF theO T st).2))
   else (⟨(pitchF theO T st).1, isS T ⟨#[126]⟩ (pitchF theO T st).2, 0⟩, accS T ⟨#[126]⟩ (pitchF theO T st).2) := by
  unfold headF
  simp only
  split
  ·rename_i h1; rw [show accS T ⟨#[33]⟩ (accS T ⟨#[126]⟩ (pitchF theO T st).2) = (accS T ⟨#[126]⟩ (pitchF theO T st).2).next 1 from if_pos h1]
  ·split
   ·rename_i h1; rw [show accS T ⟨#[63]⟩ (accS T ⟨#[126]⟩ (pitchF theO T st).2) = (accS T ⟨#[126]⟩ (pitchF theO T st).2).next 1 from if_pos h1]
   ·rfl
 rw [hh]
 clear hh
 have hpi := fun w' (b : Below w.heap.size w w') => pitch_s (h.step b) (B.step b)
 generalize pitchF theO T st = q1 at hpi ⊢
 obtain ⟨⟨ps, pa, po⟩, s1⟩ := q1
 simp only [pAgg] at hpi ⊢
 have c2 := fun w' (h : PS T Y M free s1 w') => accept_s h ⟨#[126]⟩
 generalize accS T ⟨#[126]⟩ s1 = s2 at c2 ⊢
 generalize isS T ⟨#[126]⟩ s1 = td at c2 ⊢
 have c3 := fun w' (h : PS T Y M free s2 w') => accept_s h ⟨#[33]⟩
 have c4 := fun w' (h : PS T Y M free s2 w') => accept_s h ⟨#[63]⟩
 have e3 : isS T ⟨#[33]⟩ s2 = false -> accS T ⟨#[33]⟩ s2 = s2 := fun h => if_neg (by rw [h]; decide)
 have e4 : isS T ⟨#[63]⟩ s2 = false -> accS T ⟨#[63]⟩ s2 = s2 := fun h => if_neg (by rw [h]; decide)
 generalize accS T ⟨#[33]⟩ s2 = s3 at c3 e3 ⊢
 generalize accS T ⟨#[63]⟩ s2 = s4 at c4 e4 ⊢
 generalize isS T ⟨#[33]⟩ s2 = b3 at c3 e3 ⊢
 generalize isS T ⟨#[63]⟩ s2 = b4 at c4 e4 ⊢
 cases b3 with
 | true =>
  rw [if_pos rfl]
  simp only [hAgg]
  have HEL := shut hel
  clear hel B h
  go_enter Tryz.func58, Tryz.ntmps58
  go_wp2
  have hR0 := heap_alloc_new w (.cells #[I 0, I 0, I 0, .bool false, I 0] 80)
  have b0 := (Below.refl w.heap.size w).alloc (Nat.le_refl _) (.cells #[I 0, I 0, I 0, .bool false, I 0] 80)
  have hX1 : (((w.alloc zHead).drew).alloc zHead).heap[w.heap.size + 1]? = some zHead := by
   have := heap_alloc_new ((w.alloc zHead).drew) zHead
   simpa using this
  have hR0Y : w.heap.size ∉ [Y, M] := by simp; omega
  have hX1Y : w.heap.size + 1 ∉ [Y, M] := by simp; omega
  have hmem : ∀ w' : World, Away [Y, M] (((w.alloc zHead).drew).alloc zHead) w' -> w'.heap[w.heap.size + 1]? = some zHead := fun w' ha => ha.at hX1 hX1Y
  have hmem2 : ∀ w1 w' : World, Y < w1.heap.size -> M < w1.heap.size -> Away [Y, M] (w1.alloc zHead) w' -> w'.heap[w1.heap.size]? = some zHead := fun w1 w' hy hm hb => hb.at (heap_alloc_new w1 _) (by simp; omega)
  go_cut [3] from 4 (fun s3 wc => ∃ X, s3 = .pointer (some ⟨X, 0, none⟩) /\ w.heap.size < X /\ wc.heap[X]? = some (.cells #[I ps, I pa, I po, .bool td, I 0] 80 (0, 0)) /\
    wc.heap[w.heap.size]? = some (.cells #[I 0, I 0, I 0, .bool false, I 0] 80 (0, 0)) /\ PS T Y M free s2 wc /\ Away [Y, M] w wc)
  case first =>
   go_region_held3 (fun _ => True) (trivial) (first
    | (go_at_call 102; refine (hpi _ (by first | exact b0.drew | exact b0.drew.alloc (by simp) _)).mono ?_; rintro r w1 ⟨rfl, hS, ha⟩; have lY1 := hS.lt; have lM1 := hS.ltM; try have hx1 := hmem w1 ha)
    | (go_at_call 53; refine (c2 _ (by first | exact hS | exact hS.step ((Below.refl _ _).alloc (Nat.le_refl _) _))).mono ?_; rintro r w2 ⟨rfl, hS2, a2⟩; (first | (have hx := a2.at hx1 hX1Y; obtain ⟨⟨q0, q1, q2, q3, q4⟩, r0, r1, r2, r3, r4⟩ := five_cells hx) | (have hx := hmem2 _ _ lY1 lM1 a2; obtain ⟨⟨q0, q1, q2, q3, q4⟩, r0, r1, r2, r3, r4⟩ := five_cells hx) | skip)))
   ·go_wp2
    go_meet
    case rel =>
     have aw := ((Away.of_below (bs := [Y, M]) b0.drew).trans ha).trans a2
     have hRw := a2.at (ha.at hR0 hR0Y) hR0Y
     have hl := (Array.getElem?_eq_some_iff.1 hRw).1
     exact ⟨w2.heap.size, rfl, hl, heap_alloc_new w2 _, (Lib.alloc_old w2 _ _ hl).trans hRw, hS2.step ((Below.refl _ _).alloc (Nat.le_refl _) _), aw.alloc _⟩
   ·go_wp2
    go_meet
    case rel =>
     have aw := (((Away.of_below (bs := [Y, M]) b0.drew).trans ha).alloc zHead).trans a2
     have hR1 := ha.at hR0 hR0Y
     have hl := (Array.getElem?_eq_some_iff.1 hR1).1
     have hRw := a2.at ((Lib.alloc_old w1 zHead _ hl).trans hR1) hR0Y
     have hw1 : w.heap.size <= w1.heap.size := Nat.le_of_lt hl
     exact ⟨w1.heap.size, rfl, hl, fill5_self _ _ _ _ _ hx, (fill5_other w2 w1.heap.size _ _ _ _ _ _ (by omega)).trans hRw, HEL.out _ w2 (fill5 w2 w1.heap.size _ _ _ _ _) hS2 w1.heap.size hw1 hx (by decide) (fun j hj => fill5_other _ _ _ _ _ _ _ j hj), fill5_away aw hw1 _ _ _ _ _⟩
   ·go_wp2
    go_meet
    case rel =>
     have aw := ((Away.of_below (bs := [Y, M]) (b0.drew.alloc (by simp) zHead)).trans ha).trans a2
     have hR1 := ha.at ((Lib.alloc_old (w.alloc zHead).drew zHead w.heap.size (by simp)).trans hR0) hR0Y
     have hRw := a2.at hR1 hR0Y
     exact ⟨w.heap.size + 1, rfl, by omega, fill5_self _ _ _ _ _ hx, (fill5_other w2 (w.heap.size + 1) _ _ _ _ _ _ (by omega)).trans hRw, HEL.out _ w2 (fill5 w2 (w.heap.size + 1) _ _ _ _ _) hS2 (w.heap.size + 1) (Nat.le_succ _) hx (by decide) (fun j hj => fill5_other _ _ _ _ _ _ _ j hj), fill5_away aw (Nat.le_succ _) _ _ _ _ _⟩
  case rest =>
   obtain ⟨Q, rfl, hRQ, hQ3, hR3, hS3, a03⟩ := hcut
   have hel := HEL.out
   have hx3 := c3 _ hS3
   clear hpi c2 c3 hR0 b0 hX1 hX1Y hmem hmem2 HEL
   have hQR : Q ≠ w.heap.size := by omega
   generalize hRR : w.heap.size = R at hRQ hR3 hR0Y hQR ⊢
   have hRY : R ∉ [Y, M] := hR0Y
   have hQY : Q ∉ [Y, M] := by simp; omega
   clear hR0Y
   go_wp2_with (go_at_call 53; refine hx3.mono ?_)
   intro r w4; first | (intro he hS4 a4; subst he) | rintro ⟨rfl, hS4, a4⟩
   have hR4 := a4.at hR3 hRY
   have hQ4 := a4.at hQ3 hQY
   have a04 := a03.trans a4
   clear hx3 hS3
   have hQ6 : (w4.setCell ⟨Q, 4, none⟩ (I 1)).heap[Q]? = _ := Lib.heap_setCell_same hQ4 _
   have hR6 : (w4.setCell ⟨Q, 4, none⟩ (I 1)).heap[R]? = _ := (set_other w4 Q 4 (I 1) R hQR.symm).trans hR4
   have hS6 := hel _ w4 (w4.setCell ⟨Q, 4, none⟩ (I 1)) hS4 Q (by omega) hQ4 (by decide) (set_other _ _ _ _)
   have a06 := a04.setCell (p := ⟨Q, 4, none⟩) (.inr (by show w.heap.size <= Q; omega)) (I 1)
   obtain ⟨⟨r0, r1, r2, r3, r4⟩, g0, g1, g2, g3, g4⟩ := five_cells hR4
   obtain ⟨⟨q0, q1, q2, q3, q4⟩, f0, f1, f2, f3, f4⟩ := five_cells hQ4
   have hR7 := fill5_self (I ps) (I pa) (I po) (.bool td) (I 1) hR6
   have hS7 := hel _ _ (fill5 (w4.setCell ⟨Q, 4, none⟩ (I 1)) R (I ps) (I pa) (I po) (.bool td) (I 1)) hS6 R (Nat.le_of_eq hRR) hR6 (by decide) (fun j hj => fill5_other _ _ _ _ _ _ _ j hj)
   have a7 := fill5_away a06 (Nat.le_of_eq hRR) (I ps) (I pa) (I po) (.bool td) (I 1)
   clear hel
   unfold fill5 at hR7 hS7 a7
   go_wp2
   refine bodyPost_ret (results_cell_row rfl _ _ R 80 _ (0, 0) _ rfl hR7 Tryz.underlying80 rfl Tryz.sizeHead) rfl ?_
   exact ⟨rfl, hS7, a7⟩
 | false =>
  rw [if_neg (by decide)]
  have e5 := (e3 rfl).symm
  subst e5
  cases b4 with
  | true =>
   rw [if_pos rfl]
   simp only [hAgg]
   have HEL := shut hel
   clear hel B h
   go_enter Tryz.func58, Tryz.ntmps58
   go_wp2
   have hR0 := heap_alloc_new w (.cells #[I 0, I 0, I 0, .bool false, I 0] 80)
   have b0 := (Below.refl w.heap.size w).alloc (Nat.le_refl _) (.cells #[I 0, I 0, I 0, .bool false, I 0] 80)
   have hX1 : (((w.alloc zHead).drew).alloc zHead).heap[w.heap.size + 1]? = some zHead := by
    have := heap_alloc_new ((w.alloc zHead).drew) zHead
    simpa using this
   have hR0Y : w.heap.size ∉ [Y, M] := by simp; omega
   have hX1Y : w.heap.size + 1 ∉ [Y, M] := by simp; omega
   have hmem : ∀ w' : World, Away [Y, M] (((w.alloc zHead).drew).alloc zHead) w' -> w'.heap[w.heap.size + 1]? = some zHead := fun w' ha => ha.at hX1 hX1Y
   have hmem2 : ∀ w1 w' : World, Y < w1.heap.size -> M < w1.heap.size -> Away [Y, M] (w1.alloc zHead) w' -> w'.heap[w1.heap.size]? = some zHead := fun w1 w' hy hm hb => hb.at (heap_alloc_new w1 _) (by simp; omega)
   go_cut [3] from 4 (fun s3 wc => ∃ X, s3 = .pointer (some ⟨X, 0, none⟩) /\ w.heap.size < X /\ wc.heap[X]? = some (.cells #[I ps, I pa, I po, .bool td, I 0] 80 (0, 0)) /\
     wc.heap[w.heap.size]? = some (.cells #[I 0, I 0, I 0, .bool false, I 0] 80 (0, 0)) /\ PS T Y M free s2 wc /\ Away [Y, M] w wc)
   case first =>
    go_region_held3 (fun _ => True) (trivial) (first
     | (go_at_call 102; refine (hpi _ (by first | exact b0.drew | exact b0.drew.alloc (by simp) _)).mono ?_; rintro r w1 ⟨rfl, hS, ha⟩; have lY1 := hS.lt; have lM1 := hS.ltM; try have hx1 := hmem w1 ha)
     | (go_at_call 53; refine (c2 _ (by first | exact hS | exact hS.step ((Below.refl _ _).alloc (Nat.le_refl _) _))).mono ?_; rintro r w2 ⟨rfl, hS2, a2⟩; (first | (have hx := a2.at hx1 hX1Y; obtain ⟨⟨q0, q1, q2, q3, q4⟩, r0, r1, r2, r3, r4⟩ := five_cells hx) | (have hx := hmem2 _ _ lY1 lM1 a2; obtain ⟨⟨q0, q1, q2, q3, q4⟩, r0, r1, r2, r3, r4⟩ := five_cells hx) | skip)))
    ·go_wp2
     go_meet
     case rel =>
      have aw := ((Away.of_below (bs := [Y, M]) b0.drew).trans ha).trans a2
      have hRw := a2.at (ha.at hR0 hR0Y) hR0Y
      have hl := (Array.getElem?_eq_some_iff.1 hRw).1
      exact ⟨w2.heap.size, rfl, hl, heap_alloc_new w2 _, (Lib.alloc_old w2 _ _ hl).trans hRw, hS2.step ((Below.refl _ _).alloc (Nat.le_refl _) _), aw.alloc _⟩
    ·go_wp2
     go_meet
     case rel =>
      have aw := (((Away.of_below (bs := [Y, M]) b0.drew).trans ha).alloc zHead).trans a2
      have hR1 := ha.at hR0 hR0Y
      have hl := (Array.getElem?_eq_some_iff.1 hR1).1
      have hRw := a2.at ((Lib.alloc_old w1 zHead _ hl).trans hR1) hR0Y
      have hw1 : w.heap.size <= w1.heap.size := Nat.le_of_lt hl
      exact ⟨w1.heap.size, rfl, hl, fill5_self _ _ _ _ _ hx, (fill5_other w2 w1.heap.size _ _ _ _ _ _ (by omega)).trans hRw, HEL.out _ w2 (fill5 w2 w1.heap.size _ _ _ _ _) hS2 w1.heap.size hw1 hx (by decide) (fun j hj => fill5_other _ _ _ _ _ _ _ j hj), fill5_away aw hw1 _ _ _ _ _⟩
    ·go_wp2
     go_meet
     case rel =>
      have aw := ((Away.of_below (bs := [Y, M]) (b0.drew.alloc (by simp) zHead)).trans ha).trans a2
      have hR1 := ha.at ((Lib.alloc_old (w.alloc zHead).drew zHead w.heap.size (by simp)).trans hR0) hR0Y
      have hRw := a2.at hR1 hR0Y
      exact ⟨w.heap.size + 1, rfl, by omega, fill5_self _ _ _ _ _ hx, (fill5_other w2 (w.heap.size + 1) _ _ _ _ _ _ (by omega)).trans hRw, HEL.out _ w2 (fill5 w2 (w.heap.size + 1) _ _ _ _ _) hS2 (w.heap.size + 1) (Nat.le_succ _) hx (by decide) (fun j hj => fill5_other _ _ _ _ _ _ _ j hj), fill5_away aw (Nat.le_succ _) _ _ _ _ _⟩
   case rest =>
    obtain ⟨Q, rfl, hRQ, hQ3, hR3, hS3, a03⟩ := hcut
    have hel := HEL.out
    have hx3 := c3 _ hS3
    clear hpi c2 c3 hR0 b0 hX1 hX1Y hmem hmem2 HEL
    have hQR : Q ≠ w.heap.size := by omega
    generalize hRR : w.heap.size = R at hRQ hR3 hR0Y hQR ⊢
    have hRY : R ∉ [Y, M] := hR0Y
    have hQY : Q ∉ [Y, M] := by simp; omega
    clear hR0Y
    go_wp2_with (go_at_call 53; refine hx3.mono ?_)
    intro r w4; first | (intro he hS4 a4; subst he) | rintro ⟨rfl, hS4, a4⟩
    have hR4 := a4.at hR3 hRY
    have hQ4 := a4.at hQ3 hQY
    have a04 := a03.trans a4
    clear hx3 hS3
    have hx4 := c4 _ hS4
    clear c4
    go_wp2_with (go_at_call 53; refine hx4.mono ?_)
    intro r w5; first | (intro he hS5 a5; subst he) | rintro ⟨rfl, hS5, a5⟩
    have hR5 := a5.at hR4 hRY
    have hQ5 := a5.at hQ4 hQY
    have a05 := a04.trans a5
    clear hx4
    have hQ6 : (w5.setCell ⟨Q, 4, none⟩ (I 2)).heap[Q]? = _ := Lib.heap_setCell_same hQ5 _
    have hR6 : (w5.setCell ⟨Q, 4, none⟩ (I 2)).heap[R]? = _ := (set_other w5 Q 4 (I 2) R hQR.symm).trans hR5
    have hS6 := hel _ w5 (w5.setCell ⟨Q, 4, none⟩ (I 2)) hS5 Q (by omega) hQ5 (by decide) (set_other _ _ _ _)
    have a06 := a05.setCell (p := ⟨Q, 4, none⟩) (.inr (by show w.heap.size <= Q; omega)) (I 2)
    obtain ⟨⟨r0, r1, r2, r3, r4⟩, g0, g1, g2, g3, g4⟩ := five_cells hR5
    obtain ⟨⟨q0, q1, q2, q3, q4⟩, f0, f1, f2, f3, f4⟩ := five_cells hQ5
    have hR7 := fill5_self (I ps) (I pa) (I po) (.bool td) (I 2) hR6
    have hS7 := hel _ _ (fill5 (w5.setCell ⟨Q, 4, none⟩ (I 2)) R (I ps) (I pa) (I po) (.bool td) (I 2)) hS6 R (Nat.le_of_eq hRR) hR6 (by decide) (fun j hj => fill5_other _ _ _ _ _ _ _ j hj)
    have a7 := fill5_away a06 (Nat.le_of_eq hRR) (I ps) (I pa) (I po) (.bool td) (I 2)
    clear hel
    unfold fill5 at hR7 hS7 a7
    go_wp2
    refine bodyPost_ret (results_cell_row rfl _ _ R 80 _ (0, 0) _ rfl hR7 Tryz.underlying80 rfl Tryz.sizeHead) rfl ?_
    exact ⟨rfl, hS7, a7⟩
  | false =>
   rw [if_neg (by decide)]
   have e6 := (e4 rfl).symm
   subst e6
   simp only [hAgg]
   have HEL := shut hel
   clear hel B h
   go_enter Tryz.func58, Tryz.ntmps58
   go_wp2
   have hR0 := heap_alloc_new w (.cells #[I 0, I 0, I 0, .bool false, I 0] 80)
   have b0 := (Below.refl w.heap.size w).alloc (Nat.le_refl _) (.cells #[I 0, I 0, I 0, .bool false, I 0] 80)
   have hX1 : (((w.alloc zHead).drew).alloc zHead).heap[w.heap.size + 1]? = some zHead := by
    have := heap_alloc_new ((w.alloc zHead).drew) zHead
    simpa using this
   have hR0Y : w.heap.size ∉ [Y, M] := by simp; omega
   have hX1Y : w.heap.size + 1 ∉ [Y, M] := by simp; omega
   have hmem : ∀ w' : World, Away [Y, M] (((w.alloc zHead).drew).alloc zHead) w' -> w'.heap[w.heap.size + 1]? = some zHead := fun w' ha => ha.at hX1 hX1Y
   have hmem2 : ∀ w1 w' : World, Y < w1.heap.size -> M < w1.heap.size -> Away [Y, M] (w1.alloc zHead) w' -> w'.heap[w1.heap.size]? = some zHead := fun w1 w' hy hm hb => hb.at (heap_alloc_new w1 _) (by simp; omega)
   go_cut [3] from 4 (fun s3 wc => ∃ X, s3 = .pointer (some ⟨X, 0, none⟩) /\ w.heap.size < X /\ wc.heap[X]? = some (.cells #[I ps, I pa, I po, .bool td, I 0] 80 (0, 0)) /\
     wc.heap[w.heap.size]? = some (.cells #[I 0, I 0, I 0, .bool false, I 0] 80 (0, 0)) /\ PS T Y M free s2 wc /\ Away [Y, M] w wc)
   case first =>
    go_region_held3 (fun _ => True) (trivial) (first
     | (go_at_call 102; refine (hpi _ (by first | exact b0.drew | exact b0.drew.alloc (by simp) _)).mono ?_; rintro r w1 ⟨rfl, hS, ha⟩; have lY1 := hS.lt; have lM1 := hS.ltM; try have hx1 := hmem w1 ha)
     | (go_at_call 53; refine (c2 _ (by first | exact hS | exact hS.step ((Below.refl _ _).alloc (Nat.le_refl _) _))).mono ?_; rintro r w2 ⟨rfl, hS2, a2⟩; (first | (have hx := a2.at hx1 hX1Y; obtain ⟨⟨q0, q1, q2, q3, q4⟩, r0, r1, r2, r3, r4⟩ := five_cells hx) | (have hx := hmem2 _ _ lY1 lM1 a2; obtain ⟨⟨q0, q1, q2, q3, q4⟩, r0, r1, r2, r3, r4⟩ := five_cells hx) | skip)))
    ·go_wp2
     go_meet
     case rel =>
      have aw := ((Away.of_below (bs := [Y, M]) b0.drew).trans ha).trans a2
      have hRw := a2.at (ha.at hR0 hR0Y) hR0Y
      have hl := (Array.getElem?_eq_some_iff.1 hRw).1
      exact ⟨w2.heap.size, rfl, hl, heap_alloc_new w2 _, (Lib.alloc_old w2 _ _ hl).trans hRw, hS2.step ((Below.refl _ _).alloc (Nat.le_refl _) _), aw.alloc _⟩
    ·go_wp2
     go_meet
     case rel =>
      have aw := (((Away.of_below (bs := [Y, M]) b0.drew).trans ha).alloc zHead).trans a2
      have hR1 := ha.at hR0 hR0Y
      have hl := (Array.getElem?_eq_some_iff.1 hR1).1
      have hRw := a2.at ((Lib.alloc_old w1 zHead _ hl).trans hR1) hR0Y
      have hw1 : w.heap.size <= w1.heap.size := Nat.le_of_lt hl
      exact ⟨w1.heap.size, rfl, hl, fill5_self _ _ _ _ _ hx, (fill5_other w2 w1.heap.size _ _ _ _ _ _ (by omega)).trans hRw, HEL.out _ w2 (fill5 w2 w1.heap.size _ _ _ _ _) hS2 w1.heap.size hw1 hx (by decide) (fun j hj => fill5_other _ _ _ _ _ _ _ j hj), fill5_away aw hw1 _ _ _ _ _⟩
    ·go_wp2
     go_meet
     case rel =>
      have aw := ((Away.of_below (bs := [Y, M]) (b0.drew.alloc (by simp) zHead)).trans ha).trans a2
      have hR1 := ha.at ((Lib.alloc_old (w.alloc zHead).drew zHead w.heap.size (by simp)).trans hR0) hR0Y
      have hRw := a2.at hR1 hR0Y
      exact ⟨w.heap.size + 1, rfl, by omega, fill5_self _ _ _ _ _ hx, (fill5_other w2 (w.heap.size + 1) _ _ _ _ _ _ (by omega)).trans hRw, HEL.out _ w2 (fill5 w2 (w.heap.size + 1) _ _ _ _ _) hS2 (w.heap.size + 1) (Nat.le_succ _) hx (by decide) (fun j hj => fill5_other _ _ _ _ _ _ _ j hj), fill5_away aw (Nat.le_succ _) _ _ _ _ _⟩
   case rest =>
    obtain ⟨Q, rfl, hRQ, hQ3, hR3, hS3, a03⟩ := hcut
    have hel := HEL.out
    have hx3 := c3 _ hS3
    clear hpi c2 c3 hR0 b0 hX1 hX1Y hmem hmem2 HEL
    have hQR : Q ≠ w.heap.size := by omega
    generalize hRR : w.heap.size = R at hRQ hR3 hR0Y hQR ⊢
    have hRY : R ∉ [Y, M] := hR0Y
    have hQY : Q ∉ [Y, M] := by simp; omega
    clear hR0Y
    go_wp2_with (go_at_call 53; refine hx3.mono ?_)
    intro r w4; first | (intro he hS4 a4; subst he) | rintro ⟨rfl, hS4, a4⟩
    have hR4 := a4.at hR3 hRY
    have hQ4 := a4.at hQ3 hQY
    have a04 := a03.trans a4
    clear hx3 hS3
    have hx4 := c4 _ hS4
    clear c4
    go_wp2_with (go_at_call 53; refine hx4.mono ?_)
    intro r w5; first | (intro he hS5 a5; subst he) | rintro ⟨rfl, hS5, a5⟩
    have hR5 := a5.at hR4 hRY
    have hQ5 := a5.at hQ4 hQY
    have a05 := a04.trans a5
    clear hx4
    obtain ⟨⟨r0, r1, r2, r3, r4⟩, g0, g1, g2, g3, g4⟩ := five_cells hR5
    obtain ⟨⟨q0, q1, q2, q3, q4⟩, f0, f1, f2, f3, f4⟩ := five_cells hQ5
    have hR7 := fill5_self (I ps) (I pa) (I po) (.bool td) (I 0) hR5
    have hS7 := hel _ _ (fill5 w5 R (I ps) (I pa) (I po) (.bool td) (I 0)) hS5 R (Nat.le_of_eq hRR) hR5 (by decide) (fun j hj => fill5_other _ _ _ _ _ _ _ j hj)
    have a7 := fill5_away a05 (Nat.le_of_eq hRR) (I ps) (I pa) (I po) (.bool td) (I 0)
    clear hel
    unfold fill5 at hR7 hS7 a7
    go_wp2
    refine bodyPost_ret (results_cell_row rfl _ _ R 80 _ (0, 0) _ rfl hR7 Tryz.underlying80 rfl Tryz.sizeHead) rfl ?_
    exact ⟨rfl, hS7, a7⟩
end
end Go.Proofs.YtgkhemnmcgicnaaGreatDoor
