/- Towards the law ParserVoices, true for every text (no condition): one part of the proof. -/
import Derived.Test.YtgkhemnmcgicnaaGreatDoorG01
import Derived.Test.YtgkhemnmcgicnaaGreatDoorG27
namespace Go.Proofs.YtgkhemnmcgicnaaGreatDoor
set_option maxHeartbeats 16000000
set_option maxRecDepth 100000
open Go.RowKit
theorem Tryz.sizeVal : (Tryz.prog.info? 26).map (·.size) = some 2 := by kernel_rfl
def YT : ByteArray := ⟨#[46]⟩
theorem WW : ∀ i (h : i < eU.length), YT.extract i (i + 1) = eU[i] := by decide
theorem LP {T : List bD} {st : aU} (h : nU T st = true) : ∃ p, st = .ok p := by
 cases st with
 | ok p => exact ⟨p, rfl⟩
 | bad e l c => cases h
theorem T4 {T : List bD} {st : aU} (h : nU T st = false) : (aW T st).kind ≠ 2 /\ isS T ⟨#[98]⟩ st = false := by
 unfold nU at h
 simp only [Bool.or_eq_false_iff, decide_eq_false_iff_not] at h
 exact h
theorem AN {T : List bD} {st : aU} (h : nU T st = true) : (aW T st).kind = 2 \/ ((aW T st).kind ≠ 2 /\ isS T ⟨#[98]⟩ st = true) := by
 unfold nU at h
 simp only [Bool.or_eq_true, decide_eq_true_eq] at h
 by_cases hk : (aW T st).kind = 2
 ·exact .inl hk
 ·rcases h with h | h
  ·exact absurd h hk
  ·exact .inr ⟨hk, h⟩
theorem LQ {T : List bD} (g : i6 T) {p : Nat} (hp : p < T.length) (h : nU T (.ok p) = true) : p + 1 < T.length := by
 refine g.more hp ?_
 rcases AN h with h | ⟨_, h⟩
 ·rw [show (T.getD p dA).kind = 2 from h]; decide
 ·rcases vQ h with h | h <;> rw [show (T.getD p dA).kind = _ from h] <;> decide
section
variable {W0 : World} {T : List bD} {X : Nat} {free : Bool} {lv iv : Value} {st : aU} {w : World}
theorem T5 (h : MS T X free lv iv st w) (B : lG W0 [X] w) : Calls Tryz.prog 29 #[.pointer (some ⟨X, 0, none⟩)] w fun r w' => r = .returned (jC (gT aD T st).1) /\ MS T X free lv iv (gT aD T st).2 w' /\ aB [X] w w' := by
 have hXl := h.lt
 have hR := qc w (.cells #[I 0, I 0] 26)
 have b0 := (qa _ w).alloc (qb _) (.cells #[I 0, I 0] 26)
 have hx1 := pR (h.step b0)
 have hx1b := fun w' (b : Below w.heap.size w w') => uP (h.step b) ⟨#[98]⟩
 have hst := fun w' (b : Below w.heap.size w w') => h.step b
 cases hp : nU T st with
 | false =>
  have e1 : gT aD T st = (((0 : Int), (0 : Int)), bF T 13 st) := by unfold gT; rw [if_neg (by rw [hp]; decide)]
  rw [e1, show jC ((0 : Int), (0 : Int)) = .agg #[I 0, I 0] from rfl]
  obtain ⟨hk, hb⟩ := T4 hp
  unfold fK at hx1
  generalize aW T st = t at hk hx1
  obtain ⟨kd, text, v, bt, lin, cl, j⟩ := t
  simp only at hk hx1
  have hfd := pN kd v lin cl text bt j
  clear e1 hp
  simp only
  have c1 := fun w' (h : MS T X free lv iv st w') => gP h 13 (by decide)
  have hel := fun (s1 : aU) (w1 w2 : World) (h1 : MS T X free lv iv s1 w1) (R : Nat) => h1.else (w' := w2) (R := R) h
  generalize bF T 13 st = s1 at c1 |-
  clear h
  go_enter Tryz.func29, Tryz.ntmps29
  go_wp2_with (go_at_call 31; refine hx1.mono ?_)
  intro r w1; first | (intro he b1; subst he) | rintro ⟨rfl, b1⟩
  have b01 := b0.trans (b1.mono b0.size)
  have hR1 := (b1.block _ (aA hR)).trans hR
  have hx1c := hx1b _ b01
  rw [hb] at hx1c
  go_wp2_with (go_at_call 27; refine hx1c.mono ?_)
  intro r w1a; first | (intro he b1a; subst he) | rintro ⟨rfl, b1a⟩
  have hR1 := (b1a.block _ (aA hR1)).trans hR1
  have b01 := b01.trans (b1a.mono b01.size)
  clear hx1c b1a b1
  have hx2 := c1 _ (hst _ b01)
  have hRl := aA hR
  clear hx1 hx1b c1 hb
  go_wp2_with (go_at_call 32; refine hx2.mono ?_)
  intro r w2; first | (intro he hS2 a2; subst he) | rintro ⟨rfl, hS2, a2⟩
  have hR2 := a2.at hR1 (by simp; omega)
  have a02 := (aB.of_below (bs := [X]) b01).trans a2
  generalize hRR : w.heap.size = R at hR hR1 hR2 hRl |-
  obtain ⟨q0, q1, f0, f1⟩ := aZ hR2
  have hR3 := cC (a := I 0) (b := I 0) hR2
  have hS3 := hel _ w2 (dL w2 R (I 0) (I 0)) hS2 R (qe hRR) (qe (iN _ _ _ _).symm) (fun j hj => cL _ _ _ _ j hj)
  have a3 := cN a02 (qe hRR) (I 0) (I 0)
  clear hel hst hR hR1 hR2 hx2 hS2
  unfold dL at hR3 hS3 a3
  go_wp2
  refine qf (qh rfl _ _ R 26 _ (0, 0) _ rfl hR3 Tryz.underlying26 rfl Tryz.sizeVal) rfl ?_
  exact ⟨rfl, hS3, a3⟩
 | true =>
  obtain ⟨p, rfl⟩ := LP hp
  have g := h.good
  have hpl := (h.atCell).2.2
  have hlt := LQ g hpl hp
  have hrl := oN g false eU hlt
  have hm := g.max
  have hcs := t7 g false eU hlt
  have c2 := fun w' (b : Below w.heap.size w w') => A4 (h.step b) hlt YT eU rfl (by decide) WW
  have c3 := fun w' (b : lG W0 [X] w') => QP _ hcs w' b.glo
  have hBs := fun w' (b : Below w.heap.size w w') => B.step b
  have hel := fun (s1 : aU) (w1 w2 : World) (h1 : MS T X free lv iv s1 w1) (R : Nat) => h1.else (w' := w2) (R := R) h
  have hwq : IntKind.i64.wrap ((p : Int) + (((gK T false eU (.ok p)).length : Int) + 1)) = ((p + ((gK T false eU (.ok p)).length + 1) : Nat) : Int) := by
   rw [IntWalk.i64_in _ (by omega)]; omega
  have hq : p + ((gK T false eU (.ok p)).length + 1) < T.length := by omega
  have hpq : p <= p + ((gK T false eU (.ok p)).length + 1) := by omega
  have eval : gT aD T (.ok p) = match aD.val (kG T false eU (.ok p)) with
    | none => ((0, 0), bF T 17 (.ok p))
    | some v => (v, .ok (p + ((gK T false eU (.ok p)).length + 1))) := by unfold gT; rw [if_pos hp]; rfl
  rw [eval]
  have hpt := LV (kG T false eU (.ok p))
  generalize kG T false eU (.ok p) = cs at c2 c3 hpt |-
  generalize (gK T false eU (.ok p)).length = m at c2 hwq hq hpq |-
  generalize yW cs = pr at c3 hpt
  obtain ⟨pv, pe⟩ := pr
  simp only [YT] at c2 hpt c3
  rcases AN hp with hk | ⟨hk, hb⟩
  ·unfold fK at hx1
   generalize hTT : aW T (.ok p) = t at hk hx1
   obtain ⟨kd, text, v, bt, lin, cl, j⟩ := t
   simp only at hk hx1
   subst hk
   have hfd := pN 2 v lin cl text bt j
   clear hTT
   rcases hpt with ⟨ho, hne⟩ | ⟨v, ho, rfl, rfl⟩
   ·have hne' : ¬ pe = 0 := hne
    clear hne
    rw [ho, show jC ((0 : Int), (0 : Int)) = .agg #[I 0, I 0] from rfl]
    simp only
    have c4 := fun w' (h : MS T X free lv iv (.ok p) w') => gP h 17 (by decide)
    generalize bF T 17 (.ok p) = s1 at c4 |-
    obtain ⟨vs, va⟩ := pv
    simp only [jC] at c3
    clear ho hp h
    go_enter Tryz.func29, Tryz.ntmps29
    go_wp2_with (go_at_call 31; refine hx1.mono ?_)
    intro r w1; first | (intro he b1; subst he) | rintro ⟨rfl, b1⟩
    have b01 := b0.trans (b1.mono b0.size)
    have hR1 := (b1.block _ (aA hR)).trans hR
    have hRl := aA hR
    have hx2 := c2 _ b01
    clear hx1 hx1b c2
    go_wp2_with (go_at_call 66; refine hx2.mono ?_)
    intro r w2; first | (intro he b2; subst he) | rintro ⟨rfl, b2⟩
    have b02 := b01.trans (b2.mono b01.size)
    have hR2 := (b2.block _ (aA hR1)).trans hR1
    have hx3 := c3 _ (hBs _ b02)
    clear hx2 c3
    go_wp2_with (go_at_call 67; refine hx3.mono ?_)
    intro r w3; first | (intro he b3; subst he) | rintro ⟨rfl, b3⟩
    have b03 := (b02.trans (b3.mono b02.size)).alloc (qv b02.size b3.size) (.cells #[I vs, I va] 26)
    have hR3 := (((qa _ w3).alloc (qb _) (.cells #[I vs, I va] 26)).block _ (qk (aA hR2) b3.size)).trans ((b3.block _ (aA hR2)).trans hR2)
    have hx4 := c4 _ (hst _ b03)
    clear hx3 c4
    go_wp2_with (go_at_call 32; refine hx4.mono ?_)
    intro r w4; first | (intro he hS4 a4; subst he) | rintro ⟨rfl, hS4, a4⟩
    have hR4 := a4.at hR3 (by simp; omega)
    have a04 := (aB.of_below (bs := [X]) b03).trans a4
    generalize hRR : w.heap.size = R at hR hR1 hR2 hR3 hR4 hRl |-
    obtain ⟨q0, q1, f0, f1⟩ := aZ hR4
    have hR5 := cC (a := I 0) (b := I 0) hR4
    have hS5 := hel _ w4 (dL w4 R (I 0) (I 0)) hS4 R (qe hRR) (qe (iN _ _ _ _).symm) (fun j hj => cL _ _ _ _ j hj)
    have a5 := cN a04 (qe hRR) (I 0) (I 0)
    clear hel hst hR hR1 hR2 hR3 hR4 hx4 hS4 hBs
    unfold dL at hR5 hS5 a5
    go_wp2
    refine qf (qh rfl _ _ R 26 _ (0, 0) _ rfl hR5 Tryz.underlying26 rfl Tryz.sizeVal) rfl ?_
    exact ⟨rfl, hS5, a5⟩
   ·rw [ho]
    simp only
    obtain ⟨vs, va⟩ := pv
    simp only [jC] at c3 |-
    clear ho hp
    generalize hQQ : p + (m + 1) = q at hwq hq hpq |-
    go_enter Tryz.func29, Tryz.ntmps29
    go_wp2_with (go_at_call 31; refine hx1.mono ?_)
    intro r w1; first | (intro he b1; subst he) | rintro ⟨rfl, b1⟩
    have b01 := b0.trans (b1.mono b0.size)
    have hR1 := (b1.block _ (aA hR)).trans hR
    have hRl := aA hR
    have hx2 := c2 _ b01
    clear hx1 hx1b c2
    go_wp2_with (go_at_call 66; refine hx2.mono ?_)
    intro r w2; first | (intro he b2; subst he) | rintro ⟨rfl, b2⟩
    have b02 := b01.trans (b2.mono b01.size)
    have hR2 := (b2.block _ (aA hR1)).trans hR1
    have hx3 := c3 _ (hBs _ b02)
    clear hx2 c3
    go_wp2_with (go_at_call 67; refine hx3.mono ?_)
    intro r w3; first | (intro he b3; subst he) | rintro ⟨rfl, b3⟩
    have b03 := b02.trans (b3.mono b02.size)
    have hR3 := (b3.block _ (aA hR2)).trans hR2
    have hS3 := hst _ b03
    obtain ⟨x1, xf1, _⟩ := hS3.atCell
    have n1 := qr w3 _ x1
    have l1 := hS3.lt
    have hS4 := hS3.jump hq hpq
    have a4 := (aB.of_below (bs := [X]) b03).setCell (p := ⟨X, 1, none⟩) (.inl (by simp)) (I (q : Nat))
    have hRX : w.heap.size ≠ X := by omega
    have hR4 : (w3.setCell ⟨X, 1, none⟩ (I (q : Nat))).heap[w.heap.size]? = _ := (qg w3 ⟨X, 1, none⟩ _ _ hRX).trans hR3
    have hRn : w.heap.size ≠ w3.heap.size := by have := aA hR3; omega
    have hwl := aA hR3
    generalize hRR : w.heap.size = R at hR hR1 hR2 hR3 hR4 hRl hRX hRn hwl |-
    obtain ⟨q0, q1, f0, f1⟩ := aZ hR3
    have hR5 := cC (a := I vs) (b := I va) hR4
    have hS5 := hel _ _ (dL (w3.setCell ⟨X, 1, none⟩ (I (q : Nat))) R (I vs) (I va)) hS4 R (qe hRR) (qe (iN _ _ _ _).symm) (fun j hj => cL _ _ _ _ j hj)
    have a5 := cN a4 (qe hRR) (I vs) (I va)
    have hS6 := hS5.step ((qa _ _).alloc (qb _) (.cells #[I vs, I va] 26))
    have a6 := a5.alloc (.cells #[I vs, I va] 26)
    have hR6 := (Lib.alloc_old _ (.cells #[I vs, I va] 26) R (aA hR5)).trans hR5
    clear hel hst hR hR1 hR2 hR3 hR4 hS3 hS4 hS5 hBs a4 a5 hR5 h
    unfold dL at hR6 hS6 a6
    go_wp2
    refine qf (qh rfl _ _ R 26 _ (0, 0) _ rfl hR6 Tryz.underlying26 rfl Tryz.sizeVal) rfl ?_
    exact ⟨rfl, hS6, a6⟩
  ·unfold fK at hx1
   generalize hTT : aW T (.ok p) = t at hk hx1
   obtain ⟨kd, text, v, bt, lin, cl, j⟩ := t
   simp only at hk hx1
   have hfd := pN kd v lin cl text bt j
   clear hTT
   rcases hpt with ⟨ho, hne⟩ | ⟨v, ho, rfl, rfl⟩
   ·have hne' : ¬ pe = 0 := hne
    clear hne
    rw [ho, show jC ((0 : Int), (0 : Int)) = .agg #[I 0, I 0] from rfl]
    simp only
    have c4 := fun w' (h : MS T X free lv iv (.ok p) w') => gP h 17 (by decide)
    generalize bF T 17 (.ok p) = s1 at c4 |-
    obtain ⟨vs, va⟩ := pv
    simp only [jC] at c3
    clear ho hp h
    go_enter Tryz.func29, Tryz.ntmps29
    go_wp2_with (go_at_call 31; refine hx1.mono ?_)
    intro r w1; first | (intro he b1; subst he) | rintro ⟨rfl, b1⟩
    have b01 := b0.trans (b1.mono b0.size)
    have hR1 := (b1.block _ (aA hR)).trans hR
    have hx1c := hx1b _ b01
    rw [hb] at hx1c
    go_wp2_with (go_at_call 27; refine hx1c.mono ?_)
    intro r w1a; first | (intro he b1a; subst he) | rintro ⟨rfl, b1a⟩
    have hR1 := (b1a.block _ (aA hR1)).trans hR1
    have b01 := b01.trans (b1a.mono b01.size)
    clear hx1c b1a b1
    have hRl := aA hR
    have hx2 := c2 _ b01
    clear hx1 hx1b c2
    go_wp2_with (go_at_call 66; refine hx2.mono ?_)
    intro r w2; first | (intro he b2; subst he) | rintro ⟨rfl, b2⟩
    have b02 := b01.trans (b2.mono b01.size)
    have hR2 := (b2.block _ (aA hR1)).trans hR1
    have hx3 := c3 _ (hBs _ b02)
    clear hx2 c3
    go_wp2_with (go_at_call 67; refine hx3.mono ?_)
    intro r w3; first | (intro he b3; subst he) | rintro ⟨rfl, b3⟩
    have b03 := (b02.trans (b3.mono b02.size)).alloc (qv b02.size b3.size) (.cells #[I vs, I va] 26)
    have hR3 := (((qa _ w3).alloc (qb _) (.cells #[I vs, I va] 26)).block _ (qk (aA hR2) b3.size)).trans ((b3.block _ (aA hR2)).trans hR2)
    have hx4 := c4 _ (hst _ b03)
    clear hx3 c4
    go_wp2_with (go_at_call 32; refine hx4.mono ?_)
    intro r w4; first | (intro he hS4 a4; subst he) | rintro ⟨rfl, hS4, a4⟩
    have hR4 := a4.at hR3 (by simp; omega)
    have a04 := (aB.of_below (bs := [X]) b03).trans a4
    generalize hRR : w.heap.size = R at hR hR1 hR2 hR3 hR4 hRl |-
    obtain ⟨q0, q1, f0, f1⟩ := aZ hR4
    have hR5 := cC (a := I 0) (b := I 0) hR4
    have hS5 := hel _ w4 (dL w4 R (I 0) (I 0)) hS4 R (qe hRR) (qe (iN _ _ _ _).symm) (fun j hj => cL _ _ _ _ j hj)
    have a5 := cN a04 (qe hRR) (I 0) (I 0)
    clear hel hst hR hR1 hR2 hR3 hR4 hx4 hS4 hBs
    unfold dL at hR5 hS5 a5
    go_wp2
    refine qf (qh rfl _ _ R 26 _ (0, 0) _ rfl hR5 Tryz.underlying26 rfl Tryz.sizeVal) rfl ?_
    exact ⟨rfl, hS5, a5⟩
   ·rw [ho]
    simp only
    obtain ⟨vs, va⟩ := pv
    simp only [jC] at c3 |-
    clear ho hp
    generalize hQQ : p + (m + 1) = q at hwq hq hpq |-
    go_enter Tryz.func29, Tryz.ntmps29
    go_wp2_with (go_at_call 31; refine hx1.mono ?_)
    intro r w1; first | (intro he b1; subst he) | rintro ⟨rfl, b1⟩
    have b01 := b0.trans (b1.mono b0.size)
    have hR1 := (b1.block _ (aA hR)).trans hR
    have hx1c := hx1b _ b01
    rw [hb] at hx1c
    go_wp2_with (go_at_call 27; refine hx1c.mono ?_)
    intro r w1a; first | (intro he b1a; subst he) | rintro ⟨rfl, b1a⟩
    have hR1 := (b1a.block _ (aA hR1)).trans hR1
    have b01 := b01.trans (b1a.mono b01.size)
    clear hx1c b1a b1
    have hRl := aA hR
    have hx2 := c2 _ b01
    clear hx1 hx1b c2
    go_wp2_with (go_at_call 66; refine hx2.mono ?_)
    intro r w2; first | (intro he b2; subst he) | rintro ⟨rfl, b2⟩
    have b02 := b01.trans (b2.mono b01.size)
    have hR2 := (b2.block _ (aA hR1)).trans hR1
    have hx3 := c3 _ (hBs _ b02)
    clear hx2 c3
    go_wp2_with (go_at_call 67; refine hx3.mono ?_)
    intro r w3; first | (intro he b3; subst he) | rintro ⟨rfl, b3⟩
    have b03 := b02.trans (b3.mono b02.size)
    have hR3 := (b3.block _ (aA hR2)).trans hR2
    have hS3 := hst _ b03
    obtain ⟨x1, xf1, _⟩ := hS3.atCell
    have n1 := qr w3 _ x1
    have l1 := hS3.lt
    have hS4 := hS3.jump hq hpq
    have a4 := (aB.of_below (bs := [X]) b03).setCell (p := ⟨X, 1, none⟩) (.inl (by simp)) (I (q : Nat))
    have hRX : w.heap.size ≠ X := by omega
    have hR4 : (w3.setCell ⟨X, 1, none⟩ (I (q : Nat))).heap[w.heap.size]? = _ := (qg w3 ⟨X, 1, none⟩ _ _ hRX).trans hR3
    have hRn : w.heap.size ≠ w3.heap.size := by have := aA hR3; omega
    have hwl := aA hR3
    generalize hRR : w.heap.size = R at hR hR1 hR2 hR3 hR4 hRl hRX hRn hwl |-
    obtain ⟨q0, q1, f0, f1⟩ := aZ hR3
    have hR5 := cC (a := I vs) (b := I va) hR4
    have hS5 := hel _ _ (dL (w3.setCell ⟨X, 1, none⟩ (I (q : Nat))) R (I vs) (I va)) hS4 R (qe hRR) (qe (iN _ _ _ _).symm) (fun j hj => cL _ _ _ _ j hj)
    have a5 := cN a4 (qe hRR) (I vs) (I va)
    have hS6 := hS5.step ((qa _ _).alloc (qb _) (.cells #[I vs, I va] 26))
    have a6 := a5.alloc (.cells #[I vs, I va] 26)
    have hR6 := (Lib.alloc_old _ (.cells #[I vs, I va] 26) R (aA hR5)).trans hR5
    clear hel hst hR hR1 hR2 hR3 hR4 hS3 hS4 hS5 hBs a4 a5 hR5 h
    unfold dL at hR6 hS6 a6
    go_wp2
    refine qf (qh rfl _ _ R 26 _ (0, 0) _ rfl hR6 Tryz.underlying26 rfl Tryz.sizeVal) rfl ?_
    exact ⟨rfl, hS6, a6⟩
end
theorem aN {w : World} {X : Nat} {c0 c1 c2 c3 c4 : Value} {T : TypeId} (h : w.heap[X]? = some (.cells #[c0, c1, c2, c3, c4] T (0, 0))) :
  (w.cell? ⟨X, 0, none⟩ = some c0 /\ w.cell? ⟨X, 1, none⟩ = some c1 /\ w.cell? ⟨X, 2, none⟩ = some c2 /\ w.cell? ⟨X, 3, none⟩ = some c3 /\ w.cell? ⟨X, 4, none⟩ = some c4) /\
  (w.frozen? ⟨X, 0, none⟩ = false /\ w.frozen? ⟨X, 1, none⟩ = false /\ w.frozen? ⟨X, 2, none⟩ = false /\ w.frozen? ⟨X, 3, none⟩ = false /\ w.frozen? ⟨X, 4, none⟩ = false) := by
 refine ⟨⟨?_, ?_, ?_, ?_, ?_⟩, Lib.frozen_of_heap h 0, Lib.frozen_of_heap h 1, Lib.frozen_of_heap h 2, Lib.frozen_of_heap h 3, Lib.frozen_of_heap h 4⟩ <;> (rw [Lib.cell_of_heap h]; rfl)
def eB (w : World) (X : Nat) (v0 v1 v2 v3 v4 : Value) : World :=
 ((((w.setCell ⟨X, 0, none⟩ v0).setCell ⟨X, 1, none⟩ v1).setCell ⟨X, 2, none⟩ v2).setCell ⟨X, 3, none⟩ v3).setCell ⟨X, 4, none⟩ v4
theorem bH (w : World) (X : Nat) (v0 v1 v2 v3 v4 : Value) (k : Nat) (hk : k ≠ X) : (eB w X v0 v1 v2 v3 v4).heap[k]? = w.heap[k]? := by
 unfold eB
 rw [qg _ ⟨X, 4, none⟩ _ k hk, qg _ ⟨X, 3, none⟩ _ k hk, qg _ ⟨X, 2, none⟩ _ k hk, qg _ ⟨X, 1, none⟩ _ k hk, qg _ ⟨X, 0, none⟩ _ k hk]
theorem cQ {w : World} {X : Nat} {c0 c1 c2 c3 c4 : Value} {T : TypeId} (v0 v1 v2 v3 v4 : Value) (h : w.heap[X]? = some (.cells #[c0, c1, c2, c3, c4] T (0, 0))) : (eB w X v0 v1 v2 v3 v4).heap[X]? = some (.cells #[v0, v1, v2, v3, v4] T (0, 0)) := by
 unfold eB
 have := Lib.heap_setCell_same (i := 4) (Lib.heap_setCell_same (i := 3) (Lib.heap_setCell_same (i := 2) (Lib.heap_setCell_same (i := 1) (Lib.heap_setCell_same (i := 0) h v0) v1) v2) v3) v4
 rw [this]; rfl
theorem cS {bs : List Nat} {a w : World} {X : Nat} (h : aB bs a w) (hX : a.heap.size <= X) (v0 v1 v2 v3 v4 : Value) : aB bs a (eB w X v0 v1 v2 v3 v4) :=
 ((((h.setCell (p := ⟨X, 0, none⟩) (.inr hX) v0).setCell (p := ⟨X, 1, none⟩) (.inr hX) v1).setCell (p := ⟨X, 2, none⟩) (.inr hX) v2).setCell (p := ⟨X, 3, none⟩) (.inr hX) v3).setCell (p := ⟨X, 4, none⟩) (.inr hX) v4
theorem lC (w : World) (X : Nat) (a b c d e : Value) : (eB w X a b c d e).heap.size = w.heap.size := by unfold eB; simp [World.setCell]
theorem aE (w : World) (R i : Nat) (v : Value) : ∀ j, j ≠ R -> (w.setCell ⟨R, i, none⟩ v).heap[j]? = w.heap[j]? := fun _j hj => qg _ _ _ _ hj
theorem eC (w : World) (R i : Nat) (v : Value) : w.heap.size <= (w.setCell ⟨R, i, none⟩ v).heap.size := by simp [World.setCell]
def xB (h : eF) : Value := .agg #[I h.p.st, I h.p.al, I h.p.oc, .bool h.tied, I h.sh]
theorem Tryz.sizeHead : (Tryz.prog.info? 80).map (·.size) = some 5 := by kernel_rfl
def dD : Obj := .cells #[I 0, I 0, I 0, .bool false, I 0] 80
section
variable {W0 : World} {T : List bD} {X : Nat} {free : Bool} {lv iv : Value} {st : aU} {w : World}
theorem HU (h : MS T X free lv iv st w) (B : lG W0 [X] w) : Calls Tryz.prog 28 #[.pointer (some ⟨X, 0, none⟩)] w fun r w' => r = .returned (xB (bJ aD T st).1) /\ MS T X free lv iv (bJ aD T st).2 w' /\ aB [X] w w' := by
 have hXl := h.lt
 have hR := qc w (.cells #[I 0, I 0, I 0, .bool false, I 0] 80)
 have b0 := (qa _ w).alloc (qb _) (.cells #[I 0, I 0, I 0, .bool false, I 0] 80)
 have hRl := aA hR
 have hx1 := LM (h.step b0) (B.step b0)
 have hel := fun (s1 : aU) (w1 w2 : World) (h1 : MS T X free lv iv s1 w1) (R : Nat) => h1.else (w' := w2) (R := R) h
 have hh : bJ aD T st = if isS T ⟨#[33]⟩ (aS T ⟨#[126]⟩ (aT aD T st).2) = true then (⟨(aT aD T st).1, isS T ⟨#[126]⟩ (aT aD T st).2, 1⟩, aS T ⟨#[33]⟩ (aS T ⟨#[126]⟩ (aT aD T st).2))
   else if isS T ⟨#[63]⟩ (aS T ⟨#[126]⟩ (aT aD T st).2) = true then (⟨(aT aD T st).1, isS T ⟨#[126]⟩ (aT aD T st).2, 2⟩, aS T ⟨#[63]⟩ (aS T ⟨#[126]⟩ (aT aD T st).2))
   else (⟨(aT aD T st).1, isS T ⟨#[126]⟩ (aT aD T st).2, 0⟩, aS T ⟨#[126]⟩ (aT aD T st).2) := by
  unfold bJ
  simp only
  split
  ·rename_i h1; rw [show aS T ⟨#[33]⟩ (aS T ⟨#[126]⟩ (aT aD T st).2) = (aS T ⟨#[126]⟩ (aT aD T st).2).next 1 from if_pos h1]
  ·split
   ·rename_i h1; rw [show aS T ⟨#[63]⟩ (aS T ⟨#[126]⟩ (aT aD T st).2) = (aS T ⟨#[126]⟩ (aT aD T st).2).next 1 from if_pos h1]
   ·rfl
 rw [hh]
 clear hh
 generalize aT aD T st = q1 at hx1 |-
 obtain ⟨⟨ps, pa, po⟩, s1⟩ := q1
 simp only [rK] at hx1 |-
 have c2 := fun w' (h : MS T X free lv iv s1 w') => eD h ⟨#[126]⟩
 generalize aS T ⟨#[126]⟩ s1 = s2 at c2 |-
 generalize isS T ⟨#[126]⟩ s1 = td at c2 |-
 have c3 := fun w' (h : MS T X free lv iv s2 w') => eD h ⟨#[33]⟩
 have c4 := fun w' (h : MS T X free lv iv s2 w') => eD h ⟨#[63]⟩
 have e3 : isS T ⟨#[33]⟩ s2 = false -> aS T ⟨#[33]⟩ s2 = s2 := fun h => if_neg (by rw [h]; decide)
 have e4 : isS T ⟨#[63]⟩ s2 = false -> aS T ⟨#[63]⟩ s2 = s2 := fun h => if_neg (by rw [h]; decide)
 generalize aS T ⟨#[33]⟩ s2 = s3 at c3 e3 |-
 generalize aS T ⟨#[63]⟩ s2 = s4 at c4 e4 |-
 generalize isS T ⟨#[33]⟩ s2 = b3 at c3 e3 |-
 generalize isS T ⟨#[63]⟩ s2 = b4 at c4 e4 |-
 cases b3 with
 | true =>
  rw [if_pos rfl]
  simp only [xB]
  go_enter Tryz.func28, Tryz.ntmps28
  go_wp2_with (go_at_call 65; refine hx1.mono ?_)
  intro r w1; first | (intro he hS1 a1; subst he) | rintro ⟨rfl, hS1, a1⟩
  have hR1 := a1.at hR (by simp; omega)
  have a01 := (aB.of_below (bs := [X]) b0).trans a1
  have bq := (qa _ w1).alloc (qb _) (.cells #[I ps, I pa, I po, .bool false, I 0] 80)
  have hQ1 := qc w1 (.cells #[I ps, I pa, I po, .bool false, I 0] 80)
  have hR1' := (bq.block _ (aA hR1)).trans hR1
  have hx2 := c2 _ (hS1.step bq)
  have hw1 := a01.size
  have hs1 := a1.size
  clear hx1 c2
  go_wp2_with (go_at_call 24; refine hx2.mono ?_)
  intro r w2; first | (intro he hS2 a2; subst he) | rintro ⟨rfl, hS2, a2⟩
  have hR2 := a2.at hR1' (by simp; omega)
  have hQ2 := a2.at hQ1 (by simp; omega)
  have a02 := (a01.trans (aB.of_below bq)).trans a2
  generalize hQQ : w1.heap.size = Q at hQ1 hQ2 hw1 hs1 |-
  generalize hRR : w.heap.size = R at hR hR1 hR1' hR2 hRl hw1 hs1 |-
  have hQR : Q ≠ R := by omega
  obtain ⟨⟨q0, q1, q2, q3, q4⟩, f0, f1, f2, f3, f4⟩ := aN hQ2
  have hS3 := hel _ w2 (w2.setCell ⟨Q, 3, none⟩ (.bool td)) hS2 Q (by omega) (eC _ _ _ _) (aE _ _ _ _)
  have hQ3 : (w2.setCell ⟨Q, 3, none⟩ (.bool td)).heap[Q]? = _ := Lib.heap_setCell_same hQ2 _
  have hR3 : (w2.setCell ⟨Q, 3, none⟩ (.bool td)).heap[R]? = _ := (aE w2 Q 3 (.bool td) R hQR.symm).trans hR2
  have a03 := a02.setCell (p := ⟨Q, 3, none⟩) (.inr (by show w.heap.size <= Q; omega)) (.bool td)
  have hx3 := c3 _ hS3
  clear hx2 c3
  go_wp2_with (go_at_call 24; refine hx3.mono ?_)
  intro r w4; first | (intro he hS4 a4; subst he) | rintro ⟨rfl, hS4, a4⟩
  have hR4 := a4.at hR3 (by simp; omega)
  have hQ4 := a4.at hQ3 (by simp; omega)
  have a04 := a03.trans a4
  clear hx3 hS3
  have hQ6 : (w4.setCell ⟨Q, 4, none⟩ (I 1)).heap[Q]? = _ := Lib.heap_setCell_same hQ4 _
  have hR6 : (w4.setCell ⟨Q, 4, none⟩ (I 1)).heap[R]? = _ := (aE w4 Q 4 (I 1) R hQR.symm).trans hR4
  have hS6 := hel _ w4 (w4.setCell ⟨Q, 4, none⟩ (I 1)) hS4 Q (by omega) (eC _ _ _ _) (aE _ _ _ _)
  have a06 := a04.setCell (p := ⟨Q, 4, none⟩) (.inr (by show w.heap.size <= Q; omega)) (I 1)
  obtain ⟨⟨r0, r1, r2, r3, r4⟩, g0, g1, g2, g3, g4⟩ := aN hR4
  obtain ⟨⟨q0, q1, q2, q3, q4⟩, f0, f1, f2, f3, f4⟩ := aN hQ4
  have hR7 := cQ (I ps) (I pa) (I po) (.bool td) (I 1) hR6
  have hS7 := hel _ _ (eB (w4.setCell ⟨Q, 4, none⟩ (I 1)) R (I ps) (I pa) (I po) (.bool td) (I 1)) hS6 R (qe hRR) (qe (lC _ _ _ _ _ _ _).symm) (fun j hj => bH _ _ _ _ _ _ _ j hj)
  have a7 := cS a06 (qe hRR) (I ps) (I pa) (I po) (.bool td) (I 1)
  clear hel
  unfold eB at hR7 hS7 a7
  go_wp2
  refine qf (qh rfl _ _ R 80 _ (0, 0) _ rfl hR7 Tryz.underlying80 rfl Tryz.sizeHead) rfl ?_
  exact ⟨rfl, hS7, a7⟩
 | false =>
  rw [if_neg (by decide)]
  obtain rfl := e3 rfl
  cases b4 with
  | true =>
   rw [if_pos rfl]
   simp only [xB]
   go_enter Tryz.func28, Tryz.ntmps28
   go_wp2_with (go_at_call 65; refine hx1.mono ?_)
   intro r w1; first | (intro he hS1 a1; subst he) | rintro ⟨rfl, hS1, a1⟩
   have hR1 := a1.at hR (by simp; omega)
   have a01 := (aB.of_below (bs := [X]) b0).trans a1
   have bq := (qa _ w1).alloc (qb _) (.cells #[I ps, I pa, I po, .bool false, I 0] 80)
   have hQ1 := qc w1 (.cells #[I ps, I pa, I po, .bool false, I 0] 80)
   have hR1' := (bq.block _ (aA hR1)).trans hR1
   have hx2 := c2 _ (hS1.step bq)
   have hw1 := a01.size
   have hs1 := a1.size
   clear hx1 c2
   go_wp2_with (go_at_call 24; refine hx2.mono ?_)
   intro r w2; first | (intro he hS2 a2; subst he) | rintro ⟨rfl, hS2, a2⟩
   have hR2 := a2.at hR1' (by simp; omega)
   have hQ2 := a2.at hQ1 (by simp; omega)
   have a02 := (a01.trans (aB.of_below bq)).trans a2
   generalize hQQ : w1.heap.size = Q at hQ1 hQ2 hw1 hs1 |-
   generalize hRR : w.heap.size = R at hR hR1 hR1' hR2 hRl hw1 hs1 |-
   have hQR : Q ≠ R := by omega
   obtain ⟨⟨q0, q1, q2, q3, q4⟩, f0, f1, f2, f3, f4⟩ := aN hQ2
   have hS3 := hel _ w2 (w2.setCell ⟨Q, 3, none⟩ (.bool td)) hS2 Q (by omega) (eC _ _ _ _) (aE _ _ _ _)
   have hQ3 : (w2.setCell ⟨Q, 3, none⟩ (.bool td)).heap[Q]? = _ := Lib.heap_setCell_same hQ2 _
   have hR3 : (w2.setCell ⟨Q, 3, none⟩ (.bool td)).heap[R]? = _ := (aE w2 Q 3 (.bool td) R hQR.symm).trans hR2
   have a03 := a02.setCell (p := ⟨Q, 3, none⟩) (.inr (by show w.heap.size <= Q; omega)) (.bool td)
   have hx3 := c3 _ hS3
   clear hx2 c3
   go_wp2_with (go_at_call 24; refine hx3.mono ?_)
   intro r w4; first | (intro he hS4 a4; subst he) | rintro ⟨rfl, hS4, a4⟩
   have hR4 := a4.at hR3 (by simp; omega)
   have hQ4 := a4.at hQ3 (by simp; omega)
   have a04 := a03.trans a4
   clear hx3 hS3
   have hx4 := c4 _ hS4
   clear c4
   go_wp2_with (go_at_call 24; refine hx4.mono ?_)
   intro r w5; first | (intro he hS5 a5; subst he) | rintro ⟨rfl, hS5, a5⟩
   have hR5 := a5.at hR4 (by simp; omega)
   have hQ5 := a5.at hQ4 (by simp; omega)
   have a05 := a04.trans a5
   clear hx4
   have hQ6 : (w5.setCell ⟨Q, 4, none⟩ (I 2)).heap[Q]? = _ := Lib.heap_setCell_same hQ5 _
   have hR6 : (w5.setCell ⟨Q, 4, none⟩ (I 2)).heap[R]? = _ := (aE w5 Q 4 (I 2) R hQR.symm).trans hR5
   have hS6 := hel _ w5 (w5.setCell ⟨Q, 4, none⟩ (I 2)) hS5 Q (by omega) (eC _ _ _ _) (aE _ _ _ _)
   have a06 := a05.setCell (p := ⟨Q, 4, none⟩) (.inr (by show w.heap.size <= Q; omega)) (I 2)
   obtain ⟨⟨r0, r1, r2, r3, r4⟩, g0, g1, g2, g3, g4⟩ := aN hR5
   obtain ⟨⟨q0, q1, q2, q3, q4⟩, f0, f1, f2, f3, f4⟩ := aN hQ5
   have hR7 := cQ (I ps) (I pa) (I po) (.bool td) (I 2) hR6
   have hS7 := hel _ _ (eB (w5.setCell ⟨Q, 4, none⟩ (I 2)) R (I ps) (I pa) (I po) (.bool td) (I 2)) hS6 R (qe hRR) (qe (lC _ _ _ _ _ _ _).symm) (fun j hj => bH _ _ _ _ _ _ _ j hj)
   have a7 := cS a06 (qe hRR) (I ps) (I pa) (I po) (.bool td) (I 2)
   clear hel
   unfold eB at hR7 hS7 a7
   go_wp2
   refine qf (qh rfl _ _ R 80 _ (0, 0) _ rfl hR7 Tryz.underlying80 rfl Tryz.sizeHead) rfl ?_
   exact ⟨rfl, hS7, a7⟩
  | false =>
   rw [if_neg (by decide)]
   obtain rfl := e4 rfl
   simp only [xB]
   go_enter Tryz.func28, Tryz.ntmps28
   go_wp2_with (go_at_call 65; refine hx1.mono ?_)
   intro r w1; first | (intro he hS1 a1; subst he) | rintro ⟨rfl, hS1, a1⟩
   have hR1 := a1.at hR (by simp; omega)
   have a01 := (aB.of_below (bs := [X]) b0).trans a1
   have bq := (qa _ w1).alloc (qb _) (.cells #[I ps, I pa, I po, .bool false, I 0] 80)
   have hQ1 := qc w1 (.cells #[I ps, I pa, I po, .bool false, I 0] 80)
   have hR1' := (bq.block _ (aA hR1)).trans hR1
   have hx2 := c2 _ (hS1.step bq)
   have hw1 := a01.size
   have hs1 := a1.size
   clear hx1 c2
   go_wp2_with (go_at_call 24; refine hx2.mono ?_)
   intro r w2; first | (intro he hS2 a2; subst he) | rintro ⟨rfl, hS2, a2⟩
   have hR2 := a2.at hR1' (by simp; omega)
   have hQ2 := a2.at hQ1 (by simp; omega)
   have a02 := (a01.trans (aB.of_below bq)).trans a2
   generalize hQQ : w1.heap.size = Q at hQ1 hQ2 hw1 hs1 |-
   generalize hRR : w.heap.size = R at hR hR1 hR1' hR2 hRl hw1 hs1 |-
   have hQR : Q ≠ R := by omega
   obtain ⟨⟨q0, q1, q2, q3, q4⟩, f0, f1, f2, f3, f4⟩ := aN hQ2
   have hS3 := hel _ w2 (w2.setCell ⟨Q, 3, none⟩ (.bool td)) hS2 Q (by omega) (eC _ _ _ _) (aE _ _ _ _)
   have hQ3 : (w2.setCell ⟨Q, 3, none⟩ (.bool td)).heap[Q]? = _ := Lib.heap_setCell_same hQ2 _
   have hR3 : (w2.setCell ⟨Q, 3, none⟩ (.bool td)).heap[R]? = _ := (aE w2 Q 3 (.bool td) R hQR.symm).trans hR2
   have a03 := a02.setCell (p := ⟨Q, 3, none⟩) (.inr (by show w.heap.size <= Q; omega)) (.bool td)
   have hx3 := c3 _ hS3
   clear hx2 c3
   go_wp2_with (go_at_call 24; refine hx3.mono ?_)
   intro r w4; first | (intro he hS4 a4; subst he) | rintro ⟨rfl, hS4, a4⟩
   have hR4 := a4.at hR3 (by simp; omega)
   have hQ4 := a4.at hQ3 (by simp; omega)
   have a04 := a03.trans a4
   clear hx3 hS3
   have hx4 := c4 _ hS4
   clear c4
   go_wp2_with (go_at_call 24; refine hx4.mono ?_)
   intro r w5; first | (intro he hS5 a5; subst he) | rintro ⟨rfl, hS5, a5⟩
   have hR5 := a5.at hR4 (by simp; omega)
   have hQ5 := a5.at hQ4 (by simp; omega)
   have a05 := a04.trans a5
   clear hx4
   obtain ⟨⟨r0, r1, r2, r3, r4⟩, g0, g1, g2, g3, g4⟩ := aN hR5
   obtain ⟨⟨q0, q1, q2, q3, q4⟩, f0, f1, f2, f3, f4⟩ := aN hQ5
   have hR7 := cQ (I ps) (I pa) (I po) (.bool td) (I 0) hR5
   have hS7 := hel _ _ (eB w5 R (I ps) (I pa) (I po) (.bool td) (I 0)) hS5 R (qe hRR) (qe (lC _ _ _ _ _ _ _).symm) (fun j hj => bH _ _ _ _ _ _ _ j hj)
   have a7 := cS a05 (qe hRR) (I ps) (I pa) (I po) (.bool td) (I 0)
   clear hel
   unfold eB at hR7 hS7 a7
   go_wp2
   refine qf (qh rfl _ _ R 80 _ (0, 0) _ rfl hR7 Tryz.underlying80 rfl Tryz.sizeHead) rfl ?_
   exact ⟨rfl, hS7, a7⟩
end
end Go.Proofs.YtgkhemnmcgicnaaGreatDoor
