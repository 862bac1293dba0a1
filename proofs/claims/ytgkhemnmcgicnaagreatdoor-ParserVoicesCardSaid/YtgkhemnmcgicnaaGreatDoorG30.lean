/- Towards the law ParserVoices, true for every text (no condition): one part of the proof. -/
import Derived.Test.YtgkhemnmcgicnaaGreatDoorG01
import Derived.Test.YtgkhemnmcgicnaaGreatDoorG29
import Derived.Deep.Cut
import Derived.Deep.CutRange
namespace Go.Proofs.YtgkhemnmcgicnaaGreatDoor
set_option maxHeartbeats 16000000
set_option maxRecDepth 100000
open Go.RowKit
section
variable {W0 : World} {T : List bD} {Y M KK : Nat} {free : Bool} {st : aU} {w : World}
theorem UG (s : ByteArray) (hs : s.size <= 281474976710656) (g : FR w) : Calls Tryz.prog 104 #[.string s] w fun r w' => (∃ b, r = .returned (.tuple #[jC (yW s).1, .bool b]) /\ (b = true ↔ (yW s).2 = 0)) /\ Below w.heap.size w w' := by
 have hR := qc w (.cells #[I 0, I 0] 26)
 have b0 := (qa _ w).alloc (qb _) (.cells #[I 0, I 0] 26)
 have hc := QP s hs _ (g.stay b0)
 generalize yW s = pr at hc |-
 obtain ⟨pv, pe⟩ := pr
 obtain ⟨vs, va⟩ := pv
 simp only [jC] at hc |-
 clear g
 by_cases he : pe = 0
 ·subst he
  go_enter Tryz.func104, Tryz.ntmps104
  go_wp2_with (go_at_call 67; refine hc.mono ?_)
  intro r w1; first | (intro he1 b1; subst he1) | rintro ⟨rfl, b1⟩
  have hR1 := (b1.block _ (by first | exact aA hR | simpa using aA hR)).trans hR
  have b01 := b0.trans (b1.mono (by first | exact b0.size | simpa using b0.size))
  have hRl := aA hR1
  have hRn : w.heap.size ≠ w1.heap.size := by omega
  generalize hRR : w.heap.size = R at hR hR1 hRl hRn |-
  obtain ⟨q0, q1, f0, f1⟩ := aZ hR1
  have hR5 := cC (a := I vs) (b := I va) hR1
  have b5 := AQ b01 (qe hRR) (I vs) (I va)
  have hR6 := (Lib.alloc_old _ (.cells #[I vs, I va] 26) R (aA hR5)).trans hR5
  have b6 := b5.alloc b5.size (.cells #[I vs, I va] 26)
  clear hR hR1 hc b01 hR5 b5
  unfold dL at hR6 b6
  go_wp2
  exact qf (lN rfl _ _ R 26 _ (0, 0) _ rfl hR6 Tryz.underlying26 rfl Tryz.sizeVal) rfl ⟨⟨true, rfl, by simp⟩, b6⟩
 ·go_enter Tryz.func104, Tryz.ntmps104
  go_wp2_with (go_at_call 67; refine hc.mono ?_)
  intro r w1; first | (intro he1 b1; subst he1) | rintro ⟨rfl, b1⟩
  have hR1 := (b1.block _ (by first | exact aA hR | simpa using aA hR)).trans hR
  have b01 := b0.trans (b1.mono (by first | exact b0.size | simpa using b0.size))
  have hRl := aA hR1
  have hRn : w.heap.size ≠ w1.heap.size := by omega
  generalize hRR : w.heap.size = R at hR hR1 hRl hRn |-
  obtain ⟨q0, q1, f0, f1⟩ := aZ hR1
  have hR5 := cC (a := I vs) (b := I va) hR1
  have b5 := AQ b01 (qe hRR) (I vs) (I va)
  have hR6 := (Lib.alloc_old _ (.cells #[I vs, I va] 26) R (aA hR5)).trans hR5
  have b6 := b5.alloc b5.size (.cells #[I vs, I va] 26)
  clear hR hR1 hc b01 hR5 b5
  unfold dL at hR6 b6
  go_wp2
  exact qf (lN rfl _ _ R 26 _ (0, 0) _ rfl hR6 Tryz.underlying26 rfl Tryz.sizeVal) rfl ⟨⟨false, by first | rfl | simp [he], by simp [he]⟩, b6⟩
theorem EE (h : PS T Y M free st w) (B : lG W0 [Y, M] w) (hK : gM KK eU w) {b : Bool} (hb : nU T st = b) :
  Calls Tryz.prog 103 #[.pointer (some ⟨Y, 0, none⟩), .bool b, I 17, .func (.func 104) #[] #[], .bool false, .slice (some ⟨KK, 0, none⟩) 1 1] w fun r w' =>
   r = .returned (jC (gT aD T st).1) /\ PS T Y M free (gT aD T st).2 w' /\ aB [Y, M] w w' := by
 have hYl := h.lt
 have hMl := h.ltM
 have hR := (Lib.alloc_old (w.alloc (.cells #[I 0, I 0] 26)) (.cells #[I 0, I 0] 26) w.heap.size (aA (qc w _))).trans (qc w (.cells #[I 0, I 0] 26))
 have hZ := qc (w.alloc (.cells #[I 0, I 0] 26)) (.cells #[I 0, I 0] 26)
 have b0 := ((qa _ w).alloc (qb _) (.cells #[I 0, I 0] 26)).alloc (by simp) (.cells #[I 0, I 0] 26)
 have hel := fun (s1 : aU) (w1 w2 : World) (h1 : PS T Y M free s1 w1) (R : Nat) => h1.else (w' := w2) (R := R) h
 have hRl := aA hR
 rw [World.size_alloc] at hZ
 cases b with
 | false =>
  have e1 : gT aD T st = (((0 : Int), (0 : Int)), bF T 13 st) := if_neg (by rw [hb]; decide)
  rw [e1]
  simp only [jC]
  have hx2 := kV (h.step b0) 13 (by decide)
  generalize bF T 13 st = s1 at hx2 |-
  clear e1 hb h
  go_enter Tryz.func103, Tryz.ntmps103
  go_wp2_with (go_at_call 63; refine hx2.mono ?_)
  intro r w2; first | (intro he hS2 a2; subst he) | rintro ⟨rfl, hS2, a2⟩
  have hR2 := a2.at hR (by simp; omega)
  have hZ2 := a2.at hZ (by simp; omega)
  have a02 := (aB.of_below (bs := [Y, M]) b0).trans a2
  generalize hRR : w.heap.size = R at hR hZ hZ2 hR2 hRl |-
  obtain ⟨q0, q1, f0, f1⟩ := aZ hR2
  obtain ⟨z0, z1, zf0, zf1⟩ := aZ hZ2
  have hR3 := cC (a := I 0) (b := I 0) hR2
  have hS3 := hel _ w2 (dL w2 R (I 0) (I 0)) hS2 R (qe hRR) hR2 (by decide) (fun j hj => cL _ _ _ _ j hj)
  have a3 := cN a02 (qe hRR) (I 0) (I 0)
  clear hel hR hR2 hx2 hS2 hZ hZ2
  unfold dL at hR3 hS3 a3
  go_wp2
  refine qf (qh rfl _ _ R 26 _ (0, 0) _ rfl hR3 Tryz.underlying26 rfl Tryz.sizeVal) rfl ?_
  exact ⟨rfl, hS3, a3⟩
 | true =>
  obtain ⟨p, rfl⟩ := LP hb
  have g := h.good
  have hpl := h.atCell.2.2
  have hlt := LQ g hpl hb
  have hrl := oN g false eU hlt
  have hm := g.max
  have hcs := t7 g false eU hlt
  have c2 := fun w' (h : PS T Y M free (.ok p) w') (hk : gM KK eU w') => DF h hlt false eU (by decide) hk
  have c3 := fun w' (b : lG W0 [Y, M] w') => UG (w := w') _ hcs b.glo
  have hst := fun w' (b : Below w.heap.size w w') => h.step b
  have hwq : IntKind.i64.wrap ((p : Int) + (((gK T false eU (.ok p)).length : Int) + 1)) = ((p + ((gK T false eU (.ok p)).length + 1) : Nat) : Int) := by
   rw [IntWalk.i64_in _ (by omega)]; omega
  have hq : p + ((gK T false eU (.ok p)).length + 1) < T.length := by omega
  have hBs := fun w' (b : Below w.heap.size w w') => B.step b
  have hKs := fun w' (b : Below w.heap.size w w') => hK.step b
  have epit : gT aD T (.ok p) = match aD.val (kG T false eU (.ok p)) with
    | none => (((0 : Int), (0 : Int)), bF T 17 (.ok p))
    | some v => (v, .ok (p + ((gK T false eU (.ok p)).length + 1))) := by unfold gT; rw [if_pos hb]; rfl
  rw [epit]
  have hpt := LV (kG T false eU (.ok p))
  generalize kG T false eU (.ok p) = cs at c2 c3 hpt |-
  generalize (gK T false eU (.ok p)).length = m at c2 hwq hq |-
  generalize yW cs = pr at c3 hpt
  obtain ⟨pv, pe⟩ := pr
  obtain ⟨vs, va⟩ := pv
  simp only [jC] at c3 |-
  simp only [eU, qj, qqi, Nat.zero_add] at c2
  rcases hpt with ⟨ho, hne⟩ | ⟨v, ho, rfl, hpe⟩
  ·have hne' : ¬ pe = 0 := hne
   clear hne
   rw [ho]
   simp only
   have c4 := fun w' (h : PS T Y M free (.ok p) w') => kV h 17 (by decide)
   generalize bF T 17 (.ok p) = s1 at c4 |-
   clear ho hb h
   go_enter Tryz.func103, Tryz.ntmps103
   have hx2 := c2 _ (hst _ b0) (hKs _ b0)
   clear c2
   go_wp2_with (go_at_call 144; refine hx2.mono ?_)
   intro r w1; first | (intro he b1; subst he) | rintro ⟨rfl, b1⟩
   have b01 := b0.trans (b1.mono (by first | exact b0.size | simpa using b0.size))
   have hR1 := (b1.block _ (by first | exact aA hR | simpa using aA hR)).trans hR
   have hZ1 := (b1.block _ (by first | exact aA hZ | simpa using aA hZ)).trans hZ
   have hx3 := c3 _ (hBs _ b01)
   clear hx2 c3
   go_wp2_with (go_at_call 104; refine hx3.mono ?_)
   rintro r w3 ⟨⟨bk, rfl, hbk⟩, b3⟩
   have hbf : bk = false := by
    cases bk with
    | false => rfl
    | true => exact absurd (hbk.1 rfl) hne'
   subst hbf
   have b03 := (b01.trans (b3.mono b01.size)).alloc (qv b01.size b3.size) (.cells #[I vs, I va] 26)
   have bt3 := (qa _ w3).alloc (qb _) (.cells #[I vs, I va] 26)
   have hR3 := (bt3.block _ (qk (aA hR1) b3.size)).trans ((b3.block _ (aA hR1)).trans hR1)
   have hZ3 := (bt3.block _ (qk (aA hZ1) b3.size)).trans ((b3.block _ (aA hZ1)).trans hZ1)
   have hx4 := c4 _ (hst _ b03)
   clear hx3 c4 hbk
   go_wp2_with (go_at_call 63; refine hx4.mono ?_)
   intro r w4; first | (intro he hS4 a4; subst he) | rintro ⟨rfl, hS4, a4⟩
   have hR4 := a4.at hR3 (by simp; omega)
   have hZ4 := a4.at hZ3 (by simp; omega)
   have a04 := (aB.of_below (bs := [Y, M]) b03).trans a4
   generalize hRR : w.heap.size = R at hR hR1 hR3 hR4 hZ hZ1 hZ3 hZ4 hRl |-
   obtain ⟨q0, q1, f0, f1⟩ := aZ hR4
   obtain ⟨z0, z1, zf0, zf1⟩ := aZ hZ4
   have hR5 := cC (a := I 0) (b := I 0) hR4
   have hS5 := hel _ w4 (dL w4 R (I 0) (I 0)) hS4 R (qe hRR) hR4 (by decide) (fun j hj => cL _ _ _ _ j hj)
   have a5 := cN a04 (qe hRR) (I 0) (I 0)
   clear hel hst hR hR1 hR3 hR4 hx4 hS4 hBs hKs hZ hZ1 hZ3 hZ4
   unfold dL at hR5 hS5 a5
   go_wp2
   refine qf (qh rfl _ _ R 26 _ (0, 0) _ rfl hR5 Tryz.underlying26 rfl Tryz.sizeVal) rfl ?_
   exact ⟨rfl, hS5, a5⟩
  ·rw [ho]
   simp only
   clear ho hb
   generalize hQQ : p + (m + 1) = q at hwq hq |-
   go_enter Tryz.func103, Tryz.ntmps103
   have hx2 := c2 _ (hst _ b0) (hKs _ b0)
   clear c2
   go_wp2_with (go_at_call 144; refine hx2.mono ?_)
   intro r w1; first | (intro he b1; subst he) | rintro ⟨rfl, b1⟩
   have b01 := b0.trans (b1.mono (by first | exact b0.size | simpa using b0.size))
   have hR1 := (b1.block _ (by first | exact aA hR | simpa using aA hR)).trans hR
   have hx3 := c3 _ (hBs _ b01)
   clear hx2 c3
   go_wp2_with (go_at_call 104; refine hx3.mono ?_)
   rintro r w3 ⟨⟨bk, rfl, hbk⟩, b3⟩
   obtain rfl : bk = true := hbk.2 hpe
   have b03 := b01.trans (b3.mono b01.size)
   have hR3 := (b3.block _ (aA hR1)).trans hR1
   have hS3 := hst _ b03
   obtain ⟨x1, xf1, _⟩ := hS3.atCell
   have n1 := qr w3 _ x1
   have l1 := hS3.lt
   have hS4 := hS3.jump hq
   have a4 := (aB.of_below (bs := [Y, M]) b03).setCell (p := ⟨Y, 1, none⟩) (.inl (by simp)) (I (q : Nat))
   have hRX : w.heap.size ≠ Y := by omega
   have hR4 : (w3.setCell ⟨Y, 1, none⟩ (I (q : Nat))).heap[w.heap.size]? = _ := (qg w3 ⟨Y, 1, none⟩ _ _ hRX).trans hR3
   have hRn : w.heap.size ≠ w3.heap.size := by have := aA hR3; omega
   have hwl := aA hR3
   generalize hRR : w.heap.size = R at hR hR1 hR3 hR4 hRl hRX hRn hwl hZ |-
   obtain ⟨q0, q1, f0, f1⟩ := aZ hR3
   have hR5 := cC (a := I vs) (b := I va) hR4
   have hS5 := hel _ _ (dL (w3.setCell ⟨Y, 1, none⟩ (I (q : Nat))) R (I vs) (I va)) hS4 R (qe hRR) hR4 (by decide) (fun j hj => cL _ _ _ _ j hj)
   have a5 := cN a4 (qe hRR) (I vs) (I va)
   have hS6 := hS5.step ((qa _ _).alloc (qb _) (.cells #[I vs, I va] 26))
   have a6 := a5.alloc (.cells #[I vs, I va] 26)
   have hR6 := (Lib.alloc_old _ (.cells #[I vs, I va] 26) R (aA hR5)).trans hR5
   clear hel hst hR hR1 hR3 hR4 hS3 hS4 hS5 hBs hKs a4 a5 hR5 h hZ hbk
   unfold dL at hR6 hS6 a6
   go_wp2
   refine qf (qh rfl _ _ R 26 _ (0, 0) _ rfl hR6 Tryz.underlying26 rfl Tryz.sizeVal) rfl ?_
   exact ⟨rfl, hS6, a6⟩
end
section
variable {W0 : World} {T : List bD} {Y M : Nat} {free : Bool} {st : aU} {w : World}
theorem QS (h : PS T Y M free st w) (B : lG W0 [Y, M] w) : Calls Tryz.prog 102 #[.pointer (some ⟨Y, 0, none⟩)] w fun r w' => r = .returned (rK (aT aD T st).1) /\ PS T Y M free (aT aD T st).2 w' /\ aB [Y, M] w w' := by
 have hYl := h.lt
 have hMl := h.ltM
 have hR := qc w (.cells #[I 0, I 0, I 0] 75)
 have hRl := aA hR
 have b0 := (qa _ w).alloc (qb _) (.cells #[I 0, I 0, I 0] 75)
 have hx1 := FD (h.step b0)
 obtain ⟨b, hb⟩ : ∃ b, fG T st = b := ⟨_, rfl⟩
 have c2 := fun w' K (bw : Below w.heap.size w w') (hK : gM K dP w') => ED (h.step bw) (B.step bw) hK hb
 rw [hb] at hx1
 have hel := fun (s1 : aU) (w1 w2 : World) (h1 : PS T Y M free s1 w1) (R : Nat) => h1.else (w' := w2) (R := R) h
 generalize aT aD T st = q at c2 |-
 obtain ⟨⟨vs, va, vo⟩, s1⟩ := q
 simp only [rK] at c2 |-
 clear h hb
 go_enter Tryz.func102, Tryz.ntmps102
 go_wp2_with (go_at_call 116; refine hx1.mono ?_)
 intro r w1; first | (intro he b1; subst he) | rintro ⟨rfl, b1⟩
 have b01 := b0.trans (b1.mono b0.size)
 have hR1 := (b1.block _ (aA hR)).trans hR
 have bK := b01.alloc b01.size (.cells #[.string ⟨#[35]⟩, .string ⟨#[45]⟩] 9)
 have hK : gM w1.heap.size dP (w1.alloc (.cells #[.string ⟨#[35]⟩, .string ⟨#[45]⟩] 9)) := qc w1 _
 have hR1' := (((qa _ w1).alloc (qb _) (.cells #[.string ⟨#[35]⟩, .string ⟨#[45]⟩] 9)).block _ (aA hR1)).trans hR1
 have hx2 := c2 _ _ bK hK
 clear hx1 c2 hK
 go_wp2_with (go_at_call 142; refine hx2.mono ?_)
 intro r w2; first | (intro he hS2 a2; subst he) | rintro ⟨rfl, hS2, a2⟩
 have hR2 := a2.at hR1' (by simp; omega)
 have a02 := (aB.of_below (bs := [Y, M]) bK).trans a2
 generalize hRR : w.heap.size = R at hR hR1 hR1' hR2 hRl |-
 obtain ⟨q0, q1, q2, f0, f1, f2⟩ := dH hR2
 have hR3 := eE (a := I vs) (b := I va) (c := I vo) hR2
 have hS3 := hel _ w2 (eJ w2 R (I vs) (I va) (I vo)) hS2 R (qe hRR) hR2 (by decide) (fun j hj => dS _ _ _ _ _ j hj)
 have a3 := fY a02 (qe hRR) (I vs) (I va) (I vo)
 clear hel hR hR1 hR1' hR2 hx2 hS2
 unfold eJ at hR3 hS3 a3
 go_wp2
 refine qf (qh rfl _ _ R 75 _ (0, 0) _ rfl hR3 Tryz.underlying75 rfl Tryz.sizePitch3) rfl ?_
 exact ⟨rfl, hS3, a3⟩
theorem XC (h : PS T Y M free st w) (B : lG W0 [Y, M] w) : Calls Tryz.prog 59 #[.pointer (some ⟨Y, 0, none⟩)] w fun r w' => r = .returned (jC (gT aD T st).1) /\ PS T Y M free (gT aD T st).2 w' /\ aB [Y, M] w w' := by
 have hYl := h.lt
 have hMl := h.ltM
 have hR := qc w (.cells #[I 0, I 0] 26)
 have hRl := aA hR
 have b0 := (qa _ w).alloc (qb _) (.cells #[I 0, I 0] 26)
 have hx1 := pA (h.step b0)
 have hx1b := fun w' (bw : Below w.heap.size w w') => LY (h.step bw) ⟨#[98]⟩
 obtain ⟨b, hb⟩ : ∃ b, nU T st = b := ⟨_, rfl⟩
 have c2 := fun w' K (bw : Below w.heap.size w w') (hK : gM K eU w') => EE (h.step bw) (B.step bw) hK hb
 have hel := fun (s1 : aU) (w1 w2 : World) (h1 : PS T Y M free s1 w1) (R : Nat) => h1.else (w' := w2) (R := R) h
 generalize gT aD T st = q at c2 |-
 obtain ⟨⟨vs, va⟩, s1⟩ := q
 simp only [jC] at c2 |-
 unfold nU at hb
 generalize isS T ⟨#[98]⟩ st = bi at hx1b hb
 unfold fK at hx1
 generalize aW T st = t at hx1 hb
 obtain ⟨kd, text, v, bt, lin, cl, j⟩ := t
 simp only at hx1 hb
 clear h
 by_cases hk : kd = 2
 ·subst hk
  obtain rfl : b = true := by rw [<- hb]; rfl
  have hfd := pN 2 v lin cl text bt j
  clear hb hx1b
  go_enter Tryz.func59, Tryz.ntmps59
  go_wp2_with (go_at_call 62; refine hx1.mono ?_)
  intro r w1; first | (intro he b1; subst he) | rintro ⟨rfl, b1⟩
  have b01 := b0.trans (b1.mono b0.size)
  have hR1 := (b1.block _ (aA hR)).trans hR
  have bK := b01.alloc b01.size (.cells #[.string ⟨#[46]⟩] 9)
  have hK : gM w1.heap.size eU (w1.alloc (.cells #[.string ⟨#[46]⟩] 9)) := qc w1 _
  have hR1' := (((qa _ w1).alloc (qb _) (.cells #[.string ⟨#[46]⟩] 9)).block _ (aA hR1)).trans hR1
  have hx2 := c2 _ _ bK hK
  clear hx1 c2 hK
  go_wp2_with (go_at_call 103; refine hx2.mono ?_)
  intro r w2; first | (intro he hS2 a2; subst he) | rintro ⟨rfl, hS2, a2⟩
  have hR2 := a2.at hR1' (by simp; omega)
  have a02 := (aB.of_below (bs := [Y, M]) bK).trans a2
  generalize hRR : w.heap.size = R at hR hR1 hR1' hR2 hRl |-
  obtain ⟨q0, q1, f0, f1⟩ := aZ hR2
  have hR3 := cC (a := I vs) (b := I va) hR2
  have hS3 := hel _ w2 (dL w2 R (I vs) (I va)) hS2 R (qe hRR) hR2 (by decide) (fun j hj => cL _ _ _ _ j hj)
  have a3 := cN a02 (qe hRR) (I vs) (I va)
  clear hel hR hR1 hR1' hR2 hx2 hS2
  unfold dL at hR3 hS3 a3
  go_wp2
  generalize (w2.setCell ⟨R, 0, none⟩ (I vs)).setCell ⟨R, 1, none⟩ (I va) = w3 at hR3 hS3 a3 |-
  refine qf (qh rfl _ _ R 26 _ (0, 0) _ rfl hR3 Tryz.underlying26 rfl Tryz.sizeVal) rfl ?_
  exact ⟨rfl, hS3, a3⟩
 ·obtain rfl : b = bi := by rw [<- hb]; simp [hk]
  have hkb : (kd == 2) = false := by simp [hk]
  have hfd := pN kd v lin cl text bt j
  clear hb
  go_enter Tryz.func59, Tryz.ntmps59
  go_wp2_with (go_at_call 62; refine hx1.mono ?_)
  intro r w1a; first | (intro he b1a; subst he) | rintro ⟨rfl, b1a⟩
  have b01a := b0.trans (b1a.mono b0.size)
  have hR1a := (b1a.block _ (aA hR)).trans hR
  have hx1c := hx1b _ b01a
  clear hx1b
  go_wp2_with (go_at_call 76; refine hx1c.mono ?_)
  intro r w1; first | (intro he b1; subst he) | rintro ⟨rfl, b1⟩
  have b01 := b01a.trans (b1.mono b01a.size)
  have hR1 := (b1.block _ (aA hR1a)).trans hR1a
  clear hx1c
  have bK := b01.alloc b01.size (.cells #[.string ⟨#[46]⟩] 9)
  have hK : gM w1.heap.size eU (w1.alloc (.cells #[.string ⟨#[46]⟩] 9)) := qc w1 _
  have hR1' := (((qa _ w1).alloc (qb _) (.cells #[.string ⟨#[46]⟩] 9)).block _ (aA hR1)).trans hR1
  have hx2 := c2 _ _ bK hK
  clear hx1 c2 hK
  go_wp2_with (go_at_call 103; refine hx2.mono ?_)
  intro r w2; first | (intro he hS2 a2; subst he) | rintro ⟨rfl, hS2, a2⟩
  have hR2 := a2.at hR1' (by simp; omega)
  have a02 := (aB.of_below (bs := [Y, M]) bK).trans a2
  generalize hRR : w.heap.size = R at hR hR1 hR1' hR2 hRl |-
  obtain ⟨q0, q1, f0, f1⟩ := aZ hR2
  have hR3 := cC (a := I vs) (b := I va) hR2
  have hS3 := hel _ w2 (dL w2 R (I vs) (I va)) hS2 R (qe hRR) hR2 (by decide) (fun j hj => cL _ _ _ _ j hj)
  have a3 := cN a02 (qe hRR) (I vs) (I va)
  clear hel hR hR1 hR1' hR2 hx2 hS2
  unfold dL at hR3 hS3 a3
  go_wp2
  generalize (w2.setCell ⟨R, 0, none⟩ (I vs)).setCell ⟨R, 1, none⟩ (I va) = w3 at hR3 hS3 a3 |-
  refine qf (qh rfl _ _ R 26 _ (0, 0) _ rfl hR3 Tryz.underlying26 rfl Tryz.sizeVal) rfl ?_
  exact ⟨rfl, hS3, a3⟩
end
section
variable {W0 : World} {T : List bD} {Y M : Nat} {free : Bool} {st : aU} {w : World}
theorem N6 (h : PS T Y M free st w) (B : lG W0 [Y, M] w) : Calls Tryz.prog 58 #[.pointer (some ⟨Y, 0, none⟩)] w fun r w' => r = .returned (xB (bJ aD T st).1) /\ PS T Y M free (bJ aD T st).2 w' /\ aB [Y, M] w w' := by
 have hYl := h.lt
 have hMl := h.ltM
 have hel := fun (s1 : aU) (w1 w2 : World) (h1 : PS T Y M free s1 w1) (R : Nat) => h1.else (w' := w2) (R := R) h
 have hh : bJ aD T st = if isS T ⟨#[33]⟩ (aS T ⟨#[126]⟩ (aT aD T st).2) = true then (⟨(aT aD T st).1, isS T ⟨#[126]⟩ (aT aD T st).2, 1⟩, aS T ⟨#[33]⟩ (aS T ⟨#[126]⟩ (aT aD T st).2))
   else if isS T ⟨#[63]⟩ (aS T ⟨#[126]⟩ (aT aD T st).2) = true then (⟨(aT aD T st).1, isS T ⟨#[126]⟩ (aT aD T st).2, 2⟩, aS T ⟨#[63]⟩ (aS T ⟨#[126]⟩ (aT aD T st).2))
   else (⟨(aT aD T st).1, isS T ⟨#[126]⟩ (aT aD T st).2, 0⟩, aS T ⟨#[126]⟩ (aT aD T st).2) := by
  unfold bJ
  simp only
  split
  ·rename_i h1; rw [show aS T ⟨#[33]⟩ (aS T ⟨#[126]⟩ (aT aD T st).2) = (aS T ⟨#[126]⟩ (aT aD T st).2).next 1 from if_pos h1]
  ·split
   ·rename_i h1; rw [show aS T ⟨#[63]⟩ (aS T ⟨#[126]⟩ (aT aD T st).2) = (aS T ⟨#[126]⟩ (aT aD T st).2).next 1 from if_pos h1]
   ·rfl
 rw [hh]
 clear hh
 have hpi := fun w' (b : Below w.heap.size w w') => QS (h.step b) (B.step b)
 generalize aT aD T st = q1 at hpi |-
 obtain ⟨⟨ps, pa, po⟩, s1⟩ := q1
 simp only [rK] at hpi |-
 have c2 := fun w' (h : PS T Y M free s1 w') => fU h ⟨#[126]⟩
 generalize aS T ⟨#[126]⟩ s1 = s2 at c2 |-
 generalize isS T ⟨#[126]⟩ s1 = td at c2 |-
 have c3 := fun w' (h : PS T Y M free s2 w') => fU h ⟨#[33]⟩
 have c4 := fun w' (h : PS T Y M free s2 w') => fU h ⟨#[63]⟩
 have e3 : isS T ⟨#[33]⟩ s2 = false -> aS T ⟨#[33]⟩ s2 = s2 := fun h => if_neg (by rw [h]; decide)
 have e4 : isS T ⟨#[63]⟩ s2 = false -> aS T ⟨#[63]⟩ s2 = s2 := fun h => if_neg (by rw [h]; decide)
 generalize aS T ⟨#[33]⟩ s2 = s3 at c3 e3 |-
 generalize aS T ⟨#[63]⟩ s2 = s4 at c4 e4 |-
 generalize isS T ⟨#[33]⟩ s2 = b3 at c3 e3 |-
 generalize isS T ⟨#[63]⟩ s2 = b4 at c4 e4 |-
 cases b3 with
 | true =>
  rw [if_pos rfl]
  simp only [xB]
  have HEL := aQ hel
  clear hel B h
  go_enter Tryz.func58, Tryz.ntmps58
  go_wp2
  have hR0 := qc w (.cells #[I 0, I 0, I 0, .bool false, I 0] 80)
  have b0 := (qa w.heap.size w).alloc (qb _) (.cells #[I 0, I 0, I 0, .bool false, I 0] 80)
  have hX1 : (((w.alloc dD).drew).alloc dD).heap[w.heap.size + 1]? = some dD := by
   have := qc ((w.alloc dD).drew) dD
   simpa using this
  have hR0Y : w.heap.size ∉ [Y, M] := by simp; omega
  have hX1Y : w.heap.size + 1 ∉ [Y, M] := by simp; omega
  have hmem : ∀ w' : World, aB [Y, M] (((w.alloc dD).drew).alloc dD) w' -> w'.heap[w.heap.size + 1]? = some dD := fun w' ha => ha.at hX1 hX1Y
  have hmem2 : ∀ w1 w' : World, Y < w1.heap.size -> M < w1.heap.size -> aB [Y, M] (w1.alloc dD) w' -> w'.heap[w1.heap.size]? = some dD := fun w1 w' hy hm hb => hb.at (qc w1 _) (by simp; omega)
  go_cut [3] from 4 (fun s3 wc => ∃ X, s3 = .pointer (some ⟨X, 0, none⟩) /\ w.heap.size < X /\ wc.heap[X]? = some (.cells #[I ps, I pa, I po, .bool td, I 0] 80 (0, 0)) /\
    wc.heap[w.heap.size]? = some (.cells #[I 0, I 0, I 0, .bool false, I 0] 80 (0, 0)) /\ PS T Y M free s2 wc /\ aB [Y, M] w wc)
  case first =>
   go_region_held3 (fun _ => True) (trivial) (first
    | (go_at_call 102; refine (hpi _ (by first | exact b0.drew | exact b0.drew.alloc (by simp) _)).mono ?_; rintro r w1 ⟨rfl, hS, ha⟩; have lY1 := hS.lt; have lM1 := hS.ltM; try have hx1 := hmem w1 ha)
    | (go_at_call 53; refine (c2 _ (by first | exact hS | exact hS.step ((qa _ _).alloc (qb _) _))).mono ?_; rintro r w2 ⟨rfl, hS2, a2⟩; (first | (have hx := a2.at hx1 hX1Y; obtain ⟨⟨q0, q1, q2, q3, q4⟩, r0, r1, r2, r3, r4⟩ := aN hx) | (have hx := hmem2 _ _ lY1 lM1 a2; obtain ⟨⟨q0, q1, q2, q3, q4⟩, r0, r1, r2, r3, r4⟩ := aN hx) | skip)))
   ·go_wp2
    go_meet
    case rel =>
     have aw := ((aB.of_below (bs := [Y, M]) b0.drew).trans ha).trans a2
     have hRw := a2.at (ha.at hR0 hR0Y) hR0Y
     have hl := (qd.1 hRw).1
     exact ⟨w2.heap.size, rfl, hl, qc w2 _, (Lib.alloc_old w2 _ _ hl).trans hRw, hS2.step ((qa _ _).alloc (qb _) _), aw.alloc _⟩
   ·go_wp2
    go_meet
    case rel =>
     have aw := (((aB.of_below (bs := [Y, M]) b0.drew).trans ha).alloc dD).trans a2
     have hR1 := ha.at hR0 hR0Y
     have hl := (qd.1 hR1).1
     have hRw := a2.at ((Lib.alloc_old w1 dD _ hl).trans hR1) hR0Y
     have hw1 : w.heap.size <= w1.heap.size := Nat.le_of_lt hl
     exact ⟨w1.heap.size, rfl, hl, cQ _ _ _ _ _ hx, (bH w2 w1.heap.size _ _ _ _ _ _ (by omega)).trans hRw, HEL.out _ w2 (eB w2 w1.heap.size _ _ _ _ _) hS2 w1.heap.size hw1 hx (by decide) (fun j hj => bH _ _ _ _ _ _ _ j hj), cS aw hw1 _ _ _ _ _⟩
   ·go_wp2
    go_meet
    case rel =>
     have aw := ((aB.of_below (bs := [Y, M]) (b0.drew.alloc (by simp) dD)).trans ha).trans a2
     have hR1 := ha.at ((Lib.alloc_old (w.alloc dD).drew dD w.heap.size (by simp)).trans hR0) hR0Y
     have hRw := a2.at hR1 hR0Y
     exact ⟨w.heap.size + 1, rfl, by omega, cQ _ _ _ _ _ hx, (bH w2 (w.heap.size + 1) _ _ _ _ _ _ (by omega)).trans hRw, HEL.out _ w2 (eB w2 (w.heap.size + 1) _ _ _ _ _) hS2 (w.heap.size + 1) (Nat.le_succ _) hx (by decide) (fun j hj => bH _ _ _ _ _ _ _ j hj), cS aw (Nat.le_succ _) _ _ _ _ _⟩
  case rest =>
   obtain ⟨Q, rfl, hRQ, hQ3, hR3, hS3, a03⟩ := hcut
   have hel := HEL.out
   have hx3 := c3 _ hS3
   clear hpi c2 c3 hR0 b0 hX1 hX1Y hmem hmem2 HEL
   have hQR : Q ≠ w.heap.size := by omega
   generalize hRR : w.heap.size = R at hRQ hR3 hR0Y hQR |-
   have hRY : R ∉ [Y, M] := hR0Y
   have hQY : Q ∉ [Y, M] := by simp; omega
   clear hR0Y
   go_wp2_with (go_at_call 53; refine hx3.mono ?_)
   intro r w4; first | (intro he hS4 a4; subst he) | rintro ⟨rfl, hS4, a4⟩
   have hR4 := a4.at hR3 hRY
   have hQ4 := a4.at hQ3 hQY
   have a04 := a03.trans a4
   clear hx3 hS3
   have hQ6 : (w4.setCell ⟨Q, 4, none⟩ (I 1)).heap[Q]? = _ := Lib.heap_setCell_same hQ4 _
   have hR6 : (w4.setCell ⟨Q, 4, none⟩ (I 1)).heap[R]? = _ := (aE w4 Q 4 (I 1) R hQR.symm).trans hR4
   have hS6 := hel _ w4 (w4.setCell ⟨Q, 4, none⟩ (I 1)) hS4 Q (by omega) hQ4 (by decide) (aE _ _ _ _)
   have a06 := a04.setCell (p := ⟨Q, 4, none⟩) (.inr (by show w.heap.size <= Q; omega)) (I 1)
   obtain ⟨⟨r0, r1, r2, r3, r4⟩, g0, g1, g2, g3, g4⟩ := aN hR4
   obtain ⟨⟨q0, q1, q2, q3, q4⟩, f0, f1, f2, f3, f4⟩ := aN hQ4
   have hR7 := cQ (I ps) (I pa) (I po) (.bool td) (I 1) hR6
   have hS7 := hel _ _ (eB (w4.setCell ⟨Q, 4, none⟩ (I 1)) R (I ps) (I pa) (I po) (.bool td) (I 1)) hS6 R (qe hRR) hR6 (by decide) (fun j hj => bH _ _ _ _ _ _ _ j hj)
   have a7 := cS a06 (qe hRR) (I ps) (I pa) (I po) (.bool td) (I 1)
   clear hel
   unfold eB at hR7 hS7 a7
   go_wp2
   refine qf (qh rfl _ _ R 80 _ (0, 0) _ rfl hR7 Tryz.underlying80 rfl Tryz.sizeHead) rfl ?_
   exact ⟨rfl, hS7, a7⟩
 | false =>
  rw [if_neg (by decide)]
  have e5 := (e3 rfl).symm
  subst e5
  cases b4 with
  | true =>
   rw [if_pos rfl]
   simp only [xB]
   have HEL := aQ hel
   clear hel B h
   go_enter Tryz.func58, Tryz.ntmps58
   go_wp2
   have hR0 := qc w (.cells #[I 0, I 0, I 0, .bool false, I 0] 80)
   have b0 := (qa w.heap.size w).alloc (qb _) (.cells #[I 0, I 0, I 0, .bool false, I 0] 80)
   have hX1 : (((w.alloc dD).drew).alloc dD).heap[w.heap.size + 1]? = some dD := by
    have := qc ((w.alloc dD).drew) dD
    simpa using this
   have hR0Y : w.heap.size ∉ [Y, M] := by simp; omega
   have hX1Y : w.heap.size + 1 ∉ [Y, M] := by simp; omega
   have hmem : ∀ w' : World, aB [Y, M] (((w.alloc dD).drew).alloc dD) w' -> w'.heap[w.heap.size + 1]? = some dD := fun w' ha => ha.at hX1 hX1Y
   have hmem2 : ∀ w1 w' : World, Y < w1.heap.size -> M < w1.heap.size -> aB [Y, M] (w1.alloc dD) w' -> w'.heap[w1.heap.size]? = some dD := fun w1 w' hy hm hb => hb.at (qc w1 _) (by simp; omega)
   go_cut [3] from 4 (fun s3 wc => ∃ X, s3 = .pointer (some ⟨X, 0, none⟩) /\ w.heap.size < X /\ wc.heap[X]? = some (.cells #[I ps, I pa, I po, .bool td, I 0] 80 (0, 0)) /\
     wc.heap[w.heap.size]? = some (.cells #[I 0, I 0, I 0, .bool false, I 0] 80 (0, 0)) /\ PS T Y M free s2 wc /\ aB [Y, M] w wc)
   case first =>
    go_region_held3 (fun _ => True) (trivial) (first
     | (go_at_call 102; refine (hpi _ (by first | exact b0.drew | exact b0.drew.alloc (by simp) _)).mono ?_; rintro r w1 ⟨rfl, hS, ha⟩; have lY1 := hS.lt; have lM1 := hS.ltM; try have hx1 := hmem w1 ha)
     | (go_at_call 53; refine (c2 _ (by first | exact hS | exact hS.step ((qa _ _).alloc (qb _) _))).mono ?_; rintro r w2 ⟨rfl, hS2, a2⟩; (first | (have hx := a2.at hx1 hX1Y; obtain ⟨⟨q0, q1, q2, q3, q4⟩, r0, r1, r2, r3, r4⟩ := aN hx) | (have hx := hmem2 _ _ lY1 lM1 a2; obtain ⟨⟨q0, q1, q2, q3, q4⟩, r0, r1, r2, r3, r4⟩ := aN hx) | skip)))
    ·go_wp2
     go_meet
     case rel =>
      have aw := ((aB.of_below (bs := [Y, M]) b0.drew).trans ha).trans a2
      have hRw := a2.at (ha.at hR0 hR0Y) hR0Y
      have hl := (qd.1 hRw).1
      exact ⟨w2.heap.size, rfl, hl, qc w2 _, (Lib.alloc_old w2 _ _ hl).trans hRw, hS2.step ((qa _ _).alloc (qb _) _), aw.alloc _⟩
    ·go_wp2
     go_meet
     case rel =>
      have aw := (((aB.of_below (bs := [Y, M]) b0.drew).trans ha).alloc dD).trans a2
      have hR1 := ha.at hR0 hR0Y
      have hl := (qd.1 hR1).1
      have hRw := a2.at ((Lib.alloc_old w1 dD _ hl).trans hR1) hR0Y
      have hw1 : w.heap.size <= w1.heap.size := Nat.le_of_lt hl
      exact ⟨w1.heap.size, rfl, hl, cQ _ _ _ _ _ hx, (bH w2 w1.heap.size _ _ _ _ _ _ (by omega)).trans hRw, HEL.out _ w2 (eB w2 w1.heap.size _ _ _ _ _) hS2 w1.heap.size hw1 hx (by decide) (fun j hj => bH _ _ _ _ _ _ _ j hj), cS aw hw1 _ _ _ _ _⟩
    ·go_wp2
     go_meet
     case rel =>
      have aw := ((aB.of_below (bs := [Y, M]) (b0.drew.alloc (by simp) dD)).trans ha).trans a2
      have hR1 := ha.at ((Lib.alloc_old (w.alloc dD).drew dD w.heap.size (by simp)).trans hR0) hR0Y
      have hRw := a2.at hR1 hR0Y
      exact ⟨w.heap.size + 1, rfl, by omega, cQ _ _ _ _ _ hx, (bH w2 (w.heap.size + 1) _ _ _ _ _ _ (by omega)).trans hRw, HEL.out _ w2 (eB w2 (w.heap.size + 1) _ _ _ _ _) hS2 (w.heap.size + 1) (Nat.le_succ _) hx (by decide) (fun j hj => bH _ _ _ _ _ _ _ j hj), cS aw (Nat.le_succ _) _ _ _ _ _⟩
   case rest =>
    obtain ⟨Q, rfl, hRQ, hQ3, hR3, hS3, a03⟩ := hcut
    have hel := HEL.out
    have hx3 := c3 _ hS3
    clear hpi c2 c3 hR0 b0 hX1 hX1Y hmem hmem2 HEL
    have hQR : Q ≠ w.heap.size := by omega
    generalize hRR : w.heap.size = R at hRQ hR3 hR0Y hQR |-
    have hRY : R ∉ [Y, M] := hR0Y
    have hQY : Q ∉ [Y, M] := by simp; omega
    clear hR0Y
    go_wp2_with (go_at_call 53; refine hx3.mono ?_)
    intro r w4; first | (intro he hS4 a4; subst he) | rintro ⟨rfl, hS4, a4⟩
    have hR4 := a4.at hR3 hRY
    have hQ4 := a4.at hQ3 hQY
    have a04 := a03.trans a4
    clear hx3 hS3
    have hx4 := c4 _ hS4
    clear c4
    go_wp2_with (go_at_call 53; refine hx4.mono ?_)
    intro r w5; first | (intro he hS5 a5; subst he) | rintro ⟨rfl, hS5, a5⟩
    have hR5 := a5.at hR4 hRY
    have hQ5 := a5.at hQ4 hQY
    have a05 := a04.trans a5
    clear hx4
    have hQ6 : (w5.setCell ⟨Q, 4, none⟩ (I 2)).heap[Q]? = _ := Lib.heap_setCell_same hQ5 _
    have hR6 : (w5.setCell ⟨Q, 4, none⟩ (I 2)).heap[R]? = _ := (aE w5 Q 4 (I 2) R hQR.symm).trans hR5
    have hS6 := hel _ w5 (w5.setCell ⟨Q, 4, none⟩ (I 2)) hS5 Q (by omega) hQ5 (by decide) (aE _ _ _ _)
    have a06 := a05.setCell (p := ⟨Q, 4, none⟩) (.inr (by show w.heap.size <= Q; omega)) (I 2)
    obtain ⟨⟨r0, r1, r2, r3, r4⟩, g0, g1, g2, g3, g4⟩ := aN hR5
    obtain ⟨⟨q0, q1, q2, q3, q4⟩, f0, f1, f2, f3, f4⟩ := aN hQ5
    have hR7 := cQ (I ps) (I pa) (I po) (.bool td) (I 2) hR6
    have hS7 := hel _ _ (eB (w5.setCell ⟨Q, 4, none⟩ (I 2)) R (I ps) (I pa) (I po) (.bool td) (I 2)) hS6 R (qe hRR) hR6 (by decide) (fun j hj => bH _ _ _ _ _ _ _ j hj)
    have a7 := cS a06 (qe hRR) (I ps) (I pa) (I po) (.bool td) (I 2)
    clear hel
    unfold eB at hR7 hS7 a7
    go_wp2
    refine qf (qh rfl _ _ R 80 _ (0, 0) _ rfl hR7 Tryz.underlying80 rfl Tryz.sizeHead) rfl ?_
    exact ⟨rfl, hS7, a7⟩
  | false =>
   rw [if_neg (by decide)]
   have e6 := (e4 rfl).symm
   subst e6
   simp only [xB]
   have HEL := aQ hel
   clear hel B h
   go_enter Tryz.func58, Tryz.ntmps58
   go_wp2
   have hR0 := qc w (.cells #[I 0, I 0, I 0, .bool false, I 0] 80)
   have b0 := (qa w.heap.size w).alloc (qb _) (.cells #[I 0, I 0, I 0, .bool false, I 0] 80)
   have hX1 : (((w.alloc dD).drew).alloc dD).heap[w.heap.size + 1]? = some dD := by
    have := qc ((w.alloc dD).drew) dD
    simpa using this
   have hR0Y : w.heap.size ∉ [Y, M] := by simp; omega
   have hX1Y : w.heap.size + 1 ∉ [Y, M] := by simp; omega
   have hmem : ∀ w' : World, aB [Y, M] (((w.alloc dD).drew).alloc dD) w' -> w'.heap[w.heap.size + 1]? = some dD := fun w' ha => ha.at hX1 hX1Y
   have hmem2 : ∀ w1 w' : World, Y < w1.heap.size -> M < w1.heap.size -> aB [Y, M] (w1.alloc dD) w' -> w'.heap[w1.heap.size]? = some dD := fun w1 w' hy hm hb => hb.at (qc w1 _) (by simp; omega)
   go_cut [3] from 4 (fun s3 wc => ∃ X, s3 = .pointer (some ⟨X, 0, none⟩) /\ w.heap.size < X /\ wc.heap[X]? = some (.cells #[I ps, I pa, I po, .bool td, I 0] 80 (0, 0)) /\
     wc.heap[w.heap.size]? = some (.cells #[I 0, I 0, I 0, .bool false, I 0] 80 (0, 0)) /\ PS T Y M free s2 wc /\ aB [Y, M] w wc)
   case first =>
    go_region_held3 (fun _ => True) (trivial) (first
     | (go_at_call 102; refine (hpi _ (by first | exact b0.drew | exact b0.drew.alloc (by simp) _)).mono ?_; rintro r w1 ⟨rfl, hS, ha⟩; have lY1 := hS.lt; have lM1 := hS.ltM; try have hx1 := hmem w1 ha)
     | (go_at_call 53; refine (c2 _ (by first | exact hS | exact hS.step ((qa _ _).alloc (qb _) _))).mono ?_; rintro r w2 ⟨rfl, hS2, a2⟩; (first | (have hx := a2.at hx1 hX1Y; obtain ⟨⟨q0, q1, q2, q3, q4⟩, r0, r1, r2, r3, r4⟩ := aN hx) | (have hx := hmem2 _ _ lY1 lM1 a2; obtain ⟨⟨q0, q1, q2, q3, q4⟩, r0, r1, r2, r3, r4⟩ := aN hx) | skip)))
    ·go_wp2
     go_meet
     case rel =>
      have aw := ((aB.of_below (bs := [Y, M]) b0.drew).trans ha).trans a2
      have hRw := a2.at (ha.at hR0 hR0Y) hR0Y
      have hl := (qd.1 hRw).1
      exact ⟨w2.heap.size, rfl, hl, qc w2 _, (Lib.alloc_old w2 _ _ hl).trans hRw, hS2.step ((qa _ _).alloc (qb _) _), aw.alloc _⟩
    ·go_wp2
     go_meet
     case rel =>
      have aw := (((aB.of_below (bs := [Y, M]) b0.drew).trans ha).alloc dD).trans a2
      have hR1 := ha.at hR0 hR0Y
      have hl := (qd.1 hR1).1
      have hRw := a2.at ((Lib.alloc_old w1 dD _ hl).trans hR1) hR0Y
      have hw1 : w.heap.size <= w1.heap.size := Nat.le_of_lt hl
      exact ⟨w1.heap.size, rfl, hl, cQ _ _ _ _ _ hx, (bH w2 w1.heap.size _ _ _ _ _ _ (by omega)).trans hRw, HEL.out _ w2 (eB w2 w1.heap.size _ _ _ _ _) hS2 w1.heap.size hw1 hx (by decide) (fun j hj => bH _ _ _ _ _ _ _ j hj), cS aw hw1 _ _ _ _ _⟩
    ·go_wp2
     go_meet
     case rel =>
      have aw := ((aB.of_below (bs := [Y, M]) (b0.drew.alloc (by simp) dD)).trans ha).trans a2
      have hR1 := ha.at ((Lib.alloc_old (w.alloc dD).drew dD w.heap.size (by simp)).trans hR0) hR0Y
      have hRw := a2.at hR1 hR0Y
      exact ⟨w.heap.size + 1, rfl, by omega, cQ _ _ _ _ _ hx, (bH w2 (w.heap.size + 1) _ _ _ _ _ _ (by omega)).trans hRw, HEL.out _ w2 (eB w2 (w.heap.size + 1) _ _ _ _ _) hS2 (w.heap.size + 1) (Nat.le_succ _) hx (by decide) (fun j hj => bH _ _ _ _ _ _ _ j hj), cS aw (Nat.le_succ _) _ _ _ _ _⟩
   case rest =>
    obtain ⟨Q, rfl, hRQ, hQ3, hR3, hS3, a03⟩ := hcut
    have hel := HEL.out
    have hx3 := c3 _ hS3
    clear hpi c2 c3 hR0 b0 hX1 hX1Y hmem hmem2 HEL
    have hQR : Q ≠ w.heap.size := by omega
    generalize hRR : w.heap.size = R at hRQ hR3 hR0Y hQR |-
    have hRY : R ∉ [Y, M] := hR0Y
    have hQY : Q ∉ [Y, M] := by simp; omega
    clear hR0Y
    go_wp2_with (go_at_call 53; refine hx3.mono ?_)
    intro r w4; first | (intro he hS4 a4; subst he) | rintro ⟨rfl, hS4, a4⟩
    have hR4 := a4.at hR3 hRY
    have hQ4 := a4.at hQ3 hQY
    have a04 := a03.trans a4
    clear hx3 hS3
    have hx4 := c4 _ hS4
    clear c4
    go_wp2_with (go_at_call 53; refine hx4.mono ?_)
    intro r w5; first | (intro he hS5 a5; subst he) | rintro ⟨rfl, hS5, a5⟩
    have hR5 := a5.at hR4 hRY
    have hQ5 := a5.at hQ4 hQY
    have a05 := a04.trans a5
    clear hx4
    obtain ⟨⟨r0, r1, r2, r3, r4⟩, g0, g1, g2, g3, g4⟩ := aN hR5
    obtain ⟨⟨q0, q1, q2, q3, q4⟩, f0, f1, f2, f3, f4⟩ := aN hQ5
    have hR7 := cQ (I ps) (I pa) (I po) (.bool td) (I 0) hR5
    have hS7 := hel _ _ (eB w5 R (I ps) (I pa) (I po) (.bool td) (I 0)) hS5 R (qe hRR) hR5 (by decide) (fun j hj => bH _ _ _ _ _ _ _ j hj)
    have a7 := cS a05 (qe hRR) (I ps) (I pa) (I po) (.bool td) (I 0)
    clear hel
    unfold eB at hR7 hS7 a7
    go_wp2
    refine qf (qh rfl _ _ R 80 _ (0, 0) _ rfl hR7 Tryz.underlying80 rfl Tryz.sizeHead) rfl ?_
    exact ⟨rfl, hS7, a7⟩
end
end Go.Proofs.YtgkhemnmcgicnaaGreatDoor
