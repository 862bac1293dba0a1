/- Towards the law ParserVoices, true for every text (no condition): one part of the proof. -/
import Derived.Test.YtgkhemnmcgicnaaGreatDoorG01
import Derived.Test.YtgkhemnmcgicnaaGreatDoorG46
import Derived.Test.YtgkhemnmcgicnaaGreatDoorG23
import Derived.Maps.RangeRun
namespace Go.Proofs.YtgkhemnmcgicnaaGreatDoor
set_option maxHeartbeats 32000000
set_option maxRecDepth 100000
open Go.RowKit
section
variable {W0 : World} {T : List bD} {X V B : Nat} {lv : Value}
theorem T6 (K : Nat) : WX W0 T X V B lv K := by
 induction K using Nat.strongRecOn with
 | ind K IHK =>
 intro st v least iv ev tv cs w hn hle hlt h
 obtain ⟨i8, hi8, hz8⟩ : ∃ i, Tryz.prog.info? 31 = some i /\ ∃ z, i.zero = some z /\ z.cells.size = 13 /\ i.size = 13 /\ i.bytes = 152 := by
  have := Tryz.infoevs
  cases hi : Tryz.prog.info? 31 with
  | none => rw [hi] at this; cases this
  | some i =>
   rw [hi] at this
   simp only [qqh, qm, qz] at this
   obtain ⟨h1, h2, h3⟩ := this
   cases hz : i.zero with
   | none => rw [hz] at h1; cases h1
   | some z => rw [hz] at h1; simp only [qqh, qm] at h1; exact ⟨i, rfl, z, hz, h1, h2, h3⟩
 obtain ⟨z8, hz8, hc8, hs8, hy8⟩ := hz8
 obtain ⟨i9, hi9, hz9⟩ : ∃ i, Tryz.prog.info? 100 = some i /\ ∃ z, i.zero = some z /\ z.cells.size = 4 /\ i.size = 4 /\ i.bytes = 32 := by
  have := Tryz.infotups
  cases hi : Tryz.prog.info? 100 with
  | none => rw [hi] at this; cases this
  | some i =>
   rw [hi] at this
   simp only [qqh, qm, qz] at this
   obtain ⟨h1, h2, h3⟩ := this
   cases hz : i.zero with
   | none => rw [hz] at h1; cases h1
   | some z => rw [hz] at h1; simp only [qqh, qm] at h1; exact ⟨i, rfl, z, hz, h1, h2, h3⟩
 obtain ⟨z9, hz9, hc9, hs9, hy9⟩ := hz9
 obtain ⟨tot, htot⟩ : ∃ tot, tot = bP aD T 0 K v least 0 st := ⟨_, rfl⟩
 rw [<- htot]
 have HT := aQ htot
 have IHS := aQ IHK
 have nXV := h.nX
 clear htot IHK
 go_enter Tryz.func14, Tryz.ntmps14
 go_wp2
 go_loopg [6] K (fun gk s6 wr => ∃ (v' : gJ) (n : Int) (s' : aU) (iv' ev' tv' : Value) (cs' : List Value), gk <= K /\ need T s' <= gk /\ bP aD T 0 gk v' least n s' = tot /\ s6 = I n /\ 0 <= n /\ n + need T s' <= 4001 /\
   v'.evs.length + need T s' <= 4001 /\ v'.tups.length + need T s' <= 4001 /\ xJ W0 T X V B lv iv' ev' tv' cs' v' s' wr /\ RS [X, V] [ev, tv, iv] [ev', tv', iv'] w wr)
 case atStart => exact ⟨v, 0, st, iv, ev, tv, cs, qb _, hn, HT.out.symm, rfl, Int.le_refl _, by omega, hle, hlt, h, RS.refl _ _ _⟩
 case round =>
  clear h hn hle hlt HT
  obtain ⟨v', n, s', iv', ev', tv', cs', hgK, hneed, htotal, rfl, hn0, hnb, hle, hlt, H, VW⟩ := hrel
  cases s' with
  | bad e l c =>
   obtain ⟨c4, hee⟩ := H.ms.errCell
   rw [qM] at htotal
   subst htotal
   go_wp2
   go_end0
   exact ⟨rfl, _, _, _, ⟨_, H⟩, VW⟩
  | ok p =>
   have c4 := H.ms.okCell
   have hpl := H.ms.atCell.2.2
   obtain ⟨j, rfl⟩ : ∃ j, gk = j + 1 := by
    have : 0 < need T (.ok p) := by unfold need; simp only; omega
    exact ⟨gk - 1, by omega⟩
   have m1 : IntKind.i64.wrap (n + 1) = n + 1 := IntWalk.i64_in _ (by omega)
   have xi := uP H.ms ⟨#[40]⟩
   have xb := fun w2 (b : Below wr.heap.size wr w2) => FE (H.step b).ms
   obtain ⟨b1, hb⟩ : ∃ b, isS T ⟨#[40]⟩ (.ok p) = b := ⟨_, rfl⟩
   obtain ⟨b2, he⟩ : ∃ b, jN T (.ok p) = b := ⟨_, rfl⟩
   rw [hb] at xi
   rw [he] at xb
   have HH := aQ (And.intro hb (And.intro he htotal))
   have HV := aQ (And.intro H VW)
   clear hb he htotal H VW
   go_upto_region 1 with (fail)
   go_cut [26] from 9 (fun s26 wc => s26 = .bool (decide (n < least) || (b1 || b2)) /\ Below wr.heap.size wr wc)
   case first =>
    by_cases hl : n < least
    ·have hd : decide (n < least) = true := qu hl
     go_wp2
     go_meet
     case rel => exact ⟨by simp [hl], qa _ _⟩
    ·have hd : decide (n < least) = false := qt hl
     cases b1 with
     | true =>
      go_wp2_with (go_at_call 27; (with_reducible refine xi.mono ?_))
      intro rr w1; first | (intro he1 b1; subst he1) | rintro ⟨rfl, b1⟩
      go_wp2
      go_meet
      case rel => exact ⟨by simp, b1⟩
     | false =>
      go_wp2_with (go_at_call 27; (with_reducible refine xi.mono ?_))
      intro rr w1; first | (intro he1 b1; subst he1) | rintro ⟨rfl, b1⟩
      have xb1 := xb _ b1
      clear xb
      go_wp2_with (go_at_call 37; (with_reducible refine xb1.mono ?_))
      intro rr w2; first | (intro he1 b2'; subst he1) | rintro ⟨rfl, b2'⟩
      go_wp2
      go_meet
      case rel => exact ⟨by rw [hd]; rfl, b1.trans (b2'.mono b1.size)⟩
   case rest =>
    obtain ⟨rfl, bq⟩ := hcut
    obtain ⟨hb, he, htotal⟩ := HH.out
    have H0 := HV.out.1.step bq
    have VW0 := HV.out.2.trans (RS.of_below (bs := [X, V]) bq)
    clear xi xb HH HV bq c4
    have xa := eD H0.ms ⟨#[40]⟩
    rw [hb] at xa
    cases b1 with
    | true =>
     rw [F1 rfl hb] at htotal
     have hnd := ME (O := aD) (q := 0) (k := j) (v := v') hb
     have h0 := tH hb
     have n1 := j5 (T := T) (iS (.ok p)) h0
     have n2 := dZ (T := T) (jH T 1 32 ((aU.ok p).next 1)).back
     have n3 := dZ (T := T) (gH T ⟨#[58]⟩ (bS T 1 32 ((aU.ok p).next 1)).2).back
     have n4 := dZ (T := T) (jH T 1 32 (bE T ⟨#[58]⟩ (bS T 1 32 ((aU.ok p).next 1)).2)).back
     rw [show aS T ⟨#[40]⟩ (.ok p) = (aU.ok p).next 1 from (qJ hb).symm] at xa
     have x2 := fun w' (h : MS T X true lv iv' ((aU.ok p).next 1) w') => tY h 1 32
     have hvn := j6 aD T 0 j ⟨v'.evs, v'.tups ++ [⟨v'.evs.length, 0, (bS T 1 32 ((aU.ok p).next 1)).1, (bS T 1 32 (bE T ⟨#[58]⟩ (bS T 1 32 ((aU.ok p).next 1)).2)).1⟩]⟩ 1 0 (bS T 1 32 (bE T ⟨#[58]⟩ (bS T 1 32 ((aU.ok p).next 1)).2)).2
     have hva := MC (O := aD) (T := T) (q := 0) (k := j) (evs := v'.evs) (tups := v'.tups) (x := ⟨v'.evs.length, 0, (bS T 1 32 ((aU.ok p).next 1)).1, (bS T 1 32 (bE T ⟨#[58]⟩ (bS T 1 32 ((aU.ok p).next 1)).2)).1⟩) (least := 1) (n := 0) (s := (bS T 1 32 (bE T ⟨#[58]⟩ (bS T 1 32 ((aU.ok p).next 1)).2)).2)
     unfold zA at htotal hnd
     simp only at htotal hnd
     generalize (aU.ok p).next 1 = s1 at xa x2 n1 n2 n3 n4 hvn hva htotal hnd
     generalize bS T 1 32 s1 = a at x2 n2 n3 n4 hvn hva htotal hnd
     obtain ⟨na, s2⟩ := a
     simp only at x2 n2 n3 n4 hvn hva htotal hnd
     have x3 := fun w' (h : MS T X true lv iv' s2 w') => fM h ⟨#[58]⟩
     generalize bE T ⟨#[58]⟩ s2 = s3 at x3 n3 n4 hvn hva htotal hnd
     have x4 := fun w' (h : MS T X true lv iv' s3 w') => tY h 1 32
     generalize bS T 1 32 s3 = b at x4 n4 hvn hva htotal hnd
     obtain ⟨nb, s4⟩ := b
     simp only at x4 n4 hvn hva htotal hnd
     have x5 := fun iv ev tv cs w' (h' : xJ W0 T X V B lv iv ev tv cs ⟨v'.evs, v'.tups ++ [⟨v'.evs.length, 0, na, nb⟩]⟩ s4 w') => IHS.out j (by omega) s4 ⟨v'.evs, v'.tups ++ [⟨v'.evs.length, 0, na, nb⟩]⟩ 1 iv ev tv cs w' (by omega) (by simp only; omega) (by simp only [qi, qqt]; omega) h'
     generalize bP aD T 0 j ⟨v'.evs, v'.tups ++ [⟨v'.evs.length, 0, na, nb⟩]⟩ 1 0 s4 = r5 at x5 hvn hva htotal hnd
     obtain ⟨v5, s5⟩ := r5
     simp only [qi, qqt] at x5 hvn hva htotal hnd
     have x6 := fun iv w' (h : MS T X true lv iv s5 w') => fM h ⟨#[41]⟩
     generalize bE T ⟨#[41]⟩ s5 = s6 at x6 htotal hnd
     have l5 : v5.evs.length <= 4001 := by omega
     have lE : v'.evs.length <= 4001 := by omega
     have lT : v'.tups.length <= 4000 := by omega
     have hN := aQ (And.intro hva (And.intro htotal hnd))
     clear hvn hva htotal hnd n1 n2 n3 n4 h0 hb he
     obtain ⟨ao, ca, rfl⟩ := bX H0.vo.oe
     obtain ⟨bo, cb, rfl⟩ := bX H0.vo.ot
     rw [show (decide (n < least) || (true || b2)) = true by simp]
     go_wp2_with (go_at_call 24; (with_reducible refine xa.mono ?_))
     rintro rr w1 ⟨rfl, hS1, a1⟩
     have H1 := H0.call1 hS1 a1
     have V1 := VW0.trans (RS.of_away (bs := [X, V]) (a1.more (by simp)))
     clear xa H0 VW0 hS1 a1
     have lX := H1.ms.lt
     have l1V := H1.vo.lt
     have c1t := H1.cell1
     have H1d := H1.step (qa _ w1).drew
     have c1 := H1d.cell0
     have c1a : (w1.alloc (.cells #[I 0, I 0, I 0, I 0] 100)).drew.cell? ⟨V, 0, none⟩ = some (.slice ao v'.evs.length ca) := (qqp w1 _ ⟨V, 0, none⟩ l1V).trans H1.cell0
     have c1b : (w1.drew.alloc (.cells #[I 0, I 0, I 0, I 0] 100)).cell? ⟨V, 0, none⟩ = some (.slice ao v'.evs.length ca) := (qqp w1.drew _ ⟨V, 0, none⟩ l1V).trans c1
     have hzt : (w1.drew.alloc EJ).heap[w1.heap.size]? = some EJ := qc w1.drew EJ
     have hnE : w1.heap.size ∉ [X] := by simp; omega
     have o100 : NS 100 := ⟨by decide, by decide, by decide⟩
     go_wp2
     go_cut [8] from 9 (fun s8' wc => ∃ E, s8' = .pointer (some ⟨E, 0, none⟩) /\ w1.heap.size <= E /\ wc.heap[E]? = some (.cells #[I v'.evs.length, I 0, I na, I 0] 100 (0, 0)) /\
       MS T X true lv iv' s2 wc /\ aB [X] w1 wc)
     case first =>
      go_region_held3 (fun w' => w'.cell? ⟨V, 0, none⟩ = some (.slice ao v'.evs.length ca)) (go_keep) (first
       | (go_at_call 38; refine (x2 _ (by first | exact H1d.ms | exact H1d.ms.step ((qa _ _).alloc (qb _) _))).mono ?_; rintro r w2 ⟨rfl, hS2, a2⟩; (first | (have H2 := H1d.call1 hS2 a2) | (have H2 := (H1d.step ((qa _ _).alloc (qb _) EJ)).call1 hS2 a2; have hx := a2.at hzt hnE; obtain ⟨⟨q0, q1, q2, q3⟩, r0, r1, r2, r3⟩ := iT hx; have cf : (AT w2 w1.heap.size (I v'.evs.length) (I 0) (I na) (I 0)).cell? ⟨V, 0, none⟩ = some (.slice ao v'.evs.length ca) := (by rw [Lib.cell_of_heap ((oU (w := w2) (X := w1.heap.size) (I v'.evs.length) (I 0) (I na) (I 0) V (by omega)).trans H2.vo.hV)]; rfl); unfold AT at cf)); have c2 := H2.cell0))
      ·go_wp2
       go_meet
       case rel =>
        have aw := (aB.of_below (bs := [X]) (qa w1.heap.size w1).drew).trans a2
        exact ⟨w2.heap.size, rfl, aw.size, qc w2 _, hS2.step ((qa _ _).alloc (qb _) _), aw.alloc _⟩
      ·go_wp2
       go_meet
       case rel =>
        have aw := (aB.of_below (bs := [X]) ((qa w1.heap.size w1).drew.alloc (qb _) EJ)).trans a2
        exact ⟨w1.heap.size, rfl, qb _, DN _ _ _ _ hx, hS2.asideT hx o100 (by unfold World.setCell; simp) (fun j hj => oU (w := w2) (X := w1.heap.size) (I v'.evs.length) (I 0) (I na) (I 0) j hj), DP _ _ _ _ aw (qb _)⟩
     case rest =>
      obtain ⟨E, rfl, hE1, hE3, hS3, a13⟩ := hcut
      clear x2 H1d c1 c1a c1b hzt hnE c1t
      have x33 := x3 _ hS3
      have nEX : E ≠ X := by omega
      go_wp2_with (go_at_call 25; (with_reducible refine x33.mono ?_))
      rintro r w4 ⟨rfl, hS4, a4⟩
      have hE4 := a4.at hE3 (by simp; omega)
      have a14 := a13.trans a4
      have x44 := x4 _ hS4
      clear x3 x33 x4 hS3 hE3 a13 a4
      go_wp2_with (go_at_call 38; (with_reducible refine x44.mono ?_))
      rintro r w5 ⟨rfl, hS5, a5⟩
      have hE5 := a5.at hE4 (by simp; omega)
      have a15 := a14.trans a5
      clear x44 hS4 hE4 a14 a5
      obtain ⟨⟨q0, q1, q2, q3⟩, r0, r1, r2, r3⟩ := iT hE5
      have hS6 := hS5.asideT (R := E) (w' := w5.setCell ⟨E, 3, none⟩ (I nb)) hE5 o100 (eC w5 E 3 _) (fun j hj => aE w5 E 3 _ j hj)
      have hE6 : (w5.setCell ⟨E, 3, none⟩ (I nb)).heap[E]? = some (.cells #[I v'.evs.length, I 0, I na, I nb] 100 (0, 0)) := Lib.heap_setCell_same (i := 3) hE5 (I nb)
      have a16 := a15.setCell (p := ⟨E, 3, none⟩) (.inr (by show w1.heap.size <= E; omega)) (I nb)
      generalize hW6 : w5.setCell ⟨E, 3, none⟩ (I nb) = w6 at hS6 hE6 a16
      have H6 := H1.call1 hS6 a16
      have HW6 := aQ hW6
      clear hW6 hS5 hE5 a15
      go_wp2
      rw [HW6.out]
      have cV1 := H6.cell1
      have H6d := H6.step (qa _ w6).drew
      have H6a := H6.step ((qa w6.heap.size w6).drew.alloc (qb _) (.cells #[I v'.evs.length, I 0, I na, I nb] 100))
      have lE6 := aA hE6
      have lV6 := H6.vo.lt
      have hB6 := H6.vo.lB
      have ltB : ∀ k, (Value.slice bo v'.tups.length cb).ownBlock = some k -> k < w1.heap.size := fun k hk => (H1.vo.ot.lt k hk).2
      have nVE : V ≠ E := by have := H1.vo.lt; omega
      have ntV : ∀ k, (Value.slice bo v'.tups.length cb).ownBlock = some k -> k ≠ V := fun k hk => by have := (H1.vo.ot.lt k hk).1; have := H1.vo.lV; omega
      have nE : E ∉ RO [(.slice ao v'.evs.length ca), (.slice bo v'.tups.length cb), iv'] := fun hm => by
       rcases fJ.1 hm with e | e | e
       ·have := (H1.vo.oe.lt E e).2; omega
       ·have := ltB E e; omega
       ·obtain ⟨c, hc⟩ := H1.ms.ivAt e
        have := aA hc; omega
      go_cut [] from 9 (fun wc => ∃ tv7, xJ W0 T X V B lv iv' (.slice ao v'.evs.length ca) tv7 cs' ⟨v'.evs, v'.tups ++ [⟨v'.evs.length, 0, na, nb⟩]⟩ s4 wc /\ RS [X, V] [(.slice ao v'.evs.length ca), (.slice bo v'.tups.length cb), iv'] [(.slice ao v'.evs.length ca), tv7, iv'] w6 wc /\
        wc.heap[E]? = some (.cells #[I v'.evs.length, I 0, I na, I nb] 100 (0, 0)))
      case first =>
       have cd := H6d.cell1
       have ca1 := H6a.cell1
       obtain ⟨⟨p0, p1, p2, p3⟩, _⟩ := iT (w := w6.drew) hE6
       go_region_law ((refine step_append_lies _ (by rfl) _ _ _ (by rfl) B 100 i9 _ 4 32 Tryz.underlying46 hi9 hz9 hs9 hy9 hc9 (by omega) (.slice bo v'.tups.length cb) v'.tups.length (cH fZ.cells v'.tups) (by rfl) H6a.vo.ot ⟨w6.heap.size, 0, none⟩ 1 1 #[I v'.evs.length, I 0, I na, I nb].toList (by rfl) (by rfl) (World.news_of_block (cs := #[I v'.evs.length, I 0, I na, I nb]) (t := 100) (fr := (0, 0)) (qc _ _)) (by simp [Value.oneCell']) (by omega) (by simp only [maxLen]; omega) (by omega) (by simp; omega) (w6.heap.size + 1) (by simp) ?_; intro gg cap w7 hown hgrow hat hgl; have hV7 := (hgrow.block V H6a.vo.lt (fun e => ntV V e.symm rfl)).trans H6a.vo.hV; have q1 := Lib.cell_of_heap hV7 1; have f1 := Lib.frozen_of_heap hV7 1; simp only [qqk, qqa, qy] at q1))
       all_goals go_wp2
       all_goals go_meet
       all_goals
        have b6a := (qa w6.heap.size w6).drew.alloc (qb _) (.cells #[I v'.evs.length, I 0, I na, I nb] 100)
        exact ⟨_, H6a.pushT hgrow (n := v'.tups.length + 1) (x := ⟨v'.evs.length, 0, na, nb⟩) rfl hown,
         ((RS.of_below b6a).trans (RS.growT (a := ⟨gg, 0, none⟩) (n := v'.tups.length + 1) (cap := cap) hgrow (hat.imp id (fun e => by rw [e]; simp)))).trans (RS.set V 1 _ (by simp)),
         (aE w7 V 1 _ E nVE.symm).trans ((hgrow.block E (qk lE6 b6a.size) (fun e => by have := ltB E e.symm; omega)).trans ((b6a.block E lE6).trans hE6))⟩
      case rest =>
       obtain ⟨tv7, H7, V7, hE7⟩ := hcut
       have xv := x5 _ _ _ _ _ H7
       clear x5
       go_wp2_with (go_at_call 14; (with_reducible refine xv.mono ?_))
       rintro r w9 ⟨rfl, iv9, ev9, tv9, cs9, H9, V9⟩
       have hE9 := V9.aw.at hE7 (fun hm => by
        rcases qqb.1 hm with hm | hm
        ·simp only [qqj, qqv, or_false] at hm; omega
        ·rcases V7.he E hm with h1 | h1
         ·exact nE h1
         ·omega)
       have x66 := x6 _ _ H9.ms
       have V19 := ((V1.trans (RS.of_away (bs := [X, V]) (a16.more (by simp)))).trans V7).trans V9
       obtain ⟨ao9, ca9, rfl⟩ := bX H9.vo.oe
       have hx9 := hN.out.1
       have hi9' : v'.tups.length < v5.tups.length := (qqd.1 hx9).1
       obtain ⟨g9, cb9, rfl⟩ : ∃ g cap, tv9 = .slice (some ⟨g, 0, none⟩) v5.tups.length cap := by
        rcases H9.vo.ot.2 with ⟨_, h0⟩ | ⟨g, cap, cur, e1, _⟩
        ·omega
        ·exact ⟨g, cap, e1⟩
       have hgE : E ≠ g9 := fun e => by
        rcases (V7.trans V9).he g9 (fJ.2 (.inr (.inl rfl))) with h1 | h1
        ·exact nE (e ▸ h1)
        ·omega
       clear xv V7 V9 hE7 H7 H6 H6a H6d H1 V1 hE6 hS6 a16 cV1
       go_wp2_with (go_at_call 25; (with_reducible refine x66.mono ?_))
       rintro r w10 ⟨rfl, hS10, a10⟩
       have hE10 := a10.at hE9 (by simp; omega)
       have H10 := H9.call1 hS10 a10
       have V10 := V19.trans (RS.of_away (bs := [X, V]) (a10.more (by simp)))
       clear x66 x6 hS10 a10 hE9 H9 V19
       have H10d := H10.step (qa _ w10).drew
       have k0 := H10d.cell0
       have k1 := H10d.cell1
       obtain ⟨⟨p0, p1, p2, p3⟩, _⟩ := iT (w := w10.drew) hE10
       obtain ⟨kc, kf⟩ := cJ H10d.vo.ot (PU _ _ _ hx9)
       have kfi := kf (v'.tups.length * 4 + 1)
       have hwr : IntKind.i64.wrap ((v5.evs.length : Int) - (v'.evs.length : Int)) = (v5.evs.length : Int) - (v'.evs.length : Int) := IntWalk.i64_in _ (by omega)
       have hii : (v'.tups.length : Int) < (v5.tups.length : Int) := by omega
       have H11 := H10.setT hx9 ((v5.evs.length : Int) - v'.evs.length)
       have s0 := (H11.step (qa _ _).drew).cell0
       have s1 := (H11.step (qa _ _).drew).cell1
       have s2 : (w10.setCell ⟨g9, v'.tups.length * 4 + 1, none⟩ (I ((v5.evs.length : Int) - v'.evs.length))).drew.cell? ⟨E, 0, none⟩ = some (I v'.evs.length) := by
        show (w10.setCell ⟨g9, v'.tups.length * 4 + 1, none⟩ (I ((v5.evs.length : Int) - v'.evs.length))).cell? ⟨E, 0, none⟩ = _
        rw [Lib.cell_of_heap ((aE w10 g9 _ _ E hgE).trans hE10)]; rfl
       go_wp2
       go_region_held3 (fun w' => w'.cell? ⟨V, 0, none⟩ = some (.slice ao9 v5.evs.length ca9) /\ w'.cell? ⟨V, 1, none⟩ = some (.slice (some ⟨g9, 0, none⟩) v5.tups.length cb9) /\ w'.cell? ⟨E, 0, none⟩ = some (I v'.evs.length)) (go_keep) (fail)
       go_wp2
       go_roundg j
       case measure => omega
       case rel =>
        obtain ⟨h0, h1, h2, h3, h4⟩ := hN.out
        simp only [List.length_set] at h3
        exact ⟨_, n + 1, s6, _, _, _, _, by omega, by omega, h1, rfl, by omega, by omega, by simp only; omega, by simp only [List.length_set]; omega, H11.step (qa _ _).drew, (V10.trans (RS.own g9 _ _ (fJ.2 (.inr (.inl rfl))))).trans (RS.of_below (qa _ _).drew)⟩
    | false =>
     rw [show aS T ⟨#[40]⟩ (.ok p) = .ok p from vJ hb] at xa
     have xb := fun w2 (h : MS T X true lv iv' (.ok p) w2) => FE h
     rw [he] at xb
     cases b2 with
     | false =>
      rw [F2 rfl hb he] at htotal
      by_cases hl : n < least
      ·have hd : decide (n < least) = true := qu hl
       rw [if_pos hl] at htotal
       subst htotal
       have xf := fun w2 (h : MS T X true lv iv' (.ok p) w2) => gP h 13 (by decide)
       clear hb he
       go_wp2_with (go_at_call 24; (with_reducible refine xa.mono ?_))
       rintro rr w1 ⟨rfl, hS1, a1⟩
       have H1 := H0.call1 hS1 a1
       have V1 := VW0.trans (RS.of_away (bs := [X, V]) (a1.more (by simp)))
       have xb1 := xb _ hS1
       clear xb xa
       go_wp2_with (go_at_call 37; (with_reducible refine xb1.mono ?_))
       rintro rr w2 ⟨rfl, b2⟩
       have xf1 := xf _ (hS1.step b2)
       clear xf xb1
       go_wp2_with (go_at_call 32; (with_reducible refine xf1.mono ?_))
       rintro rr w3 ⟨rfl, hS3, a3⟩
       go_wp2
       refine qf (results_none rfl _ _ _) rfl ?_
       exact ⟨rfl, _, _, _, ⟨_, (H1.step b2).call1 hS3 a3⟩, (V1.trans (RS.of_below b2)).trans (RS.of_away (a3.more (by simp)))⟩
      ·have hd : decide (n < least) = false := qt hl
       rw [if_neg hl] at htotal
       subst htotal
       clear hb he xa xb
       rw [show (decide (n < least) || (false || false)) = false by rw [hd]; rfl]
       go_wp2
       go_end0
       exact ⟨rfl, _, _, _, ⟨_, H0⟩, VW0⟩
     | true =>
      rw [MD rfl hb he] at htotal
      have hnd := j5 (T := T) (qX aD T 0 (.ok p)) (tJ he)
      have xe := fun w2 (h : MS T X true lv iv' (.ok p) w2) (b : lG W0 (X :: iv'.ownBlock.toList) w2) => TW h b
      generalize eX aD T 0 (.ok p) = q5 at htotal hnd xe
      obtain ⟨x5, s5⟩ := q5
      simp only at htotal hnd xe
      have HQ := aQ (And.intro htotal hnd)
      clear htotal hnd hb he
      obtain ⟨ao, ca, rfl⟩ := bX H0.vo.oe
      rw [show (decide (n < least) || (false || true)) = true by simp]
      go_wp2_with (go_at_call 24; (with_reducible refine xa.mono ?_))
      rintro rr w1 ⟨rfl, hS1, a1⟩
      have H1 := H0.call1 hS1 a1
      have V1 := VW0.trans (RS.of_away (bs := [X, V]) (a1.more (by simp)))
      have xb1 := xb _ hS1
      clear xb xa H0 VW0 hS1 a1
      go_wp2_with (go_at_call 37; (with_reducible refine xb1.mono ?_))
      rintro rr w2 ⟨rfl, b2⟩
      have H2 := H1.step b2
      have V2 := V1.trans (RS.of_below (bs := [X, V]) b2)
      clear H1 V1 xb1 b2
      go_wp2
      have lV2 := H2.vo.lt
      have ltB : ∀ k, (Value.slice ao v'.evs.length ca).ownBlock = some k -> k ≠ V := fun k hk => by have := (H2.vo.oe.lt k hk).1; have := H2.vo.lV; omega
      have H2d := H2.step (qa _ w2).drew
      have c2 := H2.cell0
      have c2d := H2d.cell0
      have xe5 := xe _ H2d.ms H2d.bas
      clear xe
      obtain ⟨i0, i1, kd, lg, dt, hs, gs, ar, orn, dy, ys, sm, be⟩ := x5
      go_region_law ((first
       | (go_simp; go_at_call 9; (with_reducible refine xe5.mono ?_); rintro r w6 ⟨vv, iv6, rfl, ⟨hv, gv, lyv, rfl, rows⟩, hS6, a6, hi6⟩; have H6 := H2d.call hS6 a6 hi6; have rows6 := rows.lo H2d.vo.lB; obtain ⟨ha, hc, rfl⟩ := bX rows6.oh; obtain ⟨ga, gc, rfl⟩ := bX rows6.og; obtain ⟨la, lc, rfl⟩ := bX rows6.ol; clear rows; simp only [zC.cells]; simp only at rows6; have c6 := H6.cell0; have H6a := H6.step ((qa w6.heap.size w6).alloc (qb _) (.cells #[I i0, I i1, I kd, I lg, I dt, .slice ha hs.length hc, .slice ga gs.length gc, I ar, I orn, I dy, .slice la ys.length lc, I sm, I be] 31)); have c6a := H6a.cell0; have sz6 := H6.vo.lB; have lV6 := H6.vo.lt)
       | (refine step_append_lies _ (by rfl) _ _ _ (by rfl) B 31 i8 _ 13 152 Tryz.underlying45 hi8 hz8 hs8 hy8 hc8 (by omega) (.slice ao v'.evs.length ca) v'.evs.length cs' (by rfl) H6a.vo.oe ⟨w6.heap.size, 0, none⟩ 1 1 #[.int .i64 i0, .int .i64 i1, .int .i64 kd, .int .i64 lg, .int .i64 dt, .slice ha hs.length hc, .slice ga gs.length gc, .int .i64 ar, .int .i64 orn, .int .i64 dy, .slice la ys.length lc, .int .i64 sm, .int .i64 be].toList (by rfl) (by rfl) (World.news_of_block (cs := #[.int .i64 i0, .int .i64 i1, .int .i64 kd, .int .i64 lg, .int .i64 dt, .slice ha hs.length hc, .slice ga gs.length gc, .int .i64 ar, .int .i64 orn, .int .i64 dy, .slice la ys.length lc, .int .i64 sm, .int .i64 be]) (t := 31) (fr := (0, 0)) (qc _ _)) (by simp [Value.oneCell']) (by omega) (by simp only [maxLen]; omega) (by omega) (by simp; omega) (w6.heap.size + 1) (by simp) ?_; intro gg cap w7 hown hgrow hat hgl; have hV7 := (hgrow.block V H6a.vo.lt (fun e => ltB V e.symm rfl)).trans H6a.vo.hV; have q1 := Lib.cell_of_heap hV7 0; have f1 := Lib.frozen_of_heap hV7 0; simp only [qqk, qy] at q1)))
      all_goals go_wp2
      all_goals go_roundg j
      all_goals first
       | omega
       | (obtain ⟨h1, h2⟩ := HQ.out
          have b6a := (qa w6.heap.size w6).alloc (qb _) (.cells #[I i0, I i1, I kd, I lg, I dt, .slice ha hs.length hc, .slice ga gs.length gc, I ar, I orn, I dy, .slice la ys.length lc, I sm, I be] 31)
          have H7 := H6a.pushE hgrow (n := v'.evs.length + 1) (x := ⟨i0, i1, kd, lg, dt, hs, gs, ar, orn, dy, ys, sm, be⟩) rfl hown (rows6.step fun k o T hk _ _ => b6a.block k (aA hk))
          have V7 := ((((V2.trans (RS.of_below (qa _ w2).drew)).trans (RS.evt a6 hi6)).trans (RS.of_below b6a)).trans (RS.growE (a := ⟨gg, 0, none⟩) (n := v'.evs.length + 1) (cap := cap) hgrow (hat.imp id (fun e => by rw [e]; simp)))).trans (RS.set V 0 (.slice (some ⟨gg, 0, none⟩) (v'.evs.length + 1) cap) (by simp))
          exact ⟨_, n + 1, s5, _, _, tv', _, by omega, by omega, h1, rfl, by omega, by omega, by simp only [qi, qqt]; omega, by simp only; omega, H7, V7⟩)
end
end Go.Proofs.YtgkhemnmcgicnaaGreatDoor
namespace Go.Dam
section
variable {P : Program}
end
section
variable {P : Program} {E : bV} {A : Nat -> Prop} {w : World}
end
section
variable {P : Program} {callF : Fn -> List Value -> St -> Option (Value × St)}
end
section
variable {P : Program} {callF : Fn -> List Value -> St -> Option (Value × St)}
def oF (callF : Fn -> List Value -> St -> Option (Value × St)) (P : Program) (f : Nat) : Nat -> Code -> List Value -> St -> Option (Code × List Value × St)
 | 0, c, tm, S => some (c, tm, S)
 | k + 1, .seq a b, tm, S => match evC callF P f a tm S with
  | some (.normal, tm', S') => oF callF P f k b tm' S'
  | _ => none
 | _ + 1, _, _, _ => none
theorem CE {f : Nat} : ∀ {k : Nat} {c c' : Code} {tm tm' : List Value} {S S' : St}, oF callF P f k c tm S = some (c', tm', S') -> S.next <= S'.next
 | 0, _, _, _, _, _, _, h => by
  simp only [oF, ya, yc] at h
  rw [h.2.2]; exact yh _
 | k + 1, c, c', tm, tm', S, S', h => by
  cases c with
  | seq a b =>
   simp only [oF] at h
   split at h
   ·rename_i h1
    exact yya (dX h1) (CE h)
   ·cases h
  | _ => simp [oF] at h
theorem zX (hm : P.follows .mixedOrders = true) (hcf : gE P callF) (hnm : eM P) {f : Nat} {Q : Exit -> Act -> World -> Prop} : ∀ {k : Nat} {c c' : Code} {tm tm' : List Value} {S S' : St}, oF callF P f k c tm S = some (c', tm', S') -> dE P c = true ->
  ∀ {E : bV} {A : Nat -> Prop} {a : Act} {w : World}, Tm E A tm a -> rM P E A -> S.next % 2 = 0 -> aV P E A S.heap w -> (∀ n, A n -> n < S.next) -> gF P none E A S w a tm' S' (c'.wpIn (rd none) 0 P Q) -> c.wpIn (rd none) 0 P Q a w
 | 0, c, c', tm, tm', S, S', h, hok, E, A, a, w, ht, hg, hev, H, hA, hQ => by
  simp only [oF, ya, yc] at h
  obtain ⟨rfl, rfl, rfl⟩ := h
  exact hQ E a w (aX.refl H) ⟨ht.tmps, fun x hx => kX (ht.sc x hx)⟩ (D6.of_eq rfl)
 | k + 1, c, c', tm, tm', S, S', h, hok, E, A, a, w, ht, hg, hev, H, hA, hQ => by
  cases c with
  | seq x y =>
   simp only [dE, yd] at hok
   simp only [oF] at h
   split at h
   ·rename_i tm1 S1 h1
    have hA' : ∀ n, A n -> ¬ (S.next <= n /\ n < S1.next) := fun n hn hx => by have := hA n hn; omega
    have m2 := CE h
    refine wpIn_seq ((k9 hm hcf hnm f).1 x tm S .normal tm1 S1 h1 hok.1 none (fun hx => by cases hx) E A a w _ ht hg hev H hA' ?_)
    intro E1 a1 w1 p ht1 hd1
    refine zX hm hcf hnm h hok.2 ht1 (hg.next (p.agreeA hA') fun n hn => .inl hn) (by rw [p.even, hev]) p.holds ?_ (hQ.trans p hd1 m2)
    have := p.le
    rintro n (hn | hn)
    ·have := hA n hn; omega
    ·omega
   ·cases h
  | _ => simp [oF] at h
theorem KG {C : Type} {g : FuncId} {fn : Func} {c : Code} {args : List Value} {S : St} {E : bV} {A : Nat -> Prop} {w : World} {tmR : C -> List Value} {SR : C -> St} {vs : C -> List Value}
  (hfn : P.funcs[g]? = some fn) (hc : fn.body = some c) (hargs : ∀ x ∈ args, Sc A x) (hvs : ∀ k, iE P (SR k).heap (tmR k) fn.results.toList = some (vs k))
  (hbody : ∀ (a : Act), Tm E A (args ++ List.replicate (fn.ntmps - args.length) undef) a -> a.defers = [] -> ∀ Q : Exit -> Act -> World -> Prop, (∀ k, gF P none E A S w a (tmR k) (SR k) (fun a' w' => Q .normal a' w' /\ Q .ret a' w')) -> c.wpIn (rd none) 0 P Q a w) :
  Calls P g (args.map (aK E)).toArray w fun e w' => ∃ k E', e = .returned (aK E' (g8 (vs k))) /\ aX P E A S.heap S.next w E' (SR k).heap (SR k).next w' /\ Sc (fun n => A n \/ (S.next <= n /\ n < (SR k).next)) (g8 (vs k)) := by
 refine (callsIn_wide (n := 0)).1 (callsIn_of_wp_marks hfn hc trivial ?_)
 have ht : Tm E A (args ++ List.replicate (fn.ntmps - args.length) undef) { tmps := (args.map (aK E)).toArray ++ Array.replicate (fn.ntmps - (args.map (aK E)).toArray.size) undef, defers := [] } := by
  refine ⟨by simp [iV], ?_⟩
  intro x hx
  rcases yy.1 hx with hx | hx
  ·exact hargs x hx
  ·rw [(List.mem_replicate.1 hx).2]; exact l6 _
 refine hbody _ ht rfl _ fun k => ?_
 intro E' a' w' p ht' hd
 obtain ⟨Ds, hd1, _, hd2, hd3⟩ := hd
 simp only [List.append_nil] at hd1
 have this : LeavesInM (rd none) 0 P fn a'.tmps (fun e w' => ∃ k E', e = .returned (aK E' (g8 (vs k))) /\ aX P E A S.heap S.next w E' (SR k).heap (SR k).next w' /\ Sc (fun n => A n \/ (S.next <= n /\ n < (SR k).next)) (g8 (vs k))) a'.defers .returning w' := by
  rw [hd1]
  refine qH (fun w'' p'' => ?_) Ds w' p hd2 hd3
  obtain ⟨r1, r2⟩ := uM (fn := fn) p''.holds ht' (hvs k)
  exact ⟨_, r1, k, E', rfl, p'', r2⟩
 exact ⟨this, this⟩
end
set_option maxHeartbeats 1000000
section
variable {P : Program} {callF : Fn -> List Value -> St -> Option (Value × St)}
theorem tV (hcf : gE P callF) (hnm : eM P) {opsA : Array Oper} {Q : Exit -> Act -> World -> Prop} {l2 : List Oper} : ∀ {l : List Oper} {tm tm' : List Value} {S S' : St} {E : bV} {A : Nat -> Prop} {a : Act} {w : World},
  nA callF P opsA.toList l tm S = some (tm', S') -> (∀ o ∈ l, ∀ x ∈ o.op.operands, pD P x = true) -> Tm E A tm a -> rM P E A -> S.next % 2 = 0 -> aV P E A S.heap w -> (∀ n, A n -> n < S.next) ->
  gF P none E A S w a tm' S' (wpListIn (rd none) 0 P opsA Q l2) -> wpListIn (rd none) 0 P opsA Q (l ++ l2) a w
 | [], tm, tm', S, S', E, A, a, w, h, hops, ht, hg, hev, H, hA, hQ => by
  simp only [nA, ya, yc] at h
  obtain ⟨rfl, rfl⟩ := h
  exact hQ E a w (aX.refl H) ⟨ht.tmps, fun x hx => kX (ht.sc x hx)⟩ (D6.of_eq rfl)
 | o :: r, tm, tm', S, S', E, A, a, w, h, hops, ht, hg, hev, H, hA, hQ => by
  simp only [nA] at h
  rw [List.cons_append]
  refine wpListIn_step fun K hK => ?_
  rw [yQ ht]
  split at h
  ·rename_i hgd
   rw [if_pos hgd]
   split at h
   ·rename_i v S₁ hs
    simp only [yb] at h
    have hle := ye h.1
    have hle' := jY h.2
    have hA₁ : ∀ n, A n -> ¬ (S.next <= n /\ n < S₁.next) := fun n hn hx => by have := hA n hn; omega
    refine sU hcf hnm ht hg hev H (hops o (by simp)) hA₁ hs (o5 hs) none K Q ?_
    intro E₁ w₁ p hsc
    refine hK _ _ (tV hcf hnm h.2 (fun o' ho' => hops o' (by simp [ho'])) (ht.put (p.agreeA hA₁) (fun n hn => .inl hn) hsc) (hg.next (p.agreeA hA₁) fun n hn => .inl hn) (by rw [p.even, hev]) p.holds ?_ (hQ.trans p ?_ hle'))
    ·rintro n (hn | hn)
     ·have := hA n hn; omega
     ·omega
    ·exact D6.of_eq (by unfold Act.put; split <;> rfl)
   ·simp at h
  ·rename_i hgd
   rw [if_neg hgd]
   have hp : Tm E A (n7 tm o.dst undef) (a.put o.dst undef) := by
    have := ht.put (E' := E) (B := A) (dst := o.dst) (v := undef) (fun n _ => ⟨rfl, rfl, rfl⟩) (fun n hn => hn) (l6 _)
    rwa [iV] at this
   refine ⟨fun _ _ => trivial, hK _ _ (tV hcf hnm h (fun o' ho' => hops o' (by simp [ho'])) hp hg hev H hA ?_)⟩
   intro E' a' w' p ht' hd'
   refine hQ E' a' w' p ht' ?_
   have he : (a.put o.dst undef).defers = a.defers := by unfold Act.put; split <;> rfl
   obtain ⟨Ds, e1, e2⟩ := hd'
   exact ⟨Ds, by rw [e1, he], e2⟩
theorem RC (hnm : eM P) {C : Type} {o : Oper} {c : Call} {g : FuncId} (ho : o.op = .call c) (hc : c.callee = .value (.func g)) (hb : tR P g = true) (hok : ∀ x ∈ c.args, pD P x = true) {E : bV} {A : Nat -> Prop} {tm : List Value} {a : Act} {w : World} {S : St} (ht : Tm E A tm a) (hg : rM P E A)
  {v : C -> Value} {SR : C -> St} (hcalls : Calls P g ((c.args.toList.map (aH tm)).map (aK E)).toArray w fun e w' => ∃ (k : C) (E' : bV), e = .returned (aK E' (v k)) /\ aX P E A S.heap S.next w E' (SR k).heap (SR k).next w' /\ Sc (fun n => A n \/ (S.next <= n /\ n < (SR k).next)) (v k))
  {ro : Option Nat} {K : Act -> World -> Prop} {Q : Exit -> Act -> World -> Prop} (hK : ∀ (k : C) (E' : bV) (w' : World), aX P E A S.heap S.next w E' (SR k).heap (SR k).next w' -> Sc (fun n => A n \/ (S.next <= n /\ n < (SR k).next)) (v k) -> K (a.put o.dst (aK E' (v k))) w') : o.wpIn (rd ro) 0 P a w K Q := by
 obtain ⟨fn, hfn, hbody⟩ : ∃ fn, P.funcs[g]? = some fn /\ fn.body.isSome = true := by
  unfold tR at hb
  split at hb
  ·rename_i fn hfn; exact ⟨fn, hfn, hb⟩
  ·cases hb
 have hf : a.eval (.func g) = .func (.func g) #[] #[] := rfl
 have hres : resolve a.eval c o.type = pure { target := .fn (.func g) #[], args := #[] ++ ((c.args.toList.map (aH tm)).map (aK E)).toArray } :=
  uG hc hf fun x hx => (wP ht hg (hok x hx)).1
 have hex : execOp a.eval o = callFunc g ((c.args.toList.map (aH tm)).map (aK E)).toArray := by
  simp only [execOp, ho, hres]
  simp [invoke]
 refine nG (by rw [ho]; simp) ?_
 rw [hex, gZ hfn hbody (hnm g fn hfn hbody)]
 refine ⟨wM ro, (B8 hcalls).mono ?_⟩
 rintro e w' ⟨k, E', rfl, h1, h2⟩
 exact hK k E' w' h1 h2
theorem RD (hcf : gE P callF) (hnm : eM P) {C : Type} {i : Nat} {opsA : Array Oper} {l1 l2 : List Oper} {o : Oper} {c : Call} {g : FuncId} (hl : opsA.toList = l1 ++ o :: l2) (hokl : ∀ o ∈ opsA.toList, ∀ x ∈ o.op.operands, pD P x = true) (ho : o.op = .call c) (hog : o.guard = none) (hc : c.callee = .value (.func g)) (hb : tR P g = true)
  {tm tm1 : List Value} {S S1 : St} (h1 : nA callF P opsA.toList l1 tm S = some (tm1, S1)) {v : C -> Value} {SR : C -> St} {tmR : C -> List Value} {SE : C -> St} (h2 : ∀ k, nA callF P opsA.toList l2 (n7 tm1 o.dst (v k)) (SR k) = some (tmR k, SE k))
  (hcalls : ∀ (E : bV) (A : Nat -> Prop) (w : World), rM P E A -> S1.next % 2 = 0 -> (∀ x ∈ c.args.toList.map (aH tm1), Sc A x) -> aV P E A S1.heap w -> (∀ n, A n -> n < S1.next) -> Calls P g ((c.args.toList.map (aH tm1)).map (aK E)).toArray w fun e w' => ∃ (k : C) (E' : bV), e = .returned (aK E' (v k)) /\ aX P E A S1.heap S1.next w E' (SR k).heap (SR k).next w' /\ Sc (fun n => A n \/ (S1.next <= n /\ n < (SR k).next)) (v k))
  {E : bV} {A : Nat -> Prop} {a : Act} {w : World} {Q : Exit -> Act -> World -> Prop} (ht : Tm E A tm a) (hg : rM P E A) (hev : S.next % 2 = 0) (H : aV P E A S.heap w) (hA : ∀ n, A n -> n < S.next) (hQ : ∀ k, gF P none E A S w a (tmR k) (SE k) (Q .normal)) : (Code.region i opsA false).wpIn (rd none) 0 P Q a w := by
 refine wpIn_region_list ?_
 rw [hl]
 have hm1 := jY h1
 refine tV hcf hnm h1 (fun o' ho' => hokl o' (by rw [hl]; simp [ho'])) ht hg hev H hA ?_
 intro E1 a1 w1 p1 ht1 hd1
 have b1 : ∀ n, A n -> ¬ (S.next <= n /\ n < S1.next) := fun n hn hx => by have := hA n hn; omega
 have hA1 : ∀ n, (A n \/ (S.next <= n /\ n < S1.next)) -> n < S1.next := by
  rintro n (hn | hn)
  ·have := hA n hn; omega
  ·omega
 have hg1 := hg.next (p1.agreeA b1) (B := fun n => A n \/ (S.next <= n /\ n < S1.next)) fun n hn => .inl hn
 have hokc : ∀ x ∈ c.args, pD P x = true := fun x hx => hokl o (by rw [hl]; simp) x (by rw [ho]; simp [Op.operands, Call.operands, hc, hx])
 refine wpListIn_step fun K hK => ?_
 rw [if_pos (by simp [Region.wanted, hog])]
 refine RC hnm (S := S1) ho hc hb hokc ht1 hg1 (hcalls E1 _ w1 hg1 (by rw [p1.even, hev]) ?_ p1.holds hA1) ?_
 ·intro x hx
  obtain ⟨y, hy, rfl⟩ := yw.1 hx
  exact (wP ht1 hg1 (hokc y (by simpa using hy))).2
 ·intro k E2 w2 p2 hsc
  have hm2 := jY (h2 k)
  have b2 : ∀ n, (A n \/ (S.next <= n /\ n < S1.next)) -> ¬ (S1.next <= n /\ n < (SR k).next) := fun n hn hx => by have := hA1 n hn; omega
  have hpd : (a1.put o.dst (aK E2 (v k))).defers = a1.defers := by unfold Act.put; split <;> rfl
  have hfin := tV hcf hnm (l2 := []) (Q := Q) (h2 k) (fun o' ho' => hokl o' (by rw [hl]; simp [ho'])) (ht1.put (dst := o.dst) (p2.agreeA b2) (fun n hn => .inl hn) hsc) (hg1.next (p2.agreeA b2) fun n hn => .inl hn) (by rw [p2.even, p1.even, hev]) p2.holds (by
   have := p2.le
   rintro n (hn | hn)
   ·have := hA1 n hn; omega
   ·omega) ((((hQ k).trans p1 hd1 (yya p2.le hm2)).trans p2 (D6.of_eq hpd) hm2))
  rw [List.append_nil] at hfin
  exact hK _ _ hfin
end
end Go.Dam
