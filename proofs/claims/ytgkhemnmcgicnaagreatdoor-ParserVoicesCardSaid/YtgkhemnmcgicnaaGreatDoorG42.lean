/- Towards the law ParserVoices, true for every text (no condition): one part of the proof. -/
import Derived.Test.YtgkhemnmcgicnaaGreatDoorG01
import Derived.Test.YtgkhemnmcgicnaaGreatDoorG41
import Derived.Deep.Cut
import Derived.Deep.CutBlock
namespace Go.Proofs.YtgkhemnmcgicnaaGreatDoor
set_option maxHeartbeats 32000000
set_option maxRecDepth 100000
open Go.RowKit
section
variable {W0 : World} {T : List bD} {X : Nat} {lv iv : Value} {st : aU} {w : World}
theorem TW (h : MS T X true lv iv st w) (B : lG W0 (X :: iv.ownBlock.toList) w) : Calls Tryz.prog 9 #[.pointer (some ⟨X, 0, none⟩)] w fun r w' => ∃ v iv', r = .returned v /\ EvR w.heap.size (eX aD T 0 st).1 v w' /\ MS T X true lv iv' (eX aD T 0 st).2 w' /\ aB (X :: iv.ownBlock.toList) w w' /\ ∀ k, iv'.ownBlock = some k -> iv.ownBlock = some k \/ w.heap.size <= k := by
 obtain ⟨i7, hi7, hz70, hz71, hz72⟩ : ∃ i, Tryz.prog.info? 77 = some i /\ i.zero.isSome = true /\ i.size = 5 /\ i.bytes = 40 := by
  have := Tryz.infograces
  cases hi : Tryz.prog.info? 77 with
  | none => rw [hi] at this; cases this
  | some i => rw [hi] at this; simp only [qqh, qm, qz] at this; exact ⟨i, rfl, this.1, this.2.1, this.2.2⟩
 obtain ⟨i8, hi8, hz80, hz81, hz82⟩ : ∃ i, Tryz.prog.info? 80 = some i /\ i.zero.isSome = true /\ i.size = 5 /\ i.bytes = 40 := by
  have := Tryz.infoheads
  cases hi : Tryz.prog.info? 80 with
  | none => rw [hi] at this; cases this
  | some i => rw [hi] at this; simp only [qqh, qm, qz] at this; exact ⟨i, rfl, this.1, this.2.1, this.2.2⟩
 obtain ⟨z7, hz7⟩ := Option.isSome_iff_exists.1 hz70
 obtain ⟨z8, hz8⟩ := Option.isSome_iff_exists.1 hz80
 have hc7 := oM hi7 hz7
 have hc8 := pW hi8 hz8
 have lX := h.lt
 have hmax := h.good.max
 have lI : ∀ k, iv.ownBlock = some k -> k < w.heap.size := fun k hk => by
  obtain ⟨_, pos0, is0, im0, n0, xs0, e0, line0, col0, m1, m2, m3⟩ := h
  exact (m1.ids.lt k hk).2
 have hlo : ∀ k ∈ X :: iv.ownBlock.toList, k < w.heap.size := fun k hk => by
  rcases qqj.1 hk with h1 | h1
  ·omega
  ·exact lI k (by simpa using h1)
 have hR0 := qc w (.cells (evC 0 0 0 0 0 (.slice none 0 0) (.slice none 0 0) ⟨0, 0, 0, 0, 0⟩ (.slice none 0 0)) 31)
 have b0 := (qa w.heap.size w).alloc (qb _) (.cells (evC 0 0 0 0 0 (.slice none 0 0) (.slice none 0 0) ⟨0, 0, 0, 0, 0⟩ (.slice none 0 0)) 31)
 have x1 := RX (h.step b0)
 obtain ⟨o, g, b, vl, at9, y, ho, hg, hb, hv, ha, hy, he⟩ := AF (O := aD) (T := T) (q := 0) st
 rw [he]
 rw [<- ho] at x1
 clear he ho
 obtain ⟨⟨i0, i1⟩, s0⟩ := o
 simp only at x1 hg |-
 have HG : Shut ((isS T ⟨#[103, 114, 97, 99, 101]⟩ s0 = true /\ g = kW T (aY aD T 0) ⟨#[41]⟩ (bE T ⟨#[40]⟩ (aS T ⟨#[103, 114, 97, 99, 101]⟩ s0))) \/ (isS T ⟨#[103, 114, 97, 99, 101]⟩ s0 = false /\ aS T ⟨#[103, 114, 97, 99, 101]⟩ s0 = s0 /\ g = ([], s0))) := by rw [hg]; exact xA s0
 have HB := aQ (CZ (O := aD) (T := T) g.2)
 rw [<- hb] at HB
 have HV := aQ (FC (O := aD) (T := T) b.1.1 b.2)
 rw [<- hv] at HV
 have HY := aQ (And.intro ha hy)
 clear hg hb hv ha hy
 obtain ⟨gs, s1⟩ := g
 obtain ⟨⟨kd, hs⟩, s2⟩ := b
 obtain ⟨⟨lg, dt⟩, s3⟩ := vl
 obtain ⟨A9, s4⟩ := at9
 obtain ⟨ys, s5⟩ := y
 simp only at HG HB HV HY |-
 go_enter Tryz.func9, Tryz.ntmps9
 go_wp2_with (go_at_call 23; refine x1.mono ?_)
 rintro r w1 ⟨rfl, iv1, hS1, a1, hiv1⟩
 have hRX : w.heap.size ∉ X :: iv.ownBlock.toList := fun hm => by have := hlo _ hm; omega
 have hR1 := a1.at hR0 (by
  intro hm
  rcases qqj.1 hm with h1 | h1
  ·omega
  ·have := lI _ (by simpa using h1); omega)
 have lR1 := aA hR1
 have a01 := (aB.of_below (bs := X :: iv.ownBlock.toList) b0).trans a1
 have V : sX (X :: iv.ownBlock.toList) w.heap.size w1.heap.size ⟨i0, i1, 0, 0, 0, eN, eN, eN⟩ A0 [] [] [] w (w1.alloc (.cells (evC i0 i1 0 0 0 (.slice none 0 0) (.slice none 0 0) ⟨0, 0, 0, 0, 0⟩ (.slice none 0 0)) 31)) :=
  ⟨(Lib.alloc_old w1 _ _ lR1).trans hR1, qc w1 _, hC.nil _ _, a01.alloc _, qb _, lR1, hlo⟩
 have hS2 := hS1.step ((qa _ w1).alloc (qb _) (.cells (evC i0 i1 0 0 0 (.slice none 0 0) (.slice none 0 0) ⟨0, 0, 0, 0, 0⟩ (.slice none 0 0)) 31))
 have x2 := eD hS2 ⟨#[103, 114, 97, 99, 101]⟩
 have H1 := aQ (And.intro hS1 hiv1)
 have hE1 : Shut (w1.heap.size <= w1.heap.size /\ w.heap.size <= w1.heap.size) := ⟨qb _, a01.size⟩
 clear x1 h hR0 hR1 b0 a1 a01 hRX hS1 lR1 hiv1 hlo lI
 generalize isS T ⟨#[103, 114, 97, 99, 101]⟩ s0 = bg at x2 HG
 generalize aS T ⟨#[103, 114, 97, 99, 101]⟩ s0 = sg at x2 HG
 unfold evC at V hS2 x2
 go_upto_if 8 with (go_at_call 24; (with_reducible refine x2.mono ?_); rintro rr w2 ⟨rfl, hS3, a3⟩)
 have V3 := V.away a3 (by simp)
 obtain ⟨E, hEE⟩ : ∃ E, Shut (E = w1.heap.size) := ⟨_, rfl⟩
 rw [<- hEE.out] at V3 |-
 clear V x2 hS2 a3
 go_cut [] from 4 (fun wc => ∃ gv, sX (X :: iv.ownBlock.toList) w.heap.size E ⟨i0, i1, 0, 0, 0, eN, gv, eN⟩ A0 [] gs [] w wc /\ MS T X true lv iv1 s1 wc)
 case first =>
  rcases HG.out with ⟨rfl, hge⟩ | ⟨rfl, rfl, hge⟩
  ·have xe := fM hS3 ⟨#[40]⟩
   generalize bE T ⟨#[40]⟩ sg = s6 at xe hge
   have hpr : PC (aY aD T 0) := DD aD T 0
   have hsev : kW T (aY aD T 0) ⟨#[41]⟩ s6 = ((aY aD T 0 s6).1 :: (bT T (aY aD T 0) ⟨#[41]⟩ T.length (aY aD T 0 s6).2).1, bE T ⟨#[41]⟩ (bT T (aY aD T 0) ⟨#[41]⟩ T.length (aY aD T 0 s6).2).2) := rfl
   rw [hsev] at hge
   have hn0 : need T (aY aD T 0 s6).2 <= T.length := by
    cases (aY aD T 0 s6).2 with
    | ok p => exact Nat.sub_le _ _
    | bad e l c => exact qn _
   obtain ⟨tot, htot⟩ : ∃ tot, tot = bT T (aY aD T 0) ⟨#[41]⟩ T.length (aY aD T 0 s6).2 := ⟨_, rfl⟩
   rw [<- htot] at hge
   have xg := fun w' (hh : MS T X true lv iv1 s6 w') (BB : lG W0 [X] w') => LG hh BB
   generalize aY aD T 0 s6 = q9 at hge htot hn0 xg
   obtain ⟨x1, s7⟩ := q9
   obtain ⟨N, hN⟩ : ∃ N, Shut (T.length = N) := ⟨_, rfl⟩
   have hN4 : N <= 4001 := by rw [<- hN.out]; exact hmax
   rw [hN.out] at htot hn0
   simp only at htot hn0 hge xg
   have HGE := aQ hge
   have HT := aQ (And.intro htot hn0)
   clear hge htot hn0 hsev
   go_wp2_with (go_at_call 25; (with_reducible refine xe.mono ?_))
   intro rr w4; first | (intro he1 hS4 a4; subst he1) | rintro ⟨rfl, hS4, a4⟩
   have V4 := V3.away a4 (by simp)
   clear xe V3 hS3 a4
   go_upto_region 4 with (fail)
   have HX0 : ∃ x' : cY, Shut (x' = x1) := ⟨x1, rfl⟩
   go_cut [] from 4 (fun wc => ∃ v, sX (X :: iv.ownBlock.toList) w.heap.size E ⟨i0, i1, 0, 0, 0, eN, v, eN⟩ A0 [] [x1] [] w wc /\ MS T X true lv iv1 s7 wc)
   case first =>
    obtain ⟨⟨y0, y1, y2⟩, y3, y4⟩ := x1
    simp only [A6] at xg
    have V5 := V4.step (qa _ w4).drew
    have hS5 := hS4.step (qa _ w4).drew
    have xg5 := xg _ hS5 ((B.away V5.aw).less (by simp))
    have cE : w4.cell? ⟨E, 6, none⟩ = some (.slice none 0 0) := V4.cells.2.2.2.2.1
    clear V4 hS4
    go_region_law ((first
     | (go_simp; go_at_call 26; (with_reducible refine xg5.mono ?_); rintro r w6 ⟨rfl, hS6, a6⟩; have V6 := V5.away a6 (by simp); have c6 := V6.cells.2.2.2.2.1; have lE6 := aA V6.hE; have c6a := (qqp w6 (.cells #[I y0, I y1, I y2, I y3, .bool y4] 77) ⟨E, 6, none⟩ lE6).trans c6; have sz6 := V6.aw.size)
     | (refine step_append_lies _ (by rfl) _ _ _ (by rfl) w.heap.size 77 i7 _ 5 40 Tryz.underlying28 hi7 hz7 hz71 hz72 hc7 (by omega) (.slice none 0 0) 0 [] (by rfl) (V6.rows.og.alloc _) ⟨w6.heap.size, 0, none⟩ 1 1 #[.int .i64 y0, .int .i64 y1, .int .i64 y2, .int .i64 y3, .bool y4].toList (by rfl) (by rfl) (World.news_of_block (cs := #[.int .i64 y0, .int .i64 y1, .int .i64 y2, .int .i64 y3, .bool y4]) (t := 77) (fr := (0, 0)) (qc _ _)) (by simp [Value.oneCell']) (by omega) (by simp only [maxLen]; omega) (by omega) (by simp; omega) (w6.heap.size + 1) (by simp) ?_; intro gg cap w9 hown9 hgrow hat hgl; have V7 := V6.step ((qa _ w6).alloc (qb _) (.cells #[.int .i64 y0, .int .i64 y1, .int .i64 y2, .int .i64 y3, .bool y4] 77)); have hS7 := (hS6.step ((qa _ w6).alloc (qb _) (.cells #[.int .i64 y0, .int .i64 y1, .int .i64 y2, .int .i64 y3, .bool y4] 77))).grownT hgrow (fun k hk => by obtain ⟨c, hc⟩ := cA V7.rows.og hk; exact ⟨c, 77, hc, by decide, by decide, by decide⟩); have hE9 := (hgrow.block E (aA V7.hE) (fun e => by obtain ⟨c, hc⟩ := cA V7.rows.og e.symm; exact dN hc V7.hE (by decide))).trans V7.hE; have c9 := Lib.cell_of_heap hE9 6; have f9 := Lib.frozen_of_heap hE9 6; simp only [EF.c, evC, qqk, qy, qqa] at c9)))
    all_goals go_wp2
    all_goals go_meet
    all_goals exact ⟨_, V7.pushG hgrow (n := 0 + 1) (x := ⟨⟨y0, y1, y2⟩, y3, y4⟩) rfl hown9, hS7.set31 hE9 6 _⟩
   case rest =>
    obtain ⟨gv0, V8, hS8⟩ := hcut
    clear V4 hS4 xg HX0
    go_wp2
    go_loopg [] N (fun gk wr => ∃ (l : List cY) (s : aU) (gv9 : Value), l.length + gk = N /\ need T s <= gk /\ (l ++ (bT T (aY aD T 0) ⟨#[41]⟩ gk s).1, (bT T (aY aD T 0) ⟨#[41]⟩ gk s).2) = tot /\ sX (X :: iv.ownBlock.toList) w.heap.size E ⟨i0, i1, 0, 0, 0, eN, gv9, eN⟩ A0 [] (x1 :: l) [] w wr /\ MS T X true lv iv1 s wr)
    case atStart => exact ⟨[], s7, gv0, by simp, HT.out.2, by rw [HT.out.1]; rfl, V8, hS8⟩
    case round =>
     clear V8 hS8
     obtain ⟨l, s, gv9, hlen, hneed, htotal, V9, hS9⟩ := hrel
     have hN1 : (l.length : Int) <= 4001 := by omega
     have fin0 : (bT T (aY aD T 0) ⟨#[41]⟩ gk s) = ([], s) -> l = tot.1 /\ s = tot.2 := fun e => by
      rw [e] at htotal
      simp only [List.append_nil] at htotal
      exact ⟨congrArg (·.1) htotal, congrArg (·.2) htotal⟩
     cases s with
     | bad ee el ec =>
      obtain ⟨c4, hee⟩ := hS9.errCell
      obtain ⟨hl, hs⟩ := fin0 (m0 _ _ _ _ _ _)
      have xe := fM hS9 ⟨#[41]⟩
      have HL := aQ (And.intro hl hs)
      clear fin0 htotal hlen hneed hl hs
      go_wp2_with (go_at_call 25; (with_reducible refine xe.mono ?_))
      intro rr w10; first | (intro he1 hS10 a10; subst he1) | rintro ⟨rfl, hS10, a10⟩
      have V10 := V9.away a10 (by simp)
      clear xe V9 hS9 a10 c4
      go_wp2
      go_meet
      case rel =>
       obtain ⟨r1, r2⟩ := (show gs = x1 :: tot.1 /\ s1 = bE T ⟨#[41]⟩ tot.2 from Prod.mk.inj HGE.out)
       rw [r1, r2, <- HL.out.1, <- HL.out.2]
       exact ⟨_, V10, hS10⟩
     | ok p =>
      have c4 := hS9.okCell
      have hpl := hS9.atCell.2.2
      have xi := uP hS9 ⟨#[41]⟩
      cases hb : isS T ⟨#[41]⟩ (.ok p) with
      | true =>
       rw [hb] at xi
       obtain ⟨hl, hs⟩ := fin0 (by
        cases gk with
        | zero => rfl
        | succ k => rw [bT, if_neg (by rw [hb]; simp)])
       have HL := aQ (And.intro hl hs)
       clear fin0 htotal hlen hneed hl hs hb
       go_wp2_with (go_at_call 27; (with_reducible refine xi.mono ?_))
       intro rr w11; first | (intro he1 b11; subst he1) | rintro ⟨rfl, b11⟩
       have V11 := V9.step b11
       have xe := fM (hS9.step b11) ⟨#[41]⟩
       clear xi V9 hS9 b11 c4
       go_wp2_with (go_at_call 25; (with_reducible refine xe.mono ?_))
       intro rr w10; first | (intro he1 hS10 a10; subst he1) | rintro ⟨rfl, hS10, a10⟩
       have V10 := V11.away a10 (by simp)
       clear xe V11 a10
       go_wp2
       go_meet
       case rel =>
        obtain ⟨r1, r2⟩ := (show gs = x1 :: tot.1 /\ s1 = bE T ⟨#[41]⟩ tot.2 from Prod.mk.inj HGE.out)
        rw [r1, r2, <- HL.out.1, <- HL.out.2]
        exact ⟨_, V10, hS10⟩
      | false =>
       rw [hb] at xi
       obtain ⟨k, hgk⟩ : ∃ k, gk = k + 1 := by
        unfold need at hneed
        exact ⟨gk - 1, by simp only at hneed; omega⟩
       have hmore : bT T (aY aD T 0) ⟨#[41]⟩ gk (.ok p) = ((aY aD T 0 (.ok p)).1 :: (bT T (aY aD T 0) ⟨#[41]⟩ k (aY aD T 0 (.ok p)).2).1, (bT T (aY aD T 0) ⟨#[41]⟩ k (aY aD T 0 (.ok p)).2).2) := by
        rw [hgk, bT, if_pos ⟨rfl, hb⟩]
       have hnx : need T (aY aD T 0 (.ok p)).2 <= k := t8 hpr hpl (by omega)
       rw [hmore] at htotal
       have xr := fun w' (hh : MS T X true lv iv1 (.ok p) w') (BB : lG W0 [X] w') => LG hh BB
       generalize aY aD T 0 (.ok p) = qq at xr hnx htotal
       obtain ⟨⟨⟨z0, z1, z2⟩, z3, z4⟩, s2⟩ := qq
       simp only [A6] at xr
       simp only at hnx htotal
       have HA := aQ (And.intro hnx (And.intro htotal (And.intro hlen hgk)))
       clear fin0 hmore hnx htotal hlen hgk hneed hb
       go_wp2_with (go_at_call 27; (with_reducible refine xi.mono ?_))
       intro rr w11; first | (intro he1 b11; subst he1) | rintro ⟨rfl, b11⟩
       have V11 := V9.step b11
       have hS11 := hS9.step b11
       obtain ⟨ga, gc, rfl⟩ := bX V11.rows.og
       clear xi V9 hS9 b11 c4
       go_wp2
       have V5 := V11.step (qa _ w11).drew
       have hS5 := hS11.step (qa _ w11).drew
       have xg5 := xr _ hS5 ((B.away V5.aw).less (by simp))
       have cE : w11.cell? ⟨E, 6, none⟩ = some (.slice ga (l.length + 1) gc) := V11.cells.2.2.2.2.1
       clear V11 hS11
       go_region_law ((first
        | (go_simp; go_at_call 26; (with_reducible refine xg5.mono ?_); rintro r w6 ⟨rfl, hS6, a6⟩; have V6 := V5.away a6 (by simp); have c6 := V6.cells.2.2.2.2.1; have lE6 := aA V6.hE; have c6a := (qqp w6 (.cells #[I z0, I z1, I z2, I z3, .bool z4] 77) ⟨E, 6, none⟩ lE6).trans c6; have sz6 := V6.aw.size)
        | (refine step_append_lies _ (by rfl) _ _ _ (by rfl) w.heap.size 77 i7 _ 5 40 Tryz.underlying28 hi7 hz7 hz71 hz72 hc7 (by omega) (.slice ga (l.length + 1) gc) (l.length + 1) (cH cY.cells (x1 :: l)) (by rfl) (V6.rows.og.alloc _) ⟨w6.heap.size, 0, none⟩ 1 1 #[.int .i64 z0, .int .i64 z1, .int .i64 z2, .int .i64 z3, .bool z4].toList (by rfl) (by rfl) (World.news_of_block (cs := #[.int .i64 z0, .int .i64 z1, .int .i64 z2, .int .i64 z3, .bool z4]) (t := 77) (fr := (0, 0)) (qc _ _)) (by simp [Value.oneCell']) (by omega) (by simp only [maxLen]; omega) (by omega) (by simp; omega) (w6.heap.size + 1) (by simp) ?_; intro gg cap w9 hown9 hgrow hat hgl; have V7 := V6.step ((qa _ w6).alloc (qb _) (.cells #[.int .i64 z0, .int .i64 z1, .int .i64 z2, .int .i64 z3, .bool z4] 77)); have hS7 := (hS6.step ((qa _ w6).alloc (qb _) (.cells #[.int .i64 z0, .int .i64 z1, .int .i64 z2, .int .i64 z3, .bool z4] 77))).grownT hgrow (fun k hk => by obtain ⟨c, hc⟩ := cA V7.rows.og hk; exact ⟨c, 77, hc, by decide, by decide, by decide⟩); have hE9 := (hgrow.block E (aA V7.hE) (fun e => by obtain ⟨c, hc⟩ := cA V7.rows.og e.symm; exact dN hc V7.hE (by decide))).trans V7.hE; have c9 := Lib.cell_of_heap hE9 6; have f9 := Lib.frozen_of_heap hE9 6; simp only [EF.c, evC, qqk, qy, qqa] at c9)))
       all_goals go_wp2
       all_goals go_roundg (gk - 1)
       all_goals first
        | (have := HA.out.2.2.2; omega)
        | (obtain ⟨r1, r2, r3, r4⟩ := HA.out
           have e1 : gk - 1 = k := by omega
           rw [e1]
           refine ⟨l ++ [⟨⟨z0, z1, z2⟩, z3, z4⟩], s2, _, by simp only [qi, qj, qqi]; omega, r1, by rw [<- r2]; simp, V7.pushG hgrow (n := l.length + 1 + 1) (x := ⟨⟨z0, z1, z2⟩, z3, z4⟩) (by simp) hown9, hS7.set31 hE9 6 _⟩)
  ·injection hge with e1 e2
   subst e1 e2
   go_wp2
   go_meet
   case rel => exact ⟨_, V3, hS3⟩
 case rest =>
  obtain ⟨gv, V4, hS4⟩ := hcut
  clear V3 hS3 HG
  go_upto_block 2 with (fail)
  go_cut [] from 4 (fun wc => ∃ hv, sX (X :: iv.ownBlock.toList) w.heap.size E ⟨i0, i1, kd, 0, 0, hv, gv, eN⟩ A0 hs gs [] w wc /\ MS T X true lv iv1 s2 wc)
  case first =>
   have xR := fun w' (hh : MS T X true lv iv1 s1 w') => eD hh ⟨#[82]⟩
   have xr := fun w' (hh : MS T X true lv iv1 s1 w') => eD hh ⟨#[114]⟩
   have xS := fun w' (hh : MS T X true lv iv1 s1 w') => eD hh ⟨#[115]⟩
   have xl := fun w' (hh : MS T X true lv iv1 s1 w') => eD hh ⟨#[60]⟩
   generalize isS T ⟨#[82]⟩ s1 = b1 at xR HB
   generalize isS T ⟨#[114]⟩ s1 = b2 at xr HB
   generalize isS T ⟨#[115]⟩ s1 = b3 at xS HB
   generalize isS T ⟨#[60]⟩ s1 = b4 at xl HB
   generalize aS T ⟨#[82]⟩ s1 = q1 at xR HB
   generalize aS T ⟨#[114]⟩ s1 = q2 at xr HB
   generalize aS T ⟨#[115]⟩ s1 = q3 at xS HB
   generalize aS T ⟨#[60]⟩ s1 = q4 at xl HB
   rcases HB.out with ⟨rfl, hbe⟩ | ⟨rfl, rfl, ⟨rfl, hbe⟩ | ⟨rfl, rfl, ⟨rfl, hbe⟩ | ⟨rfl, rfl, ⟨rfl, hbe⟩ | ⟨rfl, rfl, hbe⟩⟩⟩⟩
   ·simp only [qz] at hbe
    obtain ⟨⟨rfl, rfl⟩, rfl⟩ := hbe
    clear xr xS xl
    have x5 := xR _ hS4
    go_wp2_with (go_at_call 24; (with_reducible refine x5.mono ?_))
    intro rr v5; first | (intro he1 hT5 a5; subst he1) | rintro ⟨rfl, hT5, a5⟩
    have U5 := V4.away a5 (by simp)
    clear V4 x5 xR hS4 a5
    have c2 := U5.cells.1
    have f2 := U5.cells.2.2.2.2.2.2 2
    have V20 := U5.put 2 (I 3) (F' := ⟨i0, i1, 3, 0, 0, eN, gv, eN⟩) (A' := A0) rfl U5.rows
    have hS20 := hT5.set31 U5.hE 2 (I 3)
    clear U5 hT5
    go_wp2
    go_meet
    case rel => exact ⟨_, V20, hS20⟩
   ·simp only [qz] at hbe
    obtain ⟨⟨rfl, rfl⟩, rfl⟩ := hbe
    clear xS xl
    have x5 := xR _ hS4
    go_wp2_with (go_at_call 24; (with_reducible refine x5.mono ?_))
    intro rr v5; first | (intro he1 hT5 a5; subst he1) | rintro ⟨rfl, hT5, a5⟩
    have U5 := V4.away a5 (by simp)
    clear V4 x5 xR hS4 a5
    have x6 := xr _ hT5
    go_wp2_with (go_at_call 24; (with_reducible refine x6.mono ?_))
    intro rr v6; first | (intro he1 hT6 a6; subst he1) | rintro ⟨rfl, hT6, a6⟩
    have U6 := U5.away a6 (by simp)
    clear U5 x6 xr hT5 a6
    have c2 := U6.cells.1
    have f2 := U6.cells.2.2.2.2.2.2 2
    have V20 := U6.put 2 (I 2) (F' := ⟨i0, i1, 2, 0, 0, eN, gv, eN⟩) (A' := A0) rfl U6.rows
    have hS20 := hT6.set31 U6.hE 2 (I 2)
    clear U6 hT6
    go_wp2
    go_meet
    case rel => exact ⟨_, V20, hS20⟩
   ·simp only [qz] at hbe
    obtain ⟨⟨rfl, rfl⟩, rfl⟩ := hbe
    clear xl
    have x5 := xR _ hS4
    go_wp2_with (go_at_call 24; (with_reducible refine x5.mono ?_))
    intro rr v5; first | (intro he1 hT5 a5; subst he1) | rintro ⟨rfl, hT5, a5⟩
    have U5 := V4.away a5 (by simp)
    clear V4 x5 xR hS4 a5
    have x6 := xr _ hT5
    go_wp2_with (go_at_call 24; (with_reducible refine x6.mono ?_))
    intro rr v6; first | (intro he1 hT6 a6; subst he1) | rintro ⟨rfl, hT6, a6⟩
    have U6 := U5.away a6 (by simp)
    clear U5 x6 xr hT5 a6
    have x7 := xS _ hT6
    go_wp2_with (go_at_call 24; (with_reducible refine x7.mono ?_))
    intro rr v7; first | (intro he1 hT7 a7; subst he1) | rintro ⟨rfl, hT7, a7⟩
    have U7 := U6.away a7 (by simp)
    clear U6 x7 xS hT6 a7
    have c2 := U7.cells.1
    have f2 := U7.cells.2.2.2.2.2.2 2
    have V20 := U7.put 2 (I 4) (F' := ⟨i0, i1, 4, 0, 0, eN, gv, eN⟩) (A' := A0) rfl U7.rows
    have hS20 := hT7.set31 U7.hE 2 (I 4)
    clear U7 hT7
    go_wp2
    go_meet
    case rel => exact ⟨_, V20, hS20⟩
   ·have hge : ((hs, s2) : List eF × aU) = kW T (bJ aD T) ⟨#[62]⟩ q4 /\ kd = 1 := by
     generalize kW T (bJ aD T) ⟨#[62]⟩ q4 = sv at hbe
     simp only [qz] at hbe
     obtain ⟨⟨rfl, rfl⟩, rfl⟩ := hbe
     exact ⟨rfl, rfl⟩
    obtain ⟨hge, rfl⟩ := hge
    clear hbe
    have hpr : PC (bJ aD T) := FT aD T
    have hsev : kW T (bJ aD T) ⟨#[62]⟩ q4 = ((bJ aD T q4).1 :: (bT T (bJ aD T) ⟨#[62]⟩ T.length (bJ aD T q4).2).1, bE T ⟨#[62]⟩ (bT T (bJ aD T) ⟨#[62]⟩ T.length (bJ aD T q4).2).2) := rfl
    rw [hsev] at hge
    have hn0 : need T (bJ aD T q4).2 <= T.length := by
     cases (bJ aD T q4).2 with
     | ok p => exact Nat.sub_le _ _
     | bad e l c => exact qn _
    obtain ⟨tot, htot⟩ : ∃ tot, tot = bT T (bJ aD T) ⟨#[62]⟩ T.length (bJ aD T q4).2 := ⟨_, rfl⟩
    rw [<- htot] at hge
    have xg := fun w' (hh : MS T X true lv iv1 q4 w') (BB : lG W0 [X] w') => HU hh BB
    generalize bJ aD T q4 = q9 at hge htot hn0 xg
    obtain ⟨x1, s7⟩ := q9
    obtain ⟨N, hN⟩ : ∃ N, Shut (T.length = N) := ⟨_, rfl⟩
    have hN4 : N <= 4001 := by rw [<- hN.out]; exact hmax
    rw [hN.out] at htot hn0
    simp only at htot hn0 hge xg
    have HGE := aQ hge
    have HT := aQ (And.intro htot hn0)
    clear hge htot hn0 hsev
    have x5 := xR _ hS4
    go_wp2_with (go_at_call 24; (with_reducible refine x5.mono ?_))
    intro rr v5; first | (intro he1 hT5 a5; subst he1) | rintro ⟨rfl, hT5, a5⟩
    have U5 := V4.away a5 (by simp)
    clear V4 x5 xR hS4 a5
    have x6 := xr _ hT5
    go_wp2_with (go_at_call 24; (with_reducible refine x6.mono ?_))
    intro rr v6; first | (intro he1 hT6 a6; subst he1) | rintro ⟨rfl, hT6, a6⟩
    have U6 := U5.away a6 (by simp)
    clear U5 x6 xr hT5 a6
    have x7 := xS _ hT6
    go_wp2_with (go_at_call 24; (with_reducible refine x7.mono ?_))
    intro rr v7; first | (intro he1 hT7 a7; subst he1) | rintro ⟨rfl, hT7, a7⟩
    have U7 := U6.away a7 (by simp)
    clear U6 x7 xS hT6 a7
    have x8 := xl _ hT7
    go_wp2_with (go_at_call 24; (with_reducible refine x8.mono ?_))
    intro rr v8; first | (intro he1 hT8 a8; subst he1) | rintro ⟨rfl, hT8, a8⟩
    have U8 := U7.away a8 (by simp)
    clear U7 x8 xl hT7 a8
    have c2 := U8.cells.1
    have f2 := U8.cells.2.2.2.2.2.2 2
    have V20 := U8.put 2 (I 1) (F' := ⟨i0, i1, 1, 0, 0, eN, gv, eN⟩) (A' := A0) rfl U8.rows
    have hS20 := hT8.set31 U8.hE 2 (I 1)
    clear U8 hT8
    go_upto_region 18 with (fail)
    generalize (v8).setCell ⟨E, 2, none⟩ (I 1) = w4 at V20 hS20 |-
    have V4 := V20
    have hS4 := hS20
    clear V20 hS20 c2 f2
    have HX0 : ∃ x' : eF, Shut (x' = x1) := ⟨x1, rfl⟩
    go_cut [] from 4 (fun wc => ∃ v, sX (X :: iv.ownBlock.toList) w.heap.size E ⟨i0, i1, 1, 0, 0, v, gv, eN⟩ A0 [x1] gs [] w wc /\ MS T X true lv iv1 s7 wc)
    case first =>
     obtain ⟨⟨y0, y1, y2⟩, y3, y4⟩ := x1
     simp only [xB] at xg
     have V5 := V4.step (qa _ w4).drew
     have hS5 := hS4.step (qa _ w4).drew
     have xg5 := xg _ hS5 ((B.away V5.aw).less (by simp))
     have cE : w4.cell? ⟨E, 5, none⟩ = some (.slice none 0 0) := V4.cells.2.2.2.1
     clear V4 hS4
     go_region_law ((first
      | (go_simp; go_at_call 28; (with_reducible refine xg5.mono ?_); rintro r w6 ⟨rfl, hS6, a6⟩; have V6 := V5.away a6 (by simp); have c6 := V6.cells.2.2.2.1; have lE6 := aA V6.hE; have c6a := (qqp w6 (.cells #[I y0, I y1, I y2, .bool y3, I y4] 80) ⟨E, 5, none⟩ lE6).trans c6; have sz6 := V6.aw.size)
      | (refine step_append_lies _ (by rfl) _ _ _ (by rfl) w.heap.size 80 i8 _ 5 40 Tryz.underlying27 hi8 hz8 hz81 hz82 hc8 (by omega) (.slice none 0 0) 0 [] (by rfl) (V6.rows.oh.alloc _) ⟨w6.heap.size, 0, none⟩ 1 1 #[.int .i64 y0, .int .i64 y1, .int .i64 y2, .bool y3, .int .i64 y4].toList (by rfl) (by rfl) (World.news_of_block (cs := #[.int .i64 y0, .int .i64 y1, .int .i64 y2, .bool y3, .int .i64 y4]) (t := 80) (fr := (0, 0)) (qc _ _)) (by simp [Value.oneCell']) (by omega) (by simp only [maxLen]; omega) (by omega) (by simp; omega) (w6.heap.size + 1) (by simp) ?_; intro gg cap w9 hown9 hgrow hat hgl; have V7 := V6.step ((qa _ w6).alloc (qb _) (.cells #[.int .i64 y0, .int .i64 y1, .int .i64 y2, .bool y3, .int .i64 y4] 80)); have hS7 := (hS6.step ((qa _ w6).alloc (qb _) (.cells #[.int .i64 y0, .int .i64 y1, .int .i64 y2, .bool y3, .int .i64 y4] 80))).grownT hgrow (fun k hk => by obtain ⟨c, hc⟩ := cA V7.rows.oh hk; exact ⟨c, 80, hc, by decide, by decide, by decide⟩); have hE9 := (hgrow.block E (aA V7.hE) (fun e => by obtain ⟨c, hc⟩ := cA V7.rows.oh e.symm; exact dN hc V7.hE (by decide))).trans V7.hE; have c9 := Lib.cell_of_heap hE9 5; have f9 := Lib.frozen_of_heap hE9 5; simp only [EF.c, evC, qqk, qy, qqa] at c9)))
     all_goals go_wp2
     all_goals go_meet
     all_goals exact ⟨_, V7.pushH hgrow (n := 0 + 1) (x := ⟨⟨y0, y1, y2⟩, y3, y4⟩) rfl hown9, hS7.set31 hE9 5 _⟩
    case rest =>
     obtain ⟨gv0, V8, hS8⟩ := hcut
     clear V4 hS4 xg HX0
     go_wp2
     go_loopg [] N (fun gk wr => ∃ (l : List eF) (s : aU) (gv9 : Value), l.length + gk = N /\ need T s <= gk /\ (l ++ (bT T (bJ aD T) ⟨#[62]⟩ gk s).1, (bT T (bJ aD T) ⟨#[62]⟩ gk s).2) = tot /\ sX (X :: iv.ownBlock.toList) w.heap.size E ⟨i0, i1, 1, 0, 0, gv9, gv, eN⟩ A0 (x1 :: l) gs [] w wr /\ MS T X true lv iv1 s wr)
     case atStart => exact ⟨[], s7, gv0, by simp, HT.out.2, by rw [HT.out.1]; rfl, V8, hS8⟩
     case round =>
      clear V8 hS8
      obtain ⟨l, s, gv9, hlen, hneed, htotal, V9, hS9⟩ := hrel
      have hN1 : (l.length : Int) <= 4001 := by omega
      have fin0 : (bT T (bJ aD T) ⟨#[62]⟩ gk s) = ([], s) -> l = tot.1 /\ s = tot.2 := fun e => by
       rw [e] at htotal
       simp only [List.append_nil] at htotal
       exact ⟨congrArg (·.1) htotal, congrArg (·.2) htotal⟩
      cases s with
      | bad ee el ec =>
       obtain ⟨c4, hee⟩ := hS9.errCell
       obtain ⟨hl, hs⟩ := fin0 (m0 _ _ _ _ _ _)
       have xe := fM hS9 ⟨#[62]⟩
       have HL := aQ (And.intro hl hs)
       clear fin0 htotal hlen hneed hl hs
       go_wp2_with (go_at_call 25; (with_reducible refine xe.mono ?_))
       intro rr w10; first | (intro he1 hS10 a10; subst he1) | rintro ⟨rfl, hS10, a10⟩
       have V10 := V9.away a10 (by simp)
       clear xe V9 hS9 a10 c4
       go_wp2
       go_meet
       case rel =>
        obtain ⟨r1, r2⟩ := (show hs = x1 :: tot.1 /\ s2 = bE T ⟨#[62]⟩ tot.2 from Prod.mk.inj HGE.out)
        rw [r1, r2, <- HL.out.1, <- HL.out.2]
        exact ⟨_, V10, hS10⟩
      | ok p =>
       have c4 := hS9.okCell
       have hpl := hS9.atCell.2.2
       have xi := uP hS9 ⟨#[62]⟩
       cases hb : isS T ⟨#[62]⟩ (.ok p) with
       | true =>
        rw [hb] at xi
        obtain ⟨hl, hs⟩ := fin0 (by
         cases gk with
         | zero => rfl
         | succ k => rw [bT, if_neg (by rw [hb]; simp)])
        have HL := aQ (And.intro hl hs)
        clear fin0 htotal hlen hneed hl hs hb
        go_wp2_with (go_at_call 27; (with_reducible refine xi.mono ?_))
        intro rr w11; first | (intro he1 b11; subst he1) | rintro ⟨rfl, b11⟩
        have V11 := V9.step b11
        have xe := fM (hS9.step b11) ⟨#[62]⟩
        clear xi V9 hS9 b11 c4
        go_wp2_with (go_at_call 25; (with_reducible refine xe.mono ?_))
        intro rr w10; first | (intro he1 hS10 a10; subst he1) | rintro ⟨rfl, hS10, a10⟩
        have V10 := V11.away a10 (by simp)
        clear xe V11 a10
        go_wp2
        go_meet
        case rel =>
         obtain ⟨r1, r2⟩ := (show hs = x1 :: tot.1 /\ s2 = bE T ⟨#[62]⟩ tot.2 from Prod.mk.inj HGE.out)
         rw [r1, r2, <- HL.out.1, <- HL.out.2]
         exact ⟨_, V10, hS10⟩
       | false =>
        rw [hb] at xi
        obtain ⟨k, hgk⟩ : ∃ k, gk = k + 1 := by
         unfold need at hneed
         exact ⟨gk - 1, by simp only at hneed; omega⟩
        have hmore : bT T (bJ aD T) ⟨#[62]⟩ gk (.ok p) = ((bJ aD T (.ok p)).1 :: (bT T (bJ aD T) ⟨#[62]⟩ k (bJ aD T (.ok p)).2).1, (bT T (bJ aD T) ⟨#[62]⟩ k (bJ aD T (.ok p)).2).2) := by
         rw [hgk, bT, if_pos ⟨rfl, hb⟩]
        have hnx : need T (bJ aD T (.ok p)).2 <= k := t8 hpr hpl (by omega)
        rw [hmore] at htotal
        have xr := fun w' (hh : MS T X true lv iv1 (.ok p) w') (BB : lG W0 [X] w') => HU hh BB
        generalize bJ aD T (.ok p) = qq at xr hnx htotal
        obtain ⟨⟨⟨z0, z1, z2⟩, z3, z4⟩, s2⟩ := qq
        simp only [xB] at xr
        simp only at hnx htotal
        have HA := aQ (And.intro hnx (And.intro htotal (And.intro hlen hgk)))
        clear fin0 hmore hnx htotal hlen hgk hneed hb
        go_wp2_with (go_at_call 27; (with_reducible refine xi.mono ?_))
        intro rr w11; first | (intro he1 b11; subst he1) | rintro ⟨rfl, b11⟩
        have V11 := V9.step b11
        have hS11 := hS9.step b11
        obtain ⟨ga, gc, rfl⟩ := bX V11.rows.oh
        clear xi V9 hS9 b11 c4
        go_wp2
        have V5 := V11.step (qa _ w11).drew
        have hS5 := hS11.step (qa _ w11).drew
        have xg5 := xr _ hS5 ((B.away V5.aw).less (by simp))
        have cE : w11.cell? ⟨E, 5, none⟩ = some (.slice ga (l.length + 1) gc) := V11.cells.2.2.2.1
        clear V11 hS11
        go_region_law ((first
         | (go_simp; go_at_call 28; (with_reducible refine xg5.mono ?_); rintro r w6 ⟨rfl, hS6, a6⟩; have V6 := V5.away a6 (by simp); have c6 := V6.cells.2.2.2.1; have lE6 := aA V6.hE; have c6a := (qqp w6 (.cells #[I z0, I z1, I z2, .bool z3, I z4] 80) ⟨E, 5, none⟩ lE6).trans c6; have sz6 := V6.aw.size)
         | (refine step_append_lies _ (by rfl) _ _ _ (by rfl) w.heap.size 80 i8 _ 5 40 Tryz.underlying27 hi8 hz8 hz81 hz82 hc8 (by omega) (.slice ga (l.length + 1) gc) (l.length + 1) (cH eF.cells (x1 :: l)) (by rfl) (V6.rows.oh.alloc _) ⟨w6.heap.size, 0, none⟩ 1 1 #[.int .i64 z0, .int .i64 z1, .int .i64 z2, .bool z3, .int .i64 z4].toList (by rfl) (by rfl) (World.news_of_block (cs := #[.int .i64 z0, .int .i64 z1, .int .i64 z2, .bool z3, .int .i64 z4]) (t := 80) (fr := (0, 0)) (qc _ _)) (by simp [Value.oneCell']) (by omega) (by simp only [maxLen]; omega) (by omega) (by simp; omega) (w6.heap.size + 1) (by simp) ?_; intro gg cap w9 hown9 hgrow hat hgl; have V7 := V6.step ((qa _ w6).alloc (qb _) (.cells #[.int .i64 z0, .int .i64 z1, .int .i64 z2, .bool z3, .int .i64 z4] 80)); have hS7 := (hS6.step ((qa _ w6).alloc (qb _) (.cells #[.int .i64 z0, .int .i64 z1, .int .i64 z2, .bool z3, .int .i64 z4] 80))).grownT hgrow (fun k hk => by obtain ⟨c, hc⟩ := cA V7.rows.oh hk; exact ⟨c, 80, hc, by decide, by decide, by decide⟩); have hE9 := (hgrow.block E (aA V7.hE) (fun e => by obtain ⟨c, hc⟩ := cA V7.rows.oh e.symm; exact dN hc V7.hE (by decide))).trans V7.hE; have c9 := Lib.cell_of_heap hE9 5; have f9 := Lib.frozen_of_heap hE9 5; simp only [EF.c, evC, qqk, qy, qqa] at c9)))
        all_goals go_wp2
        all_goals go_roundg (gk - 1)
        all_goals first
         | (have := HA.out.2.2.2; omega)
         | (obtain ⟨r1, r2, r3, r4⟩ := HA.out
            have e1 : gk - 1 = k := by omega
            rw [e1]
            refine ⟨l ++ [⟨⟨z0, z1, z2⟩, z3, z4⟩], s2, _, by simp only [qi, qj, qqi]; omega, r1, by rw [<- r2]; simp, V7.pushH hgrow (n := l.length + 1 + 1) (x := ⟨⟨z0, z1, z2⟩, z3, z4⟩) (by simp) hown9, hS7.set31 hE9 5 _⟩)
   ·have xh := fun w' (hh : MS T X true lv iv1 q4 w') (BB : lG W0 [X] w') => HU hh BB
    generalize bJ aD T q4 = hd at xh hbe
    simp only [qz] at hbe
    obtain ⟨⟨rfl, rfl⟩, rfl⟩ := hbe
    obtain ⟨⟨⟨y0, y1, y2⟩, y3, y4⟩, s2⟩ := hd
    simp only [xB] at xh
    have x5 := xR _ hS4
    go_wp2_with (go_at_call 24; (with_reducible refine x5.mono ?_))
    intro rr v5; first | (intro he1 hT5 a5; subst he1) | rintro ⟨rfl, hT5, a5⟩
    have U5 := V4.away a5 (by simp)
    clear V4 x5 xR hS4 a5
    have x6 := xr _ hT5
    go_wp2_with (go_at_call 24; (with_reducible refine x6.mono ?_))
    intro rr v6; first | (intro he1 hT6 a6; subst he1) | rintro ⟨rfl, hT6, a6⟩
    have U6 := U5.away a6 (by simp)
    clear U5 x6 xr hT5 a6
    have x7 := xS _ hT6
    go_wp2_with (go_at_call 24; (with_reducible refine x7.mono ?_))
    intro rr v7; first | (intro he1 hT7 a7; subst he1) | rintro ⟨rfl, hT7, a7⟩
    have U7 := U6.away a7 (by simp)
    clear U6 x7 xS hT6 a7
    have x8 := xl _ hT7
    go_wp2_with (go_at_call 24; (with_reducible refine x8.mono ?_))
    intro rr v8; first | (intro he1 hT8 a8; subst he1) | rintro ⟨rfl, hT8, a8⟩
    have U8 := U7.away a8 (by simp)
    clear U7 x8 xl hT7 a8
    have c2 := U8.cells.1
    have f2 := U8.cells.2.2.2.2.2.2 2
    have V20 := U8.put 2 (I 1) (F' := ⟨i0, i1, 1, 0, 0, eN, gv, eN⟩) (A' := A0) rfl U8.rows
    have hS20 := hT8.set31 U8.hE 2 (I 1)
    clear U8 hT8
    go_upto_region 9 with (fail)
    generalize (v8).setCell ⟨E, 2, none⟩ (I 1) = w4 at V20 hS20 |-
    have V4 := V20
    have hS4 := hS20
    clear V20 hS20 c2 f2
    have V5 := V4.step (qa _ w4).drew
    have hS5 := hS4.step (qa _ w4).drew
    have xg5 := xh _ hS5 ((B.away V5.aw).less (by simp))
    have cE : w4.cell? ⟨E, 5, none⟩ = some (.slice none 0 0) := V4.cells.2.2.2.1
    clear V4 hS4
    go_region_law ((first
     | (go_simp; go_at_call 28; (with_reducible refine xg5.mono ?_); rintro r w6 ⟨rfl, hS6, a6⟩; have V6 := V5.away a6 (by simp); have c6 := V6.cells.2.2.2.1; have lE6 := aA V6.hE; have c6a := (qqp w6 (.cells #[I y0, I y1, I y2, .bool y3, I y4] 80) ⟨E, 5, none⟩ lE6).trans c6; have sz6 := V6.aw.size)
     | (refine step_append_lies _ (by rfl) _ _ _ (by rfl) w.heap.size 80 i8 _ 5 40 Tryz.underlying27 hi8 hz8 hz81 hz82 hc8 (by omega) (.slice none 0 0) 0 [] (by rfl) (V6.rows.oh.alloc _) ⟨w6.heap.size, 0, none⟩ 1 1 #[.int .i64 y0, .int .i64 y1, .int .i64 y2, .bool y3, .int .i64 y4].toList (by rfl) (by rfl) (World.news_of_block (cs := #[.int .i64 y0, .int .i64 y1, .int .i64 y2, .bool y3, .int .i64 y4]) (t := 80) (fr := (0, 0)) (qc _ _)) (by simp [Value.oneCell']) (by omega) (by simp only [maxLen]; omega) (by omega) (by simp; omega) (w6.heap.size + 1) (by simp) ?_; intro gg cap w9 hown9 hgrow hat hgl; have V7 := V6.step ((qa _ w6).alloc (qb _) (.cells #[.int .i64 y0, .int .i64 y1, .int .i64 y2, .bool y3, .int .i64 y4] 80)); have hS7 := (hS6.step ((qa _ w6).alloc (qb _) (.cells #[.int .i64 y0, .int .i64 y1, .int .i64 y2, .bool y3, .int .i64 y4] 80))).grownT hgrow (fun k hk => by obtain ⟨c, hc⟩ := cA V7.rows.oh hk; exact ⟨c, 80, hc, by decide, by decide, by decide⟩); have hE9 := (hgrow.block E (aA V7.hE) (fun e => by obtain ⟨c, hc⟩ := cA V7.rows.oh e.symm; exact dN hc V7.hE (by decide))).trans V7.hE; have c9 := Lib.cell_of_heap hE9 5; have f9 := Lib.frozen_of_heap hE9 5; simp only [EF.c, evC, qqk, qy, qqa] at c9)))
    all_goals go_wp2
    all_goals go_meet
    all_goals exact ⟨_, V7.pushH hgrow (n := 0 + 1) (x := ⟨⟨y0, y1, y2⟩, y3, y4⟩) rfl hown9, hS7.set31 hE9 5 _⟩
  case rest =>
   obtain ⟨hv, V5, hS5⟩ := hcut
   clear V4 hS4 HB
   have c2 := V5.cells.1
   go_upto_if 89 with (fail)
   clear c2
   go_cut [] from 4 (fun wc => sX (X :: iv.ownBlock.toList) w.heap.size E ⟨i0, i1, kd, lg, dt, hv, gv, eN⟩ A0 hs gs [] w wc /\ MS T X true lv iv1 s3 wc)
   case first =>
    rcases HV.out with ⟨rfl, hve⟩ | ⟨hk3, hve⟩
    ·simp only [qz] at hve
     obtain ⟨⟨rfl, rfl⟩, rfl⟩ := hve
     go_wp2
     go_meet
     case rel => exact ⟨V5, hS5⟩
    ·have hb3 : (kd != 3) = true := by simp [hk3]
     have xe := fM hS5 ⟨#[58]⟩
     have xv := fun w' (hh : MS T X true lv iv1 (bE T ⟨#[58]⟩ s2) w') (BB : lG W0 [X] w') => T5 hh BB
     rw [<- hve] at xv
     generalize bE T ⟨#[58]⟩ s2 = s6 at xe xv
     simp only [jC] at xv
     clear hve
     rw [hb3]
     clear hb3
     go_wp2_with (go_at_call 25; (with_reducible refine xe.mono ?_))
     intro rr w6; first | (intro he1 hS6 a6; subst he1) | rintro ⟨rfl, hS6, a6⟩
     have V6 := V5.away a6 (by simp)
     have xv6 := xv _ hS6 ((B.away V6.aw).less (by simp))
     clear V5 xe xv hS5 hS6 a6
     go_wp2_with (go_at_call 29; (with_reducible refine xv6.mono ?_))
     intro rr w7; first | (intro he1 hS7 a7; subst he1) | rintro ⟨rfl, hS7, a7⟩
     have V7 := V6.away a7 (by simp)
     have c3 := V7.cells.2.1
     have c4 := V7.cells.2.2.1
     have f3 := V7.cells.2.2.2.2.2.2 3
     have f4 := V7.cells.2.2.2.2.2.2 4
     have V8 := V7.put 3 (I lg) (F' := ⟨i0, i1, kd, lg, 0, hv, gv, eN⟩) (A' := A0) rfl V7.rows
     have hS8 := hS7.set31 V7.hE 3 (I lg)
     have V9 := V8.put 4 (I dt) (F' := ⟨i0, i1, kd, lg, dt, hv, gv, eN⟩) (A' := A0) rfl V8.rows
     have hS9 := hS8.set31 V8.hE 4 (I dt)
     clear V6 V7 V8 xv6 hS7 hS8 a7
     go_wp2
     go_meet
     case rel => exact ⟨V9, hS9⟩
   case rest =>
    obtain ⟨V6, hS6⟩ := hcut
    clear V5 hS5 HV
    have x7 := YS (F := ⟨i0, i1, kd, lg, dt, hv, gv, eN⟩) hS6 H1.out.1 (qe hEE.out.symm) (by have := V6.ne; have := aA V6.hE; rw [<- hEE.out]; omega) V6.hE rfl
    rw [<- HY.out.1] at x7
    simp only at x7
    rw [<- HY.out.2] at x7
    go_wp2_with (go_at_call 30; (with_reducible refine x7.mono ?_))
    intro rr w7; first | (intro he7 lyv hE7 ol7 hS7 a7; subst he7) | rintro ⟨rfl, lyv, hE7, ol7, hS7, a7⟩
    have ol := wY (B := w.heap.size) ol7 V6.aw.size
    have hEE7 : w7.heap[E]? = some (.cells (EF.c ⟨i0, i1, kd, lg, dt, hv, gv, lyv⟩ A9) 31 (0, 0)) := hE7
    have V8 := V6.other (F' := ⟨i0, i1, kd, lg, dt, hv, gv, lyv⟩) (A' := A9) (hs' := hs) (gs' := gs) (ys' := ys) a7 (fun k hk => by simp at hk |-; omega) hEE7 ⟨(V6.rows.step (w' := w7) (fun k o T' ho hT hk => a7.block k (aA ho) (fun hm => by
     simp only [qqj, qqv, or_false] at hm
     rcases hm with rfl | rfl
     ·omega
     ·rcases hT with hT | hT | hT <;> exact dN ho V6.hE (by rw [hT]; decide)))).oh, (V6.rows.step (w' := w7) (fun k o T' ho hT hk => a7.block k (aA ho) (fun hm => by
     simp only [qqj, qqv, or_false] at hm
     rcases hm with rfl | rfl
     ·omega
     ·rcases hT with hT | hT | hT <;> exact dN ho V6.hE (by rw [hT]; decide)))).og, ol⟩
    clear V6 x7 hE7 ol7 hS6 a7 ol hEE7
    obtain ⟨ha, hc, rfl⟩ := bX V8.rows.oh
    obtain ⟨ga, gc, rfl⟩ := bX V8.rows.og
    obtain ⟨la, lc, rfl⟩ := bX V8.rows.ol
    have hRR : w7.heap[w.heap.size]? = some (.cells #[I 0, I 0, I 0, I 0, I 0, .slice none 0 0, .slice none 0 0, I 0, I 0, I 0, .slice none 0 0, I 0, I 0] 31 (0, 0)) := V8.hR
    have hE8 : w7.heap[E]? = some (.cells #[I i0, I i1, I kd, I lg, I dt, .slice ha hs.length hc, .slice ga gs.length gc, I A9.ar, I A9.orn, I A9.dy, .slice la ys.length lc, I A9.st, I A9.be] 31 (0, 0)) := V8.hE
    obtain ⟨e0, e1, e2, e3, e4, e5, e6, e7, e8, e9, e10, e11, e12, -⟩ := QE hE8
    obtain ⟨r0, r1, r2, r3, r4, r5, r6, r7, r8, r9, r10, r11, r12, z0, z1, z2, z3, z4, z5, z6, z7, z8, z9, z10, z11, z12⟩ := QE hRR
    have nRE : E ≠ w.heap.size := by have := V8.ne; omega
    have fR := AD (I i0) (I i1) (I kd) (I lg) (I dt) (.slice ha hs.length hc) (.slice ga gs.length gc) (I A9.ar) (I A9.orn) (I A9.dy) (.slice la ys.length lc) (I A9.st) (I A9.be) hRR
    have fO := wZ (w := w7) (X := w.heap.size) (I i0) (I i1) (I kd) (I lg) (I dt) (.slice ha hs.length hc) (.slice ga gs.length gc) (I A9.ar) (I A9.orn) (I A9.dy) (.slice la ys.length lc) (I A9.st) (I A9.be)
    have fA := AE (X := w.heap.size) (I i0) (I i1) (I kd) (I lg) (I dt) (.slice ha hs.length hc) (.slice ga gs.length gc) (I A9.ar) (I A9.orn) (I A9.dy) (.slice la ys.length lc) (I A9.st) (I A9.be) V8.aw (qb _)
    have hP := hS7.asideT (R := w.heap.size) (w' := mN w7 w.heap.size (I i0) (I i1) (I kd) (I lg) (I dt) (.slice ha hs.length hc) (.slice ga gs.length gc) (I A9.ar) (I A9.orn) (I A9.dy) (.slice la ys.length lc) (I A9.st) (I A9.be)) hRR ⟨by decide, by decide, by decide⟩ (qe (KX (w := w7) (X := w.heap.size) (I i0) (I i1) (I kd) (I lg) (I dt) (.slice ha hs.length hc) (.slice ga gs.length gc) (I A9.ar) (I A9.orn) (I A9.dy) (.slice la ys.length lc) (I A9.st) (I A9.be)).symm) fO
    have hrw := V8.rows.step (w' := mN w7 w.heap.size (I i0) (I i1) (I kd) (I lg) (I dt) (.slice ha hs.length hc) (.slice ga gs.length gc) (I A9.ar) (I A9.orn) (I A9.dy) (.slice la ys.length lc) (I A9.st) (I A9.be)) (fun k o T' ho hT _ => fO k (fun e => by rcases hT with hT | hT | hT <;> exact dN ho (e ▸ hRR) (by rw [hT]; decide)))
    clear V8 hS7 fO hRR hE8 B
    unfold mN at fR fA hP hrw
    have HF := aQ (And.intro fR (And.intro fA (And.intro hP hrw)))
    clear fR fA hP hrw
    go_wp2
    obtain ⟨fR, fA, hP, hrw⟩ := HF.out
    clear HF
    generalize (((((((((((((w7.setCell ⟨w.heap.size, 0, none⟩ (I i0)).setCell ⟨w.heap.size, 1, none⟩ (I i1)).setCell ⟨w.heap.size, 2, none⟩ (I kd)).setCell ⟨w.heap.size, 3, none⟩ (I lg)).setCell ⟨w.heap.size, 4, none⟩ (I dt)).setCell ⟨w.heap.size, 5, none⟩ (.slice ha hs.length hc)).setCell ⟨w.heap.size, 6, none⟩ (.slice ga gs.length gc)).setCell ⟨w.heap.size, 7, none⟩ (I A9.ar)).setCell ⟨w.heap.size, 8, none⟩ (I A9.orn)).setCell ⟨w.heap.size, 9, none⟩ (I A9.dy)).setCell ⟨w.heap.size, 10, none⟩ (.slice la ys.length lc)).setCell ⟨w.heap.size, 11, none⟩ (I A9.st)).setCell ⟨w.heap.size, 12, none⟩ (I A9.be)) = WF at fR fA hP hrw |-
    refine qf (qh rfl _ _ w.heap.size 31 _ (0, 0) _ rfl fR Tryz.underlying31 rfl Tryz.sizeEvent) rfl ?_
    exact ⟨_, iv1, rfl, ⟨_, _, _, rfl, hrw⟩, hP, fA, fun k hk => by
     rcases H1.out.2 k hk with h | h
     ·exact .inl h
     ·exact .inr (by simp at h; omega)⟩
end
end Go.Proofs.YtgkhemnmcgicnaaGreatDoor
