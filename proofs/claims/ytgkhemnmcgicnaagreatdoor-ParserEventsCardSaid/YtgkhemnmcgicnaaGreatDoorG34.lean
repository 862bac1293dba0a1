/- Towards the law ParserEvents, true for every text (no condition): one part of the proof. -/
import Derived.Test.YtgkhemnmcgicnaaGreatDoorG01
import Derived.Test.YtgkhemnmcgicnaaGreatDoorG33
import Derived.Test.YtgkhemnmcgicnaaGreatDoorG31
import Derived.Deep.Cut
import Derived.Deep.CutBlock
import Derived.Test.YtgkhemnmcgicnaaGreatDoorG32
namespace Go.Proofs.YtgkhemnmcgicnaaGreatDoor
set_option maxHeartbeats 32000000
set_option maxRecDepth 100000
open Go.RowKit
section
variable {W0 : World} {T : List Tok} {Y M : Nat} {st : Stt} {w : World}
theorem PS.lists {free : Bool} (h : PS T Y M free st w) {R : Nat} {cs : Array Value} (hY : R ≠ Y) (hM : R ≠ M) (hk : w.heap[R]? = some (.cells cs 31 (0, 0))) (i : Nat) (u : Value) : PS T Y M free st (w.setCell ⟨R, i, none⟩ u) :=
 h.put hY hM hk (by decide) (set_other w R i u)
theorem event_s (h : PS T Y M true st w) (B : Bas W0 [Y, M] w) : Calls Tryz.prog 20 #[.pointer (some ⟨Y, 0, none⟩)] w fun r w' => ∃ v, r = .returned v /\ EvR w.heap.size (eventF theO T 7 st).1 v w' /\ PS T Y M true (eventF theO T 7 st).2 w' /\ Away [Y, M] w w' := by
 have lY := h.lt
 have lM := h.ltM
 have hR0 := heap_alloc_new w (.cells (evC 0 0 0 0 0 (.slice none 0 0) (.slice none 0 0) ⟨0, 0, 0, 0, 0⟩ (.slice none 0 0)) 31)
 have b0 := (Below.refl w.heap.size w).alloc (Nat.le_refl _) (.cells (evC 0 0 0 0 0 (.slice none 0 0) (.slice none 0 0) ⟨0, 0, 0, 0, 0⟩ (.slice none 0 0)) 31)
 have x1 := object_s (h.step b0)
 obtain ⟨o, g, b, vl, at9, y, ho, hg, hb, hv, ha, hy, he⟩ := event_parts (O := theO) (T := T) (q := 7) st
 rw [he]
 rw [<- ho] at x1
 clear he ho
 obtain ⟨⟨i0, i1⟩, s0⟩ := o
 simp only at x1 hg ⊢
 have HG : Shut ((isS T ⟨#[103, 114, 97, 99, 101]⟩ s0 = true /\ g = sevF T (graceF theO T 7) ⟨#[41]⟩ (expS T ⟨#[40]⟩ (accS T ⟨#[103, 114, 97, 99, 101]⟩ s0))) \/ (isS T ⟨#[103, 114, 97, 99, 101]⟩ s0 = false /\ accS T ⟨#[103, 114, 97, 99, 101]⟩ s0 = s0 /\ g = ([], s0))) := by rw [hg]; exact graces_cases s0
 have HB := shut (body_cases (O := theO) (T := T) g.2)
 rw [<- hb] at HB
 have HV := shut (len_cases (O := theO) (T := T) b.1.1 b.2)
 rw [<- hv] at HV
 have HA := shut (attrs_cases (T := T) vl.2)
 rw [<- ha] at HA
 clear hg hb hv ha
 obtain ⟨gs, s1⟩ := g
 obtain ⟨⟨kd, hs⟩, s2⟩ := b
 obtain ⟨⟨lg, dt⟩, s3⟩ := vl
 obtain ⟨A9, s4⟩ := at9
 simp only at HG HB HV HA hy ⊢
 have xly := fun w' (hh : PS T Y M true s4 w') => lyrics_s hh
 rw [<- hy] at xly
 clear hy
 obtain ⟨ys, s5⟩ := y
 simp only at xly ⊢
 go_enter Tryz.func20, Tryz.ntmps20
 go_wp2_with (go_at_call 52; refine x1.mono ?_)
 intro r w1; first | (intro he hS1 a1; subst he) | rintro ⟨rfl, hS1, a1⟩
 have hRY : w.heap.size ∉ [Y, M] := by simp; omega
 have hR1 := a1.at hR0 hRY
 have lR1 := heap_lt hR1
 have a01 := (Away.of_below (bs := [Y, M]) b0).trans a1
 have V : EvM [Y, M] w.heap.size w1.heap.size ⟨i0, i1, 0, 0, 0, nilV, nilV, nilV⟩ A0 [] [] [] w (w1.alloc (.cells (evC i0 i1 0 0 0 (.slice none 0 0) (.slice none 0 0) ⟨0, 0, 0, 0, 0⟩ (.slice none 0 0)) 31)) :=
  ⟨(Lib.alloc_old w1 _ _ lR1).trans hR1, heap_alloc_new w1 _, Rows3.nil _ _, a01.alloc _, Nat.le_refl _, lR1, fun k hk => by simp at hk; omega⟩
 have hS2 := hS1.step ((Below.refl _ w1).alloc (Nat.le_refl _) (.cells (evC i0 i1 0 0 0 (.slice none 0 0) (.slice none 0 0) ⟨0, 0, 0, 0, 0⟩ (.slice none 0 0)) 31))
 have x2 := accept_s hS2 ⟨#[103, 114, 97, 99, 101]⟩
 have hEY : w1.heap.size ≠ Y := by omega
 have hEM : w1.heap.size ≠ M := by omega
 generalize hEE : w1.heap.size = E at V hEY hEM ⊢
 clear x1 h hR0 hR1 b0 a1 a01 hRY hS1 lR1
 generalize isS T ⟨#[103, 114, 97, 99, 101]⟩ s0 = bg at x2 HG
 generalize accS T ⟨#[103, 114, 97, 99, 101]⟩ s0 = sg at x2 HG
 unfold evC at V hS2 x2
 go_upto_if 10 with (go_at_call 53; (with_reducible refine x2.mono ?_); rintro rr w2 ⟨rfl, hS3, a3⟩)
 have V3 := V.away a3 (fun k hk => hk)
 clear V x2 hS2 a3 hEE
 go_cut [] from 4 (fun wc => ∃ gv, EvM [Y, M] w.heap.size E ⟨i0, i1, 0, 0, 0, nilV, gv, nilV⟩ A0 [] gs [] w wc /\ PS T Y M true s1 wc)
 case first =>
  rcases HG.out with ⟨rfl, hge⟩ | ⟨rfl, rfl, hge⟩
  ·have xe := expect_s hS3 ⟨#[40]⟩
   have xs := fun w' (hh : PS T Y M true (expS T ⟨#[40]⟩ sg) w') (BB : Bas W0 [Y, M] w') => several_graces hh BB
   rw [<- hge] at xs
   generalize expS T ⟨#[40]⟩ sg = s6 at xe xs
   simp only at xs
   clear hge
   go_wp2_with (go_at_call 54; (with_reducible refine xe.mono ?_))
   intro rr w4; first | (intro he1 hS4 a4; subst he1) | rintro ⟨rfl, hS4, a4⟩
   have V4 := V3.away a4 (fun k hk => hk)
   have xs4 := xs _ hS4 (B.away V4.aw)
   clear xe xs V3 hS3 a4
   go_wp2_with (go_at_call 55; (with_reducible refine xs4.mono ?_))
   rintro rr w5 ⟨gv, rfl, hown, hS5, a5⟩
   have V5 := V4.away a5 (fun k hk => hk)
   have og := ownLo (B := w.heap.size) hown V4.aw.size
   obtain ⟨ga, gc, rfl⟩ := own_is hown
   have c6 := V5.cells.2.2.2.2.1
   have f6 := V5.cells.2.2.2.2.2.2 6
   have V6 := V5.put 6 (.slice ga gs.length gc) (F' := ⟨i0, i1, 0, 0, 0, nilV, .slice ga gs.length gc, nilV⟩) (A' := A0) (hs' := []) (gs' := gs) (ys' := []) rfl ⟨V5.rows.oh, og, V5.rows.ol⟩
   have hS6 := hS5.lists hEY hEM V5.hE 6 (.slice ga gs.length gc)
   clear xs4 V4 V5 hS4 hS5 a5 hown og
   go_wp2
   go_meet
   case rel => exact ⟨_, V6, hS6⟩
  ·injection hge with e1 e2
   subst e1 e2
   go_wp2
   go_meet
   case rel => exact ⟨_, V3, hS3⟩
 case rest =>
  obtain ⟨gv, V4, hS4⟩ := hcut
  clear V3 hS3 HG
  go_upto_block 0 with (fail)
  go_cut [] from 4 (fun wc => ∃ hv, EvM [Y, M] w.heap.size E ⟨i0, i1, kd, 0, 0, hv, gv, nilV⟩ A0 hs gs [] w wc /\ PS T Y M true s2 wc)
  case first =>
   have xR := fun w' (hh : PS T Y M true s1 w') => accept_s hh ⟨#[82]⟩
   have xr := fun w' (hh : PS T Y M true s1 w') => accept_s hh ⟨#[114]⟩
   have xS := fun w' (hh : PS T Y M true s1 w') => accept_s hh ⟨#[115]⟩
   have xl := fun w' (hh : PS T Y M true s1 w') => accept_s hh ⟨#[60]⟩
   have xh := fun w' (hh : PS T Y M true s1 w') (BB : Bas W0 [Y, M] w') => head_s hh BB
   generalize isS T ⟨#[82]⟩ s1 = b1 at xR HB
   generalize isS T ⟨#[114]⟩ s1 = b2 at xr HB
   generalize isS T ⟨#[115]⟩ s1 = b3 at xS HB
   generalize isS T ⟨#[60]⟩ s1 = b4 at xl HB
   generalize accS T ⟨#[82]⟩ s1 = q1 at xR HB
   generalize accS T ⟨#[114]⟩ s1 = q2 at xr HB
   generalize accS T ⟨#[115]⟩ s1 = q3 at xS HB
   generalize accS T ⟨#[60]⟩ s1 = q4 at xl HB
   have x3 := xR _ hS4
   clear xR
   rcases HB.out with ⟨rfl, hbe⟩ | ⟨rfl, rfl, ⟨rfl, hbe⟩ | ⟨rfl, rfl, ⟨rfl, hbe⟩ | ⟨rfl, rfl, ⟨rfl, hbe⟩ | ⟨rfl, rfl, hbe⟩⟩⟩⟩
   ·simp only [Prod.mk.injEq] at hbe
    obtain ⟨⟨rfl, rfl⟩, rfl⟩ := hbe
    clear xr xS xl xh
    go_wp2_with (go_at_call 53; (with_reducible refine x3.mono ?_))
    intro rr w5; first | (intro he1 hS5 a5; subst he1) | rintro ⟨rfl, hS5, a5⟩
    have V5 := V4.away a5 (fun k hk => hk)
    have c2 := V5.cells.1
    have f2 := V5.cells.2.2.2.2.2.2 2
    have V6 := V5.put 2 (I 3) (F' := ⟨i0, i1, 3, 0, 0, nilV, gv, nilV⟩) (A' := A0) rfl V5.rows
    have hS6 := hS5.lists hEY hEM V5.hE 2 (I 3)
    clear V4 V5 x3 hS5 a5
    go_wp2
    go_meet
    case rel => exact ⟨_, V6, hS6⟩
   ·simp only [Prod.mk.injEq] at hbe
    obtain ⟨⟨rfl, rfl⟩, rfl⟩ := hbe
    clear xS xl xh
    go_wp2_with (go_at_call 53; (with_reducible refine x3.mono ?_))
    intro rr w5; first | (intro he1 hS5 a5; subst he1) | rintro ⟨rfl, hS5, a5⟩
    have V5 := V4.away a5 (fun k hk => hk)
    have x4 := xr _ hS5
    clear V4 x3 xr hS5 a5
    go_wp2_with (go_at_call 53; (with_reducible refine x4.mono ?_))
    intro rr w6; first | (intro he1 hS6 a6; subst he1) | rintro ⟨rfl, hS6, a6⟩
    have V6 := V5.away a6 (fun k hk => hk)
    have c2 := V6.cells.1
    have f2 := V6.cells.2.2.2.2.2.2 2
    have V7 := V6.put 2 (I 2) (F' := ⟨i0, i1, 2, 0, 0, nilV, gv, nilV⟩) (A' := A0) rfl V6.rows
    have hS7 := hS6.lists hEY hEM V6.hE 2 (I 2)
    clear V5 V6 x4 hS6 a6
    go_wp2
    go_meet
    case rel => exact ⟨_, V7, hS7⟩
   ·simp only [Prod.mk.injEq] at hbe
    obtain ⟨⟨rfl, rfl⟩, rfl⟩ := hbe
    clear xl xh
    go_wp2_with (go_at_call 53; (with_reducible refine x3.mono ?_))
    intro rr w5; first | (intro he1 hS5 a5; subst he1) | rintro ⟨rfl, hS5, a5⟩
    have V5 := V4.away a5 (fun k hk => hk)
    have x4 := xr _ hS5
    clear V4 x3 xr hS5 a5
    go_wp2_with (go_at_call 53; (with_reducible refine x4.mono ?_))
    intro rr w6; first | (intro he1 hS6 a6; subst he1) | rintro ⟨rfl, hS6, a6⟩
    have V6 := V5.away a6 (fun k hk => hk)
    have x5 := xS _ hS6
    clear V5 x4 xS hS6 a6
    go_wp2_with (go_at_call 53; (with_reducible refine x5.mono ?_))
    intro rr w7; first | (intro he1 hS7 a7; subst he1) | rintro ⟨rfl, hS7, a7⟩
    have V7 := V6.away a7 (fun k hk => hk)
    have c2 := V7.cells.1
    have f2 := V7.cells.2.2.2.2.2.2 2
    have V8 := V7.put 2 (I 4) (F' := ⟨i0, i1, 4, 0, 0, nilV, gv, nilV⟩) (A' := A0) rfl V7.rows
    have hS8 := hS7.lists hEY hEM V7.hE 2 (I 4)
    clear V6 V7 x5 hS7 a7
    go_wp2
    go_meet
    case rel => exact ⟨_, V8, hS8⟩
   ·have xs := fun w' (hh : PS T Y M true q4 w') (BB : Bas W0 [Y, M] w') => several_heads hh BB
    generalize sevF T (headF theO T) ⟨#[62]⟩ q4 = sv at xs hbe
    simp only [Prod.mk.injEq] at hbe
    obtain ⟨⟨rfl, rfl⟩, rfl⟩ := hbe
    obtain ⟨hs, s2⟩ := sv
    simp only at xs ⊢
    clear xh
    go_wp2_with (go_at_call 53; (with_reducible refine x3.mono ?_))
    intro rr w5; first | (intro he1 hS5 a5; subst he1) | rintro ⟨rfl, hS5, a5⟩
    have V5 := V4.away a5 (fun k hk => hk)
    have x4 := xr _ hS5
    clear V4 x3 xr hS5 a5
    go_wp2_with (go_at_call 53; (with_reducible refine x4.mono ?_))
    intro rr w6; first | (intro he1 hS6 a6; subst he1) | rintro ⟨rfl, hS6, a6⟩
    have V6 := V5.away a6 (fun k hk => hk)
    have x5 := xS _ hS6
    clear V5 x4 xS hS6 a6
    go_wp2_with (go_at_call 53; (with_reducible refine x5.mono ?_))
    intro rr w7; first | (intro he1 hS7 a7; subst he1) | rintro ⟨rfl, hS7, a7⟩
    have V7 := V6.away a7 (fun k hk => hk)
    have x6 := xl _ hS7
    clear V6 x5 xl hS7 a7
    go_wp2_with (go_at_call 53; (with_reducible refine x6.mono ?_))
    intro rr w8; first | (intro he1 hS8 a8; subst he1) | rintro ⟨rfl, hS8, a8⟩
    have V8 := V7.away a8 (fun k hk => hk)
    have xs8 := xs _ hS8 (B.away V8.aw)
    clear V7 x6 xs hS8 a8
    go_wp2_with (go_at_call 57; (with_reducible refine xs8.mono ?_))
    rintro rr w9 ⟨hv, rfl, hown, hS9, a9⟩
    have V9 := V8.away a9 (fun k hk => hk)
    have oh := ownLo (B := w.heap.size) hown V8.aw.size
    obtain ⟨ha, hc, rfl⟩ := own_is hown
    have c2 := V9.cells.1
    have f2 := V9.cells.2.2.2.2.2.2 2
    have c5 := V9.cells.2.2.2.1
    have f5 := V9.cells.2.2.2.2.2.2 5
    have V10 := V9.put 2 (I 1) (F' := ⟨i0, i1, 1, 0, 0, nilV, gv, nilV⟩) (A' := A0) rfl V9.rows
    have hS10 := hS9.lists hEY hEM V9.hE 2 (I 1)
    have oh10 := own_step oh fun k hk => set_other w9 E 2 (I 1) k (fun e => own_ne oh V9.hE (by intro cs fr hc; injection hc with _ h2 _; exact absurd h2 (by decide)) (by rw [hk, e]))
    have V11 := V10.put 5 (.slice ha hs.length hc) (F' := ⟨i0, i1, 1, 0, 0, .slice ha hs.length hc, gv, nilV⟩) (A' := A0) (hs' := hs) (gs' := gs) (ys' := []) rfl ⟨oh10, V10.rows.og, V10.rows.ol⟩
    have hS11 := hS10.lists hEY hEM V10.hE 5 (.slice ha hs.length hc)
    clear V8 V9 V10 xs8 hS9 hS10 a9 hown oh oh10
    go_wp2
    go_meet
    case rel => exact ⟨_, V11, hS11⟩
   ·generalize headF theO T q4 = hd at xh hbe
    simp only [Prod.mk.injEq] at hbe
    obtain ⟨⟨rfl, rfl⟩, rfl⟩ := hbe
    obtain ⟨⟨⟨p0, p1, p2⟩, td, sh⟩, s2⟩ := hd
    simp only [hAgg] at xh ⊢
    go_wp2_with (go_at_call 53; (with_reducible refine x3.mono ?_))
    intro rr w5; first | (intro he1 hS5 a5; subst he1) | rintro ⟨rfl, hS5, a5⟩
    have V5 := V4.away a5 (fun k hk => hk)
    have x4 := xr _ hS5
    clear V4 x3 xr hS5 a5
    go_wp2_with (go_at_call 53; (with_reducible refine x4.mono ?_))
    intro rr w6; first | (intro he1 hS6 a6; subst he1) | rintro ⟨rfl, hS6, a6⟩
    have V6 := V5.away a6 (fun k hk => hk)
    have x5 := xS _ hS6
    clear V5 x4 xS hS6 a6
    go_wp2_with (go_at_call 53; (with_reducible refine x5.mono ?_))
    intro rr w7; first | (intro he1 hS7 a7; subst he1) | rintro ⟨rfl, hS7, a7⟩
    have V7 := V6.away a7 (fun k hk => hk)
    have x6 := xl _ hS7
    clear V6 x5 xl hS7 a7
    go_wp2_with (go_at_call 53; (with_reducible refine x6.mono ?_))
    intro rr w8; first | (intro he1 hS8 a8; subst he1) | rintro ⟨rfl, hS8, a8⟩
    have V8 := V7.away a8 (fun k hk => hk)
    have xh8 := xh _ hS8 (B.away V8.aw)
    clear V7 x6 xh hS8 a8
    go_wp2_with (go_at_call 58; (with_reducible refine xh8.mono ?_))
    intro rr w8b; first | (intro he1 hS8 a8; subst he1) | rintro ⟨rfl, hS8, a8⟩
    have V8b := V8.away a8 (fun k hk => hk)
    have oh9 : (w8b.alloc (.cells #[I p0, I p1, I p2, .bool td, I sh] 80)).ownsRow w.heap.size 80 5 (.slice (some ⟨w8b.heap.size, 0, none⟩) 1 1) 1 #[I p0, I p1, I p2, .bool td, I sh].toList := World.ownsRow_lit (size := 5) w8b #[I p0, I p1, I p2, .bool td, I sh] 1 V8b.aw.size (by decide) rfl
    have V9 := V8b.step ((Below.refl _ w8b).alloc (Nat.le_refl _) (.cells #[I p0, I p1, I p2, .bool td, I sh] 80))
    have hS9 := hS8.step ((Below.refl _ w8b).alloc (Nat.le_refl _) (.cells #[I p0, I p1, I p2, .bool td, I sh] 80))
    clear V8 xh8 a8 V8b hS8
    generalize hw9 : w8b.alloc (.cells #[I p0, I p1, I p2, .bool td, I sh] 80) = w9 at V9 hS9 oh9
    have V10 := V9.put 2 (I 1) (F' := ⟨i0, i1, 1, 0, 0, nilV, gv, nilV⟩) (A' := A0) rfl V9.rows
    have hS10 := hS9.lists hEY hEM V9.hE 2 (I 1)
    have oh10 := own_step oh9 fun k hk => set_other w9 E 2 (I 1) k (fun e => own_ne oh9 V9.hE (by intro cs fr hc; injection hc with _ h2 _; exact absurd h2 (by decide)) (by rw [hk, e]))
    have V11 := V10.put 5 (.slice (some ⟨w8b.heap.size, 0, none⟩) 1 1) (F' := ⟨i0, i1, 1, 0, 0, .slice (some ⟨w8b.heap.size, 0, none⟩) 1 1, gv, nilV⟩) (A' := A0) (hs' := [⟨⟨p0, p1, p2⟩, td, sh⟩]) (gs' := gs) (ys' := []) rfl ⟨oh10, V10.rows.og, V10.rows.ol⟩
    have hS11 := hS10.lists hEY hEM V10.hE 5 (.slice (some ⟨w8b.heap.size, 0, none⟩) 1 1)
    have c2 := V9.cells.1
    have f2 := V9.cells.2.2.2.2.2.2 2
    have c5 := V9.cells.2.2.2.1
    have f5 := V9.cells.2.2.2.2.2.2 5
    clear V9 V10 hS9 hS10 oh9 oh10
    subst hw9
    go_wp2
    go_meet
    case rel => exact ⟨_, V11, hS11⟩
  case rest =>
   obtain ⟨hv, V5, hS5⟩ := hcut
   clear V4 hS4 HB
   have c2 := V5.cells.1
   go_upto_if 56 with (fail)
   clear c2
   go_cut [] from 4 (fun wc => EvM [Y, M] w.heap.size E ⟨i0, i1, kd, lg, dt, hv, gv, nilV⟩ A0 hs gs [] w wc /\ PS T Y M true s3 wc)
   case first =>
    rcases HV.out with ⟨rfl, hve⟩ | ⟨hk3, hve⟩
    ·simp only [Prod.mk.injEq] at hve
     obtain ⟨⟨rfl, rfl⟩, rfl⟩ := hve
     go_wp2
     go_meet
     case rel => exact ⟨V5, hS5⟩
    ·have hb3 : (kd != 3) = true := by simp [hk3]
     have xe := expect_s hS5 ⟨#[58]⟩
     have xv := fun w' (hh : PS T Y M true (expS T ⟨#[58]⟩ s2) w') (BB : Bas W0 [Y, M] w') => value_s hh BB
     rw [<- hve] at xv
     generalize expS T ⟨#[58]⟩ s2 = s6 at xe xv
     simp only [vAgg] at xv
     clear hve
     rw [hb3]
     clear hb3
     go_wp2_with (go_at_call 54; (with_reducible refine xe.mono ?_))
     intro rr w6; first | (intro he1 hS6 a6; subst he1) | rintro ⟨rfl, hS6, a6⟩
     have V6 := V5.away a6 (fun k hk => hk)
     have xv6 := xv _ hS6 (B.away V6.aw)
     clear V5 xe xv hS5 hS6 a6
     go_wp2_with (go_at_call 59; (with_reducible refine xv6.mono ?_))
     intro rr w7; first | (intro he1 hS7 a7; subst he1) | rintro ⟨rfl, hS7, a7⟩
     have V7 := V6.away a7 (fun k hk => hk)
     have c3 := V7.cells.2.1
     have c4 := V7.cells.2.2.1
     have f3 := V7.cells.2.2.2.2.2.2 3
     have f4 := V7.cells.2.2.2.2.2.2 4
     have V8 := V7.put 3 (I lg) (F' := ⟨i0, i1, kd, lg, 0, hv, gv, nilV⟩) (A' := A0) rfl V7.rows
     have hS8 := hS7.lists hEY hEM V7.hE 3 (I lg)
     have V9 := V8.put 4 (I dt) (F' := ⟨i0, i1, kd, lg, dt, hv, gv, nilV⟩) (A' := A0) rfl V8.rows
     have hS9 := hS8.lists hEY hEM V8.hE 4 (I dt)
     clear V6 V7 V8 xv6 hS7 hS8 a7
     go_wp2
     go_meet
     case rel => exact ⟨V9, hS9⟩
   case rest =>
    obtain ⟨V6, hS6⟩ := hcut
    clear V5 hS5 HV
    have x7 := accept_s hS6 ⟨#[91]⟩
    generalize isS T ⟨#[91]⟩ s3 = bw at x7 HA
    generalize accS T ⟨#[91]⟩ s3 = sw at x7 HA
    go_upto_if 67 with (go_at_call 53; (with_reducible refine x7.mono ?_); rintro rr w7 ⟨rfl, hS7, a7⟩)
    have V7 := V6.away a7 (fun k hk => hk)
    clear V6 x7 hS6 a7
    go_cut [] from 4 (fun wc => EvM [Y, M] w.heap.size E ⟨i0, i1, kd, lg, dt, hv, gv, nilV⟩ A9 hs gs [] w wc /\ PS T Y M true s4 wc)
    case first =>
     rcases HA.out with ⟨rfl, hae⟩ | ⟨rfl, rfl, hae⟩
     ·have x8 := attributes_s (E := E) hS7 V7.hE hEY hEM
      rw [<- hae] at x8
      simp only at x8
      clear hae
      go_wp2_with (go_at_call 60; (with_reducible refine x8.mono ?_))
      intro rr w8; first | (intro he1 hS8 hE8 a8; subst he1) | rintro ⟨rfl, hS8, hE8, a8⟩
      have V8 := V7.other (F' := ⟨i0, i1, kd, lg, dt, hv, gv, nilV⟩) (A' := A9) (hs' := hs) (gs' := gs) (ys' := []) a8 (fun k hk => by simp at hk ⊢; omega) hE8 (V7.rows.step fun k o T' ho hT hk => a8.block k (heap_lt ho) (fun hm => by
       simp only [List.mem_cons, List.not_mem_nil, or_false] at hm
       rcases hm with rfl | rfl | rfl
       ·omega
       ·omega
       ·have := ho.symm.trans V7.hE
        injection this with this
        injection this with _ h2 _
        rcases hT with hT | hT | hT <;> rw [hT] at h2 <;> exact absurd h2 (by decide)))
      clear V7 x8 hS7 hE8 a8
      go_wp2
      go_meet
      case rel => exact ⟨V8, hS8⟩
     ·injection hae with e1 e2
      subst e1 e2
      go_wp2
      go_meet
      case rel => exact ⟨V7, hS7⟩
    case rest =>
     obtain ⟨V8, hS8⟩ := hcut
     clear V7 hS7 HA
     have x9 := xly _ hS8
     clear xly
     go_wp2_with (go_at_call 61; (with_reducible refine x9.mono ?_))
     rintro rr w9 ⟨lv, rfl, hown, hS9, a9⟩
     have V9 := V8.away a9 (fun k hk => hk)
     have ol := ownLo (B := w.heap.size) hown V8.aw.size
     obtain ⟨la, lc, rfl⟩ := own_is hown
     have c10 := V9.cells.2.2.2.2.2.1
     have f10 := V9.cells.2.2.2.2.2.2 10
     have V10 := V9.put 10 (.slice la ys.length lc) (F' := ⟨i0, i1, kd, lg, dt, hv, gv, .slice la ys.length lc⟩) (A' := A9) (hs' := hs) (gs' := gs) (ys' := ys) rfl ⟨V9.rows.oh, V9.rows.og, ol⟩
     have hS10 := hS9.lists hEY hEM V9.hE 10 (.slice la ys.length lc)
     obtain ⟨ha, hc, rfl⟩ := own_is V10.rows.oh
     obtain ⟨ga, gc, rfl⟩ := own_is V10.rows.og
     clear V8 V9 x9 hS8 hS9 a9 hown ol
     generalize hW9 : w9.setCell ⟨E, 10, none⟩ (.slice la ys.length lc) = W9 at V10 hS10
     have hRR : W9.heap[w.heap.size]? = some (.cells #[I 0, I 0, I 0, I 0, I 0, .slice none 0 0, .slice none 0 0, I 0, I 0, I 0, .slice none 0 0, I 0, I 0] 31 (0, 0)) := V10.hR
     have hEE : W9.heap[E]? = some (.cells #[I i0, I i1, I kd, I lg, I dt, .slice ha hs.length hc, .slice ga gs.length gc, I A9.ar, I A9.orn, I A9.dy, .slice la ys.length lc, I A9.st, I A9.be] 31 (0, 0)) := V10.hE
     obtain ⟨e0, e1, e2, e3, e4, e5, e6, e7, e8, e9, e10, e11, e12, -⟩ := box13 hEE
     obtain ⟨r0, r1, r2, r3, r4, r5, r6, r7, r8, r9, r10, r11, r12, z0, z1, z2, z3, z4, z5, z6, z7, z8, z9, z10, z11, z12⟩ := box13 hRR
     have nRE : E ≠ w.heap.size := by have := V10.ne; omega
     have fR := fill13_self (I i0) (I i1) (I kd) (I lg) (I dt) (.slice ha hs.length hc) (.slice ga gs.length gc) (I A9.ar) (I A9.orn) (I A9.dy) (.slice la ys.length lc) (I A9.st) (I A9.be) hRR
     have fO := fill13_other (w := W9) (X := w.heap.size) (I i0) (I i1) (I kd) (I lg) (I dt) (.slice ha hs.length hc) (.slice ga gs.length gc) (I A9.ar) (I A9.orn) (I A9.dy) (.slice la ys.length lc) (I A9.st) (I A9.be)
     have fA := fill13_away (X := w.heap.size) (I i0) (I i1) (I kd) (I lg) (I dt) (.slice ha hs.length hc) (.slice ga gs.length gc) (I A9.ar) (I A9.orn) (I A9.dy) (.slice la ys.length lc) (I A9.st) (I A9.be) V10.aw (Nat.le_refl _)
     have hP := hS10.put (R := w.heap.size) (w' := fill13 W9 w.heap.size (I i0) (I i1) (I kd) (I lg) (I dt) (.slice ha hs.length hc) (.slice ga gs.length gc) (I A9.ar) (I A9.orn) (I A9.dy) (.slice la ys.length lc) (I A9.st) (I A9.be)) (by omega) (by omega) hRR (by decide) fO
     have hrw := V10.rows.step (w' := fill13 W9 w.heap.size (I i0) (I i1) (I kd) (I lg) (I dt) (.slice ha hs.length hc) (.slice ga gs.length gc) (I A9.ar) (I A9.orn) (I A9.dy) (.slice la ys.length lc) (I A9.st) (I A9.be)) (fun k o T' ho hT _ => fO k (fun e => by
      have := ho.symm.trans (e ▸ hRR)
      injection this with this
      injection this with _ h2 _
      rcases hT with hT | hT | hT <;> rw [hT] at h2 <;> exact absurd h2 (by decide)))
     clear V10 hS10 fO hRR hEE B
     unfold fill13 at fR fA hP hrw
     have HF := shut (And.intro fR (And.intro fA (And.intro hP hrw)))
     clear fR fA hP hrw
     go_wp2
     obtain ⟨fR, fA, hP, hrw⟩ := HF.out
     clear HF
     generalize (((((((((((((W9.setCell ⟨w.heap.size, 0, none⟩ (I i0)).setCell ⟨w.heap.size, 1, none⟩ (I i1)).setCell ⟨w.heap.size, 2, none⟩ (I kd)).setCell ⟨w.heap.size, 3, none⟩ (I lg)).setCell ⟨w.heap.size, 4, none⟩ (I dt)).setCell ⟨w.heap.size, 5, none⟩ (.slice ha hs.length hc)).setCell ⟨w.heap.size, 6, none⟩ (.slice ga gs.length gc)).setCell ⟨w.heap.size, 7, none⟩ (I A9.ar)).setCell ⟨w.heap.size, 8, none⟩ (I A9.orn)).setCell ⟨w.heap.size, 9, none⟩ (I A9.dy)).setCell ⟨w.heap.size, 10, none⟩ (.slice la ys.length lc)).setCell ⟨w.heap.size, 11, none⟩ (I A9.st)).setCell ⟨w.heap.size, 12, none⟩ (I A9.be)) = WF at fR fA hP hrw ⊢
     refine bodyPost_ret (results_cell_row rfl _ _ w.heap.size 31 _ (0, 0) _ rfl fR Tryz.underlying31 rfl Tryz.sizeEvent) rfl ?_
     exact ⟨_, rfl, ⟨_, _, _, rfl, hrw⟩, hP, fA⟩
end
section
variable {T : List Tok} {X : Nat} {free : Bool} {lv iv : Value} {st : Stt} {w : World}
theorem Bas.less {W0 w : World} {bs cs : List Nat} (h : Bas W0 bs w) (hs : ∀ k ∈ cs, k ∈ bs) : Bas W0 cs w := ⟨h.gl, h.bel, fun k hk => h.hs k (hs k hk)⟩
def otherT (t : TypeId) : Prop := t ≠ 59 /\ t ≠ 24 /\ t ≠ 42
theorem MS.asideT (h : MS T X free lv iv st w) {R : Nat} {cs : Array Value} {t : TypeId} (hR : w.heap[R]? = some (.cells cs t (0, 0))) (ht : otherT t) {w' : World} (hs : w.heap.size <= w'.heap.size) (ho : ∀ j, j ≠ R -> w'.heap[j]? = w.heap[j]?) : MS T X free lv iv st w' := by
 obtain ⟨g, pos, is, im, n, xs, e, line, col, h1, h2, h3⟩ := h
 have hX : R ≠ X := by
  rintro rfl
  have := hR.symm.trans h1.blk
  injection this with this
  injection this with _ h2 _
  exact ht.2.2 h2
 exact ⟨g, pos, is, im, n, xs, e, line, col, ⟨(ho X hX.symm).trans h1.blk, fun he => own_step (h1.row he) fun k hk => ho k (fun e => own_ne (h1.row he) hR (by intro cs' fr' hc; injection hc with _ h2 _; exact ht.1 h2) (by rw [hk, e])), own_step h1.ids fun k hk => ho k (fun e => own_ne h1.ids hR (by intro cs' fr' hc; injection hc with _ h2 _; exact ht.2.1 h2) (by rw [hk, e])), fun g hg => Nat.lt_of_lt_of_le (h1.lvB g hg) hs⟩, h2, h3⟩
theorem MS.set31 (h : MS T X free lv iv st w) {R : Nat} {cs : Array Value} (hR : w.heap[R]? = some (.cells cs 31 (0, 0))) (i : Nat) (u : Value) : MS T X free lv iv st (w.setCell ⟨R, i, none⟩ u) :=
 h.asideT hR ⟨by decide, by decide, by decide⟩ (set_size w R i u) (set_other w R i u)
theorem MS.grownT (h : MS T X free lv iv st w) {w' : World} {row : Option Nat} (hg : w.grownBy w' row) (hr : ∀ k, row = some k -> ∃ cur t, w.heap[k]? = some (.cells cur t (0, 0)) /\ otherT t) : MS T X free lv iv st w' := by
 obtain ⟨g, pos, is, im, n, xs, e, line, col, h1, h2, h3⟩ := h
 have lX := h1.lt
 refine ⟨g, pos, is, im, n, xs, e, line, col, ⟨(hg.block X lX (fun e => ?_)).trans h1.blk, fun he => own_step (h1.row he) fun k hk => hg.block k ((h1.row he).lt k hk).2 (fun e => ?_), own_step h1.ids fun k hk => hg.block k (h1.ids.lt k hk).2 (fun e => ?_), fun g hg' => Nat.lt_of_lt_of_le (h1.lvB g hg') hg.size⟩, h2, h3⟩
 ·obtain ⟨cur, t, hc, ht⟩ := hr X e.symm
  have := hc.symm.trans h1.blk
  injection this with this
  injection this with _ h2 _
  exact ht.2.2 h2
 ·obtain ⟨cur, t, hc, ht⟩ := hr k e.symm
  exact own_ne (h1.row he) hc (by intro cs' fr' hc; injection hc with _ h2 _; exact ht.1 h2) hk
 ·obtain ⟨cur, t, hc, ht⟩ := hr k e.symm
  exact own_ne h1.ids hc (by intro cs' fr' hc; injection hc with _ h2 _; exact ht.2.1 h2) hk
end
section
variable {bs : List Nat} {R E : Nat} {F : EF} {A : A5} {hs : List HeadV} {gs : List GraceV} {ys : List SyllV} {w0 w w' : World}
theorem cells_no {w : World} {k : Nat} {c d : Array Value} {t u : TypeId} (h : w.heap[k]? = some (.cells c t (0, 0))) (hd : w.heap[k]? = some (.cells d u (0, 0))) (ht : t ≠ u) : False := by
 have := h.symm.trans hd
 injection this with this
 injection this with _ h2 _
 exact ht h2
theorem EvM.pushG (h : EvM bs R E F A hs gs ys w0 w) (hg : w.grownBy w' F.gv.ownBlock) {v : Value} {n : Nat} {x : GraceV} (hn : n = gs.length + 1) (ho : w'.ownsRow w0.heap.size 77 5 v n (flatC GraceV.cells gs ++ x.cells.toList)) : EvM bs R E { F with gv := v } A hs (gs ++ [x]) ys w0 (w'.setCell ⟨E, 6, none⟩ v) := by
 have nr : ∀ (k : Nat) (o : Array Value) (t : TypeId), w.heap[k]? = some (.cells o t (0, 0)) -> t ≠ 77 -> some k ≠ F.gv.ownBlock := fun k o t hk ht e => by
  obtain ⟨c, hc⟩ := own_at h.rows.og e.symm
  exact cells_no hk hc ht
 have keep : ∀ (k : Nat) (o : Array Value) (t : TypeId), w.heap[k]? = some (.cells o t (0, 0)) -> t ≠ 77 -> w'.heap[k]? = w.heap[k]? := fun k o t hk ht => hg.block k (heap_lt hk) (nr k o t hk ht)
 have hE' : w'.heap[E]? = some (.cells (F.c A) 31 (0, 0)) := (keep E _ _ h.hE (by decide)).trans h.hE
 have h1 : EvM bs R E F A hs gs ys w0 w := h
 have aw' : Away bs w0 w' := h.aw.grown hg (fun k hk => (h.rows.og.lt k hk).1)
 have st : ∀ k, k ≠ E -> (w'.setCell ⟨E, 6, none⟩ v).heap[k]? = w'.heap[k]? := fun k hk => set_other w' E 6 v k hk
 have bR := h.bR
 have ne := h.ne
 refine ⟨(st R (by omega)).trans ((keep R _ _ h.hR (by decide)).trans h.hR), by rw [Lib.heap_setCell_same hE']; rfl, ⟨?_, ?_, ?_⟩, aw'.setCell (p := ⟨E, 6, none⟩) (.inr (by show w0.heap.size <= E; omega)) v, h.bR, h.ne, h.lo⟩
 ·refine own_step h.rows.oh fun k hk => ?_
  obtain ⟨c, hc⟩ := own_at h.rows.oh hk
  exact (st k (fun e => cells_no hc (e ▸ h.hE) (by decide))).trans (keep k c _ hc (by decide))
 ·rw [flatC_snoc, List.length_append]
  subst hn
  exact own_step ho fun k hk => st k (fun e => by
   obtain ⟨c, hc⟩ := own_at ho hk
   exact cells_no hc (e ▸ hE') (by decide))
 ·refine own_step h.rows.ol fun k hk => ?_
  obtain ⟨c, hc⟩ := own_at h.rows.ol hk
  exact (st k (fun e => cells_no hc (e ▸ h.hE) (by decide))).trans (keep k c _ hc (by decide))
theorem EvM.pushH (h : EvM bs R E F A hs gs ys w0 w) (hg : w.grownBy w' F.hv.ownBlock) {v : Value} {n : Nat} {x : HeadV} (hn : n = hs.length + 1) (ho : w'.ownsRow w0.heap.size 80 5 v n (flatC HeadV.cells hs ++ x.cells.toList)) : EvM bs R E { F with hv := v } A (hs ++ [x]) gs ys w0 (w'.setCell ⟨E, 5, none⟩ v) := by
 have nr : ∀ (k : Nat) (o : Array Value) (t : TypeId), w.heap[k]? = some (.cells o t (0, 0)) -> t ≠ 80 -> some k ≠ F.hv.ownBlock := fun k o t hk ht e => by
  obtain ⟨c, hc⟩ := own_at h.rows.oh e.symm
  exact cells_no hk hc ht
 have keep : ∀ (k : Nat) (o : Array Value) (t : TypeId), w.heap[k]? = some (.cells o t (0, 0)) -> t ≠ 80 -> w'.heap[k]? = w.heap[k]? := fun k o t hk ht => hg.block k (heap_lt hk) (nr k o t hk ht)
 have hE' : w'.heap[E]? = some (.cells (F.c A) 31 (0, 0)) := (keep E _ _ h.hE (by decide)).trans h.hE
 have h1 : EvM bs R E F A hs gs ys w0 w := h
 have aw' : Away bs w0 w' := h.aw.grown hg (fun k hk => (h.rows.oh.lt k hk).1)
 have st : ∀ k, k ≠ E -> (w'.setCell ⟨E, 5, none⟩ v).heap[k]? = w'.heap[k]? := fun k hk => set_other w' E 5 v k hk
 have bR := h.bR
 have ne := h.ne
 refine ⟨(st R (by omega)).trans ((keep R _ _ h.hR (by decide)).trans h.hR), by rw [Lib.heap_setCell_same hE']; rfl, ⟨?_, ?_, ?_⟩, aw'.setCell (p := ⟨E, 5, none⟩) (.inr (by show w0.heap.size <= E; omega)) v, h.bR, h.ne, h.lo⟩
 ·rw [flatC_snoc, List.length_append]
  subst hn
  exact own_step ho fun k hk => st k (fun e => by
   obtain ⟨c, hc⟩ := own_at ho hk
   exact cells_no hc (e ▸ hE') (by decide))
 ·refine own_step h.rows.og fun k hk => ?_
  obtain ⟨c, hc⟩ := own_at h.rows.og hk
  exact (st k (fun e => cells_no hc (e ▸ h.hE) (by decide))).trans (keep k c _ hc (by decide))
 ·refine own_step h.rows.ol fun k hk => ?_
  obtain ⟨c, hc⟩ := own_at h.rows.ol hk
  exact (st k (fun e => cells_no hc (e ▸ h.hE) (by decide))).trans (keep k c _ hc (by decide))
end
end Go.Proofs.YtgkhemnmcgicnaaGreatDoor
