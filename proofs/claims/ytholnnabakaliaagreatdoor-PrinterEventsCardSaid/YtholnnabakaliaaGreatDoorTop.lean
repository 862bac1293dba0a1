/-
  A part of the proof that the law PrinterEvents (chapter 20) returns true for every event: walks of the program's functions, and runs of them in the kernel by the own evaluator.
-/
import Derived.Test.YtholnnabakaliaaGreatDoorKnw
namespace Go.Proofs.YtholnnabakaliaaGreatDoor
open Go.RowKit

theorem text_id (site num kd lg dt ar orn dy st be : Int) (heads : List HeadV) (graces : List GraceV) (lyr : List SyllV) : textL ⟨site, num, kd, lg, dt, heads, graces, ar, orn, dy, lyr, st, be⟩ = textL ⟨0, 0, kd, lg, dt, heads, graces, ar, orn, dy, lyr, st, be⟩ := rfl
theorem body_id (site num kd lg dt ar orn dy st be : Int) (heads : List HeadV) (graces : List GraceV) (lyr : List SyllV) : bodyL ⟨site, num, kd, lg, dt, heads, graces, ar, orn, dy, lyr, st, be⟩ = bodyL ⟨0, 0, kd, lg, dt, heads, graces, ar, orn, dy, lyr, st, be⟩ := rfl
theorem EvOk.id0 {site num kd lg dt ar orn dy st be : Int} {heads : List HeadV} {graces : List GraceV} {lyr : List SyllV} (h : EvOk ⟨site, num, kd, lg, dt, heads, graces, ar, orn, dy, lyr, st, be⟩) : EvOk ⟨0, 0, kd, lg, dt, heads, graces, ar, orn, dy, lyr, st, be⟩ :=
  ⟨h.kd, h.val, h.val3, h.hp, h.hn, h.h10, h.hok, h.g8, h.gok, h.l4, h.lok, h.ar0, h.ar1, h.o0, h.o4, h.d0, h.d9, h.s0, h.s2, h.b0, h.b2⟩
/-- The law's text of an event without its id. -/
theorem ltext0 (kd lg dt ar orn dy st be : Int) (ho go lo : Option Addr) (hn hc gn gc ln lc : Nat) (heads : List HeadV) (graces : List GraceV) (lyr : List SyllV) {b : Nat} (w : World) (T : Tabs b w)
    (hx : EvOk ⟨0, 0, kd, lg, dt, heads, graces, ar, orn, dy, lyr, st, be⟩) (h1 : Els w 5 (.slice ho hn hc) (heads.map HeadV.cells)) (h2 : Els w 5 (.slice go gn gc) (graces.map GraceV.cells)) (h3 : Els w 2 (.slice lo ln lc) (lyr.map SyllV.cells)) :
    Calls Tryz.prog 8 #[.agg #[.int .i64 0, .int .i64 0, .int .i64 kd, .int .i64 lg, .int .i64 dt, .slice ho hn hc, .slice go gn gc, .int .i64 ar, .int .i64 orn, .int .i64 dy, .slice lo ln lc, .int .i64 st, .int .i64 be]] w fun e w' => e = .returned (.string (mkB (textL ⟨0, 0, kd, lg, dt, heads, graces, ar, orn, dy, lyr, st, be⟩))) ∧ Below w.heap.size w w' :=
  ltext_walk 0 0 kd lg dt ar orn dy st be ho go lo hn hc gn gc ln lc heads graces lyr w T h2 hx.g8 hx.gok h3 hx.l4 hx.lok hx.ar0 hx.ar1 hx.o0 hx.o4 hx.d0 hx.d9 hx.s0 hx.s2 hx.b0 hx.b2 (bodyL_len hx)
    fun W bW => lbody_walk 0 0 kd lg dt ar orn dy st be ho go lo hn hc gn gc ln lc heads graces lyr W (T.step bW) (h1.step bW) hx.value hx.kd hx.hp hx.hn hx.h10 hx.hok

set_option maxHeartbeats 32000000 in
set_option maxRecDepth 100000 in
theorem law_walk (site num kd lg dt ar orn dy st be : Int) (ho go lo : Option Addr) (hn hc gn gc ln lc : Nat) (heads : List HeadV) (graces : List GraceV) (lyr : List SyllV) {b : Nat} (w : World) (T : Tabs b w)
    (h1 : Els w 5 (.slice ho hn hc) (heads.map HeadV.cells)) (h2 : Els w 5 (.slice go gn gc) (graces.map GraceV.cells)) (h3 : Els w 2 (.slice lo ln lc) (lyr.map SyllV.cells)) :
    Calls Tryz.prog 3 #[.agg #[.int .i64 site, .int .i64 num, .int .i64 kd, .int .i64 lg, .int .i64 dt, .slice ho hn hc, .slice go gn gc, .int .i64 ar, .int .i64 orn, .int .i64 dy, .slice lo ln lc, .int .i64 st, .int .i64 be]] w fun r w' => r = .returned (.bool true) ∧ Below w.heap.size w w' := by
  have e1 : hn = heads.length := by have := h1.len; simpa using this
  have e2 : gn = graces.length := by have := h2.len; simpa using this
  have e3 : ln = lyr.length := by have := h3.len; simpa using this
  have b0 := (Below.refl w.heap.size w).alloc (Nat.le_refl _) (.cells #[.int .i64 site, .int .i64 num, .int .i64 kd, .int .i64 lg, .int .i64 dt, .slice ho hn hc, .slice go gn gc, .int .i64 ar, .int .i64 orn, .int .i64 dy, .slice lo ln lc, .int .i64 st, .int .i64 be] 30)
  have hB0 := heap_alloc_new w (.cells #[.int .i64 site, .int .i64 num, .int .i64 kd, .int .i64 lg, .int .i64 dt, .slice ho hn hc, .slice go gn gc, .int .i64 ar, .int .i64 orn, .int .i64 dy, .slice lo ln lc, .int .i64 st, .int .i64 be] 30)
  obtain ⟨w1, hw1⟩ : ∃ w1, w1 = w.alloc (.cells #[.int .i64 site, .int .i64 num, .int .i64 kd, .int .i64 lg, .int .i64 dt, .slice ho hn hc, .slice go gn gc, .int .i64 ar, .int .i64 orn, .int .i64 dy, .slice lo ln lc, .int .i64 st, .int .i64 be] 30) := ⟨_, rfl⟩
  rw [← hw1] at b0 hB0
  have xk := known_walk _ (T.step b0)
  obtain ⟨k0, k1, k2, k3, k4, k5, k6, k7, k8, k9, k10, k11, k12⟩ := box13 hB0
  have cellsOf' : ∀ W, Below w1.heap.size w1 W → W.heap[w.heap.size]? = some (.cells #[.int .i64 site, .int .i64 num, .int .i64 kd, .int .i64 lg, .int .i64 dt, .slice ho hn hc, .slice go gn gc, .int .i64 ar, .int .i64 orn, .int .i64 dy, .slice lo ln lc, .int .i64 st, .int .i64 be] 30 (0, 0)) := fun W bW => (bW.block _ (Array.getElem?_eq_some_iff.1 hB0).1).trans hB0
  by_cases hbig : 12 < hn ∨ 12 < gn ∨ 12 < ln
  · have fin : ∀ W, Below w1.heap.size w1 W → Calls Tryz.prog 4 #[] W fun r w' => r = .returned (.bool true) ∧ Below W.heap.size W w' := fun W bW => known_walk W ((T.step b0).step bW)
    by_cases c1 : 12 < hn
    · have c1' : (12 : Int) < (hn : Int) := by omega
      clear hbig h1 h2 h3 e1 e2 e3
      go_enter Tryz.func3, Tryz.ntmps3
      go_upto_region 1 with (fail)
      rw [← hw1]
      clear hw1
      go_wp2_with (go_at_call 4; (with_reducible refine xk.mono ?_))
      intro r w2; first | (intro he b2; subst he) | rintro ⟨rfl, b2⟩
      obtain ⟨j0, j1, j2, j3, j4, j5, j6, j7, j8, j9, j10, j11, j12⟩ := box13 (cellsOf' w2 b2)
      have xf := fin w2 b2
      clear fin cellsOf'
      go_wp2_with (go_at_call 4; (with_reducible refine xf.mono ?_))
      intro r w3; first | (intro he b3; subst he) | rintro ⟨rfl, b3⟩
      go_wp2
      go_ret
      exact ⟨rfl, (b0.trans (b2.mono b0.size)).trans (b3.mono (b0.trans (b2.mono b0.size)).size)⟩
    · by_cases c2 : 12 < gn
      · have c1' : ¬ (12 : Int) < (hn : Int) := by omega
        have c2' : (12 : Int) < (gn : Int) := by omega
        clear hbig h1 h2 h3 e1 e2 e3
        go_enter Tryz.func3, Tryz.ntmps3
        go_upto_region 1 with (fail)
        rw [← hw1]
        clear hw1
        go_wp2_with (go_at_call 4; (with_reducible refine xk.mono ?_))
        intro r w2; first | (intro he b2; subst he) | rintro ⟨rfl, b2⟩
        obtain ⟨j0, j1, j2, j3, j4, j5, j6, j7, j8, j9, j10, j11, j12⟩ := box13 (cellsOf' w2 b2)
        have xf := fin w2 b2
        clear fin cellsOf'
        go_wp2_with (go_at_call 4; (with_reducible refine xf.mono ?_))
        intro r w3; first | (intro he b3; subst he) | rintro ⟨rfl, b3⟩
        go_wp2
        go_ret
        exact ⟨rfl, (b0.trans (b2.mono b0.size)).trans (b3.mono (b0.trans (b2.mono b0.size)).size)⟩
      · have c1' : ¬ (12 : Int) < (hn : Int) := by omega
        have c2' : ¬ (12 : Int) < (gn : Int) := by omega
        have c3' : (12 : Int) < (ln : Int) := by omega
        clear hbig h1 h2 h3 e1 e2 e3
        go_enter Tryz.func3, Tryz.ntmps3
        go_upto_region 1 with (fail)
        rw [← hw1]
        clear hw1
        go_wp2_with (go_at_call 4; (with_reducible refine xk.mono ?_))
        intro r w2; first | (intro he b2; subst he) | rintro ⟨rfl, b2⟩
        obtain ⟨j0, j1, j2, j3, j4, j5, j6, j7, j8, j9, j10, j11, j12⟩ := box13 (cellsOf' w2 b2)
        have xf := fin w2 b2
        clear fin cellsOf'
        go_wp2_with (go_at_call 4; (with_reducible refine xf.mono ?_))
        intro r w3; first | (intro he b3; subst he) | rintro ⟨rfl, b3⟩
        go_wp2
        go_ret
        exact ⟨rfl, (b0.trans (b2.mono b0.size)).trans (b3.mono (b0.trans (b2.mono b0.size)).size)⟩
  · have c1' : ¬ (12 : Int) < (hn : Int) := by omega
    have c2' : ¬ (12 : Int) < (gn : Int) := by omega
    have c3' : ¬ (12 : Int) < (ln : Int) := by omega
    have c1 : heads.length ≤ 12 := by omega
    have c2 : graces.length ≤ 12 := by omega
    have c3 : lyr.length ≤ 12 := by omega
    clear hbig
    have HE := shut (And.intro e1 e2)
    subst e3
    clear e1 e2
    go_enter Tryz.func3, Tryz.ntmps3
    go_upto_region 1 with (fail)
    rw [← hw1]
    clear hw1
    go_wp2_with (go_at_call 4; (with_reducible refine xk.mono ?_))
    intro r w2; first | (intro he b2; subst he) | rintro ⟨rfl, b2⟩
    have hB2 := cellsOf' w2 b2
    obtain ⟨j0, j1, j2, j3, j4, j5, j6, j7, j8, j9, j10, j11, j12⟩ := box13 hB2
    have bb := b0.trans (b2.mono b0.size)
    have lB2 := (Array.getElem?_eq_some_iff.1 hB2).1
    clear xk cellsOf' k0 k1 k2 k3 k4 k5 k6 k7 k8 k9 k10 k11 k12 hB0 b0 b2
    go_wp2
    go_loopg [3] lyr.length (fun g s3 wr => ∃ k : Nat, k ≤ lyr.length ∧ g = lyr.length - k ∧ s3 = .int .i64 (k : Nat) ∧ wr = w2)
    case atStart => exact ⟨0, Nat.zero_le _, rfl, rfl, rfl⟩
    case round =>
      obtain ⟨k, hk, hg, rfl, rfl⟩ := hrel
      by_cases hlt : k < lyr.length
      · have hlt' : (k : Int) < (lyr.length : Int) := by omega
        have hk0 : (0 : Int) ≤ (k : Int) := by omega
        obtain ⟨g, oo, hge, hcl⟩ := (h3.step bb).atM hlt
        have m1 : IntKind.i64.wrap ((k : Int) + 1) = (k : Int) + 1 := IntWalk.i64_in _ (by omega)
        generalize lyr[k] = y at hcl
        obtain ⟨tx, lnk⟩ := y
        subst hge
        have d0 : wr.cell? ⟨g, oo + k * 2, none⟩ = some (.string tx) := hcl 0 _ rfl
        by_cases h300 : 300 < tx.size
        · have h300' : (300 : Int) < (tx.size : Int) := by omega
          clear hcl
          go_wp2
          go_ret
          exact ⟨rfl, bb⟩
        · have h300' : ¬ (300 : Int) < (tx.size : Int) := by omega
          clear hcl
          go_wp2
          go_roundg (lyr.length - (k + 1))
          case measure => omega
          case rel => exact ⟨k + 1, by omega, rfl, by simp, rfl⟩
      · have hkl : k = lyr.length := by omega
        subst hkl
        clear hk hg hlt
        obtain ⟨e, he⟩ : ∃ e, e = checkE ⟨site, num, kd, lg, dt, heads, graces, ar, orn, dy, lyr, st, be⟩ := ⟨_, rfl⟩
        obtain ⟨s, hs⟩ : ∃ s, s = if e = 0 then mkB (textL ⟨site, num, kd, lg, dt, heads, graces, ar, orn, dy, lyr, st, be⟩) else ⟨#[]⟩ := ⟨_, rfl⟩
        have hold : ∀ W, Below w.heap.size w W → Holds3 ⟨site, num, kd, lg, dt, heads, graces, ar, orn, dy, lyr, st, be⟩ (.slice ho hn hc) (.slice go gn gc) (.slice lo lyr.length lc) W := fun W bW => ⟨h1.step bW, h2.step bW, h3.step bW, Nat.le_trans c1 (by decide), Nat.le_trans c2 (by decide), Nat.le_trans c3 (by decide)⟩
        have xe := pevent_walk site num kd lg dt ar orn dy st be ho go lo hn hc gn gc lyr.length lc heads graces lyr wr (T.step bb) (hold wr bb) s e he hs
        have xc := fun W (bW : Below w.heap.size w W) => check_walk site num kd lg dt ar orn dy st be ho go lo hn hc gn gc lyr.length lc heads graces lyr W (hold W bW)
        rw [← he] at xc
        have HS := shut (And.intro he hs)
        clear he hs hold
        go_wp2_with (go_at_call 5; (with_reducible refine xe.mono ?_))
        intro r w3; first | (intro he3 b3; subst he3) | rintro ⟨rfl, b3⟩
        have bb3 := bb.trans (b3.mono bb.size)
        have hB3 := (b3.block w.heap.size lB2).trans hB2
        have xc3 := xc w3 bb3
        clear xe xc j0 j1 j2 j3 j4 j5 j6 j7 j8 j9 j10 j11 j12 hB2 b3
        obtain ⟨j0, j1, j2, j3, j4, j5, j6, j7, j8, j9, j10, j11, j12⟩ := box13 hB3
        go_wp2_with (go_at_call 6; (with_reducible refine xc3.mono ?_))
        intro r w4; first | (intro he4 b4; subst he4) | rintro ⟨rfl, b4⟩
        have bb4 := bb3.trans (b4.mono bb3.size)
        have hB4 := (b4.block w.heap.size (Array.getElem?_eq_some_iff.1 hB3).1).trans hB3
        clear xc3 j0 j1 j2 j3 j4 j5 j6 j7 j8 j9 j10 j11 j12 hB3 b4
        obtain ⟨he, hs⟩ := HS.out
        by_cases h0 : e = 0
        · subst h0
          rw [if_pos rfl] at hs
          have hx : EvOk ⟨site, num, kd, lg, dt, heads, graces, ar, orn, dy, lyr, st, be⟩ := EvOk.of he.symm
          have xp := pev_parses hx w4 (T.step bb4)
          rw [← hs] at xp
          rw [text_id] at hs
          have HS2 := shut hs
          clear he hs HS
          go_wp2_with (go_at_call 7; (with_reducible refine xp.mono ?_))
          rintro r w5 ⟨hv, gv, lv, rfl, eh, eg, el, b5, hk5⟩
          obtain ⟨ha, hac, hhv⟩ := eh.is
          generalize (heads.map HeadV.cells).length = hn' at hhv
          subst hhv
          obtain ⟨ga, gac, hgv⟩ := eg.is
          generalize (graces.map GraceV.cells).length = gn' at hgv
          subst hgv
          obtain ⟨la, lac, hlv⟩ := el.is
          generalize (lyr.map SyllV.cells).length = ln' at hlv
          subst hlv
          have bb5 := bb4.trans (b5.mono bb4.size)
          have lB4 := (Array.getElem?_eq_some_iff.1 hB4).1
          have hB5 := (b5.block w.heap.size lB4).trans hB4
          have hk6 : ∀ k, (Value.slice ha hn' hac).ownBlock = some k ∨ (Value.slice ga gn' gac).ownBlock = some k ∨ (Value.slice la ln' lac).ownBlock = some k → k ≠ w.heap.size := fun k h => by have := hk5 k h; omega
          clear xp b5 hB4 hk5 bb4 bb3
          simp only [evC]
          obtain ⟨j0, j1, j2, j3, j4, j5, j6, j7, j8, j9, j10, j11, j12⟩ := box13 hB5
          have y0 := Lib.frozen_of_heap hB5 0
          have y1 := Lib.frozen_of_heap hB5 1
          have lB5 := (Array.getElem?_eq_some_iff.1 hB5).1
          -- the world behind the stores
          obtain ⟨w6, hw6⟩ : ∃ w6, w6 = ((w5.setCell ⟨w.heap.size, 0, none⟩ (.int .i64 0)).setCell ⟨w.heap.size, 1, none⟩ (.int .i64 0)).alloc (.cells #[.int .i64 0, .int .i64 0, .int .i64 kd, .int .i64 lg, .int .i64 dt, .slice ha hn' hac, .slice ga gn' gac, .int .i64 ar, .int .i64 orn, .int .i64 dy, .slice la ln' lac, .int .i64 st, .int .i64 be] 30) := ⟨_, rfl⟩
          have fr : ∀ k, k < w5.heap.size → k ≠ w.heap.size → w6.heap[k]? = w5.heap[k]? := fun k hl hk => by
            rw [hw6]
            rw [Lib.alloc_old _ _ k (by simpa [World.setCell] using hl)]
            rw [Below.heap_setCell _ ⟨w.heap.size, 1, none⟩ _ k hk, Below.heap_setCell _ ⟨w.heap.size, 0, none⟩ _ k hk]
          have bb6 : Below w.heap.size w w6 := by
            rw [hw6]
            exact ((bb5.setCell (p := ⟨w.heap.size, 0, none⟩) (Nat.le_refl _) _).setCell (p := ⟨w.heap.size, 1, none⟩) (Nat.le_refl _) _).alloc (by simp [World.setCell]; omega) _
          have hB6 : w6.heap[w.heap.size]? = some (.cells #[.int .i64 0, .int .i64 0, .int .i64 kd, .int .i64 lg, .int .i64 dt, .slice ho hn hc, .slice go gn gc, .int .i64 ar, .int .i64 orn, .int .i64 dy, .slice lo lyr.length lc, .int .i64 st, .int .i64 be] 30 (0, 0)) := by
            have h2 := Lib.heap_setCell_same (i := 1) (Lib.heap_setCell_same (i := 0) hB5 (.int .i64 0)) (.int .i64 0)
            rw [hw6, Lib.alloc_old _ _ _ (Array.getElem?_eq_some_iff.1 h2).1, h2]
            rfl
          have hY6 : w6.heap[w5.heap.size]? = some (.cells #[.int .i64 0, .int .i64 0, .int .i64 kd, .int .i64 lg, .int .i64 dt, .slice ha hn' hac, .slice ga gn' gac, .int .i64 ar, .int .i64 orn, .int .i64 dy, .slice la ln' lac, .int .i64 st, .int .i64 be] 30 (0, 0)) := by
            have h2 := heap_alloc_new ((w5.setCell ⟨w.heap.size, 0, none⟩ (.int .i64 0)).setCell ⟨w.heap.size, 1, none⟩ (.int .i64 0)) (.cells #[.int .i64 0, .int .i64 0, .int .i64 kd, .int .i64 lg, .int .i64 dt, .slice ha hn' hac, .slice ga gn' gac, .int .i64 ar, .int .i64 orn, .int .i64 dy, .slice la ln' lac, .int .i64 st, .int .i64 be] 30)
            rw [show ((w5.setCell ⟨w.heap.size, 0, none⟩ (.int .i64 0)).setCell ⟨w.heap.size, 1, none⟩ (.int .i64 0)).heap.size = w5.heap.size by simp [World.setCell]] at h2
            rw [hw6]; exact h2
          have keep : ∀ {n : Nat} {v : Value} {rows : List (Array Value)}, Els w5 n v rows → (∀ r ∈ rows, 0 < r.size) → (∀ k, v.ownBlock = some k → k ≠ w.heap.size) → Els w6 n v rows := fun {n v rows} hv hr hk => by
            rcases hv with hv | ⟨g, o, cap, rfl, hrr⟩
            · exact .inl hv
            · refine .inr ⟨g, o, cap, rfl, fun j r hj => ?_⟩
              obtain ⟨q1, q2, q3⟩ := hrr j r hj
              refine ⟨q1, q2, fun i u hu => ?_⟩
              have hc := q3 i u hu
              have lg := World.block_lt_of_cell? w5 _ hc
              simp only at lg
              rw [← hc]
              unfold World.cell?
              rw [fr g lg (hk g rfl)]
          have eh6 := keep eh (fun r hr => by obtain ⟨y, -, rfl⟩ := List.mem_map.1 hr; show 0 < 5; decide) (fun k hk => hk6 k (.inl hk))
          have eg6 := keep eg (fun r hr => by obtain ⟨y, -, rfl⟩ := List.mem_map.1 hr; show 0 < 5; decide) (fun k hk => hk6 k (.inr (.inl hk)))
          have el6 := keep el (fun r hr => by obtain ⟨y, -, rfl⟩ := List.mem_map.1 hr; show 0 < 2; decide) (fun k hk => hk6 k (.inr (.inr hk)))
          have xt := ltext0 kd lg dt ar orn dy st be ho go lo hn hc gn gc lyr.length lc heads graces lyr w6 (T.step bb6) hx.id0 (h1.step bb6) (h2.step bb6) (h3.step bb6)
          rw [← HS2.out] at xt
          have xq := fun W (bW : Below w6.heap.size w6 W) => equal_walk kd lg dt ar orn dy st be ho go lo ha ga la hn hc gn gc lyr.length lc hn' hac gn' gac ln' lac heads graces lyr W (Nat.le_trans c1 (by decide)) (Nat.le_trans c2 (by decide)) (Nat.le_trans c3 (by decide))
            (h1.step (bb6.trans (bW.mono bb6.size))) (h2.step (bb6.trans (bW.mono bb6.size))) (h3.step (bb6.trans (bW.mono bb6.size))) (eh6.step bW) (eg6.step bW) (el6.step bW)
          clear keep fr eh eg el eh6 eg6 el6 hk6 bb5 hB5 HS2 hx
          go_upto_region 14 with (fail)
          rw [← hw6]
          clear hw6 j0 j1 j2 j3 j4 j5 j6 j7 j8 j9 j10 j11 j12 y0 y1
          obtain ⟨j0, j1, j2, j3, j4, j5, j6, j7, j8, j9, j10, j11, j12⟩ := box13 hB6
          go_wp2_with (go_at_call 8; (with_reducible refine xt.mono ?_))
          intro r w7; first | (intro he7 b7; subst he7) | rintro ⟨rfl, b7⟩
          have hB7 := (b7.block _ (Array.getElem?_eq_some_iff.1 hB6).1).trans hB6
          have hY7 := (b7.block _ (Array.getElem?_eq_some_iff.1 hY6).1).trans hY6
          have xq7 := xq w7 b7
          clear xt xq j0 j1 j2 j3 j4 j5 j6 j7 j8 j9 j10 j11 j12
          obtain ⟨j0, j1, j2, j3, j4, j5, j6, j7, j8, j9, j10, j11, j12⟩ := box13 hB7
          obtain ⟨i0, i1, i2, i3, i4, i5, i6, i7, i8, i9, i10, i11, i12⟩ := box13 hY7
          have bb7 := bb6.trans (b7.mono bb6.size)
          clear b7 hB6 hY6 bb6
          go_wp2_with (go_at_call 9; (with_reducible refine xq7.mono ?_))
          intro r w8; first | (intro he8 b8; subst he8) | rintro ⟨rfl, b8⟩
          go_wp2
          go_ret
          exact ⟨rfl, bb7.trans (b8.mono bb7.size)⟩
        · rw [if_neg h0] at hs
          subst hs
          clear he HS
          go_wp2
          go_ret
          exact ⟨rfl, bb4⟩
end Go.Proofs.YtholnnabakaliaaGreatDoor
