/-
  A part of the proof that the law PrinterEvents (chapter 20) returns true for every event: walks of the program's functions, and runs of them in the kernel by the own evaluator.
-/
import Derived.Test.YtholnnabakaliaaGreatDoorCke
namespace Go.Proofs.YtholnnabakaliaaGreatDoor
open Go.RowKit

def otherE (x : EvV) : Int := firstE [withinE x.ar 31, withinE x.orn 4, withinE x.dy 9, withinE x.stem 2, withinE x.beam 2]
def partsE (x : EvV) : Int := firstE [checkHeadsE x.heads, checkGracesE x.graces, checkLyricsE x.lyr]
def idE (x : EvV) : Int := firstE [withinE x.site 99, withinE x.num 1073741824]
def checkE (x : EvV) : Int :=
  if idE x ≠ 0 then idE x else if existsB x.kind = false then 11 else if stripSame x = false then 3
  else if x.kind ≠ 3 ∧ valueE x.lg x.dt ≠ 0 then 17 else if x.kind = 1 ∧ partsE x ≠ 0 then partsE x else otherE x

/-- The cells of an event's block. -/
theorem box13 {w : World} {b : Nat} {site num kd lg dt ar orn dy st be : Int} {ho go lo : Option Addr} {hn hc gn gc ln lc : Nat} (h : w.heap[b]? = some (.cells #[.int .i64 site, .int .i64 num, .int .i64 kd, .int .i64 lg, .int .i64 dt, .slice ho hn hc, .slice go gn gc, .int .i64 ar, .int .i64 orn, .int .i64 dy, .slice lo ln lc, .int .i64 st, .int .i64 be] 30 (0, 0))) :
    w.cell? ⟨b, 0, none⟩ = some (.int .i64 site) ∧ w.cell? ⟨b, 1, none⟩ = some (.int .i64 num) ∧ w.cell? ⟨b, 2, none⟩ = some (.int .i64 kd) ∧ w.cell? ⟨b, 3, none⟩ = some (.int .i64 lg) ∧ w.cell? ⟨b, 4, none⟩ = some (.int .i64 dt) ∧ w.cell? ⟨b, 5, none⟩ = some (.slice ho hn hc) ∧ w.cell? ⟨b, 6, none⟩ = some (.slice go gn gc) ∧ w.cell? ⟨b, 7, none⟩ = some (.int .i64 ar) ∧ w.cell? ⟨b, 8, none⟩ = some (.int .i64 orn) ∧ w.cell? ⟨b, 9, none⟩ = some (.int .i64 dy) ∧ w.cell? ⟨b, 10, none⟩ = some (.slice lo ln lc) ∧ w.cell? ⟨b, 11, none⟩ = some (.int .i64 st) ∧ w.cell? ⟨b, 12, none⟩ = some (.int .i64 be) := by
  refine ⟨?_, ?_, ?_, ?_, ?_, ?_, ?_, ?_, ?_, ?_, ?_, ?_, ?_⟩ <;> (rw [Lib.cell_of_heap h]; rfl)

theorem new1d (w : World) (B : Obj) : (w.alloc B).drew.heap[w.heap.size]? = some B := by
  show (w.alloc B).heap[w.heap.size]? = some B
  exact heap_alloc_new w B
theorem new2d (w : World) (A B : Obj) : ((w.alloc A).alloc B).drew.heap[w.heap.size + 1]? = some B := by
  show ((w.alloc A).alloc B).heap[w.heap.size + 1]? = some B
  exact heap_alloc2_new w A B
theorem old2d (w : World) (A B : Obj) : ((w.alloc A).alloc B).drew.heap[w.heap.size]? = some A := by
  show ((w.alloc A).alloc B).heap[w.heap.size]? = some A
  exact (Lib.alloc_old (w.alloc A) B w.heap.size (by simp)).trans (heap_alloc_new w A)
theorem first2 (a b : Int) {c : Int} (hc : firstE [a, b] = c) (g : Nat) (w : World) (h : w.heap[g]? = some (.cells #[.int .i64 a, .int .i64 b] 34 (0, 0))) :
    Calls Tryz.prog 12 #[.slice (some ⟨g, 0, none⟩) 2 2] w fun e w' => e = .returned (.int .i64 c) ∧ w' = w := first_at [a, b] 2 rfl (by decide) hc g w h
theorem first3 (a b d : Int) {c : Int} (hc : firstE [a, b, d] = c) (g : Nat) (w : World) (h : w.heap[g]? = some (.cells #[.int .i64 a, .int .i64 b, .int .i64 d] 34 (0, 0))) :
    Calls Tryz.prog 12 #[.slice (some ⟨g, 0, none⟩) 3 3] w fun e w' => e = .returned (.int .i64 c) ∧ w' = w := first_at [a, b, d] 3 rfl (by decide) hc g w h
theorem first5 (a b d e f : Int) {c : Int} (hc : firstE [a, b, d, e, f] = c) (g : Nat) (w : World) (h : w.heap[g]? = some (.cells #[.int .i64 a, .int .i64 b, .int .i64 d, .int .i64 e, .int .i64 f] 34 (0, 0))) :
    Calls Tryz.prog 12 #[.slice (some ⟨g, 0, none⟩) 5 5] w fun e w' => e = .returned (.int .i64 c) ∧ w' = w := first_at [a, b, d, e, f] 5 rfl (by decide) hc g w h

set_option maxHeartbeats 4000000 in
theorem strip_pair (site num kd lg dt ar orn dy st be : Int) (ho go lo : Option Addr) (hn hc gn gc ln lc : Nat) (heads : List HeadV) (graces : List GraceV) (lyr : List SyllV) (w : World)
    (hH : Holds3 ⟨site, num, kd, lg, dt, heads, graces, ar, orn, dy, lyr, st, be⟩ (.slice ho hn hc) (.slice go gn gc) (.slice lo ln lc) w) (hk : existsB kd = true) :
    ∃ C' : Array Value, (∀ W, Calls Tryz.prog 16 #[.agg #[.int .i64 site, .int .i64 num, .int .i64 kd, .int .i64 lg, .int .i64 dt, .slice ho hn hc, .slice go gn gc, .int .i64 ar, .int .i64 orn, .int .i64 dy, .slice lo ln lc, .int .i64 st, .int .i64 be]] W fun e w' => e = .returned (.agg C') ∧ Below W.heap.size W w') ∧
      ∀ W, Below w.heap.size w W → Calls Tryz.prog 15 #[.agg #[.int .i64 site, .int .i64 num, .int .i64 kd, .int .i64 lg, .int .i64 dt, .slice ho hn hc, .slice go gn gc, .int .i64 ar, .int .i64 orn, .int .i64 dy, .slice lo ln lc, .int .i64 st, .int .i64 be], .agg C'] W fun e w' => e = .returned (.bool (stripSame ⟨site, num, kd, lg, dt, heads, graces, ar, orn, dy, lyr, st, be⟩)) ∧ Below W.heap.size W w' := by
  have eh : hn = heads.length := by have := hH.h.len; simpa using this
  have eg : gn = graces.length := by have := hH.g.len; simpa using this
  have el : ln = lyr.length := by have := hH.l.len; simpa using this
  have hc4 : kd = 1 ∨ kd = 2 ∨ kd = 3 ∨ kd = 4 := by simp [existsB] at hk; omega
  rcases hc4 with rfl | rfl | rfl | rfl
  · refine ⟨_, fun W => strip1 site num lg dt ar orn dy st be ho go lo hn hc gn gc ln lc W, fun W bW => ?_⟩
    have := same_gen site num 1 lg dt ar orn dy st be site num 1 lg dt ar orn dy st be ho go lo ho go lo hn hc gn gc ln lc hn hc gn gc ln lc true true true W
      (fun w' b => eqs37 _ _ heads w' hH.nh (hH.h.step (bW.trans (b.mono bW.size))) (hH.h.step (bW.trans (b.mono bW.size))))
      (fun w' b => eqs38 _ _ graces w' hH.ng (hH.g.step (bW.trans (b.mono bW.size))) (hH.g.step (bW.trans (b.mono bW.size))))
      (fun w' b => eqs39 _ _ lyr w' hH.nl (hH.l.step (bW.trans (b.mono bW.size))) (hH.l.step (bW.trans (b.mono bW.size))))
    simpa [stripSame] using this
  · refine ⟨_, fun W => strip2 site num lg dt ar orn dy st be ho go lo hn hc gn gc ln lc W, fun W bW => ?_⟩
    have := same_gen site num 2 lg dt ar orn dy st be site num 2 lg dt (fermataOf ar) 0 dy 0 0 ho go lo none none none hn hc gn gc ln lc 0 0 0 0 0 0 (decide (hn = 0)) (decide (gn = 0)) (decide (ln = 0)) W
      (fun w' _ => (nil37 ho hn hc w').mono fun e w'' h => ⟨h.1, h.2 ▸ Below.refl _ _⟩)
      (fun w' _ => (nil38 go gn gc w').mono fun e w'' h => ⟨h.1, h.2 ▸ Below.refl _ _⟩)
      (fun w' _ => (nil39 lo ln lc w').mono fun e w'' h => ⟨h.1, h.2 ▸ Below.refl _ _⟩)
    subst eh; subst eg; subst el
    simpa [stripSame, Bool.and_assoc] using this
  · refine ⟨_, fun W => strip3 site num lg dt ar orn dy st be ho go lo hn hc gn gc ln lc W, fun W bW => ?_⟩
    have := same_gen site num 3 lg dt ar orn dy st be site num 3 0 0 (fermataOf ar) 0 dy 0 0 ho go lo none none none hn hc gn gc ln lc 0 0 0 0 0 0 (decide (hn = 0)) (decide (gn = 0)) (decide (ln = 0)) W
      (fun w' _ => (nil37 ho hn hc w').mono fun e w'' h => ⟨h.1, h.2 ▸ Below.refl _ _⟩)
      (fun w' _ => (nil38 go gn gc w').mono fun e w'' h => ⟨h.1, h.2 ▸ Below.refl _ _⟩)
      (fun w' _ => (nil39 lo ln lc w').mono fun e w'' h => ⟨h.1, h.2 ▸ Below.refl _ _⟩)
    subst eh; subst eg; subst el
    simpa [stripSame, Bool.and_assoc] using this
  · refine ⟨_, fun W => strip4 site num lg dt ar orn dy st be ho go lo hn hc gn gc ln lc W, fun W bW => ?_⟩
    have := same_gen site num 4 lg dt ar orn dy st be site num 4 lg dt 0 0 dy 0 0 ho go lo none none none hn hc gn gc ln lc 0 0 0 0 0 0 (decide (hn = 0)) (decide (gn = 0)) (decide (ln = 0)) W
      (fun w' _ => (nil37 ho hn hc w').mono fun e w'' h => ⟨h.1, h.2 ▸ Below.refl _ _⟩)
      (fun w' _ => (nil38 go gn gc w').mono fun e w'' h => ⟨h.1, h.2 ▸ Below.refl _ _⟩)
      (fun w' _ => (nil39 lo ln lc w').mono fun e w'' h => ⟨h.1, h.2 ▸ Below.refl _ _⟩)
    subst eh; subst eg; subst el
    simpa [stripSame, Bool.and_assoc] using this

set_option maxHeartbeats 8000000 in
set_option maxRecDepth 100000 in
theorem check_walk (site num kd lg dt ar orn dy st be : Int) (ho go lo : Option Addr) (hn hc gn gc ln lc : Nat) (heads : List HeadV) (graces : List GraceV) (lyr : List SyllV) (w : World)
    (hH : Holds3 ⟨site, num, kd, lg, dt, heads, graces, ar, orn, dy, lyr, st, be⟩ (.slice ho hn hc) (.slice go gn gc) (.slice lo ln lc) w) :
    Calls Tryz.prog 6 #[.agg #[.int .i64 site, .int .i64 num, .int .i64 kd, .int .i64 lg, .int .i64 dt, .slice ho hn hc, .slice go gn gc, .int .i64 ar, .int .i64 orn, .int .i64 dy, .slice lo ln lc, .int .i64 st, .int .i64 be]] w fun e w' => e = .returned (.int .i64 (checkE ⟨site, num, kd, lg, dt, heads, graces, ar, orn, dy, lyr, st, be⟩)) ∧ Below w.heap.size w w' := by
  obtain ⟨x, hx⟩ : ∃ x : EvV, x = ⟨site, num, kd, lg, dt, heads, graces, ar, orn, dy, lyr, st, be⟩ := ⟨_, rfl⟩
  rw [← hx]
  obtain ⟨e1, he1⟩ : ∃ e1, idE x = e1 := ⟨_, rfl⟩
  have hE1 : firstE [withinE site 99, withinE num 1073741824] = e1 := by rw [← he1, hx]; rfl
  have f1 := first2 _ _ hE1
  have b0 := (Below.refl w.heap.size w).alloc (Nat.le_refl _) (.cells #[.int .i64 site, .int .i64 num, .int .i64 kd, .int .i64 lg, .int .i64 dt, .slice ho hn hc, .slice go gn gc, .int .i64 ar, .int .i64 orn, .int .i64 dy, .slice lo ln lc, .int .i64 st, .int .i64 be] 30)
  have SS := shut (And.intro hx (And.intro he1 hH))
  clear hx he1 hE1 hH
  go_enter Tryz.func6, Tryz.ntmps6
  go_wp2
  go_region_held3 (fun w' => w'.cell? ⟨w.heap.size, 0, none⟩ = some (.int .i64 site) ∧ w'.cell? ⟨w.heap.size, 1, none⟩ = some (.int .i64 num)) (go_keep) (first
    | (go_at_call 13; (with_reducible refine (within_walk _ _ _).mono ?_); rintro e w' ⟨rfl, rfl⟩)
    | (go_at_call 12; (with_reducible refine (f1 _ _ ?hb).mono ?_); (case hb => exact new2d w _ _); rintro e w' ⟨rfl, rfl⟩))
  have hB := old2d w (.cells #[.int .i64 site, .int .i64 num, .int .i64 kd, .int .i64 lg, .int .i64 dt, .slice ho hn hc, .slice go gn gc, .int .i64 ar, .int .i64 orn, .int .i64 dy, .slice lo ln lc, .int .i64 st, .int .i64 be] 30) (.cells #[.int .i64 (withinE site 99), .int .i64 (withinE num 1073741824)] 34)
  have bb := (b0.alloc b0.size (.cells #[.int .i64 (withinE site 99), .int .i64 (withinE num 1073741824)] 34)).drew
  by_cases h1 : e1 = 0
  rotate_left
  · have E := shut (show checkE x = e1 by unfold checkE; rw [SS.out.2.1, if_pos h1])
    clear hB
    go_wp2
    go_ret
    exact ⟨by rw [E.out]; rfl, bb⟩
  subst h1
  have hB' : ((w.alloc (.cells #[.int .i64 site, .int .i64 num, .int .i64 kd, .int .i64 lg, .int .i64 dt, .slice ho hn hc, .slice go gn gc, .int .i64 ar, .int .i64 orn, .int .i64 dy, .slice lo ln lc, .int .i64 st, .int .i64 be] 30)).alloc (.cells #[.int .i64 (withinE site 99), .int .i64 (withinE num 1073741824)] 34)).drew.heap[w.heap.size]? = some (.cells #[.int .i64 site, .int .i64 num, .int .i64 kd, .int .i64 lg, .int .i64 dt, .slice ho hn hc, .slice go gn gc, .int .i64 ar, .int .i64 orn, .int .i64 dy, .slice lo ln lc, .int .i64 st, .int .i64 be] 30 (0, 0)) := hB
  clear hB b0 f1
  generalize ((w.alloc (.cells #[.int .i64 site, .int .i64 num, .int .i64 kd, .int .i64 lg, .int .i64 dt, .slice ho hn hc, .slice go gn gc, .int .i64 ar, .int .i64 orn, .int .i64 dy, .slice lo ln lc, .int .i64 st, .int .i64 be] 30)).alloc (.cells #[.int .i64 (withinE site 99), .int .i64 (withinE num 1073741824)] 34)).drew = wa at hB' bb ⊢
  obtain ⟨c0, c1, c2, c3, c4, c5, c6, c7, c8, c9, c10, c11, c12⟩ := box13 hB'
  have hex := exists_walk kd
  obtain ⟨ex, hex1⟩ : ∃ b, existsB kd = b := ⟨_, rfl⟩
  rw [hex1] at hex
  have SE := shut hex1
  clear hex1
  cases ex with
  | false =>
    go_wp2_with (go_at_call 14; refine (hex _).mono ?_; rintro e w' ⟨rfl, rfl⟩)
    have E := shut (show checkE x = 11 by unfold checkE; rw [if_neg (by rw [SS.out.2.1]; simp), if_pos (by rw [SS.out.1]; exact SE.out)])
    go_ret
    exact ⟨by rw [E.out]; rfl, bb⟩
  | true =>
  obtain ⟨C', hst, hsm⟩ := strip_pair site num kd lg dt ar orn dy st be ho go lo hn hc gn gc ln lc heads graces lyr w SS.out.2.2 SE.out
  obtain ⟨sb, hsb⟩ : ∃ b, stripSame ⟨site, num, kd, lg, dt, heads, graces, ar, orn, dy, lyr, st, be⟩ = b := ⟨_, rfl⟩
  rw [hsb] at hsm
  have SB := shut hsb
  have lB := (Array.getElem?_eq_some_iff.1 hB').1
  clear hsb
  go_wp2_with (go_at_call 14; refine (hex _).mono ?_; rintro e w' ⟨rfl, rfl⟩)
  clear hex
  go_region_held3 (fun w' => w'.cell? ⟨w.heap.size, 0, none⟩ = some (.int .i64 site) ∧ w'.cell? ⟨w.heap.size, 1, none⟩ = some (.int .i64 num) ∧ w'.cell? ⟨w.heap.size, 2, none⟩ = some (.int .i64 kd) ∧ w'.cell? ⟨w.heap.size, 3, none⟩ = some (.int .i64 lg) ∧ w'.cell? ⟨w.heap.size, 4, none⟩ = some (.int .i64 dt) ∧ w'.cell? ⟨w.heap.size, 5, none⟩ = some (.slice ho hn hc) ∧ w'.cell? ⟨w.heap.size, 6, none⟩ = some (.slice go gn gc) ∧ w'.cell? ⟨w.heap.size, 7, none⟩ = some (.int .i64 ar) ∧ w'.cell? ⟨w.heap.size, 8, none⟩ = some (.int .i64 orn) ∧ w'.cell? ⟨w.heap.size, 9, none⟩ = some (.int .i64 dy) ∧ w'.cell? ⟨w.heap.size, 10, none⟩ = some (.slice lo ln lc) ∧ w'.cell? ⟨w.heap.size, 11, none⟩ = some (.int .i64 st) ∧ w'.cell? ⟨w.heap.size, 12, none⟩ = some (.int .i64 be)) (go_keep) (first
    | (go_at_call 16; (with_reducible refine (hst _).mono ?_); rintro e w1 ⟨rfl, d1⟩; have hB1 := (d1.block _ lB).trans hB'; obtain ⟨m0, m1, m2, m3, m4, m5, m6, m7, m8, m9, m10, m11, m12⟩ := box13 hB1)
    | (go_at_call 15; (with_reducible refine (hsm _ ?hb).mono ?_); (case hb => first | exact bb.trans (d1.mono bb.size) | exact bb.drew.trans (d1.mono bb.size)); rintro e w2 ⟨rfl, d2⟩; have hB2 := (d2.block _ (Array.getElem?_eq_some_iff.1 hB1).1).trans hB1; obtain ⟨r0, r1, r2, r3, r4, r5, r6, r7, r8, r9, r10, r11, r12⟩ := box13 hB2))
  have bb2 := (bb.drew.trans (d1.mono (show w.heap.size ≤ w'.drew.heap.size from bb.size)))
  have bb3 := bb2.trans (d2.mono bb2.size)
  cases sb with
  | false =>
    have E := shut (show checkE x = 3 by unfold checkE; rw [if_neg (by rw [SS.out.2.1]; simp), if_neg (by rw [SS.out.1, SE.out]; simp), if_pos (by rw [SS.out.1]; exact SB.out)])
    go_wp2
    go_ret
    exact ⟨by rw [E.out]; rfl, bb3⟩
  | true =>
  clear hst hsm c0 c1 c2 c3 c4 c5 c6 c7 c8 c9 c10 c11 c12 m0 m1 m2 m3 m4 m5 m6 m7 m8 m9 m10 m11 m12 hB' hB1 bb bb2 d1 d2
  obtain ⟨ve, hve⟩ : ∃ c, valueE lg dt = c := ⟨_, rfl⟩
  have hvc := value_check lg dt
  rw [hve] at hvc
  have SV := shut hve
  clear hve
  by_cases h3 : kd = 3
  · subst h3
    have N3 := shut (show ¬ ((3 : Int) ≠ 3 ∧ valueE lg dt ≠ 0) by simp)
    have N1 := shut (show ¬ ((3 : Int) = 1 ∧ partsE x ≠ 0) by simp)
    obtain ⟨oe, hoe⟩ : ∃ c, firstE [withinE ar 31, withinE orn 4, withinE dy 9, withinE st 2, withinE be 2] = c := ⟨_, rfl⟩
    have f5 := first5 _ _ _ _ _ hoe
    have E := shut (show checkE x = oe by unfold checkE; rw [if_neg (by rw [SS.out.2.1]; simp), if_neg (by rw [SS.out.1, SE.out]; simp), if_neg (by rw [SS.out.1, SB.out]; simp), if_neg (by rw [SS.out.1]; exact N3.out), if_neg (by rw [show x.kind = 3 by rw [SS.out.1]]; exact N1.out), SS.out.1]; exact hoe)
    clear hoe
    obtain ⟨k0, k1, k2, k3, k4, k5, k6, k7, k8, k9, k10, k11, k12⟩ := box13 hB2
    go_wp2
    go_region_held3 (fun w' => w'.cell? ⟨w.heap.size, 5, none⟩ = some (.slice ho hn hc) ∧ w'.cell? ⟨w.heap.size, 7, none⟩ = some (.int .i64 ar) ∧ w'.cell? ⟨w.heap.size, 8, none⟩ = some (.int .i64 orn) ∧ w'.cell? ⟨w.heap.size, 9, none⟩ = some (.int .i64 dy) ∧ w'.cell? ⟨w.heap.size, 11, none⟩ = some (.int .i64 st) ∧ w'.cell? ⟨w.heap.size, 12, none⟩ = some (.int .i64 be)) (go_keep) (first
      | (go_at_call 13; (with_reducible refine (within_walk _ _ _).mono ?_); rintro e w' ⟨rfl, rfl⟩)
      | (go_at_call 12; (with_reducible refine (f5 _ _ ?hb).mono ?_); (case hb => exact new1d w2 _); rintro e w' ⟨rfl, rfl⟩))
    go_wp2
    go_ret
    exact ⟨by rw [E.out]; rfl, (bb3.alloc bb3.size _).drew⟩
  by_cases h0 : ve = 0
  rotate_left
  · have H3 := shut h3
    have H0 := shut h0
    have q3 : (kd != 3) = true := by simpa using h3
    have q0 : (ve != 0) = true := by simpa using h0
    obtain ⟨k0, k1, k2, k3, k4, k5, k6, k7, k8, k9, k10, k11, k12⟩ := box13 hB2
    have E := shut (show checkE x = 17 by unfold checkE; rw [if_neg (by rw [SS.out.2.1]; simp), if_neg (by rw [SS.out.1, SE.out]; simp), if_neg (by rw [SS.out.1, SB.out]; simp), if_pos (by rw [SS.out.1]; exact ⟨H3.out, by rw [show valueE lg dt = ve from SV.out]; exact H0.out⟩)])
    go_wp2_with (go_at_call 17; refine (hvc _).mono ?_)
    intro e w3; first | (intro he d3; subst he) | rintro ⟨rfl, d3⟩
    go_wp2
    go_ret
    exact ⟨by rw [E.out]; rfl, bb3.trans (d3.mono bb3.size)⟩
  subst h0
  have H3 := shut h3
  have N3 := shut (show ¬ (x.kind ≠ 3 ∧ valueE x.lg x.dt ≠ 0) by rw [SS.out.1]; simp only; rw [show valueE lg dt = 0 from SV.out]; simp)
  obtain ⟨k0, k1, k2, k3, k4, k5, k6, k7, k8, k9, k10, k11, k12⟩ := box13 hB2
  go_wp2_with (go_at_call 17; refine (hvc _).mono ?_)
  intro e w3; first | (intro he d3; subst he) | rintro ⟨rfl, d3⟩
  have hB3 := (d3.block _ (Array.getElem?_eq_some_iff.1 hB2).1).trans hB2
  have bb4 := bb3.trans (d3.mono bb3.size)
  clear hvc bb3 d3 hB2 k0 k1 k2 k3 k4 k5 k6 k7 k8 k9 k10 k11 k12
  by_cases h1 : kd = 1
  rotate_left
  · have N1 := shut (show ¬ (x.kind = 1 ∧ partsE x ≠ 0) by rw [show x.kind = kd by rw [SS.out.1]]; exact fun e => h1 e.1)
    obtain ⟨oe, hoe⟩ : ∃ c, firstE [withinE ar 31, withinE orn 4, withinE dy 9, withinE st 2, withinE be 2] = c := ⟨_, rfl⟩
    have f5 := first5 _ _ _ _ _ hoe
    have E := shut (show checkE x = oe by unfold checkE; rw [if_neg (by rw [SS.out.2.1]; simp), if_neg (by rw [SS.out.1, SE.out]; simp), if_neg (by rw [SS.out.1, SB.out]; simp), if_neg N3.out, if_neg N1.out, SS.out.1]; exact hoe)
    clear hoe
    obtain ⟨k0, k1, k2, k3, k4, k5, k6, k7, k8, k9, k10, k11, k12⟩ := box13 hB3
    go_wp2
    go_region_held3 (fun w' => w'.cell? ⟨w.heap.size, 5, none⟩ = some (.slice ho hn hc) ∧ w'.cell? ⟨w.heap.size, 7, none⟩ = some (.int .i64 ar) ∧ w'.cell? ⟨w.heap.size, 8, none⟩ = some (.int .i64 orn) ∧ w'.cell? ⟨w.heap.size, 9, none⟩ = some (.int .i64 dy) ∧ w'.cell? ⟨w.heap.size, 11, none⟩ = some (.int .i64 st) ∧ w'.cell? ⟨w.heap.size, 12, none⟩ = some (.int .i64 be)) (go_keep) (first
      | (go_at_call 13; (with_reducible refine (within_walk _ _ _).mono ?_); rintro e w' ⟨rfl, rfl⟩)
      | (go_at_call 12; (with_reducible refine (f5 _ _ ?hb).mono ?_); (case hb => exact new1d w3 _); rintro e w' ⟨rfl, rfl⟩))
    go_wp2
    go_ret
    exact ⟨by rw [E.out]; rfl, (bb4.alloc bb4.size _).drew⟩
  subst h1
  clear h3
  obtain ⟨pe, hpe⟩ : ∃ c, partsE x = c := ⟨_, rfl⟩
  have hpe2 : firstE [checkHeadsE heads, checkGracesE graces, checkLyricsE lyr] = pe := by rw [← hpe, SS.out.1]; rfl
  have SP := shut hpe
  have f3 := first3 _ _ _ hpe2
  have qh : ∀ W, Below w.heap.size w W → Calls Tryz.prog 18 #[.slice ho hn hc] W fun e w' => e = .returned (.int .i64 (checkHeadsE heads)) ∧ Below W.heap.size W w' := fun W b => checkHeads_walk heads _ W (SS.out.2.2.h.step b)
  have qg : ∀ W, Below w.heap.size w W → Calls Tryz.prog 19 #[.slice go gn gc] W fun e w' => e = .returned (.int .i64 (checkGracesE graces)) ∧ Below W.heap.size W w' := fun W b => checkGraces_walk graces _ W (SS.out.2.2.g.step b)
  have ql : ∀ W, Below w.heap.size w W → Calls Tryz.prog 20 #[.slice lo ln lc] W fun e w' => e = .returned (.int .i64 (checkLyricsE lyr)) ∧ Below W.heap.size W w' := fun W b => checkLyrics_walk lyr _ W (SS.out.2.2.l.step b)
  generalize checkHeadsE heads = ch at f3 qh hpe2
  generalize checkGracesE graces = cg at f3 qg hpe2
  generalize checkLyricsE lyr = cl at f3 ql hpe2
  clear hpe hpe2
  obtain ⟨k0, k1, k2, k3, k4, k5, k6, k7, k8, k9, k10, k11, k12⟩ := box13 hB3
  go_wp2
  go_region_held3 (fun w' => w'.cell? ⟨w.heap.size, 5, none⟩ = some (.slice ho hn hc) ∧ w'.cell? ⟨w.heap.size, 6, none⟩ = some (.slice go gn gc) ∧ w'.cell? ⟨w.heap.size, 10, none⟩ = some (.slice lo ln lc)) (go_keep) (first
    | (go_at_call 18; (with_reducible refine (qh _ ?hb).mono ?_); (case hb => exact bb4.drew); rintro e y1 ⟨rfl, d1⟩; have hY1 := (d1.block _ (Array.getElem?_eq_some_iff.1 hB3).1).trans hB3; have by1 := bb4.drew.trans (d1.mono (show w.heap.size ≤ w3.drew.heap.size from bb4.size)); obtain ⟨m0, m1, m2, m3, m4, m5, m6, m7, m8, m9, m10, m11, m12⟩ := box13 hY1)
    | (go_at_call 19; (with_reducible refine (qg _ ?hb).mono ?_); (case hb => exact by1); rintro e y2 ⟨rfl, d2⟩; have hY2 := (d2.block _ (Array.getElem?_eq_some_iff.1 hY1).1).trans hY1; have by2 := by1.trans (d2.mono by1.size); obtain ⟨n0, n1, n2, n3, n4, n5, n6, n7, n8, n9, n10, n11, n12⟩ := box13 hY2)
    | (go_at_call 20; (with_reducible refine (ql _ ?hb).mono ?_); (case hb => exact by2); rintro e y3 ⟨rfl, d3⟩; have hY3 := (d3.block _ (Array.getElem?_eq_some_iff.1 hY2).1).trans hY2; have by3 := by2.trans (d3.mono by2.size); obtain ⟨r0, r1, r2, r3, r4, r5, r6, r7, r8, r9, r10, r11, r12⟩ := box13 hY3; have l3 := (Array.getElem?_eq_some_iff.1 hY3).1; have hY4 : ∀ o, (y3.alloc o).heap[w.heap.size]? = _ := fun o => (Lib.alloc_old y3 o _ l3).trans hY3; have z5 : ∀ o, (y3.alloc o).cell? ⟨w.heap.size, 5, none⟩ = _ := fun o => (box13 (hY4 o)).2.2.2.2.2.1)
    | (go_at_call 12; (with_reducible refine (f3 _ _ ?hb).mono ?_); (case hb => exact heap_alloc_new y3 _); rintro e w' ⟨rfl, rfl⟩))
  have bf : Below w.heap.size w (y3.alloc (.cells #[.int .i64 ch, .int .i64 cg, .int .i64 cl] 34)) := by3.alloc by3.size _
  have hBf := hY4 (.cells #[.int .i64 ch, .int .i64 cg, .int .i64 cl] 34)
  clear qh qg ql f3 hY1 hY2 hY3 hY4 z5 d1 d2 d3 by1 by2 by3 bb4 hB3 k0 k1 k2 k3 k4 k5 k6 k7 k8 k9 k10 k11 k12 m0 m1 m2 m3 m4 m5 m6 m7 m8 m9 m10 m11 m12 n0 n1 n2 n3 n4 n5 n6 n7 n8 n9 n10 n11 n12 r0 r1 r2 r3 r4 r5 r6 r7 r8 r9 r10 r11 r12
  generalize (y3.alloc (.cells #[.int .i64 ch, .int .i64 cg, .int .i64 cl] 34)) = wf at bf hBf ⊢
  by_cases hp0 : pe = 0
  rotate_left
  · have hp0' := shut hp0
    have E := shut (show checkE x = pe by unfold checkE; rw [if_neg (by rw [SS.out.2.1]; simp), if_neg (by rw [SS.out.1, SE.out]; simp), if_neg (by rw [SS.out.1, SB.out]; simp), if_neg N3.out, SP.out, if_pos ⟨by rw [SS.out.1], hp0'.out⟩])
    go_wp2
    go_ret
    exact ⟨by rw [E.out]; rfl, bf⟩
  subst hp0
  have N1 := shut (show ¬ (x.kind = 1 ∧ partsE x ≠ 0) by rw [SP.out]; simp)
  obtain ⟨oe, hoe⟩ : ∃ c, firstE [withinE ar 31, withinE orn 4, withinE dy 9, withinE st 2, withinE be 2] = c := ⟨_, rfl⟩
  have f5 := first5 _ _ _ _ _ hoe
  have E := shut (show checkE x = oe by unfold checkE; rw [if_neg (by rw [SS.out.2.1]; simp), if_neg (by rw [SS.out.1, SE.out]; simp), if_neg (by rw [SS.out.1, SB.out]; simp), if_neg N3.out, if_neg N1.out, SS.out.1]; exact hoe)
  clear hoe
  obtain ⟨k0, k1, k2, k3, k4, k5, k6, k7, k8, k9, k10, k11, k12⟩ := box13 hBf
  go_wp2
  go_region_held3 (fun w' => w'.cell? ⟨w.heap.size, 5, none⟩ = some (.slice ho hn hc) ∧ w'.cell? ⟨w.heap.size, 7, none⟩ = some (.int .i64 ar) ∧ w'.cell? ⟨w.heap.size, 8, none⟩ = some (.int .i64 orn) ∧ w'.cell? ⟨w.heap.size, 9, none⟩ = some (.int .i64 dy) ∧ w'.cell? ⟨w.heap.size, 11, none⟩ = some (.int .i64 st) ∧ w'.cell? ⟨w.heap.size, 12, none⟩ = some (.int .i64 be)) (go_keep) (first
    | (go_at_call 13; (with_reducible refine (within_walk _ _ _).mono ?_); rintro e w' ⟨rfl, rfl⟩)
    | (go_at_call 12; (with_reducible refine (f5 _ _ ?hb).mono ?_); (case hb => exact new1d wf _); rintro e w' ⟨rfl, rfl⟩))
  go_wp2
  go_ret
  exact ⟨by rw [E.out]; rfl, (bf.alloc bf.size _).drew⟩
end Go.Proofs.YtholnnabakaliaaGreatDoor
