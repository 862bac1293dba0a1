/- Towards the law ParserEvents, true for every text (no condition): one part of the proof. -/
import Derived.Test.YtgkhemnmcgicnaaGreatDoorG01
import Derived.Test.YtgkhemnmcgicnaaGreatDoorG36
import Derived.Test.YtgkhemnmcgicnaaGreatDoorG19
import Derived.Maps.RangeRun
namespace Go.Proofs.YtgkhemnmcgicnaaGreatDoor
set_option maxHeartbeats 8000000
set_option maxRecDepth 100000
open Go.RowKit
theorem Els.isM {α : Type} {f : α -> Array Value} {l : List α} {w : World} {s : Nat} {v : Value} (h : Els w s v (l.map f)) : ∃ ao cap, v = .slice ao l.length cap := by
 obtain ⟨ao, cap, e⟩ := h.is
 exact ⟨ao, cap, by rw [e, List.length_map]⟩
theorem Els.atM {α : Type} {f : α -> Array Value} {l : List α} {w : World} {s : Nat} {ao : Option Addr} {n cap : Nat} (h : Els w s (.slice ao n cap) (l.map f)) {j : Nat} (hj : j < l.length) :
  ∃ g o, ao = some ⟨g, o, none⟩ /\ ∀ (k : Nat) (u : Value), (f l[j])[k]? = some u -> w.cell? ⟨g, o + j * s + k, none⟩ = some u := by
 obtain ⟨g, o, r, e, hr, _, _, hc⟩ := h.at (j := j) (by simpa using hj)
 refine ⟨g, o, e, fun k u hu => hc k u ?_⟩
 rw [List.getElem?_map, List.getElem?_eq_getElem hj] at hr
 obtain rfl := Option.some.inj hr
 exact hu
theorem eqs73 (v v' : Value) (l : List HeadV) (w : World) (hbig : l.length <= 1000000) (h : Els w 5 v (l.map HeadV.cells)) (h' : Els w 5 v' (l.map HeadV.cells)) :
  Calls Tryz.prog 73 #[v, v'] w fun e w' => e = .returned (.bool true) /\ Below w.heap.size w w' := by
 obtain ⟨ao, c, rfl⟩ := h.isM
 obtain ⟨ao', c', rfl⟩ := h'.isM
 go_enter Tryz.func73, Tryz.ntmps73
 go_wp2
 go_loopg [13] l.length (fun g s13 wr => ∃ k : Nat, k <= l.length /\ g = l.length - k /\ s13 = I (k : Nat) /\ Below w.heap.size w wr)
 case atStart => exact ⟨0, Nat.zero_le _, rfl, rfl, Below.refl _ _⟩
 case round =>
  obtain ⟨k, hk, hg, rfl, hb⟩ := hrel
  by_cases hlt : k < l.length
  ·have hlt' : (k : Int) < (l.length : Int) := by omega
   have hk0 : (0 : Int) <= (k : Int) := by omega
   obtain ⟨g, oo, rfl, hc⟩ := (h.step hb).atM hlt
   obtain ⟨g', oo', rfl, hc'⟩ := (h'.step hb).atM hlt
   generalize l[k] = x at *
   obtain ⟨⟨a0, a1, a2⟩, a3, a4⟩ := x
   clear h h'
   have x0 : wr.cell? ⟨g, oo + k * 5, none⟩ = some (I a0) := hc 0 _ rfl
   have y0 : wr.cell? ⟨g', oo' + k * 5, none⟩ = some (I a0) := hc' 0 _ rfl
   have x1 : wr.cell? ⟨g, oo + k * 5 + 1, none⟩ = some (I a1) := hc 1 _ rfl
   have y1 : wr.cell? ⟨g', oo' + k * 5 + 1, none⟩ = some (I a1) := hc' 1 _ rfl
   have x2 : wr.cell? ⟨g, oo + k * 5 + 2, none⟩ = some (I a2) := hc 2 _ rfl
   have y2 : wr.cell? ⟨g', oo' + k * 5 + 2, none⟩ = some (I a2) := hc' 2 _ rfl
   have x3 : wr.cell? ⟨g, oo + k * 5 + 3, none⟩ = some (.bool a3) := hc 3 _ rfl
   have y3 : wr.cell? ⟨g', oo' + k * 5 + 3, none⟩ = some (.bool a3) := hc' 3 _ rfl
   have x4 : wr.cell? ⟨g, oo + k * 5 + 4, none⟩ = some (I a4) := hc 4 _ rfl
   have y4 : wr.cell? ⟨g', oo' + k * 5 + 4, none⟩ = some (I a4) := hc' 4 _ rfl
   have m1 : IntKind.i64.wrap ((k : Int) + 1) = (k : Int) + 1 := IntWalk.i64_in _ (by omega)
   clear hc hc'
   go_wp2
   go_region
   all_goals go_wp2
   all_goals go_roundg (l.length - (k + 1))
   all_goals first
    | omega
    | exact ⟨k + 1, by omega, rfl, by simp, hb.drew⟩
  ·have : k = l.length := by omega
   subst this
   go_wp2
   go_ret
   exact ⟨rfl, hb⟩
theorem eqs74 (v v' : Value) (l : List GraceV) (w : World) (hbig : l.length <= 1000000) (h : Els w 5 v (l.map GraceV.cells)) (h' : Els w 5 v' (l.map GraceV.cells)) :
  Calls Tryz.prog 74 #[v, v'] w fun e w' => e = .returned (.bool true) /\ Below w.heap.size w w' := by
 obtain ⟨ao, c, rfl⟩ := h.isM
 obtain ⟨ao', c', rfl⟩ := h'.isM
 go_enter Tryz.func74, Tryz.ntmps74
 go_wp2
 go_loopg [13] l.length (fun g s13 wr => ∃ k : Nat, k <= l.length /\ g = l.length - k /\ s13 = I (k : Nat) /\ Below w.heap.size w wr)
 case atStart => exact ⟨0, Nat.zero_le _, rfl, rfl, Below.refl _ _⟩
 case round =>
  obtain ⟨k, hk, hg, rfl, hb⟩ := hrel
  by_cases hlt : k < l.length
  ·have hlt' : (k : Int) < (l.length : Int) := by omega
   have hk0 : (0 : Int) <= (k : Int) := by omega
   obtain ⟨g, oo, rfl, hc⟩ := (h.step hb).atM hlt
   obtain ⟨g', oo', rfl, hc'⟩ := (h'.step hb).atM hlt
   generalize l[k] = x at *
   obtain ⟨⟨a0, a1, a2⟩, a3, a4⟩ := x
   clear h h'
   have x0 : wr.cell? ⟨g, oo + k * 5, none⟩ = some (I a0) := hc 0 _ rfl
   have y0 : wr.cell? ⟨g', oo' + k * 5, none⟩ = some (I a0) := hc' 0 _ rfl
   have x1 : wr.cell? ⟨g, oo + k * 5 + 1, none⟩ = some (I a1) := hc 1 _ rfl
   have y1 : wr.cell? ⟨g', oo' + k * 5 + 1, none⟩ = some (I a1) := hc' 1 _ rfl
   have x2 : wr.cell? ⟨g, oo + k * 5 + 2, none⟩ = some (I a2) := hc 2 _ rfl
   have y2 : wr.cell? ⟨g', oo' + k * 5 + 2, none⟩ = some (I a2) := hc' 2 _ rfl
   have x3 : wr.cell? ⟨g, oo + k * 5 + 3, none⟩ = some (I a3) := hc 3 _ rfl
   have y3 : wr.cell? ⟨g', oo' + k * 5 + 3, none⟩ = some (I a3) := hc' 3 _ rfl
   have x4 : wr.cell? ⟨g, oo + k * 5 + 4, none⟩ = some (.bool a4) := hc 4 _ rfl
   have y4 : wr.cell? ⟨g', oo' + k * 5 + 4, none⟩ = some (.bool a4) := hc' 4 _ rfl
   have m1 : IntKind.i64.wrap ((k : Int) + 1) = (k : Int) + 1 := IntWalk.i64_in _ (by omega)
   clear hc hc'
   go_wp2
   go_region
   all_goals go_wp2
   all_goals go_roundg (l.length - (k + 1))
   all_goals first
    | omega
    | exact ⟨k + 1, by omega, rfl, by simp, hb.drew⟩
  ·have : k = l.length := by omega
   subst this
   go_wp2
   go_ret
   exact ⟨rfl, hb⟩
theorem eqs75 (v v' : Value) (l : List SyllV) (w : World) (hbig : l.length <= 1000000) (h : Els w 2 v (l.map SyllV.cells)) (h' : Els w 2 v' (l.map SyllV.cells)) :
  Calls Tryz.prog 75 #[v, v'] w fun e w' => e = .returned (.bool true) /\ Below w.heap.size w w' := by
 obtain ⟨ao, c, rfl⟩ := h.isM
 obtain ⟨ao', c', rfl⟩ := h'.isM
 go_enter Tryz.func75, Tryz.ntmps75
 go_wp2
 go_loopg [13] l.length (fun g s13 wr => ∃ k : Nat, k <= l.length /\ g = l.length - k /\ s13 = I (k : Nat) /\ Below w.heap.size w wr)
 case atStart => exact ⟨0, Nat.zero_le _, rfl, rfl, Below.refl _ _⟩
 case round =>
  obtain ⟨k, hk, hg, rfl, hb⟩ := hrel
  by_cases hlt : k < l.length
  ·have hlt' : (k : Int) < (l.length : Int) := by omega
   have hk0 : (0 : Int) <= (k : Int) := by omega
   obtain ⟨g, oo, rfl, hc⟩ := (h.step hb).atM hlt
   obtain ⟨g', oo', rfl, hc'⟩ := (h'.step hb).atM hlt
   generalize l[k] = x at *
   obtain ⟨a0, a1⟩ := x
   clear h h'
   have x0 : wr.cell? ⟨g, oo + k * 2, none⟩ = some (.string a0) := hc 0 _ rfl
   have y0 : wr.cell? ⟨g', oo' + k * 2, none⟩ = some (.string a0) := hc' 0 _ rfl
   have x1 : wr.cell? ⟨g, oo + k * 2 + 1, none⟩ = some (I a1) := hc 1 _ rfl
   have y1 : wr.cell? ⟨g', oo' + k * 2 + 1, none⟩ = some (I a1) := hc' 1 _ rfl
   have m1 : IntKind.i64.wrap ((k : Int) + 1) = (k : Int) + 1 := IntWalk.i64_in _ (by omega)
   clear hc hc'
   go_wp2
   go_region
   all_goals go_wp2
   all_goals go_roundg (l.length - (k + 1))
   all_goals first
    | omega
    | exact ⟨k + 1, by omega, rfl, by simp, hb.drew⟩
  ·have : k = l.length := by omega
   subst this
   go_wp2
   go_ret
   exact ⟨rfl, hb⟩
theorem same_same (x : EvV) (ho go lo ho' go' lo' : Option Addr) (hc gc lc hc' gc' lc' : Nat) (w : World) (n1 : x.heads.length <= 1000000) (n2 : x.graces.length <= 1000000) (n3 : x.lyr.length <= 1000000)
  (h1 : Els w 5 (.slice ho x.heads.length hc) (x.heads.map HeadV.cells)) (h2 : Els w 5 (.slice go x.graces.length gc) (x.graces.map GraceV.cells)) (h3 : Els w 2 (.slice lo x.lyr.length lc) (x.lyr.map SyllV.cells))
  (h1' : Els w 5 (.slice ho' x.heads.length hc') (x.heads.map HeadV.cells)) (h2' : Els w 5 (.slice go' x.graces.length gc') (x.graces.map GraceV.cells)) (h3' : Els w 2 (.slice lo' x.lyr.length lc') (x.lyr.map SyllV.cells)) :
  Calls Tryz.prog 34 #[.agg (x.cells (.slice ho x.heads.length hc) (.slice go x.graces.length gc) (.slice lo x.lyr.length lc)), .agg (x.cells (.slice ho' x.heads.length hc') (.slice go' x.graces.length gc') (.slice lo' x.lyr.length lc'))] w fun e w' => e = .returned (.bool true) /\ Below w.heap.size w w' := by
 obtain ⟨i0, i1, kd, lg, dt, hs, gs, ar, orn, dy, ys, st, be⟩ := x
 simp only [EvV.cells] at *
 have q1 := fun w' (b : Below w.heap.size w w') => eqs73 _ _ hs w' n1 (h1.step b) (h1'.step b)
 have q2 := fun w' (b : Below w.heap.size w w') => eqs74 _ _ gs w' n2 (h2.step b) (h2'.step b)
 have q3 := fun w' (b : Below w.heap.size w w') => eqs75 _ _ ys w' n3 (h3.step b) (h3'.step b)
 have b0 := (Below.refl w.heap.size w).alloc (Nat.le_refl _) (.cells #[I i0, I i1, I kd, I lg, I dt, .slice ho hs.length hc, .slice go gs.length gc, I ar, I orn, I dy, .slice lo ys.length lc, I st, I be] 31)
 have b00 := b0.alloc b0.size (.cells #[I i0, I i1, I kd, I lg, I dt, .slice ho' hs.length hc', .slice go' gs.length gc', I ar, I orn, I dy, .slice lo' ys.length lc', I st, I be] 31)
 have z0' := (Lib.alloc_old (w.alloc (.cells #[I i0, I i1, I kd, I lg, I dt, .slice ho hs.length hc, .slice go gs.length gc, I ar, I orn, I dy, .slice lo ys.length lc, I st, I be] 31)) (.cells #[I i0, I i1, I kd, I lg, I dt, .slice ho' hs.length hc', .slice go' gs.length gc', I ar, I orn, I dy, .slice lo' ys.length lc', I st, I be] 31) w.heap.size (by simp)).trans (heap_alloc_new w (.cells #[I i0, I i1, I kd, I lg, I dt, .slice ho hs.length hc, .slice go gs.length gc, I ar, I orn, I dy, .slice lo ys.length lc, I st, I be] 31))
 have z1 := heap_alloc2_new w (.cells #[I i0, I i1, I kd, I lg, I dt, .slice ho hs.length hc, .slice go gs.length gc, I ar, I orn, I dy, .slice lo ys.length lc, I st, I be] 31) (.cells #[I i0, I i1, I kd, I lg, I dt, .slice ho' hs.length hc', .slice go' gs.length gc', I ar, I orn, I dy, .slice lo' ys.length lc', I st, I be] 31)
 clear h1 h2 h3 h1' h2' h3' b0
 go_enter Tryz.func34, Tryz.ntmps34
 go_wp2_with (go_at_call 73; refine (q1 _ b00).mono ?_)
 intro e w1; first | (intro he c1; subst he) | rintro ⟨rfl, c1⟩
 have y0 := (c1.block w.heap.size (by simp; omega)).trans z0'
 have y1 := (c1.block (w.heap.size + 1) (by simp)).trans z1
 have bb1 := b00.trans (c1.mono b00.size)
 clear z0' z1 c1 b00 q1
 have u0 : w1.cell? ⟨w.heap.size, 6, none⟩ = some (.slice go gs.length gc) := by rw [Lib.cell_of_heap y0]; rfl
 have u1 : w1.cell? ⟨w.heap.size + 1, 6, none⟩ = some (.slice go' gs.length gc') := by rw [Lib.cell_of_heap y1]; rfl
 go_wp2_with (go_at_call 74; refine (q2 _ bb1).mono ?_)
 intro e w2; first | (intro he c2; subst he) | rintro ⟨rfl, c2⟩
 have x0 := (c2.block w.heap.size (Array.getElem?_eq_some_iff.1 y0).1).trans y0
 have x1 := (c2.block (w.heap.size + 1) (Array.getElem?_eq_some_iff.1 y1).1).trans y1
 have bb2 := bb1.trans (c2.mono bb1.size)
 have v0 : w2.cell? ⟨w.heap.size, 10, none⟩ = some (.slice lo ys.length lc) := by rw [Lib.cell_of_heap x0]; rfl
 have v1 : w2.cell? ⟨w.heap.size + 1, 10, none⟩ = some (.slice lo' ys.length lc') := by rw [Lib.cell_of_heap x1]; rfl
 clear y0 y1 u0 u1 c2 bb1 q2
 go_wp2_with (go_at_call 75; refine (q3 _ bb2).mono ?_)
 intro e w3; first | (intro he c3; subst he) | rintro ⟨rfl, c3⟩
 go_wp2
 go_ret
 exact ⟨rfl, bb2.trans (c3.mono bb2.size)⟩
theorem equal_same (x : EvV) (ho go lo ho' go' lo' : Option Addr) (hc gc lc hc' gc' lc' : Nat) (w : World) (n1 : x.heads.length <= 1000000) (n2 : x.graces.length <= 1000000) (n3 : x.lyr.length <= 1000000)
  (h1 : Els w 5 (.slice ho x.heads.length hc) (x.heads.map HeadV.cells)) (h2 : Els w 5 (.slice go x.graces.length gc) (x.graces.map GraceV.cells)) (h3 : Els w 2 (.slice lo x.lyr.length lc) (x.lyr.map SyllV.cells))
  (h1' : Els w 5 (.slice ho' x.heads.length hc') (x.heads.map HeadV.cells)) (h2' : Els w 5 (.slice go' x.graces.length gc') (x.graces.map GraceV.cells)) (h3' : Els w 2 (.slice lo' x.lyr.length lc') (x.lyr.map SyllV.cells)) :
  Calls Tryz.prog 12 #[.agg (x.cells (.slice ho x.heads.length hc) (.slice go x.graces.length gc) (.slice lo x.lyr.length lc)), .agg (x.cells (.slice ho' x.heads.length hc') (.slice go' x.graces.length gc') (.slice lo' x.lyr.length lc'))] w fun e w' => e = .returned (.bool true) /\ Below w.heap.size w w' := by
 obtain ⟨i0, i1, kd, lg, dt, hs, gs, ar, orn, dy, ys, st, be⟩ := x
 simp only [EvV.cells] at *
 have b0 := (Below.refl w.heap.size w).alloc (Nat.le_refl _) (.cells #[I i0, I i1, I kd, I lg, I dt, .slice ho hs.length hc, .slice go gs.length gc, I ar, I orn, I dy, .slice lo ys.length lc, I st, I be] 31)
 have b00 := b0.alloc b0.size (.cells #[I i0, I i1, I kd, I lg, I dt, .slice ho' hs.length hc', .slice go' gs.length gc', I ar, I orn, I dy, .slice lo' ys.length lc', I st, I be] 31)
 have hs2 := same_same ⟨i0, i1, kd, lg, dt, hs, gs, ar, orn, dy, ys, st, be⟩ ho go lo ho' go' lo' hc gc lc hc' gc' lc' _ n1 n2 n3 (h1.step b00) (h2.step b00) (h3.step b00) (h1'.step b00) (h2'.step b00) (h3'.step b00)
 simp only [EvV.cells] at hs2
 clear h1 h2 h3 h1' h2' h3' b0
 go_enter Tryz.func12, Tryz.ntmps12
 go_wp2_with (go_at_call 34; (with_reducible refine hs2.mono ?_))
 intro e w3; first | (intro he b3; subst he) | rintro ⟨rfl, b3⟩
 go_wp2
 go_ret
 exact ⟨rfl, b00.trans (b3.mono b00.size)⟩
set_option maxHeartbeats 16000000
theorem lyrF_len (T : List Tok) : ∀ (k : Nat) (s : Stt), (lyrF T k s).1.length <= k
 | 0, _ => Nat.le_refl _
 | k + 1, s => by
  rw [lyrF]
  split
  ·have := lyrF_len T k (syllF T s).2
   simp only [List.length_cons]; omega
  ·exact Nat.zero_le _
theorem sevF_len {α : Type} (f : Stt -> α × Stt) (cl : ByteArray) (T : List Tok) (s : Stt) : (sevF T f cl s).1.length <= T.length + 1 := by
 unfold sevF
 have := moreF_len (f := f) (cl := cl) (T := T) T.length (f s).2
 simp only [List.length_cons]; omega
theorem ev_lens (O : Orc) (T : List Tok) (q : Int) (s : Stt) : (eventF O T q s).1.heads.length <= T.length + 1 /\ (eventF O T q s).1.graces.length <= T.length + 1 /\ (eventF O T q s).1.lyr.length <= T.length + 1 := by
 unfold eventF
 refine ⟨?_, ?_, ?_⟩
 ·show (bodyF O T _).1.2.length <= _
  unfold bodyF
  repeat' split
  all_goals first
   | exact Nat.zero_le _
   | exact sevF_len _ _ _ _
   | (show 1 <= T.length + 1; omega)
 ·show (gracesF O T q _).1.length <= _
  unfold gracesF
  split
  ·exact sevF_len _ _ _ _
  ·exact Nat.zero_le _
 ·exact Nat.le_trans (lyrF_len T _ _) (Nat.le_succ _)
structure Els3 (x : EvV) (hv gv lv : Value) (w : World) : Prop where
 h : Els w 5 hv (x.heads.map HeadV.cells)
 g : Els w 5 gv (x.graces.map GraceV.cells)
 l : Els w 2 lv (x.lyr.map SyllV.cells)
theorem Els3.step {x : EvV} {hv gv lv : Value} {w w' : World} (h : Els3 x hv gv lv w) (b : Below w.heap.size w w') : Els3 x hv gv lv w' := ⟨h.h.step b, h.g.step b, h.l.step b⟩
theorem Rows3.els {B : Nat} {x : EvV} {hv gv lv : Value} {w : World} (h : Rows3 B hv gv lv x.heads x.graces x.lyr w) : Els3 x hv gv lv w := by
 refine ⟨Els.of_own (T := 80) (by rw [List.length_map]; exact h.oh) rfl fun r hr => ?_, Els.of_own (T := 77) (by rw [List.length_map]; exact h.og) rfl fun r hr => ?_, Els.of_own (T := 147) (by rw [List.length_map]; exact h.ol) rfl fun r hr => ?_⟩
 all_goals
  obtain ⟨y, _, rfl⟩ := List.mem_map.1 hr
  exact ⟨rfl, by simp [HeadV.cells, GraceV.cells, SyllV.cells, Value.oneCell']⟩
def ResE (x : EvV) (s : Stt) (r : Ending) (w : World) : Prop :=
 match s with
 | .ok _ => ∃ hv gv lv, r = .returned (.tuple #[.agg (x.cells hv gv lv), I 0, I 0, I 0]) /\ Els3 x hv gv lv w
 | .bad e l c => r = .returned (.tuple #[.agg (zEv.cells nilV nilV nilV), I l, I c, I e])
theorem pevent_top {s : ByteArray} {T : List Tok} {st : Stt} (hg : GoodT T) (hsc : ScanIs s T st) {w : World} (gl : Glo w) :
  Calls Tryz.prog 7 #[.string s] w fun r w' => ResE (eventF theO T 7 st).1 (endF T (eventF theO T 7 st).2) r w' /\ Below w.heap.size w w' := by
 have hR0 := heap_alloc_new w (.cells #[I 0, I 0, I 0, I 0, I 0, .slice none 0 0, .slice none 0 0, I 0, I 0, I 0, .slice none 0 0, I 0, I 0] 31)
 have b0 := (Below.refl w.heap.size w).alloc (Nat.le_refl _) (.cells #[I 0, I 0, I 0, I 0, I 0, .slice none 0 0, .slice none 0 0, I 0, I 0, I 0, .slice none 0 0, I 0, I 0] 31)
 have xo := open_s hg hsc (w.alloc (.cells #[I 0, I 0, I 0, I 0, I 0, .slice none 0 0, .slice none 0 0, I 0, I 0, I 0, .slice none 0 0, I 0, I 0] 31))
 have gl1 := gl.stay b0
 obtain ⟨V, hV⟩ : ∃ V, w.alloc (.cells #[I 0, I 0, I 0, I 0, I 0, .slice none 0 0, .slice none 0 0, I 0, I 0, I 0, .slice none 0 0, I 0, I 0] 31) = V := ⟨_, rfl⟩
 have xe := fun w' (h : PS T (V.heap.size + 1) V.heap.size true st w') (B : Bas V [V.heap.size + 1, V.heap.size] w') => event_s h B
 generalize eventF theO T 7 st = q at xe ⊢
 obtain ⟨x, s1⟩ := q
 simp only at xe ⊢
 have xd := fun w' (h : PS T (V.heap.size + 1) V.heap.size true s1 w') => pend_s h
 generalize endF T s1 = s2 at xd ⊢
 have HV := shut hV
 clear hV
 go_enter Tryz.func7, Tryz.ntmps7
 go_wp2_with (go_at_call 19; (with_reducible refine xo.mono ?_))
 intro r w1; first | (intro he b1 hS1; subst he) | rintro ⟨rfl, b1, hS1⟩
 clear xo
 rw [HV.out] at hR0 b0 gl1 b1 hS1 ⊢
 have hVs := b0.size
 have lV : w.heap.size < V.heap.size := heap_lt hR0
 have hR1 := (b1.block _ lV).trans hR0
 have B1 : Bas V [V.heap.size + 1, V.heap.size] w1 := ⟨gl1, b1, fun k hk => by simp at hk; omega⟩
 have xe1 := xe _ hS1 B1
 have bb1 := b0.trans (b1.mono b0.size)
 clear xe b1 hR0
 go_wp2_with (go_at_call 20; (with_reducible refine xe1.mono ?_))
 rintro r w2 ⟨v, rfl, ⟨hv, gv, lyv, rfl, rows⟩, hS2, a2⟩
 have hsz1 := hS1.lt
 have hsz2 := hS1.ltM
 have hR2 := a2.at hR1 (by simp; omega)
 have EL := rows.els
 obtain ⟨ha, hc, rfl⟩ := own_is rows.oh
 obtain ⟨ga, gc, rfl⟩ := own_is rows.og
 obtain ⟨la, lc, rfl⟩ := own_is rows.ol
 have lR : w.heap.size < w1.heap.size := heap_lt hR1
 have bb2 : Below w.heap.size w w2 := ⟨a2.os.trans bb1.os, a2.tape.trans bb1.tape, a2.output.trans bb1.output, Nat.le_trans bb1.size a2.size, fun k hk => (a2.block k (by omega) (by simp; omega)).trans (bb1.block k hk)⟩
 have n1 := rows.oh.1
 obtain ⟨i0, i1, kd, lg, dt, hs, gs, ar, orn, dy, ys, sm, be⟩ := x
 simp only [EvV.cells] at EL ⊢
 simp only at rows
 have fR := fill13_self (I i0) (I i1) (I kd) (I lg) (I dt) (.slice ha hs.length hc) (.slice ga gs.length gc) (I ar) (I orn) (I dy) (.slice la ys.length lc) (I sm) (I be) hR2
 have fO := fill13_other (w := w2) (X := w.heap.size) (I i0) (I i1) (I kd) (I lg) (I dt) (.slice ha hs.length hc) (.slice ga gs.length gc) (I ar) (I orn) (I dy) (.slice la ys.length lc) (I sm) (I be)
 have fB := fill13_below (I i0) (I i1) (I kd) (I lg) (I dt) (.slice ha hs.length hc) (.slice ga gs.length gc) (I ar) (I orn) (I dy) (.slice la ys.length lc) (I sm) (I be) bb2 (Nat.le_refl _)
 have hP := hS2.put (R := w.heap.size) (w' := fill13 w2 w.heap.size (I i0) (I i1) (I kd) (I lg) (I dt) (.slice ha hs.length hc) (.slice ga gs.length gc) (I ar) (I orn) (I dy) (.slice la ys.length lc) (I sm) (I be)) (by omega) (by omega) hR2 (by decide) fO
 have rw3 := rows.step (w' := fill13 w2 w.heap.size (I i0) (I i1) (I kd) (I lg) (I dt) (.slice ha hs.length hc) (.slice ga gs.length gc) (I ar) (I orn) (I dy) (.slice la ys.length lc) (I sm) (I be)) (fun k o T' ho hT _ => fO k (fun e => by rcases hT with hT | hT | hT <;> exact cells_no ho (e ▸ hR2) (by rw [hT]; decide)))
 have bO : Shut (w1.heap.size <= w1.heap.size) := Nat.le_refl _
 obtain ⟨r0, r1, r2, r3, r4, r5, r6, r7, r8, r9, r10, r11, r12, z0, z1, z2, z3, z4, z5, z6, z7, z8, z9, z10, z11, z12⟩ := box13 hR2
 unfold fill13 at fR fB hP rw3
 generalize hW3 : (((((((((((((w2.setCell ⟨w.heap.size, 0, none⟩ (I i0)).setCell ⟨w.heap.size, 1, none⟩ (I i1)).setCell ⟨w.heap.size, 2, none⟩ (I kd)).setCell ⟨w.heap.size, 3, none⟩ (I lg)).setCell ⟨w.heap.size, 4, none⟩ (I dt)).setCell ⟨w.heap.size, 5, none⟩ (.slice ha hs.length hc)).setCell ⟨w.heap.size, 6, none⟩ (.slice ga gs.length gc)).setCell ⟨w.heap.size, 7, none⟩ (I ar)).setCell ⟨w.heap.size, 8, none⟩ (I orn)).setCell ⟨w.heap.size, 9, none⟩ (I dy)).setCell ⟨w.heap.size, 10, none⟩ (.slice la ys.length lc)).setCell ⟨w.heap.size, 11, none⟩ (I sm)).setCell ⟨w.heap.size, 12, none⟩ (I be)) = W3 at fR fB hP rw3
 have xd3 := xd _ hP
 clear fO rows EL hS2 a2 hR2 bb2 B1 gl1 xe1
 go_wp2_with (go_at_call 21; (with_reducible refine xd3.mono ?_))
 intro r w4; first | (intro he hS4 a4; subst he) | rintro ⟨rfl, hS4, a4⟩
 have HW3 := shut hW3
 clear hW3 xd3 xd z0 z1 z2 z3 z4 z5 z6 z7 z8 z9 z10 z11 z12 r0 r1 r2 r3 r4 r5 r6 r7 r8 r9 r10 r11 r12
 have lR3 := heap_lt fR
 have hR4 := a4.at fR (by simp; omega)
 have bb4 : Below w.heap.size w w4 := ⟨a4.os.trans fB.os, a4.tape.trans fB.tape, a4.output.trans fB.output, Nat.le_trans fB.size a4.size, fun k hk => (a4.block k (Nat.lt_of_lt_of_le hk fB.size) (by simp; omega)).trans (fB.block k hk)⟩
 have rw4 := rw3.step (w' := w4) (fun k o T' ho hT hk => a4.block k (heap_lt ho) (fun hm => by
  simp only [List.mem_cons, List.not_mem_nil, or_false] at hm
  rcases hm with rfl | rfl
  ·obtain ⟨_, tv, pos, line, col, e, ls, ln, es, clk, k1, k2, k3⟩ := hP
   have := ho.symm.trans k1.blk
   injection this with this
   injection this with _ h2 _
   rcases hT with hT | hT | hT <;> rw [hT] at h2 <;> exact absurd h2 (by decide)
  ·obtain ⟨_, tv, pos, line, col, e, ls, ln, es, clk, k1, k2, k3⟩ := hP
   have := ho.symm.trans k1.map
   injection this with this
   cases this))
 clear fR fB hP rw3 a4 HW3 lR3
 obtain ⟨r0, r1, r2, r3, r4, r5, r6, r7, r8, r9, r10, r11, r12, z0, z1, z2, z3, z4, z5, z6, z7, z8, z9, z10, z11, z12⟩ := box13 hR4
 cases s2 with
 | ok p =>
  have xr := presult_ok hS4 ⟨i0, i1, kd, lg, dt, hs, gs, ar, orn, dy, ys, sm, be⟩ ha ga la hs.length gs.length ys.length hc gc lc
  simp only [EvV.cells] at xr
  clear hS4
  go_wp2_with (go_at_call 22; (with_reducible refine xr.mono ?_))
  intro r w5; first | (intro he b5; subst he) | rintro ⟨rfl, b5⟩
  have hR5 := (b5.block _ (heap_lt hR4)).trans hR4
  have rw5 := rw4.step (w' := w5) (fun k o T' ho hT hk => b5.block k (heap_lt ho))
  have bb5 := bb4.trans (b5.mono bb4.size)
  clear xr hR4 rw4 bb4 b5 r0 r1 r2 r3 r4 r5 r6 r7 r8 r9 r10 r11 r12 z0 z1 z2 z3 z4 z5 z6 z7 z8 z9 z10 z11 z12
  obtain ⟨r0, r1, r2, r3, r4, r5, r6, r7, r8, r9, r10, r11, r12, z0, z1, z2, z3, z4, z5, z6, z7, z8, z9, z10, z11, z12⟩ := box13 hR5
  have fR := fill13_self (I i0) (I i1) (I kd) (I lg) (I dt) (.slice ha hs.length hc) (.slice ga gs.length gc) (I ar) (I orn) (I dy) (.slice la ys.length lc) (I sm) (I be) hR5
  have fO := fill13_other (w := w5) (X := w.heap.size) (I i0) (I i1) (I kd) (I lg) (I dt) (.slice ha hs.length hc) (.slice ga gs.length gc) (I ar) (I orn) (I dy) (.slice la ys.length lc) (I sm) (I be)
  have fB := fill13_below (I i0) (I i1) (I kd) (I lg) (I dt) (.slice ha hs.length hc) (.slice ga gs.length gc) (I ar) (I orn) (I dy) (.slice la ys.length lc) (I sm) (I be) bb5 (Nat.le_refl _)
  have rw6 := rw5.step (w' := fill13 w5 w.heap.size (I i0) (I i1) (I kd) (I lg) (I dt) (.slice ha hs.length hc) (.slice ga gs.length gc) (I ar) (I orn) (I dy) (.slice la ys.length lc) (I sm) (I be)) (fun k o T' ho hT _ => fO k (fun e => by rcases hT with hT | hT | hT <;> exact cells_no ho (e ▸ hR5) (by rw [hT]; decide)))
  clear fO rw5 bb5 hR5
  unfold fill13 at fR fB rw6
  have HF := shut (And.intro fR (And.intro fB rw6))
  clear fR fB rw6
  go_wp2
  obtain ⟨fR, fB, rw6⟩ := HF.out
  refine bodyPost_ret (results_cell3 rfl _ _ w.heap.size 31 _ (0, 0) _ rfl fR Tryz.underlying31 rfl Tryz.sizeEvent) rfl ?_
  exact ⟨⟨_, _, _, rfl, Rows3.els (x := ⟨i0, i1, kd, lg, dt, hs, gs, ar, orn, dy, ys, sm, be⟩) rw6⟩, fB⟩
 | bad e l c =>
  have xr := presult_bad hS4 ⟨i0, i1, kd, lg, dt, hs, gs, ar, orn, dy, ys, sm, be⟩ ha ga la hs.length gs.length ys.length hc gc lc
  simp only [EvV.cells, zEv, nilV] at xr
  clear hS4 rw4
  go_wp2_with (go_at_call 22; (with_reducible refine xr.mono ?_))
  intro r w5; first | (intro he b5; subst he) | rintro ⟨rfl, b5⟩
  have hR5 := (b5.block _ (heap_lt hR4)).trans hR4
  have bb5 := bb4.trans (b5.mono bb4.size)
  clear xr hR4 bb4 b5 r0 r1 r2 r3 r4 r5 r6 r7 r8 r9 r10 r11 r12 z0 z1 z2 z3 z4 z5 z6 z7 z8 z9 z10 z11 z12
  obtain ⟨r0, r1, r2, r3, r4, r5, r6, r7, r8, r9, r10, r11, r12, z0, z1, z2, z3, z4, z5, z6, z7, z8, z9, z10, z11, z12⟩ := box13 hR5
  have fR := fill13_self (I 0) (I 0) (I 0) (I 0) (I 0) (.slice none 0 0) (.slice none 0 0) (I 0) (I 0) (I 0) (.slice none 0 0) (I 0) (I 0) hR5
  have fB := fill13_below (I 0) (I 0) (I 0) (I 0) (I 0) (.slice none 0 0) (.slice none 0 0) (I 0) (I 0) (I 0) (.slice none 0 0) (I 0) (I 0) bb5 (Nat.le_refl _)
  clear bb5 hR5
  unfold fill13 at fR fB
  have HF := shut (And.intro fR fB)
  clear fR fB
  go_wp2
  obtain ⟨fR, fB⟩ := HF.out
  refine bodyPost_ret (results_cell3 rfl _ _ w.heap.size 31 _ (0, 0) _ rfl fR Tryz.underlying31 rfl Tryz.sizeEvent) rfl ?_
  exact ⟨rfl, fB⟩
end Go.Proofs.YtgkhemnmcgicnaaGreatDoor
namespace Go.Dam
section
variable {P : Program}
end
section
variable {P : Program} {E : Env} {A : Nat -> Prop} {w : World}
end
end Go.Dam
