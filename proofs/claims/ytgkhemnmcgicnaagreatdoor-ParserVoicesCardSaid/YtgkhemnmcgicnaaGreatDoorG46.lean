/- Towards the law ParserVoices, true for every text (no condition): one part of the proof. -/
import Derived.Test.YtgkhemnmcgicnaaGreatDoorG01
import Derived.Test.YtgkhemnmcgicnaaGreatDoorG45
import Derived.Test.YtgkhemnmcgicnaaGreatDoorG42
namespace Go.Proofs.YtgkhemnmcgicnaaGreatDoor
set_option maxHeartbeats 16000000
set_option maxRecDepth 100000
open Go.RowKit
structure JH (B : Nat) (ev tv : Value) (cs : List Value) (v : gJ) (w : World) : Prop where
 oe : w.ownsRow B 31 13 ev v.evs.length cs
 ot : w.ownsRow B 100 4 tv v.tups.length (cH fZ.cells v.tups)
 es : DL B v.evs cs w
theorem FX.r {V B : Nat} {ev tv : Value} {cs : List Value} {v : gJ} {w : World} (h : FX V B ev tv cs v w) : JH B ev tv cs v w := ⟨h.oe, h.ot, h.es⟩
theorem JH.keep {B : Nat} {ev tv : Value} {cs : List Value} {v : gJ} {w w' : World} (h : JH B ev tv cs v w) (hb : ∀ k (o : Array Value) (T : TypeId), w.heap[k]? = some (.cells o T (0, 0)) -> B <= k -> w'.heap[k]? = w.heap[k]?) : JH B ev tv cs v w' := by
 refine ⟨aC h.oe fun k hk => ?_, aC h.ot fun k hk => ?_, h.es.step fun k o T ho _ hB => hb k o T ho hB⟩
 ·obtain ⟨c, hc⟩ := cA h.oe hk
  exact hb k c _ hc (h.oe.lt k hk).1
 ·obtain ⟨c, hc⟩ := cA h.ot hk
  exact hb k c _ hc (h.ot.lt k hk).1
theorem JH.step {B : Nat} {ev tv : Value} {cs : List Value} {v : gJ} {w w' : World} (h : JH B ev tv cs v w) (b : Below w.heap.size w w') : JH B ev tv cs v w' := h.keep fun k _ _ ho _ => b.block k (aA ho)
theorem JH.nil (B : Nat) (w : World) : JH B (.slice none 0 0) (.slice none 0 0) [] ⟨[], []⟩ w := ⟨qqe _ _ _ _, qqe _ _ _ _, rfl⟩
def Y6 (v : gJ) (s : aU) (r : Ending) (w : World) : Prop :=
 match s with
 | .ok _ => ∃ B ev tv cs, r = .returned (.tuple #[.agg #[ev, tv], I 0, I 0, I 0]) /\ JH B ev tv cs v w
 | .bad e l c => r = .returned (.tuple #[.agg #[.slice none 0 0, .slice none 0 0], I l, I c, I e])
theorem PE {s : ByteArray} {T : List bD} {st : aU} (hg : i6 T) (hsc : NX s T st) {w : World} (gl : FR w) :
  Calls Tryz.prog 13 #[.string s] w fun r w' => Y6 (bP aD T 7 T.length ⟨[], []⟩ 0 0 st).1 (JA T (bP aD T 7 T.length ⟨[], []⟩ 0 0 st).2) r w' /\ Below w.heap.size w w' := by
 have hmax := hg.max
 have hnd : need T st <= T.length := by
  cases st with
  | ok p => exact Nat.sub_le _ _
  | bad e l c => exact qn _
 have hR0 := qc w (.cells #[.slice none 0 0, .slice none 0 0] 48)
 have b0 := (qa w.heap.size w).alloc (qb _) (.cells #[.slice none 0 0, .slice none 0 0] 48)
 have xo := YV hg hsc (w.alloc (.cells #[.slice none 0 0, .slice none 0 0] 48))
 have szV : (w.alloc (.cells #[.slice none 0 0, .slice none 0 0] 48)).heap.size = w.heap.size + 1 := by simp
 generalize hV : w.alloc (.cells #[.slice none 0 0, .slice none 0 0] 48) = V at hR0 b0 xo szV
 have xv := fun B w' (h : xU w T (V.heap.size + 1) V.heap.size w.heap.size B (.slice none 0 0) (.slice none 0 0) [] ⟨[], []⟩ st w') => XR T.length st ⟨[], []⟩ 0 (.slice none 0 0) (.slice none 0 0) [] w' hnd (by simp only [qqi]; omega) (by simp only [qqi]; omega) h
 generalize bP aD T 7 T.length ⟨[], []⟩ 0 0 st = q at xv |-
 obtain ⟨v, s1⟩ := q
 simp only at xv |-
 have xd := fun w' (h : PS T (V.heap.size + 1) V.heap.size true s1 w') => YW h
 generalize JA T s1 = s2 at xd |-
 have HV := aQ hV
 have HS := aQ szV
 clear szV
 rw [<- hV] at xo
 clear hV
 go_enter Tryz.func13, Tryz.ntmps13
 go_wp2_with (go_at_call 19; (with_reducible refine xo.mono ?_))
 intro r w1; first | (intro he b1 hS1; subst he) | rintro ⟨rfl, b1, hS1⟩
 clear xo
 rw [HV.out] at b1 hS1 |-
 have hR1 := (b1.block _ (aA hR0)).trans hR0
 have bb1 := b0.trans (b1.mono b0.size)
 have l1 := hS1.lt
 have l2 := hS1.ltM
 have H1 : xU w T (V.heap.size + 1) V.heap.size w.heap.size w1.heap.size (.slice none 0 0) (.slice none 0 0) [] ⟨[], []⟩ st w1 := by
  have szV := HS.out
  exact ⟨hS1, ⟨gl, bb1, fun k hk => by simp at hk; omega⟩, ⟨hR1, qqe _ _ _ _, qqe _ _ _ _, rfl, by omega, qb _⟩, by omega, by omega, by omega, by omega, qb _⟩
 have xv1 := xv _ _ H1
 clear xv hS1 hR1 b1 bb1 hR0 b0 H1
 go_wp2_with (go_at_call 35; (with_reducible refine xv1.mono ?_))
 rintro r w2 ⟨rfl, ev, tv, cs, H2, V2⟩
 have xd2 := xd _ H2.ps
 clear xd xv1 V2
 go_wp2_with (go_at_call 21; (with_reducible refine xd2.mono ?_))
 rintro r w3 ⟨rfl, hS3, a3⟩
 have H3 := H2.call hS3 a3
 clear H2 xd2 a3
 obtain ⟨ao, ca, rfl⟩ := bX H3.vo.oe
 obtain ⟨bo, cb, rfl⟩ := bX H3.vo.ot
 have hR3 := H3.vo.hV
 have hbel := H3.bas.bel
 have hr3 := H3.vo.r
 have lB := H3.vo.lB
 have lVB := H3.vo.lV
 obtain ⟨q0, q1, f0, f1⟩ := aZ hR3
 have hps := H3.ps
 clear H3 hS3
 cases s2 with
 | ok p =>
  have xr := PF hps ao bo v.evs.length v.tups.length ca cb
  clear hps
  go_wp2_with (go_at_call 36; (with_reducible refine xr.mono ?_))
  rintro r w4 ⟨rfl, b4⟩
  have hR4 := (b4.block _ (aA hR3)).trans hR3
  have hr4 := hr3.step b4
  have bb4 := hbel.trans (b4.mono hbel.size)
  clear q0 q1 f0 f1 hr3 hbel hR3 xr
  obtain ⟨q0, q1, f0, f1⟩ := aZ hR4
  have fR := cC (a := .slice ao v.evs.length ca) (b := .slice bo v.tups.length cb) hR4
  have fA := cN (bs := []) (aB.of_below bb4) (qb w.heap.size) (.slice ao v.evs.length ca) (.slice bo v.tups.length cb)
  have hr5 := hr4.keep (w' := dL w4 w.heap.size (.slice ao v.evs.length ca) (.slice bo v.tups.length cb)) fun k o T' ho hk => cL w4 w.heap.size _ _ k (by omega)
  have HF := aQ (And.intro fR (And.intro fA hr5))
  clear fR fA hr5 hr4 bb4 b4 hR4
  go_wp2
  obtain ⟨fR, fA, hr5⟩ := HF.out
  refine qf (lP rfl _ _ w.heap.size 48 _ (0, 0) _ rfl fR Tryz.underlying48 rfl Tryz.sizeVoice) rfl ?_
  exact ⟨⟨_, _, _, _, rfl, hr5⟩, fA.below⟩
 | bad e l c =>
  have xr := L0 hps ao bo v.evs.length v.tups.length ca cb
  clear hps
  go_wp2_with (go_at_call 36; (with_reducible refine xr.mono ?_))
  rintro r w4 ⟨rfl, b4⟩
  have hR4 := (b4.block _ (aA hR3)).trans hR3
  have bb4 := hbel.trans (b4.mono hbel.size)
  clear q0 q1 f0 f1 hr3 hbel hR3 xr
  obtain ⟨q0, q1, f0, f1⟩ := aZ hR4
  have fR := cC (a := .slice none 0 0) (b := .slice none 0 0) hR4
  have fA := cN (bs := []) (aB.of_below bb4) (qb w.heap.size) (.slice none 0 0) (.slice none 0 0)
  have HF := aQ (And.intro fR fA)
  clear fR fA bb4 b4 hR4
  go_wp2
  obtain ⟨fR, fA⟩ := HF.out
  refine qf (lP rfl _ _ w.heap.size 48 _ (0, 0) _ rfl fR Tryz.underlying48 rfl Tryz.sizeVoice) rfl ?_
  exact ⟨rfl, fA.below⟩
theorem ZT (v v' : Value) (l : List fZ) (w : World) (hbig : l.length <= 1000000) (h : o7 w 4 v (l.map fZ.cells)) (h' : o7 w 4 v' (l.map fZ.cells)) :
  Calls Tryz.prog 80 #[v, v'] w fun e w' => e = .returned (.bool true) /\ Below w.heap.size w w' := by
 obtain ⟨ao, c, rfl⟩ := h.isM
 obtain ⟨ao', c', rfl⟩ := h'.isM
 go_enter Tryz.func80, Tryz.ntmps80
 go_wp2
 go_loopg [13] l.length (fun g s13 wr => ∃ k : Nat, k <= l.length /\ g = l.length - k /\ s13 = I (k : Nat) /\ Below w.heap.size w wr)
 case atStart => exact ⟨0, qn _, rfl, rfl, qa _ _⟩
 case round =>
  obtain ⟨k, hk, hg, rfl, hb⟩ := hrel
  by_cases hlt : k < l.length
  ·have hlt' : (k : Int) < (l.length : Int) := by omega
   have hk0 : (0 : Int) <= (k : Int) := by omega
   obtain ⟨g, oo, rfl, hc⟩ := (h.step hb).atM hlt
   obtain ⟨g', oo', rfl, hc'⟩ := (h'.step hb).atM hlt
   generalize l[k] = x at *
   obtain ⟨a0, a1, a2, a3⟩ := x
   clear h h'
   have x0 : wr.cell? ⟨g, oo + k * 4, none⟩ = some (I a0) := hc 0 _ rfl
   have y0 : wr.cell? ⟨g', oo' + k * 4, none⟩ = some (I a0) := hc' 0 _ rfl
   have x1 : wr.cell? ⟨g, oo + k * 4 + 1, none⟩ = some (I a1) := hc 1 _ rfl
   have y1 : wr.cell? ⟨g', oo' + k * 4 + 1, none⟩ = some (I a1) := hc' 1 _ rfl
   have x2 : wr.cell? ⟨g, oo + k * 4 + 2, none⟩ = some (I a2) := hc 2 _ rfl
   have y2 : wr.cell? ⟨g', oo' + k * 4 + 2, none⟩ = some (I a2) := hc' 2 _ rfl
   have x3 : wr.cell? ⟨g, oo + k * 4 + 3, none⟩ = some (I a3) := hc 3 _ rfl
   have y3 : wr.cell? ⟨g', oo' + k * 4 + 3, none⟩ = some (I a3) := hc' 3 _ rfl
   have m1 : IntKind.i64.wrap ((k : Int) + 1) = (k : Int) + 1 := IntWalk.i64_in _ (by omega)
   clear hc hc'
   go_wp2
   go_region
   all_goals go_wp2
   all_goals go_roundg (l.length - (k + 1))
   all_goals first
    | omega
    | exact ⟨k + 1, by omega, rfl, by simp, hb.drew⟩
  ·have : k = l.length := by omega
   subst this
   go_wp2
   go_ret
   exact ⟨rfl, hb⟩
theorem ZU (v v' : Value) (l : List fZ) (w : World) (hbig : l.length <= 1000000) (h : o7 w 4 v (l.map fZ.cells)) (h' : o7 w 4 v' (l.map fZ.cells)) :
  Calls Tryz.prog 40 #[v, v'] w fun e w' => e = .returned (.bool true) /\ Below w.heap.size w w' := by
 have x := ZT v v' l w hbig h h'
 clear h h'
 go_enter Tryz.func40, Tryz.ntmps40
 go_wp2_with (go_at_call 80; (with_reducible refine x.mono ?_))
 rintro r w1 ⟨rfl, b1⟩
 go_wp2
 go_ret
 exact ⟨rfl, b1⟩
theorem DL.at {B : Nat} : ∀ {xs : List zC} {cs : List Value} {w : World}, DL B xs cs w -> ∀ (i : Nat) (x : zC), xs[i]? = some x ->
  ∃ hv gv lv, hC B hv gv lv x.heads x.graces x.lyr w /\ ∀ (j : Nat) (u : Value), (x.cells hv gv lv)[j]? = some u -> cs[i * 13 + j]? = some u
 | [], _, _, _, i, x, h => by simp at h
 | y :: ys, _, _, ⟨hv, gv, lv, cs', e, r, t⟩, 0, x, h => by
  simp only [qy, qm] at h
  subst h e
  refine ⟨hv, gv, lv, r, fun j u hu => ?_⟩
  have hj : j < (y.cells hv gv lv).toList.length := by
   have := (qd.1 hu).1
   simpa using this
  rw [Nat.zero_mul, Nat.zero_add, List.getElem?_append_left hj]
  simpa using hu
 | y :: ys, _, _, ⟨hv, gv, lv, cs', e, r, t⟩, i + 1, x, h => by
  obtain ⟨hv', gv', lv', r', hc⟩ := t.at i x (by simpa using h)
  refine ⟨hv', gv', lv', r', fun j u hu => ?_⟩
  subst e
  have hl : (y.cells hv gv lv).toList.length = 13 := rfl
  rw [List.getElem?_append_right (by rw [hl]; omega), hl, show (i + 1) * 13 + j - 13 = i * 13 + j by omega]
  exact hc j u hu
theorem ZV {B B' : Nat} {ev tv ev' tv' : Value} {cs cs' : List Value} {v : gJ} {w : World} (hbig : v.evs.length <= 1000000) (hlen : ∀ x ∈ v.evs, x.heads.length <= 1000000 /\ x.graces.length <= 1000000 /\ x.lyr.length <= 1000000)
  (h : JH B ev tv cs v w) (h' : JH B' ev' tv' cs' v w) : Calls Tryz.prog 39 #[ev, ev', .func (.func 12) #[] #[]] w fun e w' => e = .returned (.bool true) /\ Below w.heap.size w w' := by
 obtain ⟨ao, c, rfl⟩ := bX h.oe
 obtain ⟨ao', c', rfl⟩ := bX h'.oe
 go_enter Tryz.func39, Tryz.ntmps39
 go_wp2
 go_loopg [17] v.evs.length (fun g s17 wr => ∃ k : Nat, k <= v.evs.length /\ g = v.evs.length - k /\ s17 = I (k : Nat) /\ Below w.heap.size w wr)
 case atStart => exact ⟨0, qn _, rfl, rfl, qa _ _⟩
 case round =>
  obtain ⟨k, hk, hg, rfl, hb⟩ := hrel
  by_cases hlt : k < v.evs.length
  ·have hlt' : (k : Int) < (v.evs.length : Int) := by omega
   have hk0 : (0 : Int) <= (k : Int) := by omega
   have m1 : IntKind.i64.wrap ((k : Int) + 1) = (k : Int) + 1 := IntWalk.i64_in _ (by omega)
   obtain ⟨x, hx⟩ : ∃ x, v.evs[k]? = some x := ⟨_, qo hlt⟩
   obtain ⟨l1, l2, l3⟩ := hlen x (List.mem_of_getElem? hx)
   have R := h.step hb
   have R' := h'.step hb
   obtain ⟨hv, gv, lv, rows, hcc⟩ := R.es.at k x hx
   obtain ⟨hv', gv', lv', rows', hcc'⟩ := R'.es.at k x hx
   obtain ⟨ha, hc, rfl⟩ := bX rows.oh
   obtain ⟨ga, gc, rfl⟩ := bX rows.og
   obtain ⟨la, lc, rfl⟩ := bX rows.ol
   obtain ⟨ha', hc', rfl⟩ := bX rows'.oh
   obtain ⟨ga', gc', rfl⟩ := bX rows'.og
   obtain ⟨la', lc', rfl⟩ := bX rows'.ol
   obtain ⟨g, rfl⟩ : ∃ g, ao = some ⟨g, 0, none⟩ := by
    rcases R.oe.2 with ⟨_, h0⟩ | ⟨g, cap, cur, e1, _⟩
    ·omega
    ·injection e1 with e1 _ _; exact ⟨g, e1⟩
   obtain ⟨g', rfl⟩ : ∃ g, ao' = some ⟨g, 0, none⟩ := by
    rcases R'.oe.2 with ⟨_, h0⟩ | ⟨g, cap, cur, e1, _⟩
    ·omega
    ·injection e1 with e1 _ _; exact ⟨g, e1⟩
   obtain ⟨i0, i1, kd, lg, dt, hs, gs, ar, orn, dy, ys, sm, be⟩ := x
   simp only at l1 l2 l3 hcc hcc' rows rows'
   have x0 : wr.cell? ⟨g, k * 13, none⟩ = some (I i0) := (cJ R.oe (i := k * 13) (hcc 0 _ rfl)).1
   have x1 : wr.cell? ⟨g, k * 13 + 1, none⟩ = some (I i1) := (cJ R.oe (i := k * 13 + 1) (hcc 1 _ rfl)).1
   have x2 : wr.cell? ⟨g, k * 13 + 2, none⟩ = some (I kd) := (cJ R.oe (i := k * 13 + 2) (hcc 2 _ rfl)).1
   have x3 : wr.cell? ⟨g, k * 13 + 3, none⟩ = some (I lg) := (cJ R.oe (i := k * 13 + 3) (hcc 3 _ rfl)).1
   have x4 : wr.cell? ⟨g, k * 13 + 4, none⟩ = some (I dt) := (cJ R.oe (i := k * 13 + 4) (hcc 4 _ rfl)).1
   have x5 : wr.cell? ⟨g, k * 13 + 5, none⟩ = some (.slice ha hs.length hc) := (cJ R.oe (i := k * 13 + 5) (hcc 5 _ rfl)).1
   have x6 : wr.cell? ⟨g, k * 13 + 6, none⟩ = some (.slice ga gs.length gc) := (cJ R.oe (i := k * 13 + 6) (hcc 6 _ rfl)).1
   have x7 : wr.cell? ⟨g, k * 13 + 7, none⟩ = some (I ar) := (cJ R.oe (i := k * 13 + 7) (hcc 7 _ rfl)).1
   have x8 : wr.cell? ⟨g, k * 13 + 8, none⟩ = some (I orn) := (cJ R.oe (i := k * 13 + 8) (hcc 8 _ rfl)).1
   have x9 : wr.cell? ⟨g, k * 13 + 9, none⟩ = some (I dy) := (cJ R.oe (i := k * 13 + 9) (hcc 9 _ rfl)).1
   have x10 : wr.cell? ⟨g, k * 13 + 10, none⟩ = some (.slice la ys.length lc) := (cJ R.oe (i := k * 13 + 10) (hcc 10 _ rfl)).1
   have x11 : wr.cell? ⟨g, k * 13 + 11, none⟩ = some (I sm) := (cJ R.oe (i := k * 13 + 11) (hcc 11 _ rfl)).1
   have x12 : wr.cell? ⟨g, k * 13 + 12, none⟩ = some (I be) := (cJ R.oe (i := k * 13 + 12) (hcc 12 _ rfl)).1
   have b1a := (qa wr.heap.size wr).alloc (qb _) (.cells #[I i0, I i1, I kd, I lg, I dt, .slice ha hs.length hc, .slice ga gs.length gc, I ar, I orn, I dy, .slice la ys.length lc, I sm, I be] 31)
   have lg' : g' < wr.heap.size := (R'.oe.lt g' rfl).2
   have y0 : (wr.alloc (.cells #[I i0, I i1, I kd, I lg, I dt, .slice ha hs.length hc, .slice ga gs.length gc, I ar, I orn, I dy, .slice la ys.length lc, I sm, I be] 31)).cell? ⟨g', k * 13, none⟩ = some (I i0) := (b1a.cell lg').trans ((cJ R'.oe (i := k * 13) (hcc' 0 _ rfl)).1)
   have yy : ∀ (j : Nat) (u : Value), wr.cell? ⟨g', k * 13 + j, none⟩ = some u -> (wr.alloc (.cells #[I i0, I i1, I kd, I lg, I dt, .slice ha hs.length hc, .slice ga gs.length gc, I ar, I orn, I dy, .slice la ys.length lc, I sm, I be] 31)).cell? ⟨g', k * 13 + j, none⟩ = some u := fun j u h => (b1a.cell lg').trans h
   have y1 := yy 1 (I i1) ((cJ R'.oe (i := k * 13 + 1) (hcc' 1 _ rfl)).1)
   have y2 := yy 2 (I kd) ((cJ R'.oe (i := k * 13 + 2) (hcc' 2 _ rfl)).1)
   have y3 := yy 3 (I lg) ((cJ R'.oe (i := k * 13 + 3) (hcc' 3 _ rfl)).1)
   have y4 := yy 4 (I dt) ((cJ R'.oe (i := k * 13 + 4) (hcc' 4 _ rfl)).1)
   have y5 := yy 5 (.slice ha' hs.length hc') ((cJ R'.oe (i := k * 13 + 5) (hcc' 5 _ rfl)).1)
   have y6 := yy 6 (.slice ga' gs.length gc') ((cJ R'.oe (i := k * 13 + 6) (hcc' 6 _ rfl)).1)
   have y7 := yy 7 (I ar) ((cJ R'.oe (i := k * 13 + 7) (hcc' 7 _ rfl)).1)
   have y8 := yy 8 (I orn) ((cJ R'.oe (i := k * 13 + 8) (hcc' 8 _ rfl)).1)
   have y9 := yy 9 (I dy) ((cJ R'.oe (i := k * 13 + 9) (hcc' 9 _ rfl)).1)
   have y10 := yy 10 (.slice la' ys.length lc') ((cJ R'.oe (i := k * 13 + 10) (hcc' 10 _ rfl)).1)
   have y11 := yy 11 (I sm) ((cJ R'.oe (i := k * 13 + 11) (hcc' 11 _ rfl)).1)
   have y12 := yy 12 (I be) ((cJ R'.oe (i := k * 13 + 12) (hcc' 12 _ rfl)).1)
   have EL := hC.els (x := ⟨i0, i1, kd, lg, dt, hs, gs, ar, orn, dy, ys, sm, be⟩) rows
   have EL' := hC.els (x := ⟨i0, i1, kd, lg, dt, hs, gs, ar, orn, dy, ys, sm, be⟩) rows'
   clear R R' rows rows' hcc hcc'
   have ba := ((qa wr.heap.size wr).alloc (qb _) (.cells #[I i0, I i1, I kd, I lg, I dt, .slice ha hs.length hc, .slice ga gs.length gc, I ar, I orn, I dy, .slice la ys.length lc, I sm, I be] 31)).alloc (by simp) (.cells #[I i0, I i1, I kd, I lg, I dt, .slice ha' hs.length hc', .slice ga' gs.length gc', I ar, I orn, I dy, .slice la' ys.length lc', I sm, I be] 31)
   have E1 := EL.step ba
   have E2 := EL'.step ba
   have xq := NG ⟨i0, i1, kd, lg, dt, hs, gs, ar, orn, dy, ys, sm, be⟩ ha ga la ha' ga' la' hc gc lc hc' gc' lc' _ l1 l2 l3 E1.h E1.g E1.l E2.h E2.g E2.l
   simp only [zC.cells] at xq
   clear EL EL' E1 E2
   go_wp2_with (go_at_call 12; (with_reducible refine xq.mono ?_))
   rintro r w2 ⟨rfl, b2⟩
   go_wp2
   go_roundg (v.evs.length - (k + 1))
   case measure => omega
   case rel => exact ⟨k + 1, by omega, rfl, by simp, hb.trans ((ba.trans (b2.mono ba.size)).mono hb.size)⟩
  ·have : k = v.evs.length := by omega
   subst this
   go_wp2
   go_ret
   exact ⟨rfl, hb⟩
theorem JH.tups {B : Nat} {ev tv : Value} {cs : List Value} {v : gJ} {w : World} (h : JH B ev tv cs v w) : o7 w 4 tv (v.tups.map fZ.cells) :=
 o7.of_own (T := 100) (by rw [List.length_map]; exact h.ot) rfl fun r hr => by
  obtain ⟨y, _, rfl⟩ := List.mem_map.1 hr
  exact ⟨rfl, by simp [fZ.cells, Value.oneCell']⟩
theorem CX {B B' : Nat} {a1 a2 a1' a2' : Option Addr} {c1 c2 c1' c2' : Nat} {cs cs' : List Value} {v : gJ} {w : World} (hbig : v.evs.length <= 1000000) (ht : v.tups.length <= 1000000)
  (hlen : ∀ x ∈ v.evs, x.heads.length <= 1000000 /\ x.graces.length <= 1000000 /\ x.lyr.length <= 1000000)
  (h : JH B (.slice a1 v.evs.length c1) (.slice a2 v.tups.length c2) cs v w) (h' : JH B' (.slice a1' v.evs.length c1') (.slice a2' v.tups.length c2') cs' v w) :
  Calls Tryz.prog 15 #[.agg #[.slice a1 v.evs.length c1, .slice a2 v.tups.length c2], .agg #[.slice a1' v.evs.length c1', .slice a2' v.tups.length c2']] w fun e w' => e = .returned (.bool true) /\ Below w.heap.size w w' := by
 have ba := ((qa w.heap.size w).alloc (qb _) (.cells #[.slice a1 v.evs.length c1, .slice a2 v.tups.length c2] 48)).alloc (by simp) (.cells #[.slice a1' v.evs.length c1', .slice a2' v.tups.length c2'] 48)
 have x1 := ZV hbig hlen (h.step ba) (h'.step ba)
 have x2 := fun w2 (b : Below w.heap.size w w2) => ZU _ _ _ w2 ht (h.step b).tups (h'.step b).tups
 have hA0 := qc w (.cells #[.slice a1 v.evs.length c1, .slice a2 v.tups.length c2] 48)
 have hA := (((qa (w.alloc (.cells #[.slice a1 v.evs.length c1, .slice a2 v.tups.length c2] 48)).heap.size (w.alloc (.cells #[.slice a1 v.evs.length c1, .slice a2 v.tups.length c2] 48))).alloc (qb _) (.cells #[.slice a1' v.evs.length c1', .slice a2' v.tups.length c2'] 48)).block _ (aA hA0)).trans hA0
 have hB := qc (w.alloc (.cells #[.slice a1 v.evs.length c1, .slice a2 v.tups.length c2] 48)) (.cells #[.slice a1' v.evs.length c1', .slice a2' v.tups.length c2'] 48)
 rw [show (w.alloc (.cells #[.slice a1 v.evs.length c1, .slice a2 v.tups.length c2] 48)).heap.size = w.heap.size + 1 by simp] at hB
 clear h h' hA0
 go_enter Tryz.func15, Tryz.ntmps15
 go_wp2_with (go_at_call 39; (with_reducible refine x1.mono ?_))
 rintro r w1 ⟨rfl, b1⟩
 have bb := ba.trans (b1.mono ba.size)
 have x21 := x2 _ bb
 have hA1 := (b1.block _ (aA hA)).trans hA
 have hB1 := (b1.block _ (aA hB)).trans hB
 have HB := aQ bb
 clear x1 x2 ba b1 bb hA hB
 obtain ⟨q0, q1, f0, f1⟩ := aZ hA1
 obtain ⟨q2, q3, f2, f3⟩ := aZ hB1
 go_wp2_with (go_at_call 40; (with_reducible refine x21.mono ?_))
 rintro r w2 ⟨rfl, b2⟩
 go_wp2
 go_ret
 exact ⟨rfl, HB.out.trans (b2.mono HB.out.size)⟩
def RO (rs : List Value) : List Nat := rs.flatMap fun v => v.ownBlock.toList
structure RS (bs : List Nat) (rs rs' : List Value) (w w' : World) : Prop where
 aw : aB (bs ++ RO rs) w w'
 he : ∀ k ∈ RO rs', k ∈ RO rs \/ w.heap.size <= k
section
variable {bs : List Nat} {rs rs' rs'' : List Value} {w w' w'' : World}
theorem RS.refl (bs : List Nat) (rs : List Value) (w : World) : RS bs rs rs w w := ⟨aB.refl _ _, fun _ h => .inl h⟩
theorem RS.trans (h : RS bs rs rs' w w') (k : RS bs rs' rs'' w' w'') : RS bs rs rs'' w w'' := by
 refine ⟨⟨k.aw.os.trans h.aw.os, k.aw.tape.trans h.aw.tape, k.aw.output.trans h.aw.output, qv h.aw.size k.aw.size, fun i hi hb => (k.aw.block i (qk hi h.aw.size) fun hm => hb ?_).trans (h.aw.block i hi hb)⟩, fun i hi => ?_⟩
 ·rcases qqb.1 hm with hm | hm
  ·exact qqb.2 (.inl hm)
  ·rcases h.he i hm with h1 | h1
   ·exact qqb.2 (.inr h1)
   ·omega
 ·have := h.aw.size
  rcases k.he i hi with h1 | h1
  ·exact h.he i h1
  ·exact .inr (by omega)
theorem RS.of_away (h : aB bs w w') : RS bs rs rs w w' := ⟨h.more fun _k hk => qqb.2 (.inl hk), fun _ h => .inl h⟩
theorem RS.of_below (h : Below w.heap.size w w') : RS bs rs rs w w' := RS.of_away (aB.of_below h)
theorem RS.set (k i : Nat) (u : Value) (hk : k ∈ bs) : RS bs rs rs w (w.setCell ⟨k, i, none⟩ u) := RS.of_away ((aB.refl _ _).setCell (.inl hk) u)
theorem RS.own (k i : Nat) (u : Value) (hk : k ∈ RO rs) : RS bs rs rs w (w.setCell ⟨k, i, none⟩ u) := ⟨(aB.refl _ _).setCell (.inl (qqb.2 (.inr hk))) u, fun _ h => .inl h⟩
theorem RS.grow {row : Value} (hg : w.grownBy w' row.ownBlock) (hr : ∀ k, row.ownBlock = some k -> k ∈ RO rs) (he : ∀ k ∈ RO rs', k ∈ RO rs \/ w.heap.size <= k) : RS bs rs rs' w w' :=
 ⟨⟨hg.os, hg.tape, hg.output, hg.size, fun k hk hb => hg.block k hk fun e => hb (qqb.2 (.inr (hr k e.symm)))⟩, he⟩
end
theorem fJ {a b c : Value} {k : Nat} : k ∈ RO [a, b, c] ↔ a.ownBlock = some k \/ b.ownBlock = some k \/ c.ownBlock = some k := by
 simp [RO]
section
variable {X V : Nat} {ev tv iv iv' : Value} {w w' : World}
theorem RS.evt (a : aB (X :: iv.ownBlock.toList) w w') (hi : ∀ k, iv'.ownBlock = some k -> iv.ownBlock = some k \/ w.heap.size <= k) : RS [X, V] [ev, tv, iv] [ev, tv, iv'] w w' := by
 refine ⟨a.more fun k hk => ?_, fun k hk => ?_⟩
 ·rcases qqj.1 hk with e | e
  ·simp [e]
  ·rw [qql] at e
   exact qqb.2 (.inr (fJ.2 (.inr (.inr e))))
 ·rcases fJ.1 hk with e | e | e
  ·exact .inl (fJ.2 (.inl e))
  ·exact .inl (fJ.2 (.inr (.inl e)))
  ·exact (hi k e).imp (fun e => fJ.2 (.inr (.inr e))) id
theorem RS.growE (hg : w.grownBy w' ev.ownBlock) {a : Addr} {n cap : Nat} (ha : ev.ownBlock = some a.block \/ a.block = w.heap.size) : RS [X, V] [ev, tv, iv] [.slice (some a) n cap, tv, iv] w w' :=
 RS.grow hg (fun k hk => fJ.2 (.inl hk)) fun k hk => by
  rcases fJ.1 hk with e | e | e
  ·simp only [Value.ownBlock, qm] at e
   subst e
   exact ha.imp (fun e => fJ.2 (.inl e)) (fun e => qe e.symm)
  ·exact .inl (fJ.2 (.inr (.inl e)))
  ·exact .inl (fJ.2 (.inr (.inr e)))
theorem RS.growT (hg : w.grownBy w' tv.ownBlock) {a : Addr} {n cap : Nat} (ha : tv.ownBlock = some a.block \/ a.block = w.heap.size) : RS [X, V] [ev, tv, iv] [ev, .slice (some a) n cap, iv] w w' :=
 RS.grow hg (fun k hk => fJ.2 (.inr (.inl hk))) fun k hk => by
  rcases fJ.1 hk with e | e | e
  ·exact .inl (fJ.2 (.inl e))
  ·simp only [Value.ownBlock, qm] at e
   subst e
   exact ha.imp (fun e => fJ.2 (.inr (.inl e))) (fun e => qe e.symm)
  ·exact .inl (fJ.2 (.inr (.inr e)))
end
structure xJ (W0 : World) (T : List bD) (X V B : Nat) (lv iv ev tv : Value) (cs : List Value) (v : gJ) (st : aU) (w : World) : Prop where
 ms : MS T X true lv iv st w
 bas : lG W0 (X :: iv.ownBlock.toList) w
 vo : FX V B ev tv cs v w
 lX : X < B
 nX : V ≠ X
 lW : W0.heap.size <= V
theorem MS.ivAt {T : List bD} {X : Nat} {free : Bool} {lv iv : Value} {st : aU} {w : World} (h : MS T X free lv iv st w) {k : Nat} (hk : iv.ownBlock = some k) : ∃ c, w.heap[k]? = some (.cells c 24 (0, 0)) := by
 obtain ⟨g, pos, is, im, n, xs, e, line, col, h1, h2, h3⟩ := h
 exact cA h1.ids hk
section
variable {W0 : World} {T : List bD} {X V B : Nat} {lv iv ev tv iv' ev' tv' : Value} {cs cs' : List Value} {v v' : gJ} {st st' : aU} {w w' : World}
theorem xJ.call (h : xJ W0 T X V B lv iv ev tv cs v st w) (hS : MS T X true lv iv' st' w') (a : aB (X :: iv.ownBlock.toList) w w') (hi : ∀ k, iv'.ownBlock = some k -> iv.ownBlock = some k \/ w.heap.size <= k) : xJ W0 T X V B lv iv' ev tv cs v st' w' := by
 have b1 := h.bas.away a
 refine ⟨hS, ⟨b1.gl, b1.bel, fun k hk => ?_⟩, h.vo.away a (fun hm => ?_) (fun k hk => ?_), h.lX, h.nX, h.lW⟩
 ·rcases qqj.1 hk with e | e
  ·exact b1.hs k (by rw [e]; simp)
  ·rw [qql] at e
   rcases hi k e with h1 | h1
   ·exact b1.hs k (by simp [h1])
   ·have := h.bas.bel.size; omega
 ·rcases qqj.1 hm with e | e
  ·exact h.nX e
  ·rw [qql] at e
   obtain ⟨c, hc⟩ := h.ms.ivAt e
   exact dN hc h.vo.hV (by decide)
 ·rcases qqj.1 hk with e | e
  ·exact .inl (by rw [e]; exact h.lX)
  ·rw [qql] at e
   obtain ⟨c, hc⟩ := h.ms.ivAt e
   exact .inr ⟨c, 24, hc, by decide, by decide, by decide, by decide, by decide⟩
theorem xJ.call1 (h : xJ W0 T X V B lv iv ev tv cs v st w) (hS : MS T X true lv iv st' w') (a : aB [X] w w') : xJ W0 T X V B lv iv ev tv cs v st' w' := h.call hS (a.more (by simp)) fun _ hk => .inl hk
theorem xJ.step (h : xJ W0 T X V B lv iv ev tv cs v st w) (b : Below w.heap.size w w') : xJ W0 T X V B lv iv ev tv cs v st w' := h.call1 (h.ms.step b) (aB.of_below b)
theorem xJ.pushE (h : xJ W0 T X V B lv iv ev tv cs v st w) (hg : w.grownBy w' ev.ownBlock) {u : Value} {n : Nat} {x : zC} {hv gv yv : Value} (hn : n = v.evs.length + 1) (ho : w'.ownsRow B 31 13 u n (cs ++ (x.cells hv gv yv).toList)) (r : hC B hv gv yv x.heads x.graces x.lyr w) :
  xJ W0 T X V B lv iv u tv (cs ++ (x.cells hv gv yv).toList) ⟨v.evs ++ [x], v.tups⟩ st (w'.setCell ⟨V, 0, none⟩ u) := by
 have lW := h.lW
 have lV := h.vo.lV
 have p1 : MS T X true lv iv st w' := h.ms.grownT hg fun k hk => by
  obtain ⟨c, hc⟩ := cA h.vo.oe hk
  exact ⟨c, _, hc, by decide, by decide, by decide⟩
 have hV' : w'.heap[V]? = some (.cells #[ev, tv] 48 (0, 0)) := (hg.block V h.vo.lt fun e => by have := (h.vo.oe.lt V e.symm).1; omega).trans h.vo.hV
 have b1 : lG W0 (X :: iv.ownBlock.toList) w' := h.bas.row (cs := ev.ownBlock.toList) ⟨hg.os, hg.tape, hg.output, hg.size, fun k hk hb => hg.block k hk fun e => hb (by rw [<- e]; simp)⟩ fun k hk => by
  rw [qql] at hk
  have := (h.vo.oe.lt k hk).1
  omega
 exact ⟨p1.asideT hV' ⟨by decide, by decide, by decide⟩ (eC w' V 0 u) (aE w' V 0 u), b1.row ((aB.refl [V] w').setCell (p := ⟨V, 0, none⟩) (.inl (by simp)) u) (fun k hk => by simp at hk; omega), h.vo.pushE hg hn ho r, h.lX, h.nX, h.lW⟩
theorem xJ.pushT (h : xJ W0 T X V B lv iv ev tv cs v st w) (hg : w.grownBy w' tv.ownBlock) {u : Value} {n : Nat} {x : fZ} (hn : n = v.tups.length + 1) (ho : w'.ownsRow B 100 4 u n (cH fZ.cells v.tups ++ x.cells.toList)) :
  xJ W0 T X V B lv iv ev u cs ⟨v.evs, v.tups ++ [x]⟩ st (w'.setCell ⟨V, 1, none⟩ u) := by
 have lW := h.lW
 have lV := h.vo.lV
 have p1 : MS T X true lv iv st w' := h.ms.grownT hg fun k hk => by
  obtain ⟨c, hc⟩ := cA h.vo.ot hk
  exact ⟨c, _, hc, by decide, by decide, by decide⟩
 have hV' : w'.heap[V]? = some (.cells #[ev, tv] 48 (0, 0)) := (hg.block V h.vo.lt fun e => by have := (h.vo.ot.lt V e.symm).1; omega).trans h.vo.hV
 have b1 : lG W0 (X :: iv.ownBlock.toList) w' := h.bas.row (cs := tv.ownBlock.toList) ⟨hg.os, hg.tape, hg.output, hg.size, fun k hk hb => hg.block k hk fun e => hb (by rw [<- e]; simp)⟩ fun k hk => by
  rw [qql] at hk
  have := (h.vo.ot.lt k hk).1
  omega
 exact ⟨p1.asideT hV' ⟨by decide, by decide, by decide⟩ (eC w' V 1 u) (aE w' V 1 u), b1.row ((aB.refl [V] w').setCell (p := ⟨V, 1, none⟩) (.inl (by simp)) u) (fun k hk => by simp at hk; omega), h.vo.pushT hg hn ho, h.lX, h.nX, h.lW⟩
theorem xJ.setT {g n cap : Nat} (h : xJ W0 T X V B lv iv ev (.slice (some ⟨g, 0, none⟩) n cap) cs v st w) {i : Nat} {x : fZ} (hx : v.tups[i]? = some x) (c : Int) :
  xJ W0 T X V B lv iv ev (.slice (some ⟨g, 0, none⟩) n cap) cs ⟨v.evs, v.tups.set i ⟨x.first, c, x.actual, x.normal⟩⟩ st (w.setCell ⟨g, i * 4 + 1, none⟩ (I c)) := by
 have lW := h.lW
 have lV := h.vo.lV
 have hlo := (h.vo.ot.lt g rfl).1
 obtain ⟨o, ho⟩ := cA h.vo.ot (k := g) rfl
 exact ⟨h.ms.asideT ho ⟨by decide, by decide, by decide⟩ (eC w g _ _) (aE w g _ _), h.bas.row ((aB.refl [g] w).setCell (p := ⟨g, i * 4 + 1, none⟩) (.inl (by simp)) _) (fun k hk => by simp at hk; omega), h.vo.setT hx c, h.lX, h.nX, h.lW⟩
theorem xJ.cell0 (h : xJ W0 T X V B lv iv ev tv cs v st w) : w.cell? ⟨V, 0, none⟩ = some ev := h.vo.cells.1
theorem xJ.cell1 (h : xJ W0 T X V B lv iv ev tv cs v st w) : w.cell? ⟨V, 1, none⟩ = some tv := h.vo.cells.2.1
end
def WX (W0 : World) (T : List bD) (X V B : Nat) (lv : Value) (k : Nat) : Prop :=
 ∀ (st : aU) (v : gJ) (least : Int) (iv ev tv : Value) (cs : List Value) (w : World), need T st <= k -> v.evs.length + need T st <= 4001 -> v.tups.length + need T st <= 4001 -> xJ W0 T X V B lv iv ev tv cs v st w ->
  Calls Tryz.prog 14 #[.pointer (some ⟨X, 0, none⟩), .pointer (some ⟨V, 0, none⟩), I least] w fun r w' => r = .returned (.tuple #[]) /\
   ∃ iv' ev' tv' cs', xJ W0 T X V B lv iv' ev' tv' cs' (bP aD T 0 k v least 0 st).1 (bP aD T 0 k v least 0 st).2 w' /\ RS [X, V] [ev, tv, iv] [ev', tv', iv'] w w'
end Go.Proofs.YtgkhemnmcgicnaaGreatDoor
