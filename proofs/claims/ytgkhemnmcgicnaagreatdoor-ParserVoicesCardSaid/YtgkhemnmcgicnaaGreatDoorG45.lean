/- Towards the law ParserVoices, true for every text (no condition): one part of the proof. -/
import Derived.Test.YtgkhemnmcgicnaaGreatDoorG01
import Derived.Test.YtgkhemnmcgicnaaGreatDoorG44
namespace Go.Proofs.YtgkhemnmcgicnaaGreatDoor
set_option maxHeartbeats 32000000
set_option maxRecDepth 100000
open Go.RowKit
def EJ : Obj := .cells #[I 0, I 0, I 0, I 0] 100
def AT (w : World) (X : Nat) (a b c d : Value) : World := (((w.setCell ⟨X, 0, none⟩ a).setCell ⟨X, 1, none⟩ b).setCell ⟨X, 2, none⟩ c).setCell ⟨X, 3, none⟩ d
section
variable {w : World} {X : Nat} (a b c d : Value)
theorem DN {T : TypeId} {c0 c1 c2 c3 : Value} (h : w.heap[X]? = some (.cells #[c0, c1, c2, c3] T (0, 0))) : (AT w X a b c d).heap[X]? = some (.cells #[a, b, c, d] T (0, 0)) := by
 have h0 : (w.setCell ⟨X, 0, none⟩ a).heap[X]? = some (.cells #[a, c1, c2, c3] T (0, 0)) := Lib.heap_setCell_same (i := 0) h a
 have h1 : ((w.setCell ⟨X, 0, none⟩ a).setCell ⟨X, 1, none⟩ b).heap[X]? = some (.cells #[a, b, c2, c3] T (0, 0)) := Lib.heap_setCell_same (i := 1) h0 b
 have h2 : (((w.setCell ⟨X, 0, none⟩ a).setCell ⟨X, 1, none⟩ b).setCell ⟨X, 2, none⟩ c).heap[X]? = some (.cells #[a, b, c, c3] T (0, 0)) := Lib.heap_setCell_same (i := 2) h1 c
 exact Lib.heap_setCell_same (i := 3) h2 d
theorem oU (k : Nat) (hk : k ≠ X) : (AT w X a b c d).heap[k]? = w.heap[k]? := by
 have s : ∀ (u : World) (i : Nat) (v : Value), (u.setCell ⟨X, i, none⟩ v).heap[k]? = u.heap[k]? := fun u i v => qg u ⟨X, i, none⟩ v k hk
 unfold AT
 simp only [s]
theorem DP {bs : List Nat} {a0 : World} (h : aB bs a0 w) (hX : a0.heap.size <= X) : aB bs a0 (AT w X a b c d) := by
 have s : ∀ {u : World}, aB bs a0 u -> ∀ (i : Nat) (v : Value), aB bs a0 (u.setCell ⟨X, i, none⟩ v) := fun hu i v => hu.setCell (p := ⟨X, i, none⟩) (.inr hX) v
 exact s (s (s (s h 0 a) 1 b) 2 c) 3 d
end
theorem iT {w : World} {b : Nat} {T : TypeId} {c0 c1 c2 c3 : Value} (h : w.heap[b]? = some (.cells #[c0, c1, c2, c3] T (0, 0))) :
  (w.cell? ⟨b, 0, none⟩ = some c0 /\ w.cell? ⟨b, 1, none⟩ = some c1 /\ w.cell? ⟨b, 2, none⟩ = some c2 /\ w.cell? ⟨b, 3, none⟩ = some c3) /\
  w.frozen? ⟨b, 0, none⟩ = false /\ w.frozen? ⟨b, 1, none⟩ = false /\ w.frozen? ⟨b, 2, none⟩ = false /\ w.frozen? ⟨b, 3, none⟩ = false := by
 refine ⟨⟨?_, ?_, ?_, ?_⟩, Lib.frozen_of_heap h 0, Lib.frozen_of_heap h 1, Lib.frozen_of_heap h 2, Lib.frozen_of_heap h 3⟩ <;> (rw [Lib.cell_of_heap h]; rfl)
theorem cJ {w : World} {B : Nat} {e : TypeId} {size g n cap m : Nat} {xs : List Value} (h : w.ownsRow B e size (.slice (some ⟨g, 0, none⟩) n cap) m xs) {i : Nat} {u : Value} (hu : xs[i]? = some u) : w.cell? ⟨g, i, none⟩ = some u /\ ∀ j, w.frozen? ⟨g, j, none⟩ = false := by
 rcases h.2 with ⟨h0, _⟩ | ⟨g', cap', cur, e1, _, hg, _, _, _, htk⟩
 ·cases h0
 ·injection e1 with e1 _ _
  injection e1 with e1
  injection e1 with e1 _ _
  subst e1
  refine ⟨?_, fun j => Lib.frozen_of_heap hg j⟩
  rw [Lib.cell_of_heap hg]
  rw [<- htk, List.getElem?_take] at hu
  split at hu
  ·simpa using hu
  ·cases hu
theorem PU (x : fZ) : ∀ (l : List fZ) (i : Nat), l[i]? = some x -> (cH fZ.cells l)[i * 4 + 1]? = some (I x.count)
 | [], i, h => by simp at h
 | y :: l, 0, h => by
  simp only [qy, qm] at h
  subst h
  simp [cH, fZ.cells]
 | y :: l, i + 1, h => by
  have h : l[i]? = some x := by simpa using h
  have ih := PU x l i h
  have e : cH fZ.cells (y :: l) = I y.first :: I y.count :: I y.actual :: I y.normal :: cH fZ.cells l := by simp [cH, fZ.cells]
  rw [e, show (i + 1) * 4 + 1 = i * 4 + 1 + 1 + 1 + 1 + 1 by omega, qqa, qqa, qqa, qqa, ih]
def zA (O : A7) (T : List bD) (q : Int) (k : Nat) (v : gJ) (s : aU) : gJ × aU :=
 let a := bS T 1 32 (s.next 1)
 let b := bS T 1 32 (bE T ⟨#[58]⟩ a.2)
 let r := bP O T q k ⟨v.evs, v.tups ++ [⟨v.evs.length, 0, a.1, b.1⟩]⟩ 1 0 b.2
 (⟨r.1.evs, r.1.tups.set v.tups.length ⟨v.evs.length, (r.1.evs.length : Int) - v.evs.length, a.1, b.1⟩⟩, bE T ⟨#[41]⟩ r.2)
theorem F1 {O : A7} {T : List bD} {q : Int} {k : Nat} {v : gJ} {least n : Int} {s : aU} (hg : s.good = true) (hb : isS T ⟨#[40]⟩ s = true) : bP O T q (k + 1) v least n s = bP O T q k (zA O T q k v s).1 least (n + 1) (zA O T q k v s).2 := by
 rw [bP, if_neg (by rw [hg]; decide), if_pos hb]
 rfl
theorem MD {O : A7} {T : List bD} {q : Int} {k : Nat} {v : gJ} {least n : Int} {s : aU} (hg : s.good = true) (hb : isS T ⟨#[40]⟩ s = false) (he : jN T s = true) :
  bP O T q (k + 1) v least n s = bP O T q k ⟨v.evs ++ [(eX O T q s).1], v.tups⟩ least (n + 1) (eX O T q s).2 := by
 rw [bP, if_neg (by rw [hg]; decide), if_neg (by rw [hb]; decide), if_pos he]
theorem F2 {O : A7} {T : List bD} {q : Int} {k : Nat} {v : gJ} {least n : Int} {s : aU} (hg : s.good = true) (hb : isS T ⟨#[40]⟩ s = false) (he : jN T s = false) :
  bP O T q (k + 1) v least n s = (v, if n < least then bF T 13 s else s) := by
 rw [bP, if_neg (by rw [hg]; decide), if_neg (by rw [hb]; decide), if_neg (by rw [he]; decide)]
def VQ (W0 : World) (T : List bD) (Y M V B k : Nat) : Prop :=
 ∀ (st : aU) (v : gJ) (least : Int) (ev tv : Value) (cs : List Value) (w : World), need T st <= k -> v.evs.length + need T st <= 4001 -> v.tups.length + need T st <= 4001 -> xU W0 T Y M V B ev tv cs v st w ->
  Calls Tryz.prog 35 #[.pointer (some ⟨Y, 0, none⟩), .pointer (some ⟨V, 0, none⟩), I least] w fun r w' => r = .returned (.tuple #[]) /\
   ∃ ev' tv' cs', xU W0 T Y M V B ev' tv' cs' (bP aD T 7 k v least 0 st).1 (bP aD T 7 k v least 0 st).2 w' /\ VS [Y, M, V] ev tv ev' tv' w w'
theorem xU.cell0 {W0 : World} {T : List bD} {Y M V B : Nat} {ev tv : Value} {cs : List Value} {v : gJ} {st : aU} {w : World} (h : xU W0 T Y M V B ev tv cs v st w) : w.cell? ⟨V, 0, none⟩ = some ev := h.vo.cells.1
theorem xU.cell1 {W0 : World} {T : List bD} {Y M V B : Nat} {ev tv : Value} {cs : List Value} {v : gJ} {st : aU} {w : World} (h : xU W0 T Y M V B ev tv cs v st w) : w.cell? ⟨V, 1, none⟩ = some tv := h.vo.cells.2.1
section
variable {W0 : World} {T : List bD} {Y M V B k : Nat} {ev tv : Value} {cs : List Value} {v : gJ} {st : aU} {w : World}
theorem VT (IH : VQ W0 T Y M V B k) (hb : isS T ⟨#[40]⟩ st = true) (hn : need T st <= k + 1) (hle : v.evs.length + need T st <= 4001) (hlt : v.tups.length + need T st <= 4001) (h : xU W0 T Y M V B ev tv cs v st w) :
  Calls Tryz.prog 77 #[.pointer (some ⟨Y, 0, none⟩), .pointer (some ⟨V, 0, none⟩)] w fun r w' => r = .returned (.tuple #[]) /\
   ∃ ev' tv' cs', xU W0 T Y M V B ev' tv' cs' (zA aD T 7 k v st).1 (zA aD T 7 k v st).2 w' /\ VS [Y, M, V] ev tv ev' tv' w w' := by
 obtain ⟨i9, hi9, hz9⟩ : ∃ i, Tryz.prog.info? 100 = some i /\ ∃ z, i.zero = some z /\ z.cells.size = 4 /\ i.size = 4 /\ i.bytes = 32 := by
  have := Tryz.infotups
  cases hi : Tryz.prog.info? 100 with
  | none => rw [hi] at this; cases this
  | some i =>
   rw [hi] at this
   simp only [qqh, qm, qz] at this
   obtain ⟨h1, h2, h3⟩ := this
   cases hz : i.zero with
   | none => rw [hz] at h1; cases h1
   | some z => rw [hz] at h1; simp only [qqh, qm] at h1; exact ⟨i, rfl, z, hz, h1, h2, h3⟩
 obtain ⟨z9, hz9, hc9, hs9, hy9⟩ := hz9
 have h0 := tH hb
 have n1 := j5 (T := T) (iS st) h0
 have n2 := dZ (T := T) (jH T 1 32 (st.next 1)).back
 have n3 := dZ (T := T) (gH T ⟨#[58]⟩ (bS T 1 32 (st.next 1)).2).back
 have n4 := dZ (T := T) (jH T 1 32 (bE T ⟨#[58]⟩ (bS T 1 32 (st.next 1)).2)).back
 have x1 := iR h.ps ⟨#[40]⟩
 rw [show bE T ⟨#[40]⟩ st = st.next 1 by unfold bE; rw [if_pos hb]] at x1
 have x2 := fun w' (h : PS T Y M true (st.next 1) w') => xN h 1 32
 have hvn := j6 aD T 7 k ⟨v.evs, v.tups ++ [⟨v.evs.length, 0, (bS T 1 32 (st.next 1)).1, (bS T 1 32 (bE T ⟨#[58]⟩ (bS T 1 32 (st.next 1)).2)).1⟩]⟩ 1 0 (bS T 1 32 (bE T ⟨#[58]⟩ (bS T 1 32 (st.next 1)).2)).2
 have hva := MC (O := aD) (T := T) (q := 7) (k := k) (evs := v.evs) (tups := v.tups) (x := ⟨v.evs.length, 0, (bS T 1 32 (st.next 1)).1, (bS T 1 32 (bE T ⟨#[58]⟩ (bS T 1 32 (st.next 1)).2)).1⟩) (least := 1) (n := 0) (s := (bS T 1 32 (bE T ⟨#[58]⟩ (bS T 1 32 (st.next 1)).2)).2)
 unfold zA
 simp only
 generalize st.next 1 = s1 at x1 x2 n1 n2 n3 n4 hvn hva |-
 generalize bS T 1 32 s1 = a at x2 n2 n3 n4 hvn hva |-
 obtain ⟨na, s2⟩ := a
 simp only at x2 n2 n3 n4 hvn hva |-
 have x3 := fun w' (h : PS T Y M true s2 w') => iR h ⟨#[58]⟩
 generalize bE T ⟨#[58]⟩ s2 = s3 at x3 n3 n4 hvn hva |-
 have x4 := fun w' (h : PS T Y M true s3 w') => xN h 1 32
 generalize bS T 1 32 s3 = b at x4 n4 hvn hva |-
 obtain ⟨nb, s4⟩ := b
 simp only at x4 n4 hvn hva |-
 have x5 := fun ev tv cs w' (h' : xU W0 T Y M V B ev tv cs ⟨v.evs, v.tups ++ [⟨v.evs.length, 0, na, nb⟩]⟩ s4 w') => IH s4 ⟨v.evs, v.tups ++ [⟨v.evs.length, 0, na, nb⟩]⟩ 1 ev tv cs w' (by omega) (by simp only; omega) (by simp only [qi, qqt]; omega) h'
 generalize bP aD T 7 k ⟨v.evs, v.tups ++ [⟨v.evs.length, 0, na, nb⟩]⟩ 1 0 s4 = r5 at x5 hvn hva |-
 obtain ⟨v5, s5⟩ := r5
 simp only [qi, qqt] at x5 hvn hva |-
 have x6 := fun w' (h : PS T Y M true s5 w') => iR h ⟨#[41]⟩
 generalize bE T ⟨#[41]⟩ s5 = s6 at x6 |-
 have hN := aQ (And.intro hvn.1 hva)
 clear IH hvn hva hn
 obtain ⟨ao, ca, rfl⟩ := bX h.vo.oe
 obtain ⟨bo, cb, rfl⟩ := bX h.vo.ot
 have lE : v.evs.length <= 4001 := by omega
 have lT : v.tups.length <= 4000 := by omega
 have l5 : v5.evs.length <= 4001 := by have := hN.out.1; omega
 clear n1 n2 n3 n4 h0 hle hlt hb
 have lY := h.ps.lt
 have lM := h.ps.ltM
 have lV := h.vo.lt
 have nYV := h.nY
 have nMV := h.nM
 go_enter Tryz.func77, Tryz.ntmps77
 go_wp2_with (go_at_call 54; (with_reducible refine x1.mono ?_))
 rintro r w1 ⟨rfl, hS1, a1⟩
 have H1 := h.call hS1 a1
 have sz1 := a1.size
 clear x1 hS1 h
 have H1d := H1.step (qa _ w1).drew
 have c1 := H1d.cell0
 have l1V := H1.vo.lt
 have c1a : (w1.alloc (.cells #[I 0, I 0, I 0, I 0] 100)).drew.cell? ⟨V, 0, none⟩ = some (.slice ao v.evs.length ca) := (qqp w1 _ ⟨V, 0, none⟩ l1V).trans H1.cell0
 have c1b : (w1.drew.alloc (.cells #[I 0, I 0, I 0, I 0] 100)).cell? ⟨V, 0, none⟩ = some (.slice ao v.evs.length ca) := (qqp w1.drew _ ⟨V, 0, none⟩ l1V).trans c1
 have hzt : (w1.drew.alloc EJ).heap[w1.heap.size]? = some EJ := qc w1.drew EJ
 have hnE : w1.heap.size ∉ [Y, M] := by simp; omega
 go_wp2
 go_cut [4] from 5 (fun s4' wc => ∃ E, s4' = .pointer (some ⟨E, 0, none⟩) /\ w1.heap.size <= E /\ wc.heap[E]? = some (.cells #[I v.evs.length, I 0, I na, I 0] 100 (0, 0)) /\
   PS T Y M true s2 wc /\ aB [Y, M] w1 wc)
 case first =>
  go_region_held3 (fun w' => w'.cell? ⟨V, 0, none⟩ = some (.slice ao v.evs.length ca)) (go_keep) (first
   | (go_at_call 114; refine (x2 _ (by first | exact H1d.ps | exact H1d.ps.step ((qa _ _).alloc (qb _) _))).mono ?_; rintro r w2 ⟨rfl, hS2, a2⟩; (first | (have H2 := H1d.call hS2 a2) | (have H2 := (H1d.step ((qa _ _).alloc (qb _) EJ)).call hS2 a2; have hx := a2.at hzt hnE; obtain ⟨⟨q0, q1, q2, q3⟩, r0, r1, r2, r3⟩ := iT hx; have cf : (AT w2 w1.heap.size (I v.evs.length) (I 0) (I na) (I 0)).cell? ⟨V, 0, none⟩ = some (.slice ao v.evs.length ca) := (by rw [Lib.cell_of_heap ((oU (w := w2) (X := w1.heap.size) (I v.evs.length) (I 0) (I na) (I 0) V (by omega)).trans H2.vo.hV)]; rfl); unfold AT at cf)); have c2 := H2.cell0))
  ·go_wp2
   go_meet
   case rel =>
    have aw := (aB.of_below (bs := [Y, M]) (qa w1.heap.size w1).drew).trans a2
    exact ⟨w2.heap.size, rfl, aw.size, qc w2 _, hS2.step ((qa _ _).alloc (qb _) _), aw.alloc _⟩
  ·go_wp2
   go_meet
   case rel =>
    have aw := (aB.of_below (bs := [Y, M]) ((qa w1.heap.size w1).drew.alloc (qb _) EJ)).trans a2
    exact ⟨w1.heap.size, rfl, qb _, DN _ _ _ _ hx, hS2.put (R := w1.heap.size) (by omega) (by omega) hx (by decide) (fun j hj => oU _ _ _ _ j hj), DP _ _ _ _ aw (qb _)⟩
 case rest =>
  obtain ⟨E, rfl, hE1, hE3, hS3, a13⟩ := hcut
  clear x2 H1d c1 c1a c1b hzt hnE
  have x33 := x3 _ hS3
  have nEY : E ≠ Y := by omega
  have nEM : E ≠ M := by omega
  go_wp2_with (go_at_call 54; (with_reducible refine x33.mono ?_))
  rintro r w4 ⟨rfl, hS4, a4⟩
  have hE4 := a4.at hE3 (by simp; omega)
  have a14 := a13.trans a4
  have x44 := x4 _ hS4
  clear x3 x33 x4 hS3 hE3 a13 a4
  go_wp2_with (go_at_call 114; (with_reducible refine x44.mono ?_))
  rintro r w5 ⟨rfl, hS5, a5⟩
  have hE5 := a5.at hE4 (by simp; omega)
  have a15 := a14.trans a5
  clear x44 hS4 hE4 a14 a5
  obtain ⟨⟨q0, q1, q2, q3⟩, r0, r1, r2, r3⟩ := iT hE5
  have hS6 := hS5.put (R := E) (w' := w5.setCell ⟨E, 3, none⟩ (I nb)) nEY nEM hE5 (by decide) (fun j hj => aE w5 E 3 _ j hj)
  have hE6 : (w5.setCell ⟨E, 3, none⟩ (I nb)).heap[E]? = some (.cells #[I v.evs.length, I 0, I na, I nb] 100 (0, 0)) := Lib.heap_setCell_same (i := 3) hE5 (I nb)
  have a16 := a15.setCell (p := ⟨E, 3, none⟩) (.inr (by show w1.heap.size <= E; omega)) (I nb)
  generalize hW6 : w5.setCell ⟨E, 3, none⟩ (I nb) = w6 at hS6 hE6 a16
  have H6 := H1.call hS6 a16
  have cV1 := H6.cell1
  have HW6 := aQ hW6
  rw [<- hW6] at cV1
  clear hW6 hS5 hE5 a15
  go_wp2
  rw [HW6.out] at cV1 |-
  have H6d := H6.step (qa _ w6).drew
  have H6a := H6.step ((qa w6.heap.size w6).drew.alloc (qb _) (.cells #[I v.evs.length, I 0, I na, I nb] 100))
  have lE6 := aA hE6
  have lV6 := H6.vo.lt
  have hB6 := H6.vo.lB
  have ltB : ∀ k, (Value.slice bo v.tups.length cb).ownBlock = some k -> k < w1.heap.size := fun k hk => (H1.vo.ot.lt k hk).2
  have nVE : V ≠ E := by have := H1.vo.lt; omega
  have ntV : ∀ k, (Value.slice bo v.tups.length cb).ownBlock = some k -> k ≠ V := fun k hk => by have := (H1.vo.ot.lt k hk).1; have := H1.vo.lV; omega
  go_cut [] from 6 (fun wc => ∃ tv', xU W0 T Y M V B (.slice ao v.evs.length ca) tv' cs ⟨v.evs, v.tups ++ [⟨v.evs.length, 0, na, nb⟩]⟩ s4 wc /\ VS [Y, M, V] (.slice ao v.evs.length ca) (.slice bo v.tups.length cb) (.slice ao v.evs.length ca) tv' w6 wc /\
    wc.heap[E]? = some (.cells #[I v.evs.length, I 0, I na, I nb] 100 (0, 0)))
  case first =>
   have cd := H6d.cell1
   have ca1 := H6a.cell1
   obtain ⟨⟨p0, p1, p2, p3⟩, _⟩ := iT (w := w6.drew) hE6
   go_region_law ((refine step_append_lies _ (by rfl) _ _ _ (by rfl) B 100 i9 _ 4 32 Tryz.underlying46 hi9 hz9 hs9 hy9 hc9 (by omega) (.slice bo v.tups.length cb) v.tups.length (cH fZ.cells v.tups) (by rfl) H6a.vo.ot ⟨w6.heap.size, 0, none⟩ 1 1 #[I v.evs.length, I 0, I na, I nb].toList (by rfl) (by rfl) (World.news_of_block (cs := #[I v.evs.length, I 0, I na, I nb]) (t := 100) (fr := (0, 0)) (qc _ _)) (by simp [Value.oneCell']) (by omega) (by simp only [maxLen]; omega) (by omega) (by simp; omega) (w6.heap.size + 1) (by simp) ?_; intro gg cap w7 hown hgrow hat hgl; have hV7 := (hgrow.block V H6a.vo.lt (fun e => ntV V e.symm rfl)).trans H6a.vo.hV; have q1 := Lib.cell_of_heap hV7 1; have f1 := Lib.frozen_of_heap hV7 1; simp only [qqk, qqa, qy] at q1))
   all_goals go_wp2
   all_goals go_meet
   all_goals
    have b6a := (qa w6.heap.size w6).drew.alloc (qb _) (.cells #[I v.evs.length, I 0, I na, I nb] 100)
    exact ⟨_, H6a.pushT hgrow (n := v.tups.length + 1) (x := ⟨v.evs.length, 0, na, nb⟩) rfl hown,
     ((VS.of_below b6a).trans (VS.growT hgrow (hat.imp id (fun e => by rw [e]; simp)))).trans (VS.set V 1 _ (by simp)),
     (aE w7 V 1 _ E nVE.symm).trans ((hgrow.block E (qk lE6 b6a.size) (fun e => by have := ltB E e.symm; omega)).trans ((b6a.block E lE6).trans hE6))⟩
  case rest =>
   obtain ⟨tv7, H7, V7, hE7⟩ := hcut
   have xv := x5 _ _ _ _ H7
   clear x5
   go_wp2_with (go_at_call 35; (with_reducible refine xv.mono ?_))
   rintro r w9 ⟨rfl, ev9, tv9, cs9, H9, V9⟩
   have hE9 := V9.aw.at hE7 (fun hm => by
    rcases qqb.1 hm with hm | hm
    ·simp only [qqj, qqv, or_false] at hm; omega
    ·rcases qqb.1 hm with hm | hm
     ·rw [qql] at hm
      have := (H1.vo.oe.lt E hm).2
      omega
     ·rw [qql] at hm
      rcases V7.ht E hm with h1 | h1
      ·have := ltB E h1; omega
      ·omega)
   have x66 := x6 _ H9.ps
   have V19 := ((VS.of_away (a1.more (cs := [Y, M, V]) (by simp))).trans (VS.of_away (a16.more (cs := [Y, M, V]) (by simp)))).trans (V7.trans V9)
   obtain ⟨ao9, ca9, rfl⟩ := bX H9.vo.oe
   have hx9 : v5.tups[v.tups.length]? = some ⟨v.evs.length, 0, na, nb⟩ := hN.out.2
   have hi9' : v.tups.length < v5.tups.length := (qqd.1 hx9).1
   obtain ⟨g9, cb9, rfl⟩ : ∃ g cap, tv9 = .slice (some ⟨g, 0, none⟩) v5.tups.length cap := by
    rcases H9.vo.ot.2 with ⟨_, h0⟩ | ⟨g, cap, cur, e1, _⟩
    ·omega
    ·exact ⟨g, cap, e1⟩
   have hgE : E ≠ g9 := fun e => by
    rcases (V7.trans V9).ht g9 rfl with h1 | h1
    ·have := ltB g9 h1; omega
    ·omega
   clear xv V7 V9 hE7 H7 H6 H6a H6d H1 hE6 hS6 a16 cV1
   go_wp2_with (go_at_call 54; (with_reducible refine x66.mono ?_))
   rintro r w10 ⟨rfl, hS10, a10⟩
   have hE10 := a10.at hE9 (by simp; omega)
   have H10 := H9.call hS10 a10
   have V10 := V19.trans (VS.of_away (a10.more (cs := [Y, M, V]) (by simp)))
   clear x66 x6 hS10 a10 hE9 H9 V19
   have H10d := H10.step (qa _ w10).drew
   have k0 := H10d.cell0
   have k1 := H10d.cell1
   obtain ⟨⟨p0, p1, p2, p3⟩, _⟩ := iT (w := w10.drew) hE10
   obtain ⟨kc, kf⟩ := cJ H10d.vo.ot (PU _ _ _ hx9)
   have kfi := kf (v.tups.length * 4 + 1)
   have hwr : IntKind.i64.wrap ((v5.evs.length : Int) - (v.evs.length : Int)) = (v5.evs.length : Int) - (v.evs.length : Int) := IntWalk.i64_in _ (by omega)
   have hii : (v.tups.length : Int) < (v5.tups.length : Int) := by omega
   have H11 := H10.setT hx9 ((v5.evs.length : Int) - v.evs.length)
   have s0 := (H11.step (qa _ _).drew).cell0
   have s1 := (H11.step (qa _ _).drew).cell1
   have s2 : (w10.setCell ⟨g9, v.tups.length * 4 + 1, none⟩ (I ((v5.evs.length : Int) - v.evs.length))).drew.cell? ⟨E, 0, none⟩ = some (I v.evs.length) := by
    show (w10.setCell ⟨g9, v.tups.length * 4 + 1, none⟩ (I ((v5.evs.length : Int) - v.evs.length))).cell? ⟨E, 0, none⟩ = _
    rw [Lib.cell_of_heap ((aE w10 g9 _ _ E hgE).trans hE10)]; rfl
   go_wp2
   go_region_held3 (fun w' => w'.cell? ⟨V, 0, none⟩ = some (.slice ao9 v5.evs.length ca9) /\ w'.cell? ⟨V, 1, none⟩ = some (.slice (some ⟨g9, 0, none⟩) v5.tups.length cb9) /\ w'.cell? ⟨E, 0, none⟩ = some (I v.evs.length)) (go_keep) (fail)
   go_wp2
   go_end0
   exact ⟨rfl, _, _, _, H11.step (qa _ _).drew, (V10.trans (VS.setT (a := ⟨g9, 0, none⟩) _ _)).trans (VS.of_below (qa _ _).drew)⟩
end
theorem qY (O : A7) (T : List bD) (q : Int) : ∀ (k : Nat) (v : gJ) (least n : Int) (s : aU), gV s (bP O T q k v least n s).2
 | 0, _, _, _, s => gV.refl s
 | k + 1, v, least, n, s => by
  rw [bP]
  split
  ·exact gV.refl s
  ·split
   ·simp only
    exact ((((((lJ s 1).trans (jH T 1 32 _).back).trans (gH T _ _).back).trans (jH T 1 32 _).back).trans (qY O T q k _ 1 0 _)).trans (gH T _ _).back).trans (qY O T q k _ least (n + 1) _)
   ·split
    ·exact (qX O T q s).back.trans (qY O T q k _ least (n + 1) _)
    ·simp only
     split
     ·exact (m6 _ _ _).back
     ·exact gV.refl s
theorem ME {O : A7} {T : List bD} {q : Int} {k : Nat} {v : gJ} {s : aU} (hb : isS T ⟨#[40]⟩ s = true) :
  (zA O T q k v s).1.evs.length + need T (zA O T q k v s).2 <= v.evs.length + need T s /\ (zA O T q k v s).1.tups.length + need T (zA O T q k v s).2 <= v.tups.length + need T s /\ need T (zA O T q k v s).2 < need T s := by
 have h0 := tH hb
 have h1 := j5 (T := T) (iS s) h0
 have h2 := dZ (T := T) (jH T 1 32 (s.next 1)).back
 have h3 := dZ (T := T) (gH T ⟨#[58]⟩ (bS T 1 32 (s.next 1)).2).back
 have h4 := dZ (T := T) (jH T 1 32 (bE T ⟨#[58]⟩ (bS T 1 32 (s.next 1)).2)).back
 unfold zA
 simp only
 have i1 := j6 O T q k ⟨v.evs, v.tups ++ [⟨v.evs.length, 0, (bS T 1 32 (s.next 1)).1, (bS T 1 32 (bE T ⟨#[58]⟩ (bS T 1 32 (s.next 1)).2)).1⟩]⟩ 1 0 (bS T 1 32 (bE T ⟨#[58]⟩ (bS T 1 32 (s.next 1)).2)).2
 have i2 := dZ (T := T) (qY O T q k ⟨v.evs, v.tups ++ [⟨v.evs.length, 0, (bS T 1 32 (s.next 1)).1, (bS T 1 32 (bE T ⟨#[58]⟩ (bS T 1 32 (s.next 1)).2)).1⟩]⟩ 1 0 (bS T 1 32 (bE T ⟨#[58]⟩ (bS T 1 32 (s.next 1)).2)).2)
 generalize bP O T q k ⟨v.evs, v.tups ++ [⟨v.evs.length, 0, (bS T 1 32 (s.next 1)).1, (bS T 1 32 (bE T ⟨#[58]⟩ (bS T 1 32 (s.next 1)).2)).1⟩]⟩ 1 0 (bS T 1 32 (bE T ⟨#[58]⟩ (bS T 1 32 (s.next 1)).2)).2 = r at i1 i2 |-
 have h5 := dZ (T := T) (gH T ⟨#[41]⟩ r.2).back
 simp only [qi, qqt] at i1
 simp only [List.length_set]
 refine ⟨?_, ?_, ?_⟩ <;> omega
section
variable {W0 : World} {T : List bD} {Y M V B : Nat}
theorem XR (K : Nat) : VQ W0 T Y M V B K := by
 induction K using Nat.strongRecOn with
 | ind K IHK =>
 intro st v least ev tv cs w hn hle hlt h
 obtain ⟨i9, hi9, hz9⟩ : ∃ i, Tryz.prog.info? 31 = some i /\ ∃ z, i.zero = some z /\ z.cells.size = 13 /\ i.size = 13 /\ i.bytes = 152 := by
  have := Tryz.infoevs
  cases hi : Tryz.prog.info? 31 with
  | none => rw [hi] at this; cases this
  | some i =>
   rw [hi] at this
   simp only [qqh, qm, qz] at this
   obtain ⟨h1, h2, h3⟩ := this
   cases hz : i.zero with
   | none => rw [hz] at h1; cases h1
   | some z => rw [hz] at h1; simp only [qqh, qm] at h1; exact ⟨i, rfl, z, hz, h1, h2, h3⟩
 obtain ⟨z9, hz9, hc9, hs9, hy9⟩ := hz9
 obtain ⟨tot, htot⟩ : ∃ tot, tot = bP aD T 7 K v least 0 st := ⟨_, rfl⟩
 rw [<- htot]
 have HT := aQ htot
 have IHS := aQ IHK
 have nYV := h.nY
 have nMV := h.nM
 clear htot IHK
 go_enter Tryz.func35, Tryz.ntmps35
 go_wp2
 go_loopg [6] K (fun gk s6 wr => ∃ (v' : gJ) (n : Int) (s' : aU) (ev' tv' : Value) (cs' : List Value), gk <= K /\ need T s' <= gk /\ bP aD T 7 gk v' least n s' = tot /\ s6 = I n /\ 0 <= n /\ n + need T s' <= 4001 /\
   v'.evs.length + need T s' <= 4001 /\ v'.tups.length + need T s' <= 4001 /\ xU W0 T Y M V B ev' tv' cs' v' s' wr /\ VS [Y, M, V] ev tv ev' tv' w wr)
 case atStart => exact ⟨v, 0, st, ev, tv, cs, qb _, hn, HT.out.symm, rfl, Int.le_refl _, by omega, hle, hlt, h, VS.refl _ _ _ _⟩
 case round =>
  clear h hn hle hlt HT
  obtain ⟨v', n, s', ev', tv', cs', hgK, hneed, htotal, rfl, hn0, hnb, hle, hlt, H, VW⟩ := hrel
  cases s' with
  | bad e l c =>
   obtain ⟨c4, hee⟩ := H.ps.errCell
   rw [qM] at htotal
   subst htotal
   go_wp2
   go_end0
   exact ⟨rfl, _, _, ⟨_, H⟩, VW⟩
  | ok p =>
   have c4 := H.ps.okCell
   have hpl := H.ps.atCell.2.2
   obtain ⟨j, rfl⟩ : ∃ j, gk = j + 1 := by
    have : 0 < need T (.ok p) := by unfold need; simp only; omega
    exact ⟨gk - 1, by omega⟩
   have m1 : IntKind.i64.wrap (n + 1) = n + 1 := IntWalk.i64_in _ (by omega)
   have xi := LY H.ps ⟨#[40]⟩
   cases hb : isS T ⟨#[40]⟩ (.ok p) with
   | true =>
    rw [hb] at xi
    rw [F1 rfl hb] at htotal
    have hnd := ME (O := aD) (q := 7) (k := j) (v := v') hb
    have xt := fun w2 (b : Below wr.heap.size wr w2) => VT (IHS.out j (by omega)) hb hneed hle hlt (H.step b)
    generalize zA aD T 7 j v' (.ok p) = q5 at htotal hnd xt
    have HQ := aQ (And.intro htotal hnd)
    have HV := aQ (And.intro H VW)
    clear htotal hnd hb H VW
    go_wp2_with (go_at_call 76; (with_reducible refine xi.mono ?_))
    intro rr w1; first | (intro he1 b1; subst he1) | rintro ⟨rfl, b1⟩
    have xt1 := xt _ b1
    clear xt
    go_wp2_with (go_at_call 77; (with_reducible refine xt1.mono ?_))
    rintro rr w2 ⟨rfl, ev2, tv2, cs2, H2, V2⟩
    go_wp2
    go_roundg j
    case measure => omega
    case rel =>
     obtain ⟨h1, h2, h3, h4⟩ := HQ.out
     exact ⟨q5.1, n + 1, q5.2, ev2, tv2, cs2, by omega, by omega, h1, rfl, by omega, by omega, by omega, by omega, H2, (HV.out.2.trans (VS.of_below b1)).trans V2⟩
   | false =>
    rw [hb] at xi
    have xb := fun w2 (b : Below wr.heap.size wr w2) => R3 (H.step b).ps
    cases he : jN T (.ok p) with
    | false =>
     rw [F2 rfl hb he] at htotal
     rw [he] at xb
     have xf := fun w2 (b : Below wr.heap.size wr w2) => kV (H.step b).ps 13 (by decide)
     by_cases hl : n < least
     ·rw [if_pos hl] at htotal
      subst htotal
      have HV := aQ (And.intro H VW)
      clear H VW hb he
      go_wp2_with (go_at_call 76; (with_reducible refine xi.mono ?_))
      intro rr w1; first | (intro he1 b1; subst he1) | rintro ⟨rfl, b1⟩
      have xb1 := xb _ b1
      clear xb
      go_wp2_with (go_at_call 78; (with_reducible refine xb1.mono ?_))
      intro rr w2; first | (intro he1 b2; subst he1) | rintro ⟨rfl, b2⟩
      have b12 := b1.trans (b2.mono b1.size)
      have xf1 := xf _ b12
      clear xf
      go_wp2_with (go_at_call 63; (with_reducible refine xf1.mono ?_))
      rintro rr w3 ⟨rfl, hS3, a3⟩
      go_wp2
      refine qf (results_none rfl _ _ _) rfl ?_
      exact ⟨rfl, _, _, ⟨_, (HV.out.1.step b12).call hS3 a3⟩, (HV.out.2.trans (VS.of_below b12)).trans (VS.of_away (a3.more (by simp)))⟩
     ·rw [if_neg hl] at htotal
      subst htotal
      have HV := aQ (And.intro H VW)
      clear H VW hb he
      go_wp2_with (go_at_call 76; (with_reducible refine xi.mono ?_))
      intro rr w1; first | (intro he1 b1; subst he1) | rintro ⟨rfl, b1⟩
      have xb1 := xb _ b1
      clear xb
      go_wp2_with (go_at_call 78; (with_reducible refine xb1.mono ?_))
      intro rr w2; first | (intro he1 b2; subst he1) | rintro ⟨rfl, b2⟩
      have b12 := b1.trans (b2.mono b1.size)
      clear xf
      go_wp2
      refine qf (results_none rfl _ _ _) rfl ?_
      exact ⟨rfl, _, _, ⟨_, HV.out.1.step b12⟩, HV.out.2.trans (VS.of_below b12)⟩
    | true =>
     rw [MD rfl hb he] at htotal
     rw [he] at xb
     have hnd := j5 (T := T) (qX aD T 7 (.ok p)) (tJ he)
     have xe := fun w2 (h : PS T Y M true (.ok p) w2) (b : lG W0 [Y, M] w2) => W8 h b
     generalize eX aD T 7 (.ok p) = q5 at htotal hnd xe
     obtain ⟨x5, s5⟩ := q5
     simp only at htotal hnd xe
     have HQ := aQ (And.intro htotal hnd)
     clear htotal hnd hb he
     obtain ⟨ao, ca, rfl⟩ := bX H.vo.oe
     go_wp2_with (go_at_call 76; (with_reducible refine xi.mono ?_))
     intro rr w1; first | (intro he1 b1; subst he1) | rintro ⟨rfl, b1⟩
     have xb1 := xb _ b1
     clear xb xi
     go_wp2_with (go_at_call 78; (with_reducible refine xb1.mono ?_))
     intro rr w2; first | (intro he1 b2; subst he1) | rintro ⟨rfl, b2⟩
     have b12 := b1.trans (b2.mono b1.size)
     have H2 := H.step b12
     have V2 := VW.trans (VS.of_below (bs := [Y, M, V]) b12)
     clear H VW xb1 b1 b2 b12 c4
     have lV2 := H2.vo.lt
     have ltB : ∀ k, (Value.slice ao v'.evs.length ca).ownBlock = some k -> k ≠ V := fun k hk => by have := (H2.vo.oe.lt k hk).1; have := H2.vo.lV; omega
     go_wp2
     have H2d := H2.step (qa _ w2).drew
     have c2 := H2.cell0
     have c2d := H2d.cell0
     have xe5 := xe _ H2d.ps H2d.bas
     clear xe
     obtain ⟨i0, i1, kd, lg, dt, hs, gs, ar, orn, dy, ys, sm, be⟩ := x5
     go_region_law ((first
      | (go_simp; go_at_call 20; (with_reducible refine xe5.mono ?_); rintro r w6 ⟨vv, rfl, ⟨hv, gv, lyv, rfl, rows⟩, hS6, a6⟩; have H6 := H2d.call hS6 a6; have rows6 := rows.lo H2d.vo.lB; obtain ⟨ha, hc, rfl⟩ := bX rows6.oh; obtain ⟨ga, gc, rfl⟩ := bX rows6.og; obtain ⟨la, lc, rfl⟩ := bX rows6.ol; clear rows; simp only [zC.cells]; simp only at rows6; have c6 := H6.cell0; have H6a := H6.step ((qa w6.heap.size w6).alloc (qb _) (.cells #[I i0, I i1, I kd, I lg, I dt, .slice ha hs.length hc, .slice ga gs.length gc, I ar, I orn, I dy, .slice la ys.length lc, I sm, I be] 31)); have c6a := H6a.cell0; have sz6 := H6.vo.lB; have lV6 := H6.vo.lt)
      | (refine step_append_lies _ (by rfl) _ _ _ (by rfl) B 31 i9 _ 13 152 Tryz.underlying45 hi9 hz9 hs9 hy9 hc9 (by omega) (.slice ao v'.evs.length ca) v'.evs.length cs' (by rfl) H6a.vo.oe ⟨w6.heap.size, 0, none⟩ 1 1 #[.int .i64 i0, .int .i64 i1, .int .i64 kd, .int .i64 lg, .int .i64 dt, .slice ha hs.length hc, .slice ga gs.length gc, .int .i64 ar, .int .i64 orn, .int .i64 dy, .slice la ys.length lc, .int .i64 sm, .int .i64 be].toList (by rfl) (by rfl) (World.news_of_block (cs := #[.int .i64 i0, .int .i64 i1, .int .i64 kd, .int .i64 lg, .int .i64 dt, .slice ha hs.length hc, .slice ga gs.length gc, .int .i64 ar, .int .i64 orn, .int .i64 dy, .slice la ys.length lc, .int .i64 sm, .int .i64 be]) (t := 31) (fr := (0, 0)) (qc _ _)) (by simp [Value.oneCell']) (by omega) (by simp only [maxLen]; omega) (by omega) (by simp; omega) (w6.heap.size + 1) (by simp) ?_; intro gg cap w7 hown hgrow hat hgl; have hV7 := (hgrow.block V H6a.vo.lt (fun e => ltB V e.symm rfl)).trans H6a.vo.hV; have q1 := Lib.cell_of_heap hV7 0; have f1 := Lib.frozen_of_heap hV7 0; simp only [qqk, qy] at q1)))
     all_goals go_wp2
     all_goals go_roundg j
     all_goals first
      | omega
      | (obtain ⟨h1, h2⟩ := HQ.out
         have b6a := (qa w6.heap.size w6).alloc (qb _) (.cells #[I i0, I i1, I kd, I lg, I dt, .slice ha hs.length hc, .slice ga gs.length gc, I ar, I orn, I dy, .slice la ys.length lc, I sm, I be] 31)
         have H7 := H6a.pushE hgrow (n := v'.evs.length + 1) (x := ⟨i0, i1, kd, lg, dt, hs, gs, ar, orn, dy, ys, sm, be⟩) rfl hown (rows6.step fun k o T hk _ _ => b6a.block k (aA hk))
         have V7 := ((((V2.trans (VS.of_below (qa _ w2).drew)).trans (VS.of_away (a6.more (by simp)))).trans (VS.of_below b6a)).trans (VS.growE (a := ⟨gg, 0, none⟩) (n := v'.evs.length + 1) (cap := cap) hgrow (hat.imp id (fun e => by rw [e]; simp)))).trans (VS.set V 0 (.slice (some ⟨gg, 0, none⟩) (v'.evs.length + 1) cap) (by simp))
         exact ⟨_, n + 1, s5, _, tv', _, by omega, by omega, h1, rfl, by omega, by omega, by simp only [qi, qqt]; omega, by simp only; omega, H7, V7⟩)
end
theorem PF {T : List bD} {Y M p : Nat} {free : Bool} {w : World} (h : PS T Y M free (.ok p) w) (a1 a2 : Option Addr) (n1 n2 c1 c2 : Nat) :
  Calls Tryz.prog 36 #[.pointer (some ⟨Y, 0, none⟩), .agg #[.slice a1 n1 c1, .slice a2 n2 c2]] w fun r w' =>
   r = .returned (.tuple #[.agg #[.slice a1 n1 c1, .slice a2 n2 c2], I 0, I 0, I 0]) /\ Below w.heap.size w w' := by
 have c4 := h.okCell
 have n4' := qr w _ c4
 have l4 := ql w _ c4
 simp only at l4
 clear h
 go_enter Tryz.func36, Tryz.ntmps36
 go_wp2
 refine qf (lP rfl _ _ (w.heap.size + 1) 48 _ (0, 0) _ rfl (heap_alloc2_new w _ _) Tryz.underlying48 rfl Tryz.sizeVoice) rfl ?_
 exact ⟨rfl, ((qa _ w).alloc (qb _) _).alloc (by simp) _⟩
theorem L0 {T : List bD} {Y M : Nat} {free : Bool} {e l c : Int} {w : World} (h : PS T Y M free (.bad e l c) w) (a1 a2 : Option Addr) (n1 n2 c1 c2 : Nat) :
  Calls Tryz.prog 36 #[.pointer (some ⟨Y, 0, none⟩), .agg #[.slice a1 n1 c1, .slice a2 n2 c2]] w fun r w' =>
   r = .returned (.tuple #[.agg #[.slice none 0 0, .slice none 0 0], I l, I c, I e]) /\ Below w.heap.size w w' := by
 obtain ⟨d2, d3, d4, he⟩ := h.errCells
 have n4' := qr w _ d4
 have l4 := ql w _ d4
 simp only at l4
 clear h
 have m1 : Y ≠ w.heap.size + 1 := by omega
 have m2 : Y ≠ w.heap.size + 1 + 1 := by omega
 have m3 : Y ≠ w.heap.size := by omega
 go_enter Tryz.func36, Tryz.ntmps36
 go_wp2
 obtain ⟨hc, hb, bel⟩ := JJ w (.cells #[.slice a1 n1 c1, .slice a2 n2 c2] 48) (.cells #[.slice none 0 0, .slice none 0 0] 48) (.cells #[.slice none 0 0, .slice none 0 0] 48)
 have d2' := (bel.cell l4).trans d2
 have d3' := (bel.cell l4).trans d3
 have d4' := (bel.cell l4).trans d4
 generalize hW : ((w.alloc (.cells #[.slice a1 n1 c1, .slice a2 n2 c2] 48)).alloc (.cells #[.slice none 0 0, .slice none 0 0] 48)).alloc (.cells #[.slice none 0 0, .slice none 0 0] 48) = W at hc hb bel d2' d3' d4' |-
 clear hW d2 d3 d4
 have hGne : w.heap.size + 1 + 1 ≠ w.heap.size + 1 := by omega
 generalize w.heap.size + 1 + 1 = G at hc m2 hGne |-
 obtain ⟨⟨q0, q1⟩, f0, f1⟩ : (W.cell? ⟨G, 0, none⟩ = some (.slice none 0 0) /\ W.cell? ⟨G, 1, none⟩ = some (.slice none 0 0)) /\ W.frozen? ⟨G, 0, none⟩ = false /\ W.frozen? ⟨G, 1, none⟩ = false := by
  refine ⟨⟨?_, ?_⟩, Lib.frozen_of_heap hc 0, Lib.frozen_of_heap hc 1⟩ <;> (rw [Lib.cell_of_heap hc]; rfl)
 obtain ⟨⟨r0, r1⟩, g0, g1⟩ : (W.cell? ⟨w.heap.size + 1, 0, none⟩ = some (.slice none 0 0) /\ W.cell? ⟨w.heap.size + 1, 1, none⟩ = some (.slice none 0 0)) /\ W.frozen? ⟨w.heap.size + 1, 0, none⟩ = false /\ W.frozen? ⟨w.heap.size + 1, 1, none⟩ = false := by
  refine ⟨⟨?_, ?_⟩, Lib.frozen_of_heap hb 0, Lib.frozen_of_heap hb 1⟩ <;> (rw [Lib.cell_of_heap hb]; rfl)
 have hfr := cC (a := .slice none 0 0) (b := .slice none 0 0) hb
 have hfa := cN (bs := []) (aB.of_below bel) (R := w.heap.size + 1) (by omega) (.slice none 0 0) (.slice none 0 0)
 have hfo := cL W (w.heap.size + 1) (.slice none 0 0) (.slice none 0 0)
 have hcell : ∀ j i u, j ≠ w.heap.size + 1 -> W.cell? ⟨j, i, none⟩ = some u -> (dL W (w.heap.size + 1) (.slice none 0 0) (.slice none 0 0)).cell? ⟨j, i, none⟩ = some u := fun j i u hj hu => by
  rw [<- hu]; unfold World.cell?; rw [hfo j hj]
 have s0 := hcell _ _ _ hGne q0
 have s1 := hcell _ _ _ hGne q1
 have s2 := hcell _ _ _ m1 d2'
 have s3 := hcell _ _ _ m1 d3'
 have s4 := hcell _ _ _ m1 d4'
 have HF := aQ (And.intro hfr hfa)
 clear hfr hfa hfo hcell
 unfold dL at s0 s1 s2 s3 s4
 go_region_held3 (fun w' => w'.cell? ⟨G, 0, none⟩ = some (.slice none 0 0) /\ w'.cell? ⟨G, 1, none⟩ = some (.slice none 0 0) /\ w'.cell? ⟨Y, 2, none⟩ = some (I l) /\ w'.cell? ⟨Y, 3, none⟩ = some (I c) /\ w'.cell? ⟨Y, 4, none⟩ = some (I e)) (go_keep) (fail)
 go_wp2
 obtain ⟨hfr, hfa⟩ := HF.out
 refine qf (lP rfl _ _ (w.heap.size + 1) 48 _ (0, 0) _ rfl hfr Tryz.underlying48 rfl Tryz.sizeVoice) rfl ?_
 exact ⟨rfl, hfa.below.drew⟩
end Go.Proofs.YtgkhemnmcgicnaaGreatDoor
