/- Towards the law ParserVoices, true for every text (no condition): one part of the proof. -/
import Derived.Test.YtgkhemnmcgicnaaGreatDoorG01
import Derived.Test.YtgkhemnmcgicnaaGreatDoorG36
import Derived.Test.YtgkhemnmcgicnaaGreatDoorG10
import Derived.Test.YtgkhemnmcgicnaaGreatDoorG33
import Derived.StillTailTactics
import Derived.MapKept
namespace Go.Proofs.YtgkhemnmcgicnaaGreatDoor
set_option maxHeartbeats 16000000
set_option maxRecDepth 100000
open Go.RowKit
theorem Tryz.infosyll : (Tryz.prog.info? 147).map (fun i => (i.zero.map fun z => z.cells.size, i.size, i.bytes)) = some (some 2, 2, 24) := by kernel_rfl
theorem QR (T : List bD) (k : Nat) (s : aU) (h : nV T s = false) : j2 T k s = ([], s) := by
 cases k with
 | zero => rfl
 | succ k => rw [j2, if_neg (by rw [h]; decide)]
theorem LW (T : List bD) (k : Nat) (s : aU) (h : nV T s = true) : j2 T (k + 1) s = ((eH T s).1 :: (j2 T k (eH T s).2).1, (j2 T k (eH T s).2).2) := by
 rw [j2, if_pos h]
theorem DC {T : List bD} {s : aU} (h : nV T s = true) : ∃ p, s = .ok p := by
 cases s with
 | ok p => exact ⟨p, rfl⟩
 | bad e l c => exact absurd h (by simp [nV, isS, pS, aW, dA])
theorem yX {T : List bD} {s : aU} (h : (aW T s).kind = 3) (x : ByteArray) : isS T x s = false := by
 unfold isS pS
 rw [h]; rfl
theorem Y4 {T : List bD} {s : aU} {p' : Nat} (h3 : (aW T s).kind = 3) (h : (jZ T s).2 = .ok p') : ∃ q, s = .ok q /\ p' = q + 1 := by
 unfold jZ at h
 rw [if_pos h3] at h
 exact iZ h
theorem yY {T : List bD} {p p' : Nat} (hb : nV T (.ok p) = true) (h : (eH T (.ok p)).2 = .ok p') : p < p' := by
 unfold eH at h
 by_cases hu : isS T ⟨#[95]⟩ (.ok p) = true
 ·rw [if_pos hu] at h
  obtain ⟨q, h1, h2⟩ := iZ (k := 1) (s := .ok p) h
  injection h1 with h1; omega
 ·rw [if_neg hu] at h
  have h3 : (aW T (.ok p)).kind = 3 := by
   unfold nV at hb
   rw [Bool.eq_false_iff.2 hu, Bool.or_false] at hb
   exact of_decide_eq_true hb
  have key : ∀ q, (jZ T (.ok p)).2 = .ok q -> p < q := fun q hq => by
   obtain ⟨q2, h1, h2⟩ := Y4 h3 hq
   injection h1 with h1; omega
  simp only at h
  repeat' split at h
  all_goals first
   | exact key _ h
   | (obtain ⟨q, h1, h2⟩ := iZ (k := 1) (s := (jZ T (.ok p)).2) h; have := key q h1; omega)
section
variable {T : List bD} {Y M : Nat} {free : Bool} {st : aU} {w : World}
theorem UT (h : PS T Y M free st w) :
  Calls Tryz.prog 61 #[.pointer (some ⟨Y, 0, none⟩)] w fun rr w' => ∃ v, rr = .returned v /\ w'.ownsRow w.heap.size 147 2 v (j2 T T.length st).1.length (cH cT.cells (j2 T T.length st).1) /\ PS T Y M free (j2 T T.length st).2 w' /\ aB [Y, M] w w' := by
 obtain ⟨i0, zz, hi0, hzz, hzc, hz1, hz2⟩ : ∃ i z, Tryz.prog.info? 147 = some i /\ i.zero = some z /\ z.cells.size = 2 /\ i.size = 2 /\ i.bytes = 24 := by
  have := Tryz.infosyll
  cases hi : Tryz.prog.info? 147 with
  | none => rw [hi] at this; cases this
  | some i =>
   rw [hi] at this
   simp only [qqh, qm, qz] at this
   cases hz : i.zero with
   | none => rw [hz] at this; cases this.1
   | some z => rw [hz] at this; exact ⟨i, z, rfl, hz, by simpa using this.1, this.2.1, this.2.2⟩
 have hm := h.good.max
 have lY := h.lt
 have lM := h.ltM
 have hn0 : need T st <= T.length := by
  cases st with
  | ok p => exact Nat.sub_le _ _
  | bad e l c => exact qn _
 obtain ⟨tot, htot⟩ : ∃ tot, tot = j2 T T.length st := ⟨_, rfl⟩
 rw [<- htot]
 obtain ⟨N, hN⟩ : ∃ N, Shut (T.length = N) := ⟨_, rfl⟩
 have hN4 : N <= 4001 := by rw [<- hN.out]; exact hm
 rw [hN.out] at htot hn0
 have HT := aQ (And.intro htot.symm hn0)
 have hS0 := h
 have a0 := aB.refl [Y, M] w
 have ho0 : w.ownsRow w.heap.size 147 2 (.slice none 0 0) 0 (cH cT.cells []) := qqe w _ _ _
 clear h htot hn0 hm
 go_enter Tryz.func61, Tryz.ntmps61
 go_wp2
 go_loopg [3] N (fun gk s3 wr => ∃ (l : List cT) (s : aU), l.length + gk = N /\ need T s <= gk /\ (l ++ (j2 T gk s).1, (j2 T gk s).2) = tot /\ wr.ownsRow w.heap.size 147 2 s3 l.length (cH cT.cells l) /\ PS T Y M free s wr /\ aB [Y, M] w wr)
 case atStart => exact ⟨[], st, by simp, HT.out.2, by rw [HT.out.1]; rfl, ho0, hS0, a0⟩
 case round =>
  clear hS0 a0 ho0
  obtain ⟨l, s, hlen, hneed, htotal, hown, hS, aw⟩ := hrel
  have hN1 : (l.length : Int) <= 4001 := by omega
  obtain ⟨ao, cp, rfl⟩ := bX hown
  have hlo : ∀ j, (Value.slice ao l.length cp).ownBlock = some j -> w.heap.size <= j := fun j hj => (hown.lt j hj).1
  have fin0 : nV T s = false -> l = tot.1 /\ s = tot.2 := fun e => by
   rw [QR T gk s e, List.append_nil] at htotal
   exact ⟨congrArg (·.1) htotal, congrArg (·.2) htotal⟩
  have more : nV T s = true -> ∃ g, gk = g + 1 /\ (l ++ [(eH T s).1]).length + g = N /\ need T (eH T s).2 <= g /\ ((l ++ [(eH T s).1]) ++ (j2 T g (eH T s).2).1, (j2 T g (eH T s).2).2) = tot := fun e => by
   obtain ⟨p, rfl⟩ := DC e
   have hpl := hS.atCell.2.2
   obtain ⟨g, rfl⟩ : ∃ g, gk = g + 1 := ⟨gk - 1, by unfold need at hneed; simp only at hneed; omega⟩
   refine ⟨g, rfl, by simp only [qi, qj, qqi]; omega, BG hpl (fun p' hp' => yY e hp') hneed, ?_⟩
   rw [LW T g _ e] at htotal
   rw [<- htotal]
   simp
  have xp := pA hS
  have xi := fun w' (b : Below wr.heap.size wr w') => LY (hS.step b) ⟨#[95]⟩
  have xa := fun w' (b : Below wr.heap.size wr w') => fU (hS.step b) ⟨#[95]⟩
  have hsb : nV T s = (decide ((aW T s).kind = 3) || isS T ⟨#[95]⟩ s) := rfl
  have hs3 := fun h3 : (aW T s).kind = 3 => yX h3 ⟨#[95]⟩
  have hau : isS T ⟨#[95]⟩ s = true -> eH T s = (⟨ByteArray.empty, 2⟩, s.next 1) /\ aS T ⟨#[95]⟩ s = s.next 1 := fun e => ⟨by unfold eH; rw [if_pos e], by unfold aS; rw [if_pos e]⟩
  have han : isS T ⟨#[95]⟩ s = false -> aS T ⟨#[95]⟩ s = s /\ ((aW T (jZ T s).2).joined = false -> eH T s = (⟨(jZ T s).1, 0⟩, (jZ T s).2)) /\ ((aW T (jZ T s).2).joined = true -> isS T ⟨#[45]⟩ (jZ T s).2 = true -> eH T s = (⟨(jZ T s).1, 1⟩, (jZ T s).2.next 1)) /\ ((aW T (jZ T s).2).joined = true -> isS T ⟨#[45]⟩ (jZ T s).2 = false -> isS T ⟨#[95]⟩ (jZ T s).2 = true -> eH T s = (⟨(jZ T s).1, 2⟩, (jZ T s).2.next 1)) /\ ((aW T (jZ T s).2).joined = true -> isS T ⟨#[45]⟩ (jZ T s).2 = false -> isS T ⟨#[95]⟩ (jZ T s).2 = false -> eH T s = (⟨(jZ T s).1, 0⟩, (jZ T s).2)) := fun e => by
   refine ⟨by unfold aS; rw [e]; rfl, fun j => ?_, fun j h1 => ?_, fun j h1 h2 => ?_, fun j h1 h2 => ?_⟩
   ·unfold eH; rw [e]; simp only [j]; rfl
   ·unfold eH; rw [e]; simp only [j, h1]; rfl
   ·unfold eH; rw [e]; simp only [j, h1, h2]; rfl
   ·unfold eH; rw [e]; simp only [j, h1, h2]; rfl
  have xstr := fun w' (hh : PS T Y M free s w') => Z5 hh
  generalize jZ T s = qs at han xstr
  obtain ⟨y, s1⟩ := qs
  simp only at han xstr
  have xp1 := fun w' (hh : PS T Y M free s1 w') => pA hh
  have xm := fun w' (hh : PS T Y M free s1 w') => fU hh ⟨#[45]⟩
  have xu := fun w' (hh : PS T Y M free s1 w') => fU hh ⟨#[95]⟩
  have hm1 : isS T ⟨#[45]⟩ s1 = true -> aS T ⟨#[45]⟩ s1 = s1.next 1 := fun e => by unfold aS; rw [if_pos e]
  have hm0 : isS T ⟨#[45]⟩ s1 = false -> aS T ⟨#[45]⟩ s1 = s1 := fun e => by unfold aS; rw [e]; rfl
  have hu1 : isS T ⟨#[95]⟩ s1 = true -> aS T ⟨#[95]⟩ s1 = s1.next 1 := fun e => by unfold aS; rw [if_pos e]
  have hu0 : isS T ⟨#[95]⟩ s1 = false -> aS T ⟨#[95]⟩ s1 = s1 := fun e => by unfold aS; rw [e]; rfl
  generalize aS T ⟨#[45]⟩ s1 = sm at xm hm1 hm0
  generalize aS T ⟨#[95]⟩ s1 = su at xu hu1 hu0
  generalize aS T ⟨#[95]⟩ s = sa at xa hau han
  generalize isS T ⟨#[45]⟩ s1 = bm at xm hm1 hm0 han
  generalize isS T ⟨#[95]⟩ s1 = bu at xu hu1 hu0 han
  generalize isS T ⟨#[95]⟩ s = ba at xi xa hsb hs3 hau han
  unfold fK at xp xp1
  generalize aW T s = t at xp hsb hs3
  obtain ⟨kd, text, v, bt, lin, cln, j⟩ := t
  generalize aW T s1 = t1 at xp1 han
  obtain ⟨kd1, text1, v1, bt1, lin1, cln1, j1⟩ := t1
  simp only at xp hsb hs3 xp1 han
  have hfd := pN kd v lin cln text bt j
  have hfd6 := XT kd1 v1 lin1 cln1 text1 bt1 j1
  clear htotal hlen hneed
  by_cases hk : kd = 3
  ·subst hk
   obtain rfl : ba = false := hs3 rfl
   obtain ⟨g, hgk, q1, q2, q3⟩ := more (by rw [hsb]; rfl)
   obtain ⟨rfl, hj0, hj1, hj2, hj3⟩ := han rfl
   clear hsb hs3 hau han more fin0 xi hS
   go_wp2_with (go_at_call 62; refine xp.mono ?_)
   intro rr w1; first | (intro he b1; subst he) | rintro ⟨rfl, b1⟩
   have xa1 := xa _ b1
   have hown1 := aC hown fun j hj => b1.block j (hown.lt j hj).2
   have aw1 := aw.step b1
   clear xp xa hown aw b1
   go_wp2_with (go_at_call 53; refine xa1.mono ?_)
   intro rr w2; first | (intro he hS2 a2; subst he) | rintro ⟨rfl, hS2, a2⟩
   have xs := xstr _ hS2
   have hown2 := aC hown1 fun j hj => a2.block j (hown1.lt j hj).2 (by have := hlo j hj; simp; omega)
   have aw2 := aw1.trans a2
   clear xa1 xstr hown1 aw1 a2 hS2
   go_wp2_with (go_at_call 91; refine xs.mono ?_)
   intro rr w3; first | (intro he hS3 a3; subst he) | rintro ⟨rfl, hS3, a3⟩
   have hown3 := aC hown2 fun j hj => a3.block j (hown2.lt j hj).2 (by have := hlo j hj; simp; omega)
   have aw3 := aw2.trans a3
   have sz3 := aw3.size
   have bK := (qa _ w3).alloc (qb _) (.cells #[.string y, I 0] 147)
   have hK := qc w3 (.cells #[.string y, I 0] 147)
   have hS3a := hS3.step bK
   have hown3a := hown3.alloc (.cells #[.string y, I 0] 147)
   have aw3a := aw3.step bK
   have xp3 := xp1 _ hS3a
   have hKn : ∀ j, (Value.slice ao l.length cp).ownBlock = some j -> j ≠ w3.heap.size := fun j hj => by have := (hown3.lt j hj).2; omega
   clear xs xp1 hown2 aw2 a3 hS3 hown3 bK
   go_wp2_with (go_at_call 62; refine xp3.mono ?_)
   intro rr w4; first | (intro he b4; subst he) | rintro ⟨rfl, b4⟩
   have hS4 := hS3a.step b4
   have hown4 := aC hown3a fun j hj => b4.block j (hown3a.lt j hj).2
   have aw4 := aw3a.step b4
   have hK4 := (b4.block _ (aA hK)).trans hK
   clear xp3 hS3a hown3a aw3a b4 hK aw3
   generalize hKK : w3.heap.size = K at hK4 hKn sz3 |-
   have hKY : K ≠ Y := by omega
   have hKM : K ≠ M := by omega
   cases j1 with
   | false =>
    have hr := hj0 (by trivial)
    rw [hr] at q1 q2 q3
    have cK0 : w4.cell? ⟨K, 0, none⟩ = some (.string y) := by rw [Lib.cell_of_heap hK4]; rfl
    have cK1 : w4.cell? ⟨K, 1, none⟩ = some (I 0) := by rw [Lib.cell_of_heap hK4]; rfl
    clear hj0 hj1 hj2 hj3 hr xm xu hm1 hm0 hu1 hu0
    have szw := aw4.size
    have hnew : (w4.alloc (.cells #[.string y, I 0] 147)).heap[w4.heap.size]? = some (.cells #[.string y, I 0] 147 (0, 0)) := qc _ _
    have HQ := aQ (And.intro hgk (And.intro q1 (And.intro q2 q3)))
    have HC := aQ (eT cT.cells l ⟨y, 0⟩)
    generalize cH cT.cells l = cur at hown4 HC
    clear hgk q1 q2 q3
    go_wp2_with (at_builtin; refine wpList_append_lies _ rfl _ _ 29 rfl w.heap.size 147 i0 _ 2 24 Tryz.underlying29 hi0 hzz hz1 hz2 hzc (by omega) _ l.length _ rfl (hown4.alloc _) ⟨w4.heap.size, 0, none⟩ 1 1 #[.string y, I 0].toList rfl rfl (World.news_of_block (cs := #[.string y, I 0]) (t := 147) (fr := (0, 0)) hnew) (by simp [Value.oneCell']) (by omega) (by unfold maxLen; omega) (by omega) (by simp; omega) (w4.heap.size + 1) (by simp) ?_; intro gg wcap w9 hown9 hgrow hat hgl)
    go_roundg (gk - 1)
    case measure => have := HQ.out.1; omega
    case rel =>
     obtain ⟨r1, r2, r3, r4⟩ := HQ.out
     have e1 : gk - 1 = g := by omega
     rw [e1]
     refine ⟨l ++ [⟨y, 0⟩], _, r2, r3, r4, ?_, (hS4.step ((qa _ w4).alloc (qb _) _)).grown hgrow (fun j hj => ?_), (aw4.alloc _).grown hgrow hlo⟩
     ·rw [HC.out, qi]; exact hown9
     ·have h1 := hlo j hj
      obtain ⟨cur', hc'⟩ := cA hown4 hj
      exact ⟨by omega, by omega, cur', 147, (Lib.alloc_old w4 _ _ (aA hc')).trans hc', by decide⟩
   | true =>
    have xm4 := xm _ hS4
    clear xm
    go_wp2_with (go_at_call 53; refine xm4.mono ?_)
    intro rr w5; first | (intro he hS5 a5; subst he) | rintro ⟨rfl, hS5, a5⟩
    have hown5 := aC hown4 fun j hj => a5.block j (hown4.lt j hj).2 (by have := hlo j hj; simp; omega)
    have aw5 := aw4.trans a5
    have hK5 := a5.at hK4 (by simp; omega)
    clear xm4 hown4 aw4 a5 hK4 hS4
    cases bm with
    | true =>
     have hr := hj1 (by trivial) (by trivial)
     rw [hr] at q1 q2 q3
     rw [hm1 (by trivial)] at hS5
     have cK0 : w5.cell? ⟨K, 0, none⟩ = some (.string y) := by rw [Lib.cell_of_heap hK5]; rfl
     have cK1 : w5.cell? ⟨K, 1, none⟩ = some (I 0) := by rw [Lib.cell_of_heap hK5]; rfl
     have fK1 := Lib.frozen_of_heap hK5 1
     have nKK : K ≠ w5.heap.size := by have := aA hK5; omega
     have oK : ∀ j, j ≠ K -> (w5.setCell ⟨K, 1, none⟩ (I 1)).heap[j]? = w5.heap[j]? := fun j hj => aE w5 K 1 _ j hj
     have hS8 := hS5.put hKY hKM hK5 (by decide) oK
     have hown8 := aC hown5 fun j hj => oK j (hKn j hj)
     have aw8 := aw5.setCell (p := ⟨K, 1, none⟩) (.inr sz3) (I 1)
     have sz8 : (w5.setCell ⟨K, 1, none⟩ (I 1)).heap.size = w5.heap.size := by simp [World.setCell]
     clear hj0 hj1 hj2 hj3 hr hm1 hm0 hu1 hu0 hown5 aw5 hK5 hS5 oK
     have szw := aw8.size
     have hnew : ((w5.setCell ⟨K, 1, none⟩ (I 1)).alloc (.cells #[.string y, I 1] 147)).heap[w5.heap.size]? = some (.cells #[.string y, I 1] 147 (0, 0)) := by rw [<- sz8]; exact qc _ _
     have HQ := aQ (And.intro hgk (And.intro q1 (And.intro q2 q3)))
     have HC := aQ (eT cT.cells l ⟨y, 1⟩)
     generalize cH cT.cells l = cur at hown8 HC
     clear hgk q1 q2 q3
     go_wp2_with (at_builtin; refine wpList_append_lies _ rfl _ _ 29 rfl w.heap.size 147 i0 _ 2 24 Tryz.underlying29 hi0 hzz hz1 hz2 hzc (by omega) _ l.length _ rfl (hown8.alloc _) ⟨w5.heap.size, 0, none⟩ 1 1 #[.string y, I 1].toList rfl rfl (World.news_of_block (cs := #[.string y, I 1]) (t := 147) (fr := (0, 0)) hnew) (by simp [Value.oneCell']) (by omega) (by unfold maxLen; omega) (by omega) (by simp; omega) (w5.heap.size + 1) (by simp) ?_; intro gg wcap w9 hown9 hgrow hat hgl)
     go_roundg (gk - 1)
     case measure => have := HQ.out.1; omega
     case rel =>
      obtain ⟨r1, r2, r3, r4⟩ := HQ.out
      have e1 : gk - 1 = g := by omega
      rw [e1]
      refine ⟨l ++ [⟨y, 1⟩], _, r2, r3, r4, ?_, (hS8.step ((qa _ (w5.setCell ⟨K, 1, none⟩ (I 1))).alloc (qb _) _)).grown hgrow (fun j hj => ?_), (aw8.alloc _).grown hgrow hlo⟩
      ·rw [HC.out, qi]; exact hown9
      ·have h1 := hlo j hj
       obtain ⟨cur', hc'⟩ := cA hown8 hj
       exact ⟨by omega, by omega, cur', 147, (Lib.alloc_old (w5.setCell ⟨K, 1, none⟩ (I 1)) _ _ (aA hc')).trans hc', by decide⟩
    | false =>
     rw [hm0 (by trivial)] at hS5
     have xu5 := xu _ hS5
     clear xu
     go_wp2_with (go_at_call 53; refine xu5.mono ?_)
     intro rr w6; first | (intro he hS6 a6; subst he) | rintro ⟨rfl, hS6, a6⟩
     have hown6 := aC hown5 fun j hj => a6.block j (hown5.lt j hj).2 (by have := hlo j hj; simp; omega)
     have aw6 := aw5.trans a6
     have hK6 := a6.at hK5 (by simp; omega)
     clear xu5 hown5 aw5 a6 hK5 hS5
     cases bu with
     | true =>
      have hr := hj2 (by trivial) (by trivial) (by trivial)
      rw [hr] at q1 q2 q3
      rw [hu1 (by trivial)] at hS6
      have cK0 : w6.cell? ⟨K, 0, none⟩ = some (.string y) := by rw [Lib.cell_of_heap hK6]; rfl
      have cK1 : w6.cell? ⟨K, 1, none⟩ = some (I 0) := by rw [Lib.cell_of_heap hK6]; rfl
      have fK1 := Lib.frozen_of_heap hK6 1
      have nKK : K ≠ w6.heap.size := by have := aA hK6; omega
      have oK : ∀ j, j ≠ K -> (w6.setCell ⟨K, 1, none⟩ (I 2)).heap[j]? = w6.heap[j]? := fun j hj => aE w6 K 1 _ j hj
      have hS8 := hS6.put hKY hKM hK6 (by decide) oK
      have hown8 := aC hown6 fun j hj => oK j (hKn j hj)
      have aw8 := aw6.setCell (p := ⟨K, 1, none⟩) (.inr sz3) (I 2)
      have sz8 : (w6.setCell ⟨K, 1, none⟩ (I 2)).heap.size = w6.heap.size := by simp [World.setCell]
      clear hj0 hj1 hj2 hj3 hr hm1 hm0 hu1 hu0 hown6 aw6 hK6 hS6 oK
      have szw := aw8.size
      have hnew : ((w6.setCell ⟨K, 1, none⟩ (I 2)).alloc (.cells #[.string y, I 2] 147)).heap[w6.heap.size]? = some (.cells #[.string y, I 2] 147 (0, 0)) := by rw [<- sz8]; exact qc _ _
      have HQ := aQ (And.intro hgk (And.intro q1 (And.intro q2 q3)))
      have HC := aQ (eT cT.cells l ⟨y, 2⟩)
      generalize cH cT.cells l = cur at hown8 HC
      clear hgk q1 q2 q3
      go_wp2_with (at_builtin; refine wpList_append_lies _ rfl _ _ 29 rfl w.heap.size 147 i0 _ 2 24 Tryz.underlying29 hi0 hzz hz1 hz2 hzc (by omega) _ l.length _ rfl (hown8.alloc _) ⟨w6.heap.size, 0, none⟩ 1 1 #[.string y, I 2].toList rfl rfl (World.news_of_block (cs := #[.string y, I 2]) (t := 147) (fr := (0, 0)) hnew) (by simp [Value.oneCell']) (by omega) (by unfold maxLen; omega) (by omega) (by simp; omega) (w6.heap.size + 1) (by simp) ?_; intro gg wcap w9 hown9 hgrow hat hgl)
      go_roundg (gk - 1)
      case measure => have := HQ.out.1; omega
      case rel =>
       obtain ⟨r1, r2, r3, r4⟩ := HQ.out
       have e1 : gk - 1 = g := by omega
       rw [e1]
       refine ⟨l ++ [⟨y, 2⟩], _, r2, r3, r4, ?_, (hS8.step ((qa _ (w6.setCell ⟨K, 1, none⟩ (I 2))).alloc (qb _) _)).grown hgrow (fun j hj => ?_), (aw8.alloc _).grown hgrow hlo⟩
       ·rw [HC.out, qi]; exact hown9
       ·have h1 := hlo j hj
        obtain ⟨cur', hc'⟩ := cA hown8 hj
        exact ⟨by omega, by omega, cur', 147, (Lib.alloc_old (w6.setCell ⟨K, 1, none⟩ (I 2)) _ _ (aA hc')).trans hc', by decide⟩
     | false =>
      have hr := hj3 (by trivial) (by trivial) (by trivial)
      rw [hr] at q1 q2 q3
      rw [hu0 (by trivial)] at hS6
      have cK0 : w6.cell? ⟨K, 0, none⟩ = some (.string y) := by rw [Lib.cell_of_heap hK6]; rfl
      have cK1 : w6.cell? ⟨K, 1, none⟩ = some (I 0) := by rw [Lib.cell_of_heap hK6]; rfl
      clear hj0 hj1 hj2 hj3 hr hm1 hm0 hu1 hu0
      have szw := aw6.size
      have hnew : (w6.alloc (.cells #[.string y, I 0] 147)).heap[w6.heap.size]? = some (.cells #[.string y, I 0] 147 (0, 0)) := qc _ _
      have HQ := aQ (And.intro hgk (And.intro q1 (And.intro q2 q3)))
      have HC := aQ (eT cT.cells l ⟨y, 0⟩)
      generalize cH cT.cells l = cur at hown6 HC
      clear hgk q1 q2 q3
      go_wp2_with (at_builtin; refine wpList_append_lies _ rfl _ _ 29 rfl w.heap.size 147 i0 _ 2 24 Tryz.underlying29 hi0 hzz hz1 hz2 hzc (by omega) _ l.length _ rfl (hown6.alloc _) ⟨w6.heap.size, 0, none⟩ 1 1 #[.string y, I 0].toList rfl rfl (World.news_of_block (cs := #[.string y, I 0]) (t := 147) (fr := (0, 0)) hnew) (by simp [Value.oneCell']) (by omega) (by unfold maxLen; omega) (by omega) (by simp; omega) (w6.heap.size + 1) (by simp) ?_; intro gg wcap w9 hown9 hgrow hat hgl)
      go_roundg (gk - 1)
      case measure => have := HQ.out.1; omega
      case rel =>
       obtain ⟨r1, r2, r3, r4⟩ := HQ.out
       have e1 : gk - 1 = g := by omega
       rw [e1]
       refine ⟨l ++ [⟨y, 0⟩], _, r2, r3, r4, ?_, (hS6.step ((qa _ w6).alloc (qb _) _)).grown hgrow (fun j hj => ?_), (aw6.alloc _).grown hgrow hlo⟩
       ·rw [HC.out, qi]; exact hown9
       ·have h1 := hlo j hj
        obtain ⟨cur', hc'⟩ := cA hown6 hj
        exact ⟨by omega, by omega, cur', 147, (Lib.alloc_old w6 _ _ (aA hc')).trans hc', by decide⟩
  ·have hk3 : (kd == 3) = false := by simp [hk]
   have hsb' : nV T s = ba := by rw [hsb, qt hk]; rfl
   clear xstr xp1 xm xu hm1 hm0 hu1 hu0 han hs3 hsb
   go_wp2_with (go_at_call 62; refine xp.mono ?_)
   intro rr w1; first | (intro he b1; subst he) | rintro ⟨rfl, b1⟩
   have xi1 := xi _ b1
   clear xi xp
   go_wp2_with (go_at_call 76; refine xi1.mono ?_)
   intro rr w2; first | (intro he b2; subst he) | rintro ⟨rfl, b2⟩
   have b12 := b1.trans (b2.mono b1.size)
   clear xi1
   cases ba with
   | false =>
    obtain ⟨hl, hs⟩ := fin0 hsb'
    have hown2 := aC hown fun j hj => b12.block j (hown.lt j hj).2
    have aw2 := aw.step b12
    have hS2 := hS.step b12
    have HE := aQ (And.intro hl hs)
    clear hau xa more fin0 hown hS aw hsb' hl hs
    go_wp2
    go_ret
    rw [<- HE.out.1, <- HE.out.2]
    exact ⟨_, rfl, hown2, hS2, aw2⟩
   | true =>
    obtain ⟨g, hgk, q1, q2, q3⟩ := more hsb'
    obtain ⟨hr, rfl⟩ := hau rfl
    rw [hr] at q1 q2 q3
    have xa2 := xa _ b12
    have hown2 := aC hown fun j hj => b12.block j (hown.lt j hj).2
    have aw2 := aw.step b12
    clear hau xa more fin0 hown hS aw hsb' hr
    go_wp2_with (go_at_call 53; refine xa2.mono ?_)
    intro rr w5; first | (intro he hS5 a5; subst he) | rintro ⟨rfl, hS5, a5⟩
    have hown5 := aC hown2 fun j hj => a5.block j (hown2.lt j hj).2 (by have := hlo j hj; simp; omega)
    have aw5 := aw2.trans a5
    clear xa2 hown2 aw2 a5
    have szw := aw5.size
    have hnew : (w5.alloc (.cells #[.string ByteArray.empty, I 2] 147)).heap[w5.heap.size]? = some (.cells #[.string ByteArray.empty, I 2] 147 (0, 0)) := qc _ _
    have HQ := aQ (And.intro hgk (And.intro q1 (And.intro q2 q3)))
    have HC := aQ (eT cT.cells l ⟨ByteArray.empty, 2⟩)
    generalize cH cT.cells l = cur at hown5 HC
    clear hgk q1 q2 q3
    go_wp2_with (at_builtin; refine wpList_append_lies _ rfl _ _ 29 rfl w.heap.size 147 i0 _ 2 24 Tryz.underlying29 hi0 hzz hz1 hz2 hzc (by omega) _ l.length _ rfl (hown5.alloc _) ⟨w5.heap.size, 0, none⟩ 1 1 #[.string ByteArray.empty, I 2].toList rfl rfl (World.news_of_block (cs := #[.string ByteArray.empty, I 2]) (t := 147) (fr := (0, 0)) hnew) (by simp [Value.oneCell']) (by omega) (by unfold maxLen; omega) (by omega) (by simp; omega) (w5.heap.size + 1) (by simp) ?_; intro gg wcap w9 hown9 hgrow hat hgl)
    go_roundg (gk - 1)
    case measure => have := HQ.out.1; omega
    case rel =>
     obtain ⟨r1, r2, r3, r4⟩ := HQ.out
     have e1 : gk - 1 = g := by omega
     rw [e1]
     refine ⟨l ++ [⟨ByteArray.empty, 2⟩], _, r2, r3, r4, ?_, (hS5.step ((qa _ w5).alloc (qb _) _)).grown hgrow (fun j hj => ?_), (aw5.alloc _).grown hgrow hlo⟩
     ·rw [HC.out, qi]; exact hown9
     ·have h1 := hlo j hj
      obtain ⟨cur', hc'⟩ := cA hown5 hj
      exact ⟨by omega, by omega, cur', 147, (Lib.alloc_old w5 _ _ (aA hc')).trans hc', by decide⟩
end
section
variable {T : List bD} {X : Nat} {free : Bool} {lv iv : Value} {st st0 : aU} {w w0 w' : World}
theorem MS.grown (h : MS T X free lv iv st w) (h0 : MS T X free lv iv st0 w0) {row : Option Nat} (hg : w.grownBy w' row) (hr : ∀ k, row = some k -> w0.heap.size <= k) : MS T X free lv iv st w' := by
 have l1 := h0.lt
 have l2 := h.lt
 obtain ⟨_, pos0, is0, im0, n0, xs0, e0, line0, col0, m1, m2, m3⟩ := h0
 obtain ⟨g, pos, is, im, n, xs, e, line, col, h1, h2, h3⟩ := h
 have hi : ∀ k, iv.ownBlock = some k -> some k ≠ row := fun k hk e => by have := (m1.ids.lt k hk).2; have := hr k e.symm; omega
 have hl : ∀ k, lv.ownBlock = some k -> some k ≠ row := fun k hk e => by have := m1.lvB k hk; have := hr k e.symm; omega
 exact ⟨g, pos, is, im, n, xs, e, line, col, ⟨(hg.block X l2 fun e => by have := hr X e.symm; omega).trans h1.blk, fun he => aC (h1.row he) fun k hk => hg.block k ((h1.row he).lt k hk).2 (hl k hk), aC h1.ids fun k hk => hg.block k (h1.ids.lt k hk).2 (hi k hk), fun g hg' => qk (h1.lvB g hg') hg.size⟩, h2, h3⟩
theorem MS.okCell {p : Nat} (h : MS T X free lv iv (.ok p) w) : w.cell? ⟨X, 6, none⟩ = some (I 0) := by
 obtain ⟨g, pos, is, im, n, xs, e, line, col, h1, h2, h3⟩ := h
 obtain ⟨rfl, rfl, rfl, rfl, hlt⟩ := h2
 exact h1.c6
theorem MS.errCell {e l c : Int} (h : MS T X free lv iv (.bad e l c) w) : w.cell? ⟨X, 6, none⟩ = some (I e) /\ ¬ e = 0 := by
 obtain ⟨g, pos, is, im, n, xs, e', line, col, h1, h2, h3⟩ := h
 obtain ⟨rfl, he, rfl, rfl, hlt⟩ := h2
 exact ⟨h1.c6, he⟩
theorem JB {w : World} {B : Nat} {e : TypeId} {size : Nat} {v : Value} {n : Nat} {xs : List Value} (h : w.ownsRow B e size v n xs) {ao : Option Addr} {m c : Nat} (hv : v = .slice ao m c) : n = m := by
 rcases h.2 with ⟨h1, h0⟩ | ⟨g, cap, cur, h1, _⟩
 ·rw [hv] at h1; injection h1 with _ h2 _; rw [h0, h2]
 ·rw [hv] at h1; injection h1 with _ h2 _; exact h2.symm
theorem MS.back {p q : Nat} (h : MS T X free lv iv (.ok q) w) (h0 : MS T X free lv iv (.ok p) w0) : MS T X free lv iv (.ok p) (w.setCell ⟨X, 1, none⟩ (I (p : Nat))) := by
 obtain ⟨_, pos0, is0, im0, n0, xs0, e0, line0, col0, m1, m2, m3, m4⟩ := h0
 obtain ⟨g, pos, is, im, n, xs, e, line, col, h1, h2, h3, h4⟩ := h
 obtain ⟨rfl, rfl, rfl, rfl, hlt⟩ := h2
 obtain ⟨rfl, rfl, rfl, rfl, hlt0⟩ := m2
 obtain ⟨ao, c, hv⟩ := bX m1.ids
 have hn := JB h1.ids hv
 have hn0 := m4 rfl
 exact ⟨g, p, is, im, n, xs, 0, 0, 0, h1.put 1 _ (fun h => h) rfl, ⟨rfl, rfl, rfl, rfl, hlt0⟩, h3, fun _ => by rw [hn]; exact hn0⟩
end
theorem JD (b : Bool) (k : Int) (w : World) : (Instr.checkKey b 10000 3 (I k)).run Tryz.prog w = .ok () w := by
 show (Instr.checkKey b (9999 + 1) 3 (I k)).run Tryz.prog w = .ok () w
 unfold Instr.checkKey
 simp [qqc Tryz.underlying3, Result.andThen]
theorem T7 (k : Int) (w : World) : (Instr.keyThatStays (I k) (I k)).run Tryz.prog w = .ok (I k) w := by
 unfold Instr.keyThatStays
 have : Instr.sameBits 10000 (I k) (I k) = true := by
  show Instr.sameBits (9999 + 1) _ _ = true
  unfold Instr.sameBits
  simp
 simp [this]
theorem LR (k : Int) : ∀ (l : List MapEntry) (i : Nat), (∀ e ∈ l, ∃ a v : Int, e.key = I a /\ e.val = I v) ->
  Instr.findNow (.int .i64) (I k) l i = some none \/ ∃ (j : Nat) (e : MapEntry) (v : Int), l[j]? = some e /\ e.key = I k /\ Instr.findNow (.int .i64) (I k) l i = some (some (i + j, I v))
 | [], _, _ => .inl rfl
 | e :: l, i, h => by
  obtain ⟨a, v, ha, hv⟩ := h e (by simp)
  by_cases hk : k = a
  ·subst hk
   refine .inr ⟨0, e, v, rfl, ha, ?_⟩
   simp [Instr.findNow, ha, hv, Instr.sameNow]
  ·have hs : Instr.sameNow (.int .i64) (I k) e.key = some false := by rw [ha]; simp [Instr.sameNow, hk]
   rcases LR k l (i + 1) (fun e he => h e (by simp [he])) with h1 | ⟨j, e', v', h1, h2, h3⟩
   ·exact .inl (by rw [Instr.findNow, hs]; exact h1)
   ·exact .inr ⟨j + 1, e', v', h1, h2, by rw [Instr.findNow, hs]; simp only; rw [h3]; congr 3; omega⟩
theorem YU (ls : Int) (es : Array MapEntry) (clk : Nat) (h : UX es) : ∃ b0 : Int,
  (∀ (M : Nat) (w : World), w.heap[M]? = some (.map es clk) -> (Instr.lookup 129 (.map (some M)) (I ls) false).run Tryz.prog w = .ok (I b0) w)
  /\ ∀ v : Int, ∃ (es' : Array MapEntry) (clk' : Nat), UX es' /\ ∀ (M : Nat) (w : World), w.heap[M]? = some (.map es clk) -> (Instr.mapUpdate 129 (.map (some M)) (I ls) (I v)).run Tryz.prog w = .ok () { w with heap := w.heap.setIfInBounds M (.map es' clk') } := by
 rcases LR ls es.toList 0 h with h1 | ⟨j, e, b, hj, hk, h1⟩
 ·have hf : ∀ w, (Instr.findKey 3 (I ls) es.toList).run Tryz.prog w = .ok none w := fun w => by
   unfold Instr.findKey
   simp [qqc Tryz.underlying3, Result.andThen, h1]
  refine ⟨0, fun M w hM => ?_, fun v => ⟨es.push ⟨I ls, I v, clk⟩, clk + 1, ?_, fun M w hM => ?_⟩⟩
  ·unfold Instr.lookup
   simp only [qqu, qqc Tryz.underlying129, Result.andThen_ok, jQ hM, Sem.run_pure, JD, hf, Tryz.zeroValue3, Bool.false_eq_true, if_false]
  ·intro e he
   simp only [Array.toList_push, qqb, qqw] at he
   rcases he with he | rfl
   ·exact h e he
   ·exact ⟨ls, v, rfl, rfl⟩
  ·unfold Instr.mapUpdate
   simp only [qqu, qqc Tryz.underlying129, Result.andThen_ok, jQ hM, JD, hf]
   rw [uT _ hM]
 ·rw [Nat.zero_add] at h1
  have hf : ∀ w, (Instr.findKey 3 (I ls) es.toList).run Tryz.prog w = .ok (some (j, I b)) w := fun w => by
   unfold Instr.findKey
   simp [qqc Tryz.underlying3, Result.andThen, h1]
  have hkey : ((es[j]?).map (·.key)).getD (I ls) = I ls := by
   have : es[j]? = some e := by rw [<- Array.getElem?_toList]; exact hj
   rw [this]; exact hk
  refine ⟨b, fun M w hM => ?_, fun v => ⟨es.modify j fun e => { e with key := I ls, val := I v }, clk, ?_, fun M w hM => ?_⟩⟩
  ·unfold Instr.lookup
   simp only [qqu, qqc Tryz.underlying129, Result.andThen_ok, jQ hM, Sem.run_pure, JD, hf, Bool.false_eq_true, if_false]
  ·intro x hx
   obtain ⟨n, hn⟩ := List.getElem?_of_mem hx
   rw [Array.getElem?_toList, Array.getElem?_modify] at hn
   split at hn
   ·cases he : es[n]? with
    | none => rw [he] at hn; cases hn
    | some y => rw [he] at hn; simp only [qqh, qm] at hn; subst hn; exact ⟨ls, v, rfl, rfl⟩
   ·exact h x (List.mem_of_getElem? (by rw [Array.getElem?_toList]; exact hn))
  ·unfold Instr.mapUpdate
   simp only [qqu, qqc Tryz.underlying129, Result.andThen_ok, jQ hM, JD, hf, hkey, T7]
   rw [uT _ hM]
section
variable {T : List bD} {Y M : Nat} {tv : Value} {pos : Nat} {line col e : Int} {free : Bool} {ls ln : Int} {es : Array MapEntry} {clk : Nat} {st : aU} {w : World}
theorem jP.remap (h : jP Y M tv T pos line col e free ls ln es clk w) (es' : Array MapEntry) (clk' : Nat) : jP Y M tv T pos line col e free ls ln es' clk' { w with heap := w.heap.setIfInBounds M (.map es' clk') } := by
 have hne := h.ne
 refine ⟨?_, ?_, fun he => aC (h.row he) fun k hk => ?_⟩
 ·show (w.heap.setIfInBounds M _)[Y]? = _
  rw [qqs (fun e => hne e.symm)]; exact h.blk
 ·show (w.heap.setIfInBounds M _)[M]? = _
  rw [Array.getElem?_setIfInBounds_self_of_lt h.ltM]
 ·show (w.heap.setIfInBounds M _)[k]? = _
  rw [qqs]
  rintro rfl
  exact dF (h.row he) h.map (by intro cs' fr' hc; cases hc) hk
theorem aB.remap {bs : List Nat} {a w : World} (h : aB bs a w) {M : Nat} (hM : M ∈ bs) (o : Obj) : aB bs a { w with heap := w.heap.setIfInBounds M o } :=
 ⟨h.os, h.tape, h.output, by simpa using h.size, fun k hk hb => by
  show (w.heap.setIfInBounds M o)[k]? = _
  rw [qqs (fun e => hb (by rw [<- e]; exact hM))]; exact h.block k hk hb⟩
theorem T8 (h : PS T Y M true st w) : Calls Tryz.prog 52 #[.pointer (some ⟨Y, 0, none⟩)] w fun r w' => r = .returned (.agg #[I (vP T st).1.1, I (vP T st).1.2]) /\ PS T Y M true (vP T st).2 w' /\ aB [Y, M] w w' := by
 have lY := h.lt
 have lM := h.ltM
 have b00 := (qa w.heap.size w).alloc (qb _) (.cells #[I 0, I 0] 24)
 have h0 := h.step b00
 have x1 := LY h0 ⟨#[64]⟩
 have hR0 := qc w (.cells #[I 0, I 0] 24)
 have hRY : w.heap.size ≠ Y := by omega
 have hRM : w.heap.size ≠ M := by omega
 have hel := fun (s1 : aU) (w1 w2 : World) (h1 : PS T Y M true s1 w1) (R : Nat) => h1.else (w' := w2) (R := R) h
 unfold vP
 cases hb : isS T ⟨#[64]⟩ st with
 | false =>
  rw [if_neg (by decide)]
  rw [hb] at x1
  have HEL := aQ hel
  go_enter Tryz.func52, Tryz.ntmps52
  go_wp2_with (go_at_call 76; refine x1.mono ?_)
  intro r w1; first | (intro he b1; subst he) | rintro ⟨rfl, b1⟩
  have hR1 := (b1.block _ (aA hR0)).trans hR0
  have h1 := h0.step b1
  have aw := (aB.of_below (bs := [Y, M]) b00).trans (aB.of_below b1)
  generalize hRR : w.heap.size = R at hR0 hRY hRM b00 hR1 |-
  have c5 : w1.cell? ⟨Y, 5, none⟩ = some (.bool true) := by
   obtain ⟨_, tv, pos, line, col, e, ls, ln, es, clk, k1, k2, k3⟩ := h1
   exact k1.c5
  obtain ⟨q0, q1, f0, f1⟩ := aZ hR1
  have h2 := HEL.out _ w1 (dL w1 R (I 0) (I 0)) h1 R (qe hRR) hR1 (by decide) (fun j hj => cL w1 R _ _ j hj)
  have hR2 := cC (a := I 0) (b := I 0) hR1
  have aw2 := cN aw (qe hRR) (I 0) (I 0)
  clear x1 h0 h hR0 hR1 h1 b1 b00 HEL
  unfold dL at h2 hR2 aw2
  go_wp2
  refine qf (qh rfl _ _ R 24 _ (0, 0) _ rfl hR2 Tryz.underlying24 rfl Tryz.sizeId) rfl ?_
  exact ⟨rfl, h2, aw2⟩
 | true =>
  rw [if_pos rfl]
  rw [hb] at x1
  have xw := fun w' (b : Below (w.alloc (.cells #[I 0, I 0] 24)).heap.size (w.alloc (.cells #[I 0, I 0] 24)) w') => SF (h0.step b)
  generalize fT T st = q at xw |-
  obtain ⟨⟨v0, v1⟩, s1⟩ := q
  simp only at xw |-
  have HEL := aQ hel
  clear hb hel
  go_enter Tryz.func52, Tryz.ntmps52
  go_wp2_with (go_at_call 76; refine x1.mono ?_)
  intro r w1; first | (intro he b1; subst he) | rintro ⟨rfl, b1⟩
  have xw1 := xw _ b1
  have hR1 := (b1.block _ (aA hR0)).trans hR0
  have aw := (aB.of_below (bs := [Y, M]) b00).trans (aB.of_below b1)
  have hRR : w.heap.size = w.heap.size := rfl
  generalize hR : w.heap.size = R at hR0 hRY hRM b00 hR1 |-
  clear x1 h0 xw hR0 b00 b1
  go_wp2_with (go_at_call 92; refine xw1.mono ?_)
  intro r w1b; first | (intro he hs b2; subst he) | rintro ⟨rfl, hs, b2⟩
  have hR1b := b2.at hR1 (by simp; omega)
  have awb := aw.trans b2
  obtain ⟨g, tv, pos, line, col, e, ls, ln, es, clk, hs, hmo, hst⟩ := hs
  have f6 := hs.fz 6
  have f7 := hs.fz 7
  have c6 := hs.c6
  have c7 := hs.c7
  clear xw1 aw b2 hR1
  have h2 := (hs.put (pos' := pos) (line' := line) (col' := col) (e' := e) (ls' := v0) (ln' := ln) 6 (I v0) (fun h => h) rfl).put (pos' := pos) (line' := line) (col' := col) (e' := e) (ls' := v0) (ln' := v1) 7 (I v1) (fun h => h) rfl
  have aw2 := (awb.setCell (p := ⟨Y, 6, none⟩) (.inl (by simp)) (I v0)).setCell (p := ⟨Y, 7, none⟩) (.inl (by simp)) (I v1)
  have hR2 := (qg (w1b.setCell ⟨Y, 6, none⟩ (I v0)) ⟨Y, 7, none⟩ (I v1) R hRY).trans ((qg w1b ⟨Y, 6, none⟩ (I v0) R hRY).trans hR1b)
  go_wp2
  generalize (w1b.setCell ⟨Y, 6, none⟩ (I v0)).setCell ⟨Y, 7, none⟩ (I v1) = w2 at h2 aw2 hR2 |-
  clear hs awb hR1b c6 c7 f6 f7
  have d6 := h2.c6
  have d7 := h2.c7
  have d8 := h2.c8
  obtain ⟨b0, U1, U2⟩ := YU v0 es clk hmo
  have hlk := U1 M w2.drew h2.map
  obtain ⟨mx, hmx⟩ : ∃ mx, max b0 v1 = mx := ⟨_, rfl⟩
  obtain ⟨es', clk', hmo', U3⟩ := U2 mx
  have hput := U3 M w2.drew h2.map
  go_still_tail 25, (by kernel_rfl)
  change wpList _ _ _ _ _ w2.drew
  have h3 := (h2.step (qa _ w2).drew).remap es' clk'
  have aw3 := aw2.drew.remap (M := M) (by simp) (.map es' clk')
  have hR3 : ({ w2.drew with heap := w2.drew.heap.setIfInBounds M (.map es' clk') } : World).heap[R]? = some (.cells #[I 0, I 0] 24 (0, 0)) := (qqs (fun e => hRM e.symm)).trans hR2
  generalize hw3 : ({ w2.drew with heap := w2.drew.heap.setIfInBounds M (.map es' clk') } : World) = w3 at h3 aw3 hR3 hput
  clear h2 aw2 hR2 hlk U1 U2 U3
  have e6 := h3.c6
  have e7 := h3.c7
  obtain ⟨r0, r1, fr0, fr1⟩ := aZ hR3
  have hP3 : PS T Y M true s1 w3 := ⟨g, tv, pos, line, col, e, v0, v1, es', clk', h3, hmo', hst⟩
  have h4 := HEL.out _ w3 (dL w3 R (I v0) (I v1)) hP3 R (qe hR) hR3 (by decide) (fun j hj => cL w3 R _ _ j hj)
  have hR4 := cC (a := I v0) (b := I v1) hR3
  have aw4 := cN aw3 (qe hR) (I v0) (I v1)
  clear h3 aw3 hR3 HEL hP3 hst hmo hmo' h
  unfold dL at h4 hR4 aw4
  go_wp2
  refine qf (qh rfl _ _ R 24 _ (0, 0) _ rfl hR4 Tryz.underlying24 rfl Tryz.sizeId) rfl ?_
  exact ⟨rfl, h4, aw4⟩
end
end Go.Proofs.YtgkhemnmcgicnaaGreatDoor
