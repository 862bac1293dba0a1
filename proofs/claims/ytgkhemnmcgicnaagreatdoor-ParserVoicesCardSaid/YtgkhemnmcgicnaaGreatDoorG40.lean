/- Towards the law ParserVoices, true for every text (no condition): one part of the proof. -/
import Derived.Test.YtgkhemnmcgicnaaGreatDoorG01
import Derived.Test.YtgkhemnmcgicnaaGreatDoorG39
namespace Go.Proofs.YtgkhemnmcgicnaaGreatDoor
set_option maxHeartbeats 16000000
set_option maxRecDepth 100000
open Go.RowKit
theorem jB.inv {T : List bD} {tot : A5 × aU} {last : Int} {A : A5} {q : Nat} (h : jB T tot last A q) : -1 <= last /\ last < 22 /\ ∀ i : Nat, i < 5 -> last < (i : Int) -> 0 <= A.ar /\ A.ar < 2 ^ i := by
 obtain ⟨k, _, h2, _⟩ := h; exact h2 rfl
theorem jB.done {T : List bD} {tot : A5 × aU} {last : Int} {A : A5} {q : Nat} (h : jB T tot last A q) (h0 : 0 <= last) (hb : isS T ⟨#[93]⟩ (.ok q) = true) : (A, .ok q) = tot := by
 obtain ⟨k, _, _, _, h4⟩ := h; exact h4 h0 hb
theorem jB.sign {T : List bD} {tot : A5 × aU} {last : Int} {A : A5} {q : Nat} (h : jB T tot last A q) : last = -1 \/ 0 <= last := by
 obtain ⟨k, h1, _⟩ := h; exact h1
def EF.withL (F : EF) (v : Value) : EF := { F with lv := v }
theorem EF.withL_nil {F : EF} (h : F.lv = .slice none 0 0) : F.withL (.slice none 0 0) = F := by
 cases F; simp only [EF.withL] at h |-; rw [h]
theorem MS.beside {T : List bD} {X R : Nat} {free : Bool} {lv iv : Value} {st st0 : aU} {w w0 w' : World} (h : MS T X free lv iv st w) (h0 : MS T X free lv iv st0 w0) (hR : w0.heap.size <= R) (a : aB [R] w w') : MS T X free lv iv st w' := by
 have l1 := h0.lt
 obtain ⟨_, pos0, is0, im0, n0, xs0, e0, line0, col0, m1, m2, m3⟩ := h0
 obtain ⟨g, pos, is, im, n, xs, e, line, col, h1, h2, h3⟩ := h
 have n : ∀ k, k < w0.heap.size -> k ∉ [R] := fun k hk => by simp; omega
 exact ⟨g, pos, is, im, _, xs, e, line, col, ⟨a.at h1.blk (n X l1), fun he => aC (h1.row he) fun k hk => a.block k ((h1.row he).lt k hk).2 (n k (m1.lvB k hk)), aC h1.ids fun k hk => a.block k (h1.ids.lt k hk).2 (n k (m1.ids.lt k hk).2), fun g hg' => qk (h1.lvB g hg') a.size⟩, h2, h3⟩
section
variable {T : List bD} {X E : Nat} {free : Bool} {lv iv : Value} {st st0 : aU} {F : EF} {w w0 : World}
theorem YS (h : MS T X free lv iv st w) (h0 : MS T X free lv iv st0 w0) (hw0 : w0.heap.size <= E) (hw1 : w0.heap.size <= w.heap.size) (hE : w.heap[E]? = some (.cells (F.c ⟨0, 0, 0, 0, 0⟩) 31 (0, 0))) (hF : F.lv = .slice none 0 0) :
  Calls Tryz.prog 30 #[.pointer (some ⟨X, 0, none⟩), .pointer (some ⟨E, 0, none⟩)] w fun rr w' => rr = .returned (.tuple #[]) /\ ∃ v, w'.heap[E]? = some (.cells ((F.withL v).c (gU T st).1) 31 (0, 0)) /\ w'.ownsRow w.heap.size 147 2 v (j2 T T.length (gU T st).2).1.length (cH cT.cells (j2 T T.length (gU T st).2).1) /\ MS T X free lv iv (j2 T T.length (gU T st).2).2 w' /\ aB [X, E] w w' := by
 obtain ⟨i0, zz, hi0, hzz, hzc, hz1, hz2⟩ : ∃ i z, Tryz.prog.info? 147 = some i /\ i.zero = some z /\ z.cells.size = 2 /\ i.size = 2 /\ i.bytes = 24 := by
  have := Tryz.infosyll
  cases hi : Tryz.prog.info? 147 with
  | none => rw [hi] at this; cases this
  | some i =>
   rw [hi] at this
   simp only [qqh, qm, qz] at this
   cases hz : i.zero with
   | none => rw [hz] at this; cases this.1
   | some z => rw [hz] at this; exact ⟨i, z, rfl, hz, by simpa using this.1, this.2.1, this.2.2⟩
 have hX0 := h0.lt
 have hEX : E ≠ X := by omega
 have hEl := aA hE
 have hm := h.good.max
 have hmore := fun (p : Nat) (hp : p < T.length) (hk : (T.getD p dA).kind ≠ 0) => h.good.more hp hk
 have xa := eD h ⟨#[91]⟩
 have hel := fun (s1 : aU) (w1 w2 : World) (h1 : MS T X free lv iv s1 w1) => h1.else (w' := w2) (R := E) h0 hw0
 have hat : (isS T ⟨#[91]⟩ st = false -> aS T ⟨#[91]⟩ st = st /\ gU T st = (⟨0, 0, 0, 0, 0⟩, st)) /\ (isS T ⟨#[91]⟩ st = true -> ∃ q tot, aS T ⟨#[91]⟩ st = .ok q /\ jB T tot (-1) ⟨0, 0, 0, 0, 0⟩ q /\ gU T st = (tot.1, bE T ⟨#[93]⟩ tot.2)) := by
  refine ⟨fun e => ⟨by unfold aS; rw [e]; rfl, by unfold gU; rw [e]; rfl⟩, fun e => ?_⟩
  obtain ⟨p, rfl⟩ : ∃ p, st = .ok p := by
   cases st with
   | ok p => exact ⟨p, rfl⟩
   | bad e' l c => rw [QL] at e; cases e
  exact ⟨p + 1, _, by unfold aS; rw [if_pos e]; rfl, jB.start, by unfold gU; rw [if_pos e]; rfl⟩
 generalize gU T st = at9 at hat |-
 obtain ⟨A9, s9⟩ := at9
 simp only at hat |-
 obtain ⟨tl, htl⟩ : ∃ tl, Shut (tl = j2 T T.length s9) := ⟨_, rfl⟩
 rw [<- htl.out]
 generalize isS T ⟨#[91]⟩ st = b at xa hat
 generalize aS T ⟨#[91]⟩ st = sa at xa hat
 have HA := aQ hat
 clear h hat
 go_enter Tryz.func30, Tryz.ntmps30
 go_upto_if 9 with (go_at_call 24; refine xa.mono ?_; rintro rr w1 ⟨rfl, hS1, a1⟩)
 have hE1 := a1.at hE (by simp; omega)
 have aw1 := a1.more (cs := [X, E]) (by simp)
 clear xa a1 hE
 go_cut [] from 4 (fun wc => wc.heap[E]? = some (.cells (F.c A9) 31 (0, 0)) /\ MS T X free lv iv s9 wc /\ aB [X, E] w wc)
 case first =>
  cases hb : b with
  | false =>
   obtain ⟨rfl, he⟩ := HA.out.1 hb
   injection he with e1 e2
   subst e1 e2
   go_wp2
   go_meet
   case rel => exact ⟨hE1, hS1, aw1⟩
  | true =>
   obtain ⟨q0, tot, rfl, hAt, he⟩ := HA.out.2 hb
   injection he with e1 e2
   subst hb
   have HE := aQ (And.intro e1 e2)
   clear e1 e2 HA
   have hq0 := hS1.atCell.2.2
   obtain ⟨N, hN⟩ : ∃ N, Shut (need T (.ok q0) = N) := ⟨_, rfl⟩
   go_wp2
   go_loopg [4] N (fun gk s4 wr => ∃ (last : Int) (A : A5) (q : Nat), s4 = I last /\ Shut (need T (.ok q) = gk) /\ q < T.length /\ jB T tot last A q /\ wr.heap[E]? = some (.cells (F.c A) 31 (0, 0)) /\ MS T X free lv iv (.ok q) wr /\ aB [X, E] w wr)
   case atStart => exact ⟨-1, _, q0, rfl, hN, hq0, hAt, hE1, hS1, aw1⟩
   case round =>
    clear hAt hE1 hS1 aw1 hq0
    obtain ⟨last, A, q, rfl, hneed, hq, hAt, hE, hS, aw⟩ := hrel
    have c6 := hS.okCell
    obtain ⟨c1, f1, _⟩ := hS.atCell
    have lX := hS.lt
    have tw := T3 T last A q
    have xch := fun W (bW : Below wr.heap.size wr W) R (hR : W.heap[R]? = some dG) => SP (hS.step bW) hR
    have xi := uP hS ⟨#[93]⟩
    generalize bU T aP (.ok q) = qw at tw xch
    obtain ⟨o, s2⟩ := qw
    simp only at tw xch
    rcases hAt.sign with rfl | hl0
    ·have hcond : (-1 : Int) = -1 \/ isS T ⟨#[93]⟩ (.ok q) = false := .inl rfl
     clear xi
     rcases tw with ⟨rfl, ⟨ee, el, ec, rfl⟩, he⟩ | ⟨i, hi, rfl, rfl, he1, he0⟩
     ·have hst := hAt.stop hcond he
      have HF : Shut (A9 = A /\ tl = ([], aU.bad ee el ec) /\ True) := by
       obtain ⟨g1, g2⟩ := HE.out
       rw [hst] at g1 g2
       rw [pV] at g2
       refine ⟨g1, ?_, trivial⟩
       rw [htl.out, g2]
       exact Prod.ext (by cases T.length <;> rfl) (tD _ _ _ _)
      simp only [Option.getD_none, show ((0 : Nat) : Int) = 0 from rfl] at xch
      have bR := (qa _ wr).alloc (qb _) dG
      have xc := xch _ bR _ (qc wr dG)
      have hE2 := (bR.block _ (aA hE)).trans hE
      have aw2 := aw.step bR
      clear xch
      clear he hst hcond
      go_wp2_with (go_at_call 69; (with_reducible refine (iB _).mono ?_); rintro rr ww ⟨rfl, rfl⟩)
      refine xc.mono ?_
      rintro rr w2 ⟨rfl, hS2, a2⟩
      obtain ⟨c62, hee⟩ := hS2.errCell
      have hE3 := a2.at hE2 (by simp; omega)
      have aw3 := aw2.trans (a2.more (cs := [X, E]) (by simp))
      clear xc hE2 aw2 a2
      go_wp2
      (try simp only [Exit.inBlock, Exit.then])
      refine qf (results_none rfl _ _ _) rfl ?_
      refine ⟨rfl, .slice none 0 0, ?_, ?_, ?_, ?_⟩
      ·rw [EF.withL_nil hF, HF.out.1]; exact hE3
      ·rw [HF.out.2.1]; exact qqe _ _ _ _
      ·rw [HF.out.2.1]; exact hS2
      ·exact aw3
     ·have hlt0 := hAt.inv
      simp only [Option.getD_some] at xch
      have bR := (qa _ wr).alloc (qb _) dG
      have xc := xch _ bR _ (qc wr dG)
      have hE2 := (bR.block _ (aA hE)).trans hE
      have aw2 := aw.step bR
      clear xch
      have hb : eW (-1) (i : Int) = false := rfl
      have he := he0 hb
      have hle : decide ((i : Int) <= -1) = false := qt (by omega)
      have hA3 := fun hq1 => hAt.step hcond he hq1
      clear he0 he1 hcond
      go_wp2_with (go_at_call 69; (with_reducible refine (iB _).mono ?_); rintro rr ww ⟨rfl, rfl⟩)
      refine xc.mono ?_
      rintro rr w2 ⟨rfl, hS2, a2⟩
      have c62 := hS2.okCell
      have hq1 := hS2.atCell.2.2
      have hE3 := a2.at hE2 (by simp; omega)
      have aw3 := aw2.trans (a2.more (cs := [X, E]) (by simp))
      have hA2 := hA3 hq1
      have xs := xV hE3 i hi (fun h5 => hlt0.2.2 i h5 (m8 hb hlt0.1 (by omega)))
      clear xc hE2 aw2 a2 he hlt0 hb hA3
      go_wp2_with (go_at_call 71; refine xs.mono ?_)
      rintro rr w3 ⟨rfl, hE4, a4⟩
      have hS4 := hS2.beside h0 hw0 a4
      have aw4 := aw3.trans (a4.more (cs := [X, E]) (by simp))
      clear xs hE3 hS2 aw3 a4
      go_wp2
      go_roundg (need T (.ok (q + 1)))
      case measure => have := hneed.out; unfold need at this |-; simp only at this |-; omega
      case rel => exact ⟨i, _, q + 1, rfl, rfl, hq1, hA2, hE4, hS4, aw4⟩
    ·have hl1 : decide (last < 0) = false := qt (by omega)
     cases hb : isS T ⟨#[93]⟩ (.ok q) with
     | true =>
      rw [hb] at xi
      have htot := hAt.done hl0 hb
      have HF : Shut (A9 = A /\ s9 = bE T ⟨#[93]⟩ (.ok q)) := by
       obtain ⟨g1, g2⟩ := HE.out
       rw [<- htot] at g1 g2
       exact ⟨g1, g2⟩
      have xe := fun W (bW : Below wr.heap.size wr W) => fM (hS.step bW) ⟨#[93]⟩
      clear tw xch htot hb
      go_wp2_with (go_at_call 27; refine xi.mono ?_)
      intro rr w2; first | (intro he b2; subst he) | rintro ⟨rfl, b2⟩
      have xe2 := xe _ b2
      have hE2 := (b2.block _ (aA hE)).trans hE
      have aw2 := aw.step b2
      clear xi xe hE aw hS
      go_wp2_with (go_at_call 25; refine xe2.mono ?_)
      intro rr w3; first | (intro he hS3 a3; subst he) | rintro ⟨rfl, hS3, a3⟩
      have hE3 := a3.at hE2 (by simp; omega)
      have aw3 := aw2.trans (a3.more (cs := [X, E]) (by simp))
      clear xe2 hE2 aw2 a3
      go_wp2
      go_meet
      case rel => rw [HF.out.1, HF.out.2]; exact ⟨hE3, hS3, aw3⟩
     | false =>
      rw [hb] at xi
      have hcond : last = -1 \/ isS T ⟨#[93]⟩ (.ok q) = false := .inr hb
      go_wp2_with (go_at_call 27; refine xi.mono ?_)
      intro rr wq; first | (intro he b3; subst he) | rintro ⟨rfl, b3⟩
      have hSq := hS.step b3
      have hEq := (b3.block _ (aA hE)).trans hE
      have awq := aw.step b3
      have xchq := fun W (bW : Below wq.heap.size wq W) R hR => xch W (b3.trans (bW.mono b3.size)) R hR
      have c6q := hSq.okCell
      obtain ⟨c1q, f1q, _⟩ := hSq.atCell
      clear xi xch hS hE aw c6 c1 f1 b3 hb
      rcases tw with ⟨rfl, ⟨ee, el, ec, rfl⟩, he⟩ | ⟨i, hi, rfl, rfl, he1, he0⟩
      ·have hst := hAt.stop hcond he
       have HF : Shut (A9 = A /\ tl = ([], aU.bad ee el ec) /\ True) := by
        obtain ⟨g1, g2⟩ := HE.out
        rw [hst] at g1 g2
        rw [pV] at g2
        refine ⟨g1, ?_, trivial⟩
        rw [htl.out, g2]
        exact Prod.ext (by cases T.length <;> rfl) (tD _ _ _ _)
       simp only [Option.getD_none, show ((0 : Nat) : Int) = 0 from rfl] at xchq
       have bR := (qa _ wq).alloc (qb _) dG
       have xc := xchq _ bR _ (qc wq dG)
       have hE2 := (bR.block _ (aA hEq)).trans hEq
       have aw2 := awq.step bR
       clear he hst hcond xchq
       go_wp2_with (go_at_call 69; (with_reducible refine (iB _).mono ?_); rintro rr ww ⟨rfl, rfl⟩)
       refine xc.mono ?_
       rintro rr w2 ⟨rfl, hS2, a2⟩
       obtain ⟨c62, hee⟩ := hS2.errCell
       have hE3 := a2.at hE2 (by simp; omega)
       have aw3 := aw2.trans (a2.more (cs := [X, E]) (by simp))
       clear xc hE2 aw2 a2
       go_wp2
       (try simp only [Exit.inBlock, Exit.then])
       refine qf (results_none rfl _ _ _) rfl ?_
       refine ⟨rfl, .slice none 0 0, ?_, ?_, ?_, ?_⟩
       ·rw [EF.withL_nil hF, HF.out.1]; exact hE3
       ·rw [HF.out.2.1]; exact qqe _ _ _ _
       ·rw [HF.out.2.1]; exact hS2
       ·exact aw3
      ·have hlt0 := hAt.inv
       have hab : eW last (i : Int) = (decide ((i : Int) <= last) || (decide (0 < EC i) && decide (EC i = EC last))) := by unfold eW; rw [qu hl0]; rfl
       rw [<- VV, <- VX] at hab
       have hgi := rR (i := (i : Int)) (by omega) (by omega)
       have hgl := rR hl0 hlt0.2.1
       by_cases hle : (i : Int) <= last
       ·have hb : eW last (i : Int) = true := by rw [hab, qu hle]; rfl
        clear hab hgi hgl
        have he := he1 hb
        obtain ⟨ee, el, ec, hf⟩ := pC T 13 (.ok q)
        rw [hf] at he
        have hst := hAt.stop hcond he
        have HF : Shut (A9 = A /\ tl = ([], aU.bad ee el ec) /\ bF T 13 (.ok q) = .bad ee el ec) := by
         obtain ⟨g1, g2⟩ := HE.out
         rw [hst] at g1 g2
         rw [pV] at g2
         refine ⟨g1, ?_, hf⟩
         rw [htl.out, g2]
         exact Prod.ext (by cases T.length <;> rfl) (tD _ _ _ _)
        clear he he0 he1 hcond hb hst hf hlt0
        simp only [Option.getD_some] at xchq
        have bR := (qa _ wq).alloc (qb _) dG
        have xc := xchq _ bR _ (qc wq dG)
        have hE2 := (bR.block _ (aA hEq)).trans hEq
        have aw2 := awq.step bR
        clear xchq
        go_wp2_with (go_at_call 69; (with_reducible refine (iB _).mono ?_); rintro rr ww ⟨rfl, rfl⟩)
        refine xc.mono ?_
        rintro rr w2 ⟨rfl, hS2, a2⟩
        have c62 := hS2.okCell
        have hq1 := hS2.atCell.2.2
        have hE3 := a2.at hE2 (by simp; omega)
        have aw3 := aw2.trans (a2.more (cs := [X, E]) (by simp))
        clear xc hE2 aw2 a2
        have hS5 := hS2
        have hE5 := hE3
        have aw5 := aw3
        generalize w2 = w5 at hS5 hE5 aw5 c62 |-
        clear hS2 hE3 aw3
        have hSb := hS5.back hSq
        obtain ⟨c15, f15, _⟩ := hS5.atCell
        have hEb := (aE w5 X 1 (I (q : Nat)) E hEX).trans hE5
        have awb := aw5.setCell (p := ⟨X, 1, none⟩) (.inl (by simp)) (I (q : Nat))
        have xf := gP hSb 13 (by decide)
        rw [HF.out.2.2] at xf
        clear hSb hS5 hE5 aw5
        first | (refine xf.mono ?_) | (go_wp2_with (go_at_call 32; refine xf.mono ?_))
        rintro rr w6 ⟨rfl, hS6, a6⟩
        have hE6 := a6.at hEb (by simp; omega)
        have aw6 := awb.trans (a6.more (cs := [X, E]) (by simp))
        clear xf hEb awb a6
        go_wp2
        (try simp only [Exit.inBlock, Exit.then])
        refine qf (results_none rfl _ _ _) rfl ?_
        refine ⟨rfl, .slice none 0 0, ?_, ?_, ?_, ?_⟩
        ·rw [EF.withL_nil hF, HF.out.1]; exact hE6
        ·rw [HF.out.2.1]; exact qqe _ _ _ _
        ·rw [HF.out.2.1]; exact hS6
        ·exact aw6
       ·have hle' : decide ((i : Int) <= last) = false := qt hle
        rw [hle', Bool.false_or] at hab
        generalize m7 (i : Int) = gi at hgi hab
        generalize m7 last = gl at hgl hab
        by_cases hg : 1 < gi
        ·rw [qu hg, Bool.true_and] at hab
         by_cases hge : gi = gl
         ·subst hge
          have hb : eW last (i : Int) = true := by rw [hab]; simp
          clear hab
          have he := he1 hb
          obtain ⟨ee, el, ec, hf⟩ := pC T 13 (.ok q)
          rw [hf] at he
          have hst := hAt.stop hcond he
          have HF : Shut (A9 = A /\ tl = ([], aU.bad ee el ec) /\ bF T 13 (.ok q) = .bad ee el ec) := by
           obtain ⟨g1, g2⟩ := HE.out
           rw [hst] at g1 g2
           rw [pV] at g2
           refine ⟨g1, ?_, hf⟩
           rw [htl.out, g2]
           exact Prod.ext (by cases T.length <;> rfl) (tD _ _ _ _)
          clear he he0 he1 hcond hb hst hf hlt0
          simp only [Option.getD_some] at xchq
          have bR := (qa _ wq).alloc (qb _) dG
          have xc := xchq _ bR _ (qc wq dG)
          have hE2 := (bR.block _ (aA hEq)).trans hEq
          have aw2 := awq.step bR
          clear xchq
          go_wp2_with (go_at_call 69; (with_reducible refine (iB _).mono ?_); rintro rr ww ⟨rfl, rfl⟩)
          refine xc.mono ?_
          rintro rr w2 ⟨rfl, hS2, a2⟩
          have c62 := hS2.okCell
          have hq1 := hS2.atCell.2.2
          have hE3 := a2.at hE2 (by simp; omega)
          have aw3 := aw2.trans (a2.more (cs := [X, E]) (by simp))
          clear xc hE2 aw2 a2
          have bAcc := qa w2.heap.size w2
          go_wp2_with (go_at_call 70; (with_reducible first | refine (hgi _).mono ?_ | refine (hgl _).mono ?_); rintro rr wg ⟨rfl, bg⟩; have bAcc := bAcc.trans (bg.mono bAcc.size); have hSg := hS2.step bAcc; obtain ⟨c15, f15, hz15⟩ := hSg.atCell; have lX5 := hSg.lt; clear bg hSg hz15)
          have hS5 := hS2.step bAcc
          have hE5 := (bAcc.block _ (aA hE3)).trans hE3
          have aw5 := aw3.step bAcc
          clear hS2 hE3 aw3 bAcc c62
          generalize wg = w5 at hS5 hE5 aw5 |-
          have hSb := hS5.back hSq
          obtain ⟨c15, f15, _⟩ := hS5.atCell
          have hEb := (aE w5 X 1 (I (q : Nat)) E hEX).trans hE5
          have awb := aw5.setCell (p := ⟨X, 1, none⟩) (.inl (by simp)) (I (q : Nat))
          have xf := gP hSb 13 (by decide)
          rw [HF.out.2.2] at xf
          clear hSb hS5 hE5 aw5
          first | (refine xf.mono ?_) | (go_wp2_with (go_at_call 32; refine xf.mono ?_))
          rintro rr w6 ⟨rfl, hS6, a6⟩
          have hE6 := a6.at hEb (by simp; omega)
          have aw6 := awb.trans (a6.more (cs := [X, E]) (by simp))
          clear xf hEb awb a6
          go_wp2
          (try simp only [Exit.inBlock, Exit.then])
          refine qf (results_none rfl _ _ _) rfl ?_
          refine ⟨rfl, .slice none 0 0, ?_, ?_, ?_, ?_⟩
          ·rw [EF.withL_nil hF, HF.out.1]; exact hE6
          ·rw [HF.out.2.1]; exact qqe _ _ _ _
          ·rw [HF.out.2.1]; exact hS6
          ·exact aw6
         ·have hge' : (gi == gl) = false := by simp [hge]
          have hb : eW last (i : Int) = false := by rw [hab, qt hge]
          clear hab
          have he := he0 hb
          have hA3 := fun hq1 => hAt.step hcond he hq1
          have HB := aQ hb
          clear he he0 he1 hcond hb
          simp only [Option.getD_some] at xchq
          have bR := (qa _ wq).alloc (qb _) dG
          have xc := xchq _ bR _ (qc wq dG)
          have hE2 := (bR.block _ (aA hEq)).trans hEq
          have aw2 := awq.step bR
          clear xchq
          go_wp2_with (go_at_call 69; (with_reducible refine (iB _).mono ?_); rintro rr ww ⟨rfl, rfl⟩)
          refine xc.mono ?_
          rintro rr w2 ⟨rfl, hS2, a2⟩
          have c62 := hS2.okCell
          have hq1 := hS2.atCell.2.2
          have hE3 := a2.at hE2 (by simp; omega)
          have aw3 := aw2.trans (a2.more (cs := [X, E]) (by simp))
          clear xc hE2 aw2 a2
          have bAcc := qa w2.heap.size w2
          go_wp2_with (go_at_call 70; (with_reducible first | refine (hgi _).mono ?_ | refine (hgl _).mono ?_); rintro rr wg ⟨rfl, bg⟩; have bAcc := bAcc.trans (bg.mono bAcc.size); have hSg := hS2.step bAcc; obtain ⟨c15, f15, hz15⟩ := hSg.atCell; have lX5 := hSg.lt; clear bg hSg hz15)
          have hS5 := hS2.step bAcc
          have hE5 := (bAcc.block _ (aA hE3)).trans hE3
          have aw5 := aw3.step bAcc
          clear hS2 hE3 aw3 bAcc c62
          generalize wg = w5 at hS5 hE5 aw5 |-
          have hA2 := hA3 hq1
          have xs := xV hE5 i hi (fun h5 => hlt0.2.2 i h5 (m8 HB.out hlt0.1 (by omega)))
          clear hlt0 hA3
          first | (refine xs.mono ?_) | (go_wp2_with (go_at_call 71; refine xs.mono ?_))
          rintro rr w6 ⟨rfl, hE6, a6⟩
          have hS6 := hS5.beside h0 hw0 a6
          have aw6 := aw5.trans (a6.more (cs := [X, E]) (by simp))
          clear xs hE5 hS5 aw5 a6
          go_wp2
          go_roundg (need T (.ok (q + 1)))
          case measure => have := hneed.out; unfold need at this |-; simp only at this |-; omega
          case rel => exact ⟨i, _, q + 1, rfl, rfl, hq1, hA2, hE6, hS6, aw6⟩
        ·have hg' : decide (1 < gi) = false := qt hg
         have hb : eW last (i : Int) = false := by rw [hab, hg']; rfl
         clear hab hgl
         have he := he0 hb
         have hA3 := fun hq1 => hAt.step hcond he hq1
         have HB := aQ hb
         clear he he0 he1 hcond hb
         simp only [Option.getD_some] at xchq
         have bR := (qa _ wq).alloc (qb _) dG
         have xc := xchq _ bR _ (qc wq dG)
         have hE2 := (bR.block _ (aA hEq)).trans hEq
         have aw2 := awq.step bR
         clear xchq
         go_wp2_with (go_at_call 69; (with_reducible refine (iB _).mono ?_); rintro rr ww ⟨rfl, rfl⟩)
         refine xc.mono ?_
         rintro rr w2 ⟨rfl, hS2, a2⟩
         have c62 := hS2.okCell
         have hq1 := hS2.atCell.2.2
         have hE3 := a2.at hE2 (by simp; omega)
         have aw3 := aw2.trans (a2.more (cs := [X, E]) (by simp))
         clear xc hE2 aw2 a2
         have bAcc := qa w2.heap.size w2
         go_wp2_with (go_at_call 70; (with_reducible first | refine (hgi _).mono ?_ | refine (hgl _).mono ?_); rintro rr wg ⟨rfl, bg⟩; have bAcc := bAcc.trans (bg.mono bAcc.size); have hSg := hS2.step bAcc; obtain ⟨c15, f15, hz15⟩ := hSg.atCell; have lX5 := hSg.lt; clear bg hSg hz15)
         have hS5 := hS2.step bAcc
         have hE5 := (bAcc.block _ (aA hE3)).trans hE3
         have aw5 := aw3.step bAcc
         clear hS2 hE3 aw3 bAcc c62
         generalize wg = w5 at hS5 hE5 aw5 |-
         have hA2 := hA3 hq1
         have xs := xV hE5 i hi (fun h5 => hlt0.2.2 i h5 (m8 HB.out hlt0.1 (by omega)))
         clear hlt0 hA3
         first | (refine xs.mono ?_) | (go_wp2_with (go_at_call 71; refine xs.mono ?_))
         rintro rr w6 ⟨rfl, hE6, a6⟩
         have hS6 := hS5.beside h0 hw0 a6
         have aw6 := aw5.trans (a6.more (cs := [X, E]) (by simp))
         clear xs hE5 hS5 aw5 a6
         go_wp2
         go_roundg (need T (.ok (q + 1)))
         case measure => have := hneed.out; unfold need at this |-; simp only at this |-; omega
         case rel => exact ⟨i, _, q + 1, rfl, rfl, hq1, hA2, hE6, hS6, aw6⟩
 case rest =>
  obtain ⟨hE, hS, aw⟩ := hcut
  clear HA hE1 hS1 aw1
  have hn0 : need T s9 <= T.length := by
   cases s9 with
   | ok p => exact Nat.sub_le _ _
   | bad e l c => exact qn _
  obtain ⟨N, hN⟩ : ∃ N, Shut (T.length = N) := ⟨_, rfl⟩
  have hN4 : N <= 4001 := by rw [<- hN.out]; exact hm
  have htl2 := htl.out
  rw [hN.out] at htl2 hn0
  have HT := aQ (And.intro htl2.symm hn0)
  have ho0 : wc.ownsRow w.heap.size 147 2 (.slice none 0 0) 0 (cH cT.cells []) := qqe wc _ _ _
  have hE0 : wc.heap[E]? = some (.cells ((F.withL (.slice none 0 0)).c A9) 31 (0, 0)) := by rw [EF.withL_nil hF]; exact hE
  clear htl2 hn0 hm htl hE
  go_wp2
  go_loopg [] N (fun gk wr => ∃ (l : List cT) (s : aU) (v : Value), l.length + gk = N /\ need T s <= gk /\ (l ++ (j2 T gk s).1, (j2 T gk s).2) = tl /\ wr.ownsRow w.heap.size 147 2 v l.length (cH cT.cells l) /\ wr.heap[E]? = some (.cells ((F.withL v).c A9) 31 (0, 0)) /\ MS T X free lv iv s wr /\ aB [X, E] w wr)
  case atStart => exact ⟨[], s9, _, by simp, HT.out.2, by rw [HT.out.1]; rfl, ho0, hE0, hS, aw⟩
  case round =>
   clear hS aw ho0 hE0
   obtain ⟨l, s, lyv, hlen, hneed, htotal, hown, hE, hS, aw⟩ := hrel
   have hN1 : (l.length : Int) <= 4001 := by omega
   obtain ⟨ao, cp, rfl⟩ := bX hown
   have hlo : ∀ j, (Value.slice ao l.length cp).ownBlock = some j -> w.heap.size <= j := fun j hj => (hown.lt j hj).1
   have fin0 : nV T s = false -> l = tl.1 /\ s = tl.2 := fun e => by
    rw [QR T gk s e, List.append_nil] at htotal
    exact ⟨congrArg (·.1) htotal, congrArg (·.2) htotal⟩
   have more : nV T s = true -> ∃ g, gk = g + 1 /\ (l ++ [(eH T s).1]).length + g = N /\ need T (eH T s).2 <= g /\ ((l ++ [(eH T s).1]) ++ (j2 T g (eH T s).2).1, (j2 T g (eH T s).2).2) = tl := fun e => by
    obtain ⟨p, rfl⟩ := DC e
    have hpl := hS.atCell.2.2
    obtain ⟨g, rfl⟩ : ∃ g, gk = g + 1 := ⟨gk - 1, by unfold need at hneed; simp only at hneed; omega⟩
    refine ⟨g, rfl, by simp only [qi, qj, qqi]; omega, BG hpl (fun p' hp' => yY e hp') hneed, ?_⟩
    rw [LW T g _ e] at htotal
    rw [<- htotal]
    simp
   have xp := pR hS
   have xi := fun w' (b : Below wr.heap.size wr w') => uP (hS.step b) ⟨#[95]⟩
   have xa := fun w' (b : Below wr.heap.size wr w') => eD (hS.step b) ⟨#[95]⟩
   have hsb : nV T s = (decide ((aW T s).kind = 3) || isS T ⟨#[95]⟩ s) := rfl
   have hs3 := fun h3 : (aW T s).kind = 3 => yX h3 ⟨#[95]⟩
   have hau : isS T ⟨#[95]⟩ s = true -> eH T s = (⟨ByteArray.empty, 2⟩, s.next 1) /\ aS T ⟨#[95]⟩ s = s.next 1 := fun e => ⟨by unfold eH; rw [if_pos e], by unfold aS; rw [if_pos e]⟩
   have hst3 : (aW T s).kind = 3 -> jZ T s = ((aW T s).bytes, s.next 1) := fun e => by unfold jZ; rw [if_pos e]
   have xtk := fun w' (h : MS T X free lv iv s w') => QK h 3 (by decide) (by decide)
   have hsaE : isS T ⟨#[95]⟩ s = false -> aS T ⟨#[95]⟩ s = s := fun e => by unfold aS; rw [e]; rfl
   generalize isS T ⟨#[95]⟩ s = ba at xi xa hsb hs3 hau hsaE
   generalize aS T ⟨#[95]⟩ s = sa at xa hau hsaE
   have hsa : ba = false -> sa = s := fun e => hsaE e
   by_cases hk : (aW T s).kind = 3
   ·obtain rfl : ba = false := hs3 hk
    rw [hsa rfl] at xa
    clear hsa hsaE hau
    obtain ⟨g, hgk, q1, q2, q3⟩ := more (by rw [hsb, qu hk]; rfl)
    have hsy := JC hk
    rw [if_pos hk, if_pos hk] at xtk
    have xn1 := fun w' (h : MS T X free lv iv (s.next 1) w') => pR h
    have xm1 := fun w' (h : MS T X free lv iv (s.next 1) w') => eD h ⟨#[45]⟩
    have xu1 := fun w' (h : MS T X free lv iv (s.next 1) w') => eD h ⟨#[95]⟩
    have hm1 : isS T ⟨#[45]⟩ (s.next 1) = true -> aS T ⟨#[45]⟩ (s.next 1) = (s.next 1).next 1 := fun e => by unfold aS; rw [if_pos e]
    have hm0 : isS T ⟨#[45]⟩ (s.next 1) = false -> aS T ⟨#[45]⟩ (s.next 1) = s.next 1 := fun e => by unfold aS; rw [e]; rfl
    have hu1 : isS T ⟨#[95]⟩ (s.next 1) = true -> aS T ⟨#[95]⟩ (s.next 1) = (s.next 1).next 1 := fun e => by unfold aS; rw [if_pos e]
    have hu0 : isS T ⟨#[95]⟩ (s.next 1) = false -> aS T ⟨#[95]⟩ (s.next 1) = s.next 1 := fun e => by unfold aS; rw [e]; rfl
    generalize aS T ⟨#[45]⟩ (s.next 1) = sm at xm1 hm1 hm0
    generalize aS T ⟨#[95]⟩ (s.next 1) = su at xu1 hu1 hu0
    generalize isS T ⟨#[45]⟩ (s.next 1) = bm at xm1 hm1 hm0 hsy
    generalize isS T ⟨#[95]⟩ (s.next 1) = bu at xu1 hu1 hu0 hsy
    unfold fK at xn1 xp xtk
    generalize aW T (s.next 1) = t1 at xn1 hsy
    obtain ⟨kd1, text1, v1, bt1, lin1, cln1, j1⟩ := t1
    generalize aW T s = t at xp xtk hk hsy hsb hs3
    obtain ⟨kd, text, v, y, lin, cln, j⟩ := t
    simp only at xp xtk xn1 hk hsy
    subst hk
    have hfd := pN 3 v lin cln text y j
    have hfd3 := ZW 3 v lin cln text y j
    have hfd6 := XT kd1 v1 lin1 cln1 text1 bt1 j1
    clear hsb hs3 hst3 fin0 more htotal hlen hneed xi
    go_wp2_with (go_at_call 31; refine xp.mono ?_)
    intro rr w1; first | (intro he b1; subst he) | rintro ⟨rfl, b1⟩
    have xa1 := xa _ b1
    have hown1 := aC hown fun j hj => b1.block j (hown.lt j hj).2
    have hE1 := (b1.block _ (aA hE)).trans hE
    have aw1 := aw.step b1
    clear xp xa hown aw b1 hE hS
    go_wp2_with (go_at_call 24; refine xa1.mono ?_)
    intro rr w2; first | (intro he hS2 a2; subst he) | rintro ⟨rfl, hS2, a2⟩
    have nOX : ∀ j, (Value.slice ao l.length cp).ownBlock = some j -> j ≠ X := fun j hj => by
     have := hlo j hj; omega
    have xs := xtk _ hS2
    have hown2 := aC hown1 fun j hj => a2.block j (hown1.lt j hj).2 (by have := nOX j hj; simpa using this)
    have hE2 := a2.at hE1 (by simp; omega)
    have aw2 := aw1.trans (a2.more (cs := [X, E]) (by simp))
    clear xa1 xtk hown1 aw1 a2 hS2 hE1
    go_wp2_with (go_at_call 72; refine xs.mono ?_)
    intro rr w3; first | (intro he hS3 a3; subst he) | rintro ⟨rfl, hS3, a3⟩
    have hown3 := aC hown2 fun j hj => a3.block j (hown2.lt j hj).2 (by have := nOX j hj; simpa using this)
    have hE3 := a3.at hE2 (by simp; omega)
    have aw3 := aw2.trans (a3.more (cs := [X, E]) (by simp))
    have sz3 := aw3.size
    have bK := (qa _ w3).alloc (qb _) (.cells #[.string y, I 0] 147)
    have hK := qc w3 (.cells #[.string y, I 0] 147)
    have hS4 := hS3.step bK
    have hown4 := hown3.alloc (.cells #[.string y, I 0] 147)
    have hE4 := (bK.block _ (aA hE3)).trans hE3
    have aw4 := aw3.step bK
    have xn2 := xn1 _ hS4
    have hKn : ∀ j, (Value.slice ao l.length cp).ownBlock = some j -> j ≠ w3.heap.size := fun j hj => by have := (hown3.lt j hj).2; omega
    have hKX : w3.heap.size ≠ X := by omega
    have hKE : w3.heap.size ≠ E := by have := aA hE3; omega
    have hKw : w0.heap.size <= w3.heap.size := by omega
    clear xs hown2 aw2 a3 hE2 hS3 bK hown3 hE3 aw3
    generalize hw4 : w3.alloc (.cells #[.string y, I 0] 147) = w4 at hK hS4 hown4 hE4 aw4 xn2
    have HW4 := aQ hw4
    clear hw4
    go_upto_region 16 with (fail)
    rw [HW4.out]
    generalize hKK : w3.heap.size = K at hK hKn hKX hKE hKw sz3 |-
    clear HW4 hKK
    have HSY := aQ hsy
    have HNX := aQ (And.intro hgk (And.intro q1 (And.intro q2 q3)))
    have HMU := aQ (And.intro hm1 (And.intro hm0 (And.intro hu1 hu0)))
    clear hsy hgk q1 q2 q3 hm1 hm0 hu1 hu0
    go_cut [97] from 67 to 116 (fun s97 wc => ∃ (c : Bool) (s2 : aU), s97 = .bool c /\ Shut ((c = true -> eH T s = (⟨y, 1⟩, s2)) /\ (c = false -> s2 = s.next 1 /\ (j1 = true -> bm = false))) /\ wc.heap[K]? = some (.cells #[.string y, I 0] 147 (0, 0)) /\ wc.ownsRow w.heap.size 147 2 (.slice ao l.length cp) l.length (cH cT.cells l) /\ wc.heap[E]? = some (.cells ((F.withL (.slice ao l.length cp)).c A9) 31 (0, 0)) /\ MS T X free lv iv s2 wc /\ aB [X, E] w wc)
    case first =>
     go_wp2_with (go_at_call 31; refine xn2.mono ?_)
     intro rr w5; first | (intro he b5; subst he) | rintro ⟨rfl, b5⟩
     have hS5 := hS4.step b5
     have hown5 := aC hown4 fun j hj => b5.block j (hown4.lt j hj).2
     have hE5 := (b5.block _ (aA hE4)).trans hE4
     have hK5 := (b5.block _ (aA hK)).trans hK
     have aw5 := aw4.step b5
     clear xn2 hS4 hown4 hE4 hK aw4 b5
     cases j1 with
     | false =>
      clear xm1 xu1
      go_wp2
      go_meet
      case rel => exact ⟨false, _, rfl, ⟨fun e => (by cases e), fun _ => ⟨rfl, fun e => (by cases e)⟩⟩, hK5, hown5, hE5, hS5, aw5⟩
     | true =>
      have xm5 := xm1 _ hS5
      clear xm1 xu1
      go_wp2_with (go_at_call 24; refine xm5.mono ?_)
      intro rr w6; first | (intro he hS6 a6; subst he) | rintro ⟨rfl, hS6, a6⟩
      have hown6 := aC hown5 fun j hj => a6.block j (hown5.lt j hj).2 (by have := nOX j hj; simpa using this)
      have hE6 := a6.at hE5 (by simp; omega)
      have hK6 := a6.at hK5 (by simp; omega)
      have aw6 := aw5.trans (a6.more (cs := [X, E]) (by simp))
      clear xm5 hS5 hown5 hE5 hK5 aw5 a6
      obtain ⟨hm1, hm0, -, -⟩ := HMU.out
      go_wp2
      go_meet
      case rel =>
       refine ⟨bm, _, rfl, ⟨fun e => ?_, fun e => ?_⟩, hK6, hown6, hE6, hS6, aw6⟩
       ·have h9 := HSY.out
        simp only [e, if_true] at h9
        rw [h9, hm1 e]
       ·exact ⟨hm0 e, fun _ => e⟩
    case rest =>
     obtain ⟨c97, s2, rfl, HC, hK5, hown5, hE5, hS5, aw5⟩ := hcut
     clear xn2 hS4 hown4 hE4 hK aw4 xm1
     go_upto_if 97 with (fail)
     go_cut [] from 67 to 116 (fun wc => ∃ (ln : Int) (s3 : aU), Shut (eH T s = (⟨y, ln⟩, s3)) /\ wc.heap[K]? = some (.cells #[.string y, I ln] 147 (0, 0)) /\ wc.ownsRow w.heap.size 147 2 (.slice ao l.length cp) l.length (cH cT.cells l) /\ wc.heap[E]? = some (.cells ((F.withL (.slice ao l.length cp)).c A9) 31 (0, 0)) /\ MS T X free lv iv s3 wc /\ aB [X, E] w wc)
     case first =>
      have put := fun (W : World) (s4 : aU) (v : Int) (hK : W.heap[K]? = some (.cells #[.string y, I 0] 147 (0, 0))) (ho : W.ownsRow w.heap.size 147 2 (.slice ao l.length cp) l.length (cH cT.cells l)) (hE : W.heap[E]? = some (.cells ((F.withL (.slice ao l.length cp)).c A9) 31 (0, 0))) (hS : MS T X free lv iv s4 W) (aw : aB [X, E] w W) =>
       (⟨Lib.heap_setCell_same (i := 1) hK (I v), aC ho fun j hj => aE W K 1 (I v) j (hKn j hj), (aE W K 1 (I v) E hKE.symm).trans hE, hS.else h0 hKw (eC W K 1 (I v)) (aE W K 1 (I v)), aw.setCell (p := ⟨K, 1, none⟩) (.inr sz3) (I v)⟩ : (W.setCell ⟨K, 1, none⟩ (I v)).heap[K]? = some (.cells #[.string y, I v] 147 (0, 0)) /\ (W.setCell ⟨K, 1, none⟩ (I v)).ownsRow w.heap.size 147 2 (.slice ao l.length cp) l.length (cH cT.cells l) /\ (W.setCell ⟨K, 1, none⟩ (I v)).heap[E]? = some (.cells ((F.withL (.slice ao l.length cp)).c A9) 31 (0, 0)) /\ MS T X free lv iv s4 (W.setCell ⟨K, 1, none⟩ (I v)) /\ aB [X, E] w (W.setCell ⟨K, 1, none⟩ (I v)))
      cases c97 with
      | true =>
       have P := put _ _ 1 hK5 hown5 hE5 hS5 aw5
       have PP := aQ P
       have c1 : wc.cell? ⟨K, 1, none⟩ = some (I 0) := by rw [Lib.cell_of_heap hK5]; rfl
       have f1 := Lib.frozen_of_heap hK5 1
       clear put P xu1
       go_wp2
       go_meet
       case rel => exact ⟨1, s2, HC.out.1 (by trivial), PP.out⟩
      | false =>
       obtain ⟨rfl, hbm⟩ := HC.out.2 rfl
       have HBM := aQ hbm
       have PUT := aQ put
       have xn5 := xn1 _ hS5
       clear hbm HC put xn1
       go_wp2_with (go_at_call 31; refine xn5.mono ?_)
       intro rr w7; first | (intro he b7; subst he) | rintro ⟨rfl, b7⟩
       have hS7 := hS5.step b7
       have hown7 := aC hown5 fun j hj => b7.block j (hown5.lt j hj).2
       have hE7 := (b7.block _ (aA hE5)).trans hE5
       have hK7 := (b7.block _ (aA hK5)).trans hK5
       have aw7 := aw5.step b7
       clear xn5 hS5 hown5 hE5 hK5 aw5 b7
       cases j1 with
       | false =>
        clear xu1
        go_wp2
        go_meet
        case rel =>
         refine ⟨0, _, ?_, hK7, hown7, hE7, hS7, aw7⟩
         have h9 := HSY.out
         simp only [reduceIte, Bool.false_eq_true] at h9
         exact h9
       | true =>
        have xu7 := xu1 _ hS7
        clear xu1
        go_wp2_with (go_at_call 24; refine xu7.mono ?_)
        intro rr w8; first | (intro he hS8 a8; subst he) | rintro ⟨rfl, hS8, a8⟩
        have hown8 := aC hown7 fun j hj => a8.block j (hown7.lt j hj).2 (by have := nOX j hj; simpa using this)
        have hE8 := a8.at hE7 (by simp; omega)
        have hK8 := a8.at hK7 (by simp; omega)
        have aw8 := aw7.trans (a8.more (cs := [X, E]) (by simp))
        clear xu7 hS7 hown7 hE7 hK7 aw7 a8
        obtain ⟨-, -, hu1, hu0⟩ := HMU.out
        have hb0 := HBM.out (by trivial)
        have h9 := HSY.out
        simp only [hb0, reduceIte, Bool.false_eq_true] at h9
        cases bu with
        | true =>
         have PP := aQ (PUT.out _ _ 2 hK8 hown8 hE8 hS8 aw8)
         have c1 : w8.cell? ⟨K, 1, none⟩ = some (I 0) := by rw [Lib.cell_of_heap hK8]; rfl
         have f1 := Lib.frozen_of_heap hK8 1
         have H9 := aQ (And.intro h9 (hu1 (by trivial)))
         clear h9 hu1 hu0 hb0
         go_wp2
         go_meet
         case rel =>
          refine ⟨2, _, ?_, PP.out⟩
          rw [H9.out.2]
          exact H9.out.1
        | false =>
         have H9 := aQ (And.intro h9 (hu0 (by trivial)))
         clear h9 hu1 hu0 hb0
         go_wp2
         go_meet
         case rel =>
          refine ⟨0, _, ?_, hK8, hown8, hE8, hS8, aw8⟩
          rw [H9.out.2]
          exact H9.out.1
     case rest =>
      obtain ⟨ln, s3, HY, hK6, hown6, hE6, hS6, aw6⟩ := hcut
      clear hE5 hown5 hK5 hS5 aw5 HC xu1 HSY HMU xn1
      obtain ⟨hgk, q1, q2, q3⟩ := HNX.out
      rw [HY.out] at q1 q2 q3
      have nOE : ∀ j, (Value.slice ao l.length cp).ownBlock = some j -> E ≠ j := fun j hj => by
       have := hlo j hj; omega
      obtain ⟨k0, k1, -, -⟩ := aZ hK6
      have cE6 : wc.cell? ⟨E, 10, none⟩ = some (.slice ao l.length cp) := by rw [Lib.cell_of_heap hE6]; rfl
      have szw := aw6.size
      have lE6 := aA hE6
      have cE6a : (wc.alloc (.cells #[.string y, I ln] 147)).cell? ⟨E, 10, none⟩ = _ := (qqp wc (.cells #[.string y, I ln] 147) ⟨E, 10, none⟩ lE6).trans cE6
      have hnew : (wc.alloc (.cells #[.string y, I ln] 147)).heap[wc.heap.size]? = some (.cells #[.string y, I ln] 147 (0, 0)) := qc _ _
      have hdr : wc.drew.heap.size = wc.heap.size := rfl
      have hownd : wc.drew.ownsRow w.heap.size 147 2 (.slice ao l.length cp) l.length (cH cT.cells l) := hown6
      have HQ := aQ (And.intro hgk (And.intro q1 (And.intro q2 q3)))
      have HC := aQ (eT cT.cells l ⟨y, ln⟩)
      generalize cH cT.cells l = cur at hown6 hownd HC
      clear hgk q1 q2 q3 HNX
      go_wp2
      go_region_law ((first
       | (refine step_append_lies _ (by rfl) _ _ _ (by rfl) w.heap.size 147 i0 _ 2 24 Tryz.underlying29 hi0 hzz hz1 hz2 hzc (by omega) (.slice ao l.length cp) l.length cur (by rfl) (World.ownsRow.alloc hownd _) ⟨wc.heap.size, 0, none⟩ 1 1 [.string y, .int .i64 ln] (by rfl) (by rfl) (World.news_of_block (cs := #[.string y, .int .i64 ln]) (t := 147) (fr := (0, 0)) hnew) (by simp [Value.oneCell']) (by omega) (by simp only [maxLen]; omega) (by omega) (by simp; omega) (wc.heap.size + 1) (by simp) ?_; intro gg wcap w9 hown9 hgrow hat hgl; have hE9 := (hgrow.block E (by simp; omega) (fun e => nOE E e.symm rfl)).trans ((Lib.alloc_old wc.drew _ _ lE6).trans hE6); have cE9 : w9.cell? ⟨E, 10, none⟩ = some (.slice ao l.length cp) := (by rw [Lib.cell_of_heap hE9]; rfl); have fE9 := Lib.frozen_of_heap hE9 10; have lE9 := aA hE9)))
      all_goals go_wp2
      all_goals go_roundg (gk - 1)
      all_goals first
       | (have := HQ.out.1; omega)
       | (obtain ⟨r1, r2, r3, r4⟩ := HQ.out
          have e1 : gk - 1 = g := by omega
          rw [e1]
          refine ⟨l ++ [⟨y, ln⟩], _, .slice (some ⟨gg, 0, none⟩) (l.length + 1) wcap, r2, r3, r4, ?_, Lib.heap_setCell_same (i := 10) hE9 (.slice (some ⟨gg, 0, none⟩) (l.length + 1) wcap), hel _ w9 (w9.setCell ⟨E, 10, none⟩ (.slice (some ⟨gg, 0, none⟩) (l.length + 1) wcap)) (((hS6.step (qa _ wc).drew).step ((qa _ wc.drew).alloc (qb _) (.cells #[.string y, I ln] 147))).grown h0 hgrow (fun k hk => qv hw1 (hlo k hk))) (eC w9 E 10 _) (aE w9 E 10 _), ((aw6.drew.alloc (.cells #[.string y, I ln] 147)).grown hgrow hlo).setCell (p := ⟨E, 10, none⟩) (.inl (by simp)) (.slice (some ⟨gg, 0, none⟩) (l.length + 1) wcap)⟩
          rw [HC.out, qi]
          exact aC hown9 fun j hj => aE w9 E 10 (.slice (some ⟨gg, 0, none⟩) (l.length + 1) wcap) j (by have := (hown9.lt j hj).1; omega))
   ·have hsb' : nV T s = ba := by rw [hsb, qt hk]; rfl
    clear hs3 hsb hst3 xtk hsa hsaE
    unfold fK at xp
    generalize aW T s = t at xp hk
    obtain ⟨kd, text, v, bt, lin, cln, j⟩ := t
    simp only at xp hk
    have hk3 : (kd == 3) = false := by simp [hk]
    have hfd := pN kd v lin cln text bt j
    clear htotal hlen hneed
    go_wp2_with (go_at_call 31; refine xp.mono ?_)
    intro rr w1; first | (intro he b1; subst he) | rintro ⟨rfl, b1⟩
    have xi1 := xi _ b1
    clear xi xp
    go_wp2_with (go_at_call 27; refine xi1.mono ?_)
    intro rr w2; first | (intro he b2; subst he) | rintro ⟨rfl, b2⟩
    have b12 := b1.trans (b2.mono b1.size)
    clear xi1
    cases ba with
    | false =>
     obtain ⟨hl, hs⟩ := fin0 hsb'
     have hown2 := aC hown fun j hj => b12.block j (hown.lt j hj).2
     have aw2 := aw.step b12
     have hS2 := hS.step b12
     have hE2 := (b12.block _ (aA hE)).trans hE
     have HQ := aQ (And.intro hl hs)
     clear hau xa more fin0 hown hS aw hsb' hl hs hE
     go_wp2
     go_end0
     rw [<- HQ.out.1, <- HQ.out.2]
     exact ⟨rfl, _, hE2, hown2, hS2, aw2⟩
    | true =>
     obtain ⟨g, hgk, q1, q2, q3⟩ := more hsb'
     obtain ⟨hr, rfl⟩ := hau rfl
     rw [hr] at q1 q2 q3
     have xa2 := xa _ b12
     have hown2 := aC hown fun j hj => b12.block j (hown.lt j hj).2
     have aw2 := aw.step b12
     have hE2 := (b12.block _ (aA hE)).trans hE
     have nOX : ∀ j, (Value.slice ao l.length cp).ownBlock = some j -> j ≠ X := fun j hj => by
      have := hlo j hj; omega
     have nOE : ∀ j, (Value.slice ao l.length cp).ownBlock = some j -> E ≠ j := fun j hj => by
      have := hlo j hj; omega
     clear hau xa more fin0 hown hS aw hsb' hr hE
     go_wp2_with (go_at_call 24; refine xa2.mono ?_)
     intro rr w5; first | (intro he hS5 a5; subst he) | rintro ⟨rfl, hS5, a5⟩
     have hown5 := aC hown2 fun j hj => a5.block j (hown2.lt j hj).2 (by have := nOX j hj; simpa using this)
     have aw5 := aw2.trans (a5.more (cs := [X, E]) (by simp))
     have hE5 := a5.at hE2 (by simp; omega)
     have cE5 : w5.cell? ⟨E, 10, none⟩ = some (.slice ao l.length cp) := by rw [Lib.cell_of_heap hE5]; rfl
     clear xa2 hown2 aw2 a5 hE2
     have szw := aw5.size
     have hnew : (w5.alloc (.cells #[.string ByteArray.empty, I 2] 147)).heap[w5.heap.size]? = some (.cells #[.string ByteArray.empty, I 2] 147 (0, 0)) := qc _ _
     have HQ := aQ (And.intro hgk (And.intro q1 (And.intro q2 q3)))
     have HC := aQ (eT cT.cells l ⟨ByteArray.empty, 2⟩)
     generalize cH cT.cells l = cur at hown5 HC
     clear hgk q1 q2 q3
     go_wp2_with (at_builtin; refine wpList_append_lies _ rfl _ _ 29 rfl w.heap.size 147 i0 _ 2 24 Tryz.underlying29 hi0 hzz hz1 hz2 hzc (by omega) _ l.length _ rfl (hown5.alloc _) ⟨w5.heap.size, 0, none⟩ 1 1 #[.string ByteArray.empty, I 2].toList rfl rfl (World.news_of_block (cs := #[.string ByteArray.empty, I 2]) (t := 147) (fr := (0, 0)) hnew) (by simp [Value.oneCell']) (by omega) (by unfold maxLen; omega) (by omega) (by simp; omega) (w5.heap.size + 1) (by simp) ?_; intro gg wcap w9 hown9 hgrow hat hgl; have hE9 := (hgrow.block E (by simp; omega) (fun e => nOE E e.symm rfl)).trans ((Lib.alloc_old w5 _ _ (aA hE5)).trans hE5); have cE9 : w9.cell? ⟨E, 10, none⟩ = some (.slice ao l.length cp) := (by rw [Lib.cell_of_heap hE9]; rfl); have fE9 := Lib.frozen_of_heap hE9 10; have lE9 := aA hE9)
     have hS9 := hel _ w9 (w9.setCell ⟨E, 10, none⟩ (.slice (some ⟨gg, 0, none⟩) (l.length + 1) wcap)) ((hS5.step ((qa _ w5).alloc (qb _) _)).grown h0 hgrow (fun k hk => qv hw1 (hlo k hk))) (eC w9 E 10 _) (aE w9 E 10 _)
     have aw9 := ((aw5.alloc _).grown hgrow hlo).setCell (p := ⟨E, 10, none⟩) (.inl (by simp)) (.slice (some ⟨gg, 0, none⟩) (l.length + 1) wcap)
     have hown10 := aC hown9 fun j hj => aE w9 E 10 (.slice (some ⟨gg, 0, none⟩) (l.length + 1) wcap) j (by have := (hown9.lt j hj).1; omega)
     have hE10 := Lib.heap_setCell_same (i := 10) hE9 (.slice (some ⟨gg, 0, none⟩) (l.length + 1) wcap)
     go_roundg (gk - 1)
     case measure => have := HQ.out.1; omega
     case rel =>
      obtain ⟨r1, r2, r3, r4⟩ := HQ.out
      have e1 : gk - 1 = g := by omega
      rw [e1]
      refine ⟨l ++ [⟨ByteArray.empty, 2⟩], _, .slice (some ⟨gg, 0, none⟩) (l.length + 1) wcap, r2, r3, r4, ?_, hE10, hS9, aw9⟩
      rw [HC.out, qi]; exact hown10
end
end Go.Proofs.YtgkhemnmcgicnaaGreatDoor
