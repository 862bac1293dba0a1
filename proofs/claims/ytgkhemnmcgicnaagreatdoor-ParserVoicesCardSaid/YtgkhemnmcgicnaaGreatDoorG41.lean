/- Towards the law ParserVoices, true for every text (no condition): one part of the proof. -/
import Derived.Test.YtgkhemnmcgicnaaGreatDoorG01
import Derived.Test.YtgkhemnmcgicnaaGreatDoorG39
import Derived.Test.YtgkhemnmcgicnaaGreatDoorG40
namespace Go.Proofs.YtgkhemnmcgicnaaGreatDoor
open Go.RowKit
section
variable {T : List bD} {X : Nat} {free : Bool} {lv iv : Value} {st : aU} {w : World}
theorem lG.less {W0 w : World} {bs cs : List Nat} (h : lG W0 bs w) (hs : ∀ k ∈ cs, k ∈ bs) : lG W0 cs w := ⟨h.gl, h.bel, fun k hk => h.hs k (hs k hk)⟩
def NS (t : TypeId) : Prop := t ≠ 59 /\ t ≠ 24 /\ t ≠ 42
theorem MS.asideT (h : MS T X free lv iv st w) {R : Nat} {cs : Array Value} {t : TypeId} (hR : w.heap[R]? = some (.cells cs t (0, 0))) (ht : NS t) {w' : World} (hs : w.heap.size <= w'.heap.size) (ho : ∀ j, j ≠ R -> w'.heap[j]? = w.heap[j]?) : MS T X free lv iv st w' := by
 obtain ⟨g, pos, is, im, n, xs, e, line, col, h1, h2, h3⟩ := h
 have hX : R ≠ X := by
  rintro rfl
  have := hR.symm.trans h1.blk
  injection this with this
  injection this with _ h2 _
  exact ht.2.2 h2
 exact ⟨g, pos, is, im, n, xs, e, line, col, ⟨(ho X hX.symm).trans h1.blk, fun he => aC (h1.row he) fun k hk => ho k (fun e => dF (h1.row he) hR (by intro cs' fr' hc; injection hc with _ h2 _; exact ht.1 h2) (by rw [hk, e])), aC h1.ids fun k hk => ho k (fun e => dF h1.ids hR (by intro cs' fr' hc; injection hc with _ h2 _; exact ht.2.1 h2) (by rw [hk, e])), fun g hg => qk (h1.lvB g hg) hs⟩, h2, h3⟩
theorem MS.set31 (h : MS T X free lv iv st w) {R : Nat} {cs : Array Value} (hR : w.heap[R]? = some (.cells cs 31 (0, 0))) (i : Nat) (u : Value) : MS T X free lv iv st (w.setCell ⟨R, i, none⟩ u) :=
 h.asideT hR ⟨by decide, by decide, by decide⟩ (eC w R i u) (aE w R i u)
theorem MS.grownT (h : MS T X free lv iv st w) {w' : World} {row : Option Nat} (hg : w.grownBy w' row) (hr : ∀ k, row = some k -> ∃ cur t, w.heap[k]? = some (.cells cur t (0, 0)) /\ NS t) : MS T X free lv iv st w' := by
 obtain ⟨g, pos, is, im, n, xs, e, line, col, h1, h2, h3⟩ := h
 have lX := h1.lt
 refine ⟨g, pos, is, im, n, xs, e, line, col, ⟨(hg.block X lX (fun e => ?_)).trans h1.blk, fun he => aC (h1.row he) fun k hk => hg.block k ((h1.row he).lt k hk).2 (fun e => ?_), aC h1.ids fun k hk => hg.block k (h1.ids.lt k hk).2 (fun e => ?_), fun g hg' => qk (h1.lvB g hg') hg.size⟩, h2, h3⟩
 ·obtain ⟨cur, t, hc, ht⟩ := hr X e.symm
  have := hc.symm.trans h1.blk
  injection this with this
  injection this with _ h2 _
  exact ht.2.2 h2
 ·obtain ⟨cur, t, hc, ht⟩ := hr k e.symm
  exact dF (h1.row he) hc (by intro cs' fr' hc; injection hc with _ h2 _; exact ht.1 h2) hk
 ·obtain ⟨cur, t, hc, ht⟩ := hr k e.symm
  exact dF h1.ids hc (by intro cs' fr' hc; injection hc with _ h2 _; exact ht.2.1 h2) hk
end
section
variable {bs : List Nat} {R E : Nat} {F : EF} {A : A5} {hs : List eF} {gs : List cY} {ys : List cT} {w0 w w' : World}
theorem dN {w : World} {k : Nat} {c d : Array Value} {t u : TypeId} (h : w.heap[k]? = some (.cells c t (0, 0))) (hd : w.heap[k]? = some (.cells d u (0, 0))) (ht : t ≠ u) : False := by
 have := h.symm.trans hd
 injection this with this
 injection this with _ h2 _
 exact ht h2
theorem sX.pushG (h : sX bs R E F A hs gs ys w0 w) (hg : w.grownBy w' F.gv.ownBlock) {v : Value} {n : Nat} {x : cY} (hn : n = gs.length + 1) (ho : w'.ownsRow w0.heap.size 77 5 v n (cH cY.cells gs ++ x.cells.toList)) : sX bs R E { F with gv := v } A hs (gs ++ [x]) ys w0 (w'.setCell ⟨E, 6, none⟩ v) := by
 have nr : ∀ (k : Nat) (o : Array Value) (t : TypeId), w.heap[k]? = some (.cells o t (0, 0)) -> t ≠ 77 -> some k ≠ F.gv.ownBlock := fun k o t hk ht e => by
  obtain ⟨c, hc⟩ := cA h.rows.og e.symm
  exact dN hk hc ht
 have keep : ∀ (k : Nat) (o : Array Value) (t : TypeId), w.heap[k]? = some (.cells o t (0, 0)) -> t ≠ 77 -> w'.heap[k]? = w.heap[k]? := fun k o t hk ht => hg.block k (aA hk) (nr k o t hk ht)
 have hE' : w'.heap[E]? = some (.cells (F.c A) 31 (0, 0)) := (keep E _ _ h.hE (by decide)).trans h.hE
 have h1 : sX bs R E F A hs gs ys w0 w := h
 have aw' : aB bs w0 w' := h.aw.grown hg (fun k hk => (h.rows.og.lt k hk).1)
 have st : ∀ k, k ≠ E -> (w'.setCell ⟨E, 6, none⟩ v).heap[k]? = w'.heap[k]? := fun k hk => aE w' E 6 v k hk
 have bR := h.bR
 have ne := h.ne
 refine ⟨(st R (by omega)).trans ((keep R _ _ h.hR (by decide)).trans h.hR), by rw [Lib.heap_setCell_same hE']; rfl, ⟨?_, ?_, ?_⟩, aw'.setCell (p := ⟨E, 6, none⟩) (.inr (by show w0.heap.size <= E; omega)) v, h.bR, h.ne, h.lo⟩
 ·refine aC h.rows.oh fun k hk => ?_
  obtain ⟨c, hc⟩ := cA h.rows.oh hk
  exact (st k (fun e => dN hc (e ▸ h.hE) (by decide))).trans (keep k c _ hc (by decide))
 ·rw [eT, qi]
  subst hn
  exact aC ho fun k hk => st k (fun e => by
   obtain ⟨c, hc⟩ := cA ho hk
   exact dN hc (e ▸ hE') (by decide))
 ·refine aC h.rows.ol fun k hk => ?_
  obtain ⟨c, hc⟩ := cA h.rows.ol hk
  exact (st k (fun e => dN hc (e ▸ h.hE) (by decide))).trans (keep k c _ hc (by decide))
theorem sX.pushH (h : sX bs R E F A hs gs ys w0 w) (hg : w.grownBy w' F.hv.ownBlock) {v : Value} {n : Nat} {x : eF} (hn : n = hs.length + 1) (ho : w'.ownsRow w0.heap.size 80 5 v n (cH eF.cells hs ++ x.cells.toList)) : sX bs R E { F with hv := v } A (hs ++ [x]) gs ys w0 (w'.setCell ⟨E, 5, none⟩ v) := by
 have nr : ∀ (k : Nat) (o : Array Value) (t : TypeId), w.heap[k]? = some (.cells o t (0, 0)) -> t ≠ 80 -> some k ≠ F.hv.ownBlock := fun k o t hk ht e => by
  obtain ⟨c, hc⟩ := cA h.rows.oh e.symm
  exact dN hk hc ht
 have keep : ∀ (k : Nat) (o : Array Value) (t : TypeId), w.heap[k]? = some (.cells o t (0, 0)) -> t ≠ 80 -> w'.heap[k]? = w.heap[k]? := fun k o t hk ht => hg.block k (aA hk) (nr k o t hk ht)
 have hE' : w'.heap[E]? = some (.cells (F.c A) 31 (0, 0)) := (keep E _ _ h.hE (by decide)).trans h.hE
 have h1 : sX bs R E F A hs gs ys w0 w := h
 have aw' : aB bs w0 w' := h.aw.grown hg (fun k hk => (h.rows.oh.lt k hk).1)
 have st : ∀ k, k ≠ E -> (w'.setCell ⟨E, 5, none⟩ v).heap[k]? = w'.heap[k]? := fun k hk => aE w' E 5 v k hk
 have bR := h.bR
 have ne := h.ne
 refine ⟨(st R (by omega)).trans ((keep R _ _ h.hR (by decide)).trans h.hR), by rw [Lib.heap_setCell_same hE']; rfl, ⟨?_, ?_, ?_⟩, aw'.setCell (p := ⟨E, 5, none⟩) (.inr (by show w0.heap.size <= E; omega)) v, h.bR, h.ne, h.lo⟩
 ·rw [eT, qi]
  subst hn
  exact aC ho fun k hk => st k (fun e => by
   obtain ⟨c, hc⟩ := cA ho hk
   exact dN hc (e ▸ hE') (by decide))
 ·refine aC h.rows.og fun k hk => ?_
  obtain ⟨c, hc⟩ := cA h.rows.og hk
  exact (st k (fun e => dN hc (e ▸ h.hE) (by decide))).trans (keep k c _ hc (by decide))
 ·refine aC h.rows.ol fun k hk => ?_
  obtain ⟨c, hc⟩ := cA h.rows.ol hk
  exact (st k (fun e => dN hc (e ▸ h.hE) (by decide))).trans (keep k c _ hc (by decide))
end
end Go.Proofs.YtgkhemnmcgicnaaGreatDoor
