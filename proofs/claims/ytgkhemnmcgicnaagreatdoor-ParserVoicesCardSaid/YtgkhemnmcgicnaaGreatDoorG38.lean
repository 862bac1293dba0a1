/- Towards the law ParserVoices, true for every text (no condition): one part of the proof. -/
import Derived.Test.YtgkhemnmcgicnaaGreatDoorG01
import Derived.Test.YtgkhemnmcgicnaaGreatDoorG37
import Derived.Deep.AppendLies
import Derived.Deep.Cut
namespace Go.Proofs.YtgkhemnmcgicnaaGreatDoor
set_option maxHeartbeats 8000000
set_option maxRecDepth 100000
open Go.RowKit
theorem Tryz.infoId : (Tryz.prog.info? 24).map (fun i => (i.zero, i.size, i.bytes)) = some (some (.agg #[I 0, I 0]), 2, 16) := by kernel_rfl
theorem DA {T : List bD} {lo hi : Int} {s : aU} {p : Nat} (h : (bS T lo hi s).2 = .ok p) : ∃ q, s = .ok q /\ q < p := by
 unfold bS at h
 split at h
 ·exact absurd h (jG T 13 s p)
 ·split at h
  ·exact absurd h (jG T 2 s p)
  ·obtain ⟨q, h1, h2⟩ := iZ h; exact ⟨q, h1, by omega⟩
theorem xH {T : List bD} {s : aU} {p : Nat} (h : (fT T s).2 = .ok p) : ∃ q, s = .ok q /\ q < p := by
 unfold fT at h
 simp only at h
 obtain ⟨q1, h1, l1⟩ := DA h
 obtain ⟨q2, h2, l2⟩ := JG h1
 obtain ⟨q3, h3, l3⟩ := DA h2
 obtain ⟨q4, h4, l4⟩ := JG h3
 exact ⟨q4, h4, by omega⟩
section
variable {T : List bD} {X : Nat} {free : Bool} {lv iv : Value} {st : aU} {w : World}
theorem mJ.pushed {pos : Nat} {is im : Int} {n m : Nat} {xs ys : List Value} {e line col : Int} {w' : World} {v : Value} (h : mJ X lv iv T pos free is im n xs e line col w) (hg : w.grownBy w' iv.ownBlock) (ho : w'.ownsRow 0 24 2 v m ys) :
  mJ X lv v T pos free is im m ys e line col (w'.setCell ⟨X, 5, none⟩ v) := by
 have nX : iv.ownBlock ≠ some X := dF h.ids h.blk (by intro cs fr hc; injection hc with _ h2 _; exact absurd h2 (by decide))
 have hX' : w'.heap[X]? = _ := (hg.block X h.lt (fun e => nX e.symm)).trans h.blk
 refine ⟨by rw [Lib.heap_setCell_same hX']; rfl, fun he => ?_, ?_, fun g hg' => ?_⟩
 ·have hr := h.row he
  have hX1 : lv.ownBlock ≠ some X := dF hr h.blk (by intro cs fr hc; injection hc with _ h2 _; exact absurd h2 (by decide))
  refine aC hr fun k hk => ?_
  rw [qg _ ⟨X, 5, none⟩ _ k (fun e => hX1 (by rw [hk]; exact congrArg some e))]
  refine hg.block k (hr.lt k hk).2 fun e => ?_
  obtain ⟨cur, hc⟩ := cA h.ids e.symm
  exact dF hr hc (by intro cs fr hc; injection hc with _ h2 _; exact absurd h2 (by decide)) hk
 ·exact aC ho fun k hk => qg _ ⟨X, 5, none⟩ _ k (fun e => dF ho hX' (by intro cs fr hc; injection hc with _ h2 _; exact absurd h2 (by decide)) (by rw [hk]; exact congrArg some e))
 ·have := h.lvB g hg'
  have := hg.size
  simp only [World.setCell]
  simp
  omega
theorem MS.aside (h : MS T X free lv iv st w) {R : Nat} {cs : Array Value} {t : TypeId} (hR : w.heap[R]? = some (.cells cs t (0, 0))) (ht : t ≠ 59) (hX : R ≠ X) (hv : iv.ownBlock ≠ some R) {w' : World} (hs : w.heap.size <= w'.heap.size)
  (ho : ∀ j, j ≠ R -> w'.heap[j]? = w.heap[j]?) : MS T X free lv iv st w' := by
 obtain ⟨g, pos, is, im, n, xs, e, line, col, h1, h2, h3⟩ := h
 exact ⟨g, pos, is, im, n, xs, e, line, col, ⟨(ho X hX.symm).trans h1.blk, fun he => aC (h1.row he) fun k hk => ho k (fun e => dF (h1.row he) hR (by intro cs' fr' hc; injection hc with _ h2 _; exact ht h2) (by rw [hk, e])), aC h1.ids fun k hk => ho k (fun e => hv (by rw [hk, e])), fun g hg => qk (h1.lvB g hg) hs⟩, h2, h3⟩
theorem RX (h : MS T X true lv iv st w) : Calls Tryz.prog 23 #[.pointer (some ⟨X, 0, none⟩)] w fun r w' => r = .returned (.agg #[I (vP T st).1.1, I (vP T st).1.2]) /\ ∃ iv', MS T X true lv iv' (vP T st).2 w' /\ aB (X :: iv.ownBlock.toList) w w' /\ ∀ k, iv'.ownBlock = some k -> iv.ownBlock = some k \/ w.heap.size <= k := by
 obtain ⟨i0, hi0, hz0, hz1, hz2⟩ := info_parts Tryz.infoId
 have lX := h.lt
 have b00 := (qa w.heap.size w).alloc (qb _) (.cells #[I 0, I 0] 24)
 have h0 := h.step b00
 have x1 := uP h0 ⟨#[64]⟩
 have hR0 := qc w (.cells #[I 0, I 0] 24)
 have hRX : w.heap.size ≠ X := by omega
 have hel := fun (w1 w2 : World) (h1 : MS T X true lv iv st w1) (R : Nat) => h1.else (w' := w2) (R := R) h
 unfold vP
 cases hb : isS T ⟨#[64]⟩ st with
 | false =>
  rw [if_neg (by decide)]
  rw [hb] at x1
  have HEL := aQ hel
  go_enter Tryz.func23, Tryz.ntmps23
  go_wp2_with (go_at_call 27; refine x1.mono ?_)
  intro r w1; first | (intro he b1; subst he) | rintro ⟨rfl, b1⟩
  have hR1 := (b1.block _ (aA hR0)).trans hR0
  have h1 := h0.step b1
  have aw := (aB.of_below (bs := (X :: iv.ownBlock.toList)) b00).trans (aB.of_below b1)
  generalize hRR : w.heap.size = R at hR0 hRX b00 hR1 |-
  have c2 : w1.cell? ⟨X, 2, none⟩ = some (.bool true) := by
   obtain ⟨_, pos, is, im, n, xs, e, line, col, k1, k2, k3⟩ := h1
   exact k1.c2
  obtain ⟨q0, q1, f0, f1⟩ := aZ hR1
  have h2 := HEL.out w1 (dL w1 R (I 0) (I 0)) h1 R (qe hRR) (qe (iN _ _ _ _).symm) (fun j hj => cL w1 R _ _ j hj)
  have hR2 := cC (a := I 0) (b := I 0) hR1
  have aw2 := cN aw (qe hRR) (I 0) (I 0)
  clear x1 h0 h hR0 hR1 h1 b1 b00 HEL
  unfold dL at h2 hR2 aw2
  go_wp2
  refine qf (qh rfl _ _ R 24 _ (0, 0) _ rfl hR2 Tryz.underlying24 rfl Tryz.sizeId) rfl ?_
  exact ⟨rfl, iv, h2, aw2, fun k hk => .inl hk⟩
 | true =>
  rw [if_pos rfl]
  rw [hb] at x1
  have xw := fun w' (b : Below (w.alloc (.cells #[I 0, I 0] 24)).heap.size (w.alloc (.cells #[I 0, I 0] 24)) w') => PV (h0.step b)
  have hprog := fun p (hp : (fT T st).2 = .ok p) => xH hp
  generalize fT T st = q at xw hprog |-
  obtain ⟨⟨v0, v1⟩, s1⟩ := q
  simp only at xw hprog |-
  have HOLD := aQ h
  have HEL := aQ hel
  have HPR := aQ hprog
  clear hel hprog
  go_enter Tryz.func23, Tryz.ntmps23
  go_wp2_with (go_at_call 27; refine x1.mono ?_)
  intro r w1; first | (intro he b1; subst he) | rintro ⟨rfl, b1⟩
  have xw1 := xw _ b1
  have hR1 := (b1.block _ (aA hR0)).trans hR0
  have aw := (aB.of_below (bs := (X :: iv.ownBlock.toList)) b00).trans (aB.of_below b1)
  generalize hR : w.heap.size = R at hR0 hRX b00 hR1 |-
  clear x1 h0 xw b00 b1
  go_wp2_with (go_at_call 64; refine xw1.mono ?_)
  intro r w1b; first | (intro he hs b2; subst he) | rintro ⟨rfl, hs, b2⟩
  have hR1b := b2.at hR1 (by simp; omega)
  have awb := aw.trans (b2.more (cs := (X :: iv.ownBlock.toList)) (by simp))
  obtain ⟨g, pos, is, im, n, xs, e, line, col, hs, hst, hn5, hng⟩ := hs
  have f3 := hs.fz 3
  have f4 := hs.fz 4
  have c3 := hs.c3
  have c4 := hs.c4
  clear xw1 aw b2 hR1 hR0
  have h2 := (hs.put (pos' := pos) (is' := v0) (im' := im) (e' := e) (line' := line) (col' := col) 3 (I v0) (fun h => h) rfl).put (pos' := pos) (is' := v0) (im' := v1) (e' := e) (line' := line) (col' := col) 4 (I v1) (fun h => h) rfl
  have aw2 := (awb.setCell (p := ⟨X, 3, none⟩) (.inl (by simp)) (I v0)).setCell (p := ⟨X, 4, none⟩) (.inl (by simp)) (I v1)
  have hR2 := (qg (w1b.setCell ⟨X, 3, none⟩ (I v0)) ⟨X, 4, none⟩ (I v1) R hRX).trans ((qg w1b ⟨X, 3, none⟩ (I v0) R hRX).trans hR1b)
  go_wp2
  generalize (w1b.setCell ⟨X, 3, none⟩ (I v0)).setCell ⟨X, 4, none⟩ (I v1) = w2 at h2 aw2 hR2 |-
  have HN : n + 1 <= 5000 /\ (s1.good = true -> n + 1 <= pos) := by
   obtain ⟨_, pos0, is0, im0, n0, xs0, e0, line0, col0, m1, m2, m3, m4⟩ := HOLD.out
   obtain ⟨ao, c, hv⟩ := bX m1.ids
   have e1 := JB m1.ids hv
   have e2 := JB hs.ids hv
   have e3 : n = n0 := by omega
   obtain ⟨p, rfl⟩ : ∃ p, st = .ok p := by
    cases st with
    | ok p => exact ⟨p, rfl⟩
    | bad e' l c => rw [QL] at hb; cases hb
   have hmx := g.max
   obtain ⟨rfl, -, -, -, hlt⟩ := m2
   have hn0 := m4 rfl
   refine ⟨by omega, fun hg => ?_⟩
   cases hs1 : s1 with
   | bad e' l c => rw [hs1] at hg; cases hg
   | ok p' =>
    obtain ⟨q, h1, h2⟩ := HPR.out p' hs1
    injection h1 with h1
    rw [hs1] at hst
    obtain ⟨rfl, -⟩ := hst
    omega
  obtain ⟨ao, cp, hvi⟩ := bX h2.ids
  clear hs awb hR1b c3 c4 f3 f4 HPR
  go_cut [] from 3 (fun wc => ∃ v ys, mJ X lv v T pos true v0 v1 (n + 1) ys e line col wc /\ wc.heap[R]? = some (.cells #[I 0, I 0] 24 (0, 0)) /\ aB (X :: iv.ownBlock.toList) w wc /\ ∀ k, v.ownBlock = some k -> k ≠ R /\ (iv.ownBlock = some k \/ R <= k))
  case first =>
   have h3 := h2.step (qa _ w2).drew
   have aw3 := aw2.drew
   have hR3 : w2.drew.heap[R]? = some (.cells #[I 0, I 0] 24 (0, 0)) := hR2
   have d3 : w2.cell? ⟨X, 3, none⟩ = _ := h3.c3
   have d4 : w2.cell? ⟨X, 4, none⟩ = _ := h3.c4
   have d5 : w2.cell? ⟨X, 5, none⟩ = _ := h3.c5
   have n5 := qr w2 _ d5
   have lX3 := h3.lt
   have d5a : (w2.alloc (.cells #[I v0, I v1] 24)).cell? ⟨X, 5, none⟩ = _ := (qqp w2 (.cells #[I v0, I v1] 24) ⟨X, 5, none⟩ lX3).trans d5
   have hdr : w2.drew.heap.size = w2.heap.size := rfl
   have hids := h3.ids
   rw [hvi] at d5 hids
   have hsz := aw3.size
   clear h2 aw2 hR2 h
   go_region_law ((first
    | (refine step_append_lies _ (by rfl) _ _ _ (by rfl) 0 24 i0 _ 2 16 Tryz.underlying40 hi0 hz0 hz1 hz2 rfl (by omega) (.slice ao n cp) n xs (by rfl) (World.ownsRow.alloc hids _) ⟨w2.heap.size, 0, none⟩ 1 1 [.int .i64 v0, .int .i64 v1] (by rfl) (by rfl) (World.news_of_block (cs := #[.int .i64 v0, .int .i64 v1]) (t := 24) (fr := (0, 0)) (qc _ _)) (by simp [Value.oneCell']) (by omega) (by simp only [maxLen]; omega) (by omega) (by simp) (w2.heap.size + 1) (by simp) ?_; intro gg cap w9 hown9 hgrow hat hgl; have hM := (h3.step ((qa _ w2.drew).alloc (qb _) (.cells #[.int .i64 v0, .int .i64 v1] 24))).pushed (by rw [hvi]; exact hgrow) hown9; have nX : X ≠ gg := (fun e9 => dF hown9 ((hgrow.block X (by simp; omega) (fun e => dF hids h3.blk (by intro cs fr hc; injection hc with _ h2 _; exact absurd h2 (by decide)) e.symm)).trans ((Lib.alloc_old _ _ _ lX3).trans h3.blk)) (by intro cs fr hc; injection hc with _ h2 _; exact absurd h2 (by decide)) (by rw [e9]; rfl)); have hX9 := (hgrow.block X (by simp; omega) (fun e => dF hids h3.blk (by intro cs fr hc; injection hc with _ h2 _; exact absurd h2 (by decide)) e.symm)).trans ((Lib.alloc_old _ _ _ lX3).trans h3.blk); have c59 := Lib.cell_of_heap hX9 5; have f59 := Lib.frozen_of_heap hX9 5; simp only [qqk, qy, qqa] at c59)))
   all_goals go_wp2
   all_goals go_meet
   all_goals
    refine ⟨_, _, hM, ?_, ?_, ?_⟩
    ·rw [qg _ ⟨X, 5, none⟩ _ R hRX]
     refine (hgrow.block R (by simp; exact Nat.lt_succ_of_lt (aA hR3)) (fun e => ?_)).trans ((Lib.alloc_old _ _ _ (aA hR3)).trans hR3)
     have h5 := HOLD.out
     obtain ⟨_, pos0, is0, im0, n0, xs0, e0, line0, col0, m1, m2, m3, m4⟩ := h5
     have := (m1.ids.lt R (by rw [hvi]; exact e.symm)).2
     omega
    ·refine aB.setCell (p := ⟨X, 5, none⟩) ⟨hgrow.os.trans (aw3.alloc (.cells #[I v0, I v1] 24)).os, hgrow.tape.trans (aw3.alloc (.cells #[I v0, I v1] 24)).tape, hgrow.output.trans (aw3.alloc (.cells #[I v0, I v1] 24)).output, qv (aw3.alloc (.cells #[I v0, I v1] 24)).size hgrow.size, fun k hk hb => ?_⟩ (.inl (by simp)) _
     refine (hgrow.block k (qk hk (aw3.alloc (.cells #[I v0, I v1] 24)).size) (fun e => hb ?_)).trans ((aw3.alloc (.cells #[I v0, I v1] 24)).block k hk hb)
     rw [hvi]
     rw [<- e]
     simp
    ·intro k hk
     obtain rfl : gg = k := by simpa [Value.ownBlock] using hk
     have hRl := aA hR3
     rcases hat with h | h
     ·obtain ⟨_, pos0, is0, im0, n0, xs0, e0, line0, col0, m1, m2, m3, m4⟩ := HOLD.out
      have := (m1.ids.lt gg (by rw [hvi]; exact h)).2
      exact ⟨by omega, .inl (by rw [hvi]; exact h)⟩
     ·exact ⟨by omega, .inr (by omega)⟩
  case rest =>
   obtain ⟨v, ys, h4, hR4, aw4, hv4⟩ := hcut
   clear h2 aw2 hR2 h
   have e3 := h4.c3
   have e4 := h4.c4
   obtain ⟨r0, r1, fr0, fr1⟩ := aZ hR4
   have hP4 : MS T X true lv v s1 wc := ⟨g, pos, v0, v1, n + 1, ys, e, line, col, h4, hst, HN.1, HN.2⟩
   have hXR : X ≠ R := fun e => hRX e.symm
   have h5 := hP4.aside (w' := dL wc R (I v0) (I v1)) hR4 (by decide) hRX (fun e => (hv4 R e).1 rfl) (qe (iN _ _ _ _).symm) (fun j hj => cL wc R _ _ j hj)
   have hR5 := cC (a := I v0) (b := I v1) hR4
   have aw5 := cN aw4 (qe hR) (I v0) (I v1)
   clear h4 aw4 hR4 hP4 HEL HN hst
   unfold dL at h5 hR5 aw5
   go_wp2
   refine qf (qh rfl _ _ R 24 _ (0, 0) _ rfl hR5 Tryz.underlying24 rfl Tryz.sizeId) rfl ?_
   exact ⟨rfl, v, h5, aw5, fun k hk => by rw [hR]; exact (hv4 k hk).2⟩
end
theorem Tryz.sizeEvent : (Tryz.prog.info? 31).map (·.size) = some 13 := by kernel_rfl
def A0 : A5 := ⟨0, 0, 0, 0, 0⟩
def eN : Value := .slice none 0 0
theorem wY {w : World} {B B' : Nat} {e : TypeId} {size : Nat} {v : Value} {n : Nat} {xs : List Value} (h : w.ownsRow B' e size v n xs) (hB : B <= B') : w.ownsRow B e size v n xs := by
 refine ⟨h.1, ?_⟩
 rcases h.2 with hn | ⟨g, cap, cur, rfl, hg, rest⟩
 ·exact .inl hn
 ·exact .inr ⟨g, cap, cur, rfl, qv hB hg, rest⟩
structure hC (B : Nat) (hv gv lv : Value) (hs : List eF) (gs : List cY) (ys : List cT) (w : World) : Prop where
 oh : w.ownsRow B 80 5 hv hs.length (cH eF.cells hs)
 og : w.ownsRow B 77 5 gv gs.length (cH cY.cells gs)
 ol : w.ownsRow B 147 2 lv ys.length (cH cT.cells ys)
theorem hC.step {B : Nat} {hv gv lv : Value} {hs : List eF} {gs : List cY} {ys : List cT} {w w' : World} (h : hC B hv gv lv hs gs ys w)
  (hb : ∀ k o (T : TypeId), w.heap[k]? = some (.cells o T (0, 0)) -> T = 80 \/ T = 77 \/ T = 147 -> B <= k -> w'.heap[k]? = w.heap[k]?) : hC B hv gv lv hs gs ys w' := by
 refine ⟨aC h.oh fun k hk => ?_, aC h.og fun k hk => ?_, aC h.ol fun k hk => ?_⟩
 ·obtain ⟨c, hc⟩ := cA h.oh hk; exact hb k c _ hc (.inl rfl) (h.oh.lt k hk).1
 ·obtain ⟨c, hc⟩ := cA h.og hk; exact hb k c _ hc (.inr (.inl rfl)) (h.og.lt k hk).1
 ·obtain ⟨c, hc⟩ := cA h.ol hk; exact hb k c _ hc (.inr (.inr rfl)) (h.ol.lt k hk).1
theorem hC.nil (B : Nat) (w : World) : hC B eN eN eN [] [] [] w := ⟨qqe _ _ _ _, qqe _ _ _ _, qqe _ _ _ _⟩
structure sX (bs : List Nat) (R E : Nat) (F : EF) (A : A5) (hs : List eF) (gs : List cY) (ys : List cT) (w0 w : World) : Prop where
 hR : w.heap[R]? = some (.cells (evC 0 0 0 0 0 (.slice none 0 0) (.slice none 0 0) ⟨0, 0, 0, 0, 0⟩ (.slice none 0 0)) 31 (0, 0))
 hE : w.heap[E]? = some (.cells (F.c A) 31 (0, 0))
 rows : hC w0.heap.size F.hv F.gv F.lv hs gs ys w
 aw : aB bs w0 w
 bR : w0.heap.size <= R
 ne : R < E
 lo : ∀ k ∈ bs, k < w0.heap.size
def EvR (B : Nat) (x : zC) (v : Value) (w : World) : Prop := ∃ hv gv lv, v = .agg (x.cells hv gv lv) /\ hC B hv gv lv x.heads x.graces x.lyr w
section
variable {bs : List Nat} {R E : Nat} {F F' : EF} {A A' : A5} {hs hs' : List eF} {gs gs' : List cY} {ys ys' : List cT} {w0 w w' : World}
theorem sX.away (h : sX bs R E F A hs gs ys w0 w) {cs : List Nat} (a : aB cs w w') (hc : ∀ k ∈ cs, k ∈ bs) : sX bs R E F A hs gs ys w0 w' := by
 have n : ∀ k, w0.heap.size <= k -> k ∉ cs := fun k hk hm => by have := h.lo k (hc k hm); omega
 have bR := h.bR
 have ne := h.ne
 exact ⟨a.at h.hR (n R bR), a.at h.hE (n E (by omega)), h.rows.step fun k o T ho _ hk => a.block k (aA ho) (n k hk), h.aw.trans (a.more hc), h.bR, h.ne, h.lo⟩
theorem sX.step (h : sX bs R E F A hs gs ys w0 w) (b : Below w.heap.size w w') : sX bs R E F A hs gs ys w0 w' := h.away (cs := []) (aB.of_below b) (fun k hk => (by cases hk))
theorem sX.other (h : sX bs R E F A hs gs ys w0 w) {cs : List Nat} (a : aB cs w w') (hc : ∀ k ∈ cs, k = E \/ k ∈ bs) (hE' : w'.heap[E]? = some (.cells (F'.c A') 31 (0, 0))) (r : hC w0.heap.size F'.hv F'.gv F'.lv hs' gs' ys' w') : sX bs R E F' A' hs' gs' ys' w0 w' := by
 have bR := h.bR
 have ne := h.ne
 have n : ∀ k, w0.heap.size <= k -> k ≠ E -> k ∉ cs := fun k hk he hm => by
  rcases hc k hm with h1 | h1
  ·exact he h1
  ·have := h.lo k h1; omega
 refine ⟨a.at h.hR (n R bR (by omega)), hE', r, ⟨a.os.trans h.aw.os, a.tape.trans h.aw.tape, a.output.trans h.aw.output, qv h.aw.size a.size, fun k hk hb => (a.block k (qk hk h.aw.size) (fun hm => ?_)).trans (h.aw.block k hk hb)⟩, h.bR, h.ne, h.lo⟩
 rcases hc k hm with h1 | h1
 ·omega
 ·exact hb h1
theorem sX.put (h : sX bs R E F A hs gs ys w0 w) (i : Nat) (u : Value) (hc : (F.c A).setIfInBounds i u = F'.c A') (r : hC w0.heap.size F'.hv F'.gv F'.lv hs' gs' ys' w) : sX bs R E F' A' hs' gs' ys' w0 (w.setCell ⟨E, i, none⟩ u) :=
 h.other (cs := [E]) (aB.setCell (aB.refl _ _) (p := ⟨E, i, none⟩) (.inl (by simp)) u) (fun k hk => .inl (by simpa using hk)) (by rw [Lib.heap_setCell_same h.hE u, hc])
  (r.step fun k o T ho hT _ => aE w E i u k fun e => by
   have := ho.symm.trans (e ▸ h.hE)
   injection this with this
   injection this with _ h2 _
   rcases hT with hT | hT | hT <;> rw [hT] at h2 <;> exact absurd h2 (by decide))
theorem sX.cells (h : sX bs R E F A hs gs ys w0 w) : w.cell? ⟨E, 2, none⟩ = some (I F.kd) /\ w.cell? ⟨E, 3, none⟩ = some (I F.lg) /\ w.cell? ⟨E, 4, none⟩ = some (I F.dt) /\ w.cell? ⟨E, 5, none⟩ = some F.hv /\ w.cell? ⟨E, 6, none⟩ = some F.gv /\ w.cell? ⟨E, 10, none⟩ = some F.lv /\ ∀ i, w.frozen? ⟨E, i, none⟩ = false := by
 refine ⟨?_, ?_, ?_, ?_, ?_, ?_, fun i => Lib.frozen_of_heap h.hE i⟩ <;> (rw [Lib.cell_of_heap h.hE]; rfl)
end
def mN (w : World) (X : Nat) (v0 v1 v2 v3 v4 v5 v6 v7 v8 v9 v10 v11 v12 : Value) : World :=
 ((((((((((((w.setCell ⟨X, 0, none⟩ v0).setCell ⟨X, 1, none⟩ v1).setCell ⟨X, 2, none⟩ v2).setCell ⟨X, 3, none⟩ v3).setCell ⟨X, 4, none⟩ v4).setCell ⟨X, 5, none⟩ v5).setCell ⟨X, 6, none⟩ v6).setCell ⟨X, 7, none⟩ v7).setCell ⟨X, 8, none⟩ v8).setCell ⟨X, 9, none⟩ v9).setCell ⟨X, 10, none⟩ v10).setCell ⟨X, 11, none⟩ v11).setCell ⟨X, 12, none⟩ v12
section
variable {w : World} {X : Nat} (v0 v1 v2 v3 v4 v5 v6 v7 v8 v9 v10 v11 v12 : Value)
theorem AD {T : TypeId} {c0 c1 c2 c3 c4 c5 c6 c7 c8 c9 c10 c11 c12 : Value} (h : w.heap[X]? = some (.cells #[c0, c1, c2, c3, c4, c5, c6, c7, c8, c9, c10, c11, c12] T (0, 0))) :
  (mN w X v0 v1 v2 v3 v4 v5 v6 v7 v8 v9 v10 v11 v12).heap[X]? = some (.cells #[v0, v1, v2, v3, v4, v5, v6, v7, v8, v9, v10, v11, v12] T (0, 0)) := by
 have h0 : (w.setCell ⟨X, 0, none⟩ v0).heap[X]? = some (.cells #[v0, c1, c2, c3, c4, c5, c6, c7, c8, c9, c10, c11, c12] T (0, 0)) := Lib.heap_setCell_same (i := 0) h v0
 have h1 : ((w.setCell ⟨X, 0, none⟩ v0).setCell ⟨X, 1, none⟩ v1).heap[X]? = some (.cells #[v0, v1, c2, c3, c4, c5, c6, c7, c8, c9, c10, c11, c12] T (0, 0)) := Lib.heap_setCell_same (i := 1) h0 v1
 have h2 : (((w.setCell ⟨X, 0, none⟩ v0).setCell ⟨X, 1, none⟩ v1).setCell ⟨X, 2, none⟩ v2).heap[X]? = some (.cells #[v0, v1, v2, c3, c4, c5, c6, c7, c8, c9, c10, c11, c12] T (0, 0)) := Lib.heap_setCell_same (i := 2) h1 v2
 have h3 : ((((w.setCell ⟨X, 0, none⟩ v0).setCell ⟨X, 1, none⟩ v1).setCell ⟨X, 2, none⟩ v2).setCell ⟨X, 3, none⟩ v3).heap[X]? = some (.cells #[v0, v1, v2, v3, c4, c5, c6, c7, c8, c9, c10, c11, c12] T (0, 0)) := Lib.heap_setCell_same (i := 3) h2 v3
 have h4 : (((((w.setCell ⟨X, 0, none⟩ v0).setCell ⟨X, 1, none⟩ v1).setCell ⟨X, 2, none⟩ v2).setCell ⟨X, 3, none⟩ v3).setCell ⟨X, 4, none⟩ v4).heap[X]? = some (.cells #[v0, v1, v2, v3, v4, c5, c6, c7, c8, c9, c10, c11, c12] T (0, 0)) := Lib.heap_setCell_same (i := 4) h3 v4
 have h5 : ((((((w.setCell ⟨X, 0, none⟩ v0).setCell ⟨X, 1, none⟩ v1).setCell ⟨X, 2, none⟩ v2).setCell ⟨X, 3, none⟩ v3).setCell ⟨X, 4, none⟩ v4).setCell ⟨X, 5, none⟩ v5).heap[X]? = some (.cells #[v0, v1, v2, v3, v4, v5, c6, c7, c8, c9, c10, c11, c12] T (0, 0)) := Lib.heap_setCell_same (i := 5) h4 v5
 have h6 : (((((((w.setCell ⟨X, 0, none⟩ v0).setCell ⟨X, 1, none⟩ v1).setCell ⟨X, 2, none⟩ v2).setCell ⟨X, 3, none⟩ v3).setCell ⟨X, 4, none⟩ v4).setCell ⟨X, 5, none⟩ v5).setCell ⟨X, 6, none⟩ v6).heap[X]? = some (.cells #[v0, v1, v2, v3, v4, v5, v6, c7, c8, c9, c10, c11, c12] T (0, 0)) := Lib.heap_setCell_same (i := 6) h5 v6
 have h7 : ((((((((w.setCell ⟨X, 0, none⟩ v0).setCell ⟨X, 1, none⟩ v1).setCell ⟨X, 2, none⟩ v2).setCell ⟨X, 3, none⟩ v3).setCell ⟨X, 4, none⟩ v4).setCell ⟨X, 5, none⟩ v5).setCell ⟨X, 6, none⟩ v6).setCell ⟨X, 7, none⟩ v7).heap[X]? = some (.cells #[v0, v1, v2, v3, v4, v5, v6, v7, c8, c9, c10, c11, c12] T (0, 0)) := Lib.heap_setCell_same (i := 7) h6 v7
 have h8 : (((((((((w.setCell ⟨X, 0, none⟩ v0).setCell ⟨X, 1, none⟩ v1).setCell ⟨X, 2, none⟩ v2).setCell ⟨X, 3, none⟩ v3).setCell ⟨X, 4, none⟩ v4).setCell ⟨X, 5, none⟩ v5).setCell ⟨X, 6, none⟩ v6).setCell ⟨X, 7, none⟩ v7).setCell ⟨X, 8, none⟩ v8).heap[X]? = some (.cells #[v0, v1, v2, v3, v4, v5, v6, v7, v8, c9, c10, c11, c12] T (0, 0)) := Lib.heap_setCell_same (i := 8) h7 v8
 have h9 : ((((((((((w.setCell ⟨X, 0, none⟩ v0).setCell ⟨X, 1, none⟩ v1).setCell ⟨X, 2, none⟩ v2).setCell ⟨X, 3, none⟩ v3).setCell ⟨X, 4, none⟩ v4).setCell ⟨X, 5, none⟩ v5).setCell ⟨X, 6, none⟩ v6).setCell ⟨X, 7, none⟩ v7).setCell ⟨X, 8, none⟩ v8).setCell ⟨X, 9, none⟩ v9).heap[X]? = some (.cells #[v0, v1, v2, v3, v4, v5, v6, v7, v8, v9, c10, c11, c12] T (0, 0)) := Lib.heap_setCell_same (i := 9) h8 v9
 have h10 : (((((((((((w.setCell ⟨X, 0, none⟩ v0).setCell ⟨X, 1, none⟩ v1).setCell ⟨X, 2, none⟩ v2).setCell ⟨X, 3, none⟩ v3).setCell ⟨X, 4, none⟩ v4).setCell ⟨X, 5, none⟩ v5).setCell ⟨X, 6, none⟩ v6).setCell ⟨X, 7, none⟩ v7).setCell ⟨X, 8, none⟩ v8).setCell ⟨X, 9, none⟩ v9).setCell ⟨X, 10, none⟩ v10).heap[X]? = some (.cells #[v0, v1, v2, v3, v4, v5, v6, v7, v8, v9, v10, c11, c12] T (0, 0)) := Lib.heap_setCell_same (i := 10) h9 v10
 have h11 : ((((((((((((w.setCell ⟨X, 0, none⟩ v0).setCell ⟨X, 1, none⟩ v1).setCell ⟨X, 2, none⟩ v2).setCell ⟨X, 3, none⟩ v3).setCell ⟨X, 4, none⟩ v4).setCell ⟨X, 5, none⟩ v5).setCell ⟨X, 6, none⟩ v6).setCell ⟨X, 7, none⟩ v7).setCell ⟨X, 8, none⟩ v8).setCell ⟨X, 9, none⟩ v9).setCell ⟨X, 10, none⟩ v10).setCell ⟨X, 11, none⟩ v11).heap[X]? = some (.cells #[v0, v1, v2, v3, v4, v5, v6, v7, v8, v9, v10, v11, c12] T (0, 0)) := Lib.heap_setCell_same (i := 11) h10 v11
 have h12 : (((((((((((((w.setCell ⟨X, 0, none⟩ v0).setCell ⟨X, 1, none⟩ v1).setCell ⟨X, 2, none⟩ v2).setCell ⟨X, 3, none⟩ v3).setCell ⟨X, 4, none⟩ v4).setCell ⟨X, 5, none⟩ v5).setCell ⟨X, 6, none⟩ v6).setCell ⟨X, 7, none⟩ v7).setCell ⟨X, 8, none⟩ v8).setCell ⟨X, 9, none⟩ v9).setCell ⟨X, 10, none⟩ v10).setCell ⟨X, 11, none⟩ v11).setCell ⟨X, 12, none⟩ v12).heap[X]? = some (.cells #[v0, v1, v2, v3, v4, v5, v6, v7, v8, v9, v10, v11, v12] T (0, 0)) := Lib.heap_setCell_same (i := 12) h11 v12
 exact h12
theorem wZ (k : Nat) (hk : k ≠ X) : (mN w X v0 v1 v2 v3 v4 v5 v6 v7 v8 v9 v10 v11 v12).heap[k]? = w.heap[k]? := by
 have s : ∀ (u : World) (i : Nat) (v : Value), (u.setCell ⟨X, i, none⟩ v).heap[k]? = u.heap[k]? := fun u i v => qg u ⟨X, i, none⟩ v k hk
 unfold mN
 simp only [s]
theorem AE {bs : List Nat} {a : World} (h : aB bs a w) (hX : a.heap.size <= X) : aB bs a (mN w X v0 v1 v2 v3 v4 v5 v6 v7 v8 v9 v10 v11 v12) := by
 have s : ∀ {u : World}, aB bs a u -> ∀ (i : Nat) (v : Value), aB bs a (u.setCell ⟨X, i, none⟩ v) := fun hu i v => hu.setCell (p := ⟨X, i, none⟩) (.inr hX) v
 exact s (s (s (s (s (s (s (s (s (s (s (s (s h 0 v0) 1 v1) 2 v2) 3 v3) 4 v4) 5 v5) 6 v6) 7 v7) 8 v8) 9 v9) 10 v10) 11 v11) 12 v12
theorem KX : (mN w X v0 v1 v2 v3 v4 v5 v6 v7 v8 v9 v10 v11 v12).heap.size = w.heap.size := by unfold mN; simp [World.setCell]
end
theorem QE {w : World} {b : Nat} {T : TypeId} {c0 c1 c2 c3 c4 c5 c6 c7 c8 c9 c10 c11 c12 : Value} (h : w.heap[b]? = some (.cells #[c0, c1, c2, c3, c4, c5, c6, c7, c8, c9, c10, c11, c12] T (0, 0))) :
  w.cell? ⟨b, 0, none⟩ = some c0 /\ w.cell? ⟨b, 1, none⟩ = some c1 /\ w.cell? ⟨b, 2, none⟩ = some c2 /\ w.cell? ⟨b, 3, none⟩ = some c3 /\ w.cell? ⟨b, 4, none⟩ = some c4 /\ w.cell? ⟨b, 5, none⟩ = some c5 /\ w.cell? ⟨b, 6, none⟩ = some c6 /\ w.cell? ⟨b, 7, none⟩ = some c7 /\ w.cell? ⟨b, 8, none⟩ = some c8 /\ w.cell? ⟨b, 9, none⟩ = some c9 /\ w.cell? ⟨b, 10, none⟩ = some c10 /\ w.cell? ⟨b, 11, none⟩ = some c11 /\ w.cell? ⟨b, 12, none⟩ = some c12 /\
  w.frozen? ⟨b, 0, none⟩ = false /\ w.frozen? ⟨b, 1, none⟩ = false /\ w.frozen? ⟨b, 2, none⟩ = false /\ w.frozen? ⟨b, 3, none⟩ = false /\ w.frozen? ⟨b, 4, none⟩ = false /\ w.frozen? ⟨b, 5, none⟩ = false /\ w.frozen? ⟨b, 6, none⟩ = false /\ w.frozen? ⟨b, 7, none⟩ = false /\ w.frozen? ⟨b, 8, none⟩ = false /\ w.frozen? ⟨b, 9, none⟩ = false /\ w.frozen? ⟨b, 10, none⟩ = false /\ w.frozen? ⟨b, 11, none⟩ = false /\ w.frozen? ⟨b, 12, none⟩ = false := by
 refine ⟨?_, ?_, ?_, ?_, ?_, ?_, ?_, ?_, ?_, ?_, ?_, ?_, ?_, Lib.frozen_of_heap h 0, Lib.frozen_of_heap h 1, Lib.frozen_of_heap h 2, Lib.frozen_of_heap h 3, Lib.frozen_of_heap h 4, Lib.frozen_of_heap h 5, Lib.frozen_of_heap h 6, Lib.frozen_of_heap h 7, Lib.frozen_of_heap h 8, Lib.frozen_of_heap h 9, Lib.frozen_of_heap h 10, Lib.frozen_of_heap h 11, Lib.frozen_of_heap h 12⟩ <;> (rw [Lib.cell_of_heap h]; rfl)
section
variable {O : A7} {T : List bD} {q : Int}
theorem vJ {T : List bD} {x : ByteArray} {s : aU} (h : isS T x s = false) : aS T x s = s := by unfold aS; rw [h]; rfl
theorem qJ {T : List bD} {x : ByteArray} {s : aU} (h : isS T x s = true) : s.next 1 = aS T x s := by unfold aS; rw [h]; rfl
theorem xA (s : aU) : (isS T ⟨#[103, 114, 97, 99, 101]⟩ s = true /\ gQ O T q s = kW T (aY O T q) ⟨#[41]⟩ (bE T ⟨#[40]⟩ (aS T ⟨#[103, 114, 97, 99, 101]⟩ s))) \/ (isS T ⟨#[103, 114, 97, 99, 101]⟩ s = false /\ aS T ⟨#[103, 114, 97, 99, 101]⟩ s = s /\ gQ O T q s = ([], s)) := by
 cases h : isS T ⟨#[103, 114, 97, 99, 101]⟩ s with
 | true => exact .inl ⟨rfl, by unfold gQ; rw [if_pos h, qJ h]⟩
 | false => exact .inr ⟨rfl, vJ h, by unfold gQ; rw [if_neg (by rw [h]; decide)]⟩
theorem CZ (s : aU) :
  (isS T ⟨#[82]⟩ s = true /\ pU O T s = ((3, []), aS T ⟨#[82]⟩ s))
  \/ (isS T ⟨#[82]⟩ s = false /\ aS T ⟨#[82]⟩ s = s /\ ((isS T ⟨#[114]⟩ s = true /\ pU O T s = ((2, []), aS T ⟨#[114]⟩ s))
  \/ (isS T ⟨#[114]⟩ s = false /\ aS T ⟨#[114]⟩ s = s /\ ((isS T ⟨#[115]⟩ s = true /\ pU O T s = ((4, []), aS T ⟨#[115]⟩ s))
  \/ (isS T ⟨#[115]⟩ s = false /\ aS T ⟨#[115]⟩ s = s /\ ((isS T ⟨#[60]⟩ s = true /\ pU O T s = ((1, (kW T (bJ O T) ⟨#[62]⟩ (aS T ⟨#[60]⟩ s)).1), (kW T (bJ O T) ⟨#[62]⟩ (aS T ⟨#[60]⟩ s)).2))
  \/ (isS T ⟨#[60]⟩ s = false /\ aS T ⟨#[60]⟩ s = s /\ pU O T s = ((1, [(bJ O T s).1]), (bJ O T s).2)))))))) := by
 unfold pU
 cases h1 : isS T ⟨#[82]⟩ s with
 | true => exact .inl ⟨rfl, by rw [if_pos rfl, qJ h1]⟩
 | false =>
  refine .inr ⟨rfl, vJ h1, ?_⟩
  rw [if_neg (by decide)]
  cases h2 : isS T ⟨#[114]⟩ s with
  | true => exact .inl ⟨rfl, by rw [if_pos rfl, qJ h2]⟩
  | false =>
   refine .inr ⟨rfl, vJ h2, ?_⟩
   rw [if_neg (by decide)]
   cases h3 : isS T ⟨#[115]⟩ s with
   | true => exact .inl ⟨rfl, by rw [if_pos rfl, qJ h3]⟩
   | false =>
    refine .inr ⟨rfl, vJ h3, ?_⟩
    rw [if_neg (by decide)]
    cases h4 : isS T ⟨#[60]⟩ s with
    | true => exact .inl ⟨rfl, by rw [if_pos rfl, qJ h4]⟩
    | false => exact .inr ⟨rfl, vJ h4, by rw [if_neg (by decide)]⟩
theorem FC (kd : Int) (s : aU) : (kd = 3 /\ H8 O T kd s = ((0, 0), s)) \/ (kd ≠ 3 /\ H8 O T kd s = gT O T (bE T ⟨#[58]⟩ s)) := by
 unfold H8
 split
 ·rename_i h; exact .inl ⟨h, rfl⟩
 ·rename_i h; exact .inr ⟨h, rfl⟩
theorem KY (s : aU) : (isS T ⟨#[91]⟩ s = true /\ gU T s = FN T (aS T ⟨#[91]⟩ s)) \/ (isS T ⟨#[91]⟩ s = false /\ aS T ⟨#[91]⟩ s = s /\ gU T s = (⟨0, 0, 0, 0, 0⟩, s)) := by
 cases h : isS T ⟨#[91]⟩ s with
 | true => exact .inl ⟨rfl, by unfold gU; rw [if_pos h, qJ h]⟩
 | false => exact .inr ⟨rfl, vJ h, by unfold gU; rw [if_neg (by rw [h]; decide)]⟩
theorem AF (s : aU) : ∃ (o : (Int × Int) × aU) (g : List cY × aU) (b : (Int × List eF) × aU) (v : (Int × Int) × aU) (a : A5 × aU) (y : List cT × aU),
  o = vP T s /\ g = gQ O T q o.2 /\ b = pU O T g.2 /\ v = H8 O T b.1.1 b.2 /\ a = gU T v.2 /\ y = j2 T T.length a.2 /\
  eX O T q s = (⟨o.1.1, o.1.2, b.1.1, v.1.1, v.1.2, b.1.2, g.1, a.1.ar, a.1.orn, a.1.dy, y.1, a.1.st, a.1.be⟩, y.2) := ⟨_, _, _, _, _, _, rfl, rfl, rfl, rfl, rfl, rfl, rfl⟩
end
end Go.Proofs.YtgkhemnmcgicnaaGreatDoor
