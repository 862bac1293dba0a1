/- Towards the law ParserVoices, true for every text (no condition): one part of the proof. -/
import Derived.Test.YtgkhemnmcgicnaaGreatDoorG01
import Derived.Test.YtgkhemnmcgicnaaGreatDoorG09
namespace Go.Proofs.YtgkhemnmcgicnaaGreatDoor
set_option maxHeartbeats 8000000
set_option maxRecDepth 100000
open Go.RowKit
structure MS (T : List bD) (X : Nat) (free : Bool) (lv iv : Value) (st : aU) (w : World) : Prop where
 good : i6 T
 ex : ∃ pos is im n xs e line col, mJ X lv iv T pos free is im n xs e line col w /\ XD T st pos line col e /\ n <= 5000 /\ (st.good = true -> n <= pos)
section
variable {T : List bD} {X : Nat} {free : Bool} {lv iv : Value} {st : aU} {w : World}
theorem MS.step (h : MS T X free lv iv st w) {w' : World} (b : Below w.heap.size w w') : MS T X free lv iv st w' := by
 obtain ⟨g, pos, is, im, n, xs, e, line, col, h1, h2, h3⟩ := h
 exact ⟨g, pos, is, im, n, xs, e, line, col, h1.step b, h2, h3⟩
theorem MS.lt (h : MS T X free lv iv st w) : X < w.heap.size := by
 obtain ⟨_, pos, is, im, n, xs, e, line, col, h1, _, _⟩ := h
 exact h1.lt
theorem pR (h : MS T X free lv iv st w) : Calls Tryz.prog 31 #[.pointer (some ⟨X, 0, none⟩)] w fun r w' => r = .returned (fK (aW T st)) /\ Below w.heap.size w w' := by
 obtain ⟨g, pos, is, im, n, xs, e, line, col, h1, h2, h3⟩ := h
 cases st with
 | ok p =>
  obtain ⟨rfl, rfl, rfl, rfl, hp⟩ := h2
  exact TU h1 (getD_some hp)
 | bad e' l c =>
  obtain ⟨rfl, he, rfl, rfl, _⟩ := h2
  exact WU h1 he
theorem YR (t : bD) (hp : Calls Tryz.prog 31 #[.pointer (some ⟨X, 0, none⟩)] w fun r w' => r = .returned (fK t) /\ Below w.heap.size w w') (tx : ByteArray) {b : Bool} (hb : pS t tx = b) :
  Calls Tryz.prog 27 #[.pointer (some ⟨X, 0, none⟩), .string tx] w fun r w' => r = .returned (.bool b) /\ Below w.heap.size w w' := by
 obtain ⟨kd, text, v, bt, lin, cl, j⟩ := t
 simp only [pS, fK] at hb hp
 by_cases h1 : kd = 1
 ·subst h1
  by_cases hx : text = tx
  ·subst hx
   go_enter Tryz.func27, Tryz.ntmps27
   go_wp2_with (go_at_call 31; refine hp.mono ?_)
   intro r w1; first | (intro he b1; subst he) | rintro ⟨rfl, b1⟩
   go_wp2
   go_ret
   refine ⟨?_, b1.alloc b1.size _⟩
   first | (rw [<- hb]; simp; done) | simp_all
  ·have hx' := iY hx
   go_enter Tryz.func27, Tryz.ntmps27
   go_wp2_with (go_at_call 31; refine hp.mono ?_)
   intro r w1; first | (intro he b1; subst he) | rintro ⟨rfl, b1⟩
   go_wp2
   go_ret
   refine ⟨?_, b1.alloc b1.size _⟩
   first | (rw [<- hb]; simp; done) | simp_all
 ·by_cases h4 : kd = 4
  ·subst h4
   by_cases hx : text = tx
   ·subst hx
    go_enter Tryz.func27, Tryz.ntmps27
    go_wp2_with (go_at_call 31; refine hp.mono ?_)
    intro r w1; first | (intro he b1; subst he) | rintro ⟨rfl, b1⟩
    go_wp2
    go_ret
    refine ⟨?_, b1.alloc b1.size _⟩
    first | (rw [<- hb]; simp; done) | simp_all
   ·have hx' := iY hx
    go_enter Tryz.func27, Tryz.ntmps27
    go_wp2_with (go_at_call 31; refine hp.mono ?_)
    intro r w1; first | (intro he b1; subst he) | rintro ⟨rfl, b1⟩
    go_wp2
    go_ret
    refine ⟨?_, b1.alloc b1.size _⟩
    first | (rw [<- hb]; simp; done) | simp_all
  ·go_enter Tryz.func27, Tryz.ntmps27
   go_wp2_with (go_at_call 31; refine hp.mono ?_)
   intro r w1; first | (intro he b1; subst he) | rintro ⟨rfl, b1⟩
   go_wp2
   go_ret
   refine ⟨?_, b1.alloc b1.size _⟩
   first | (rw [<- hb]; simp; done) | simp_all
theorem uP (h : MS T X free lv iv st w) (x : ByteArray) : Calls Tryz.prog 27 #[.pointer (some ⟨X, 0, none⟩), .string x] w fun r w' => r = .returned (.bool (isS T x st)) /\ Below w.heap.size w w' :=
 YR _ (pR h) x rfl
theorem mJ.next {pos : Nat} {is im e line col : Int} {n : Nat} {xs : List Value} (h : mJ X lv iv T pos free is im n xs e line col w) : mJ X lv iv T (pos + 1) free is im n xs e line col (w.setCell ⟨X, 1, none⟩ (I ((pos : Int) + 1))) :=
 h.put 1 _ (fun h => h) (by rw [show ((pos + 1 : Nat) : Int) = (pos : Int) + 1 by omega]; rfl)
theorem LA {p : Nat} (h : MS T X free lv iv (.ok p) w) (x : ByteArray) (hb : isS T x (.ok p) = true) : Calls Tryz.prog 24 #[.pointer (some ⟨X, 0, none⟩), .string x] w fun r w' => r = .returned (.bool true) /\ MS T X free lv iv (.ok (p + 1)) w' /\ aB [X] w w' := by
 have hi := uP h x
 rw [hb] at hi
 obtain ⟨g, pos, is, im, n, xs, e, line, col, h1, h2, h3, h4⟩ := h
 obtain ⟨rfl, rfl, rfl, rfl, hp⟩ := h2
 have hk := vQ hb
 have hlt := g.more hp (by rcases hk with hk | hk <;> rw [show (T.getD p dA).kind = _ from hk] <;> decide)
 have hm := g.max
 have hn := h4 rfl
 have hst := fun w' (b : Below w.heap.size w w') => h1.step b
 have hw : IntKind.i64.wrap ((p : Int) + 1) = (p : Int) + 1 := IntWalk.i64_in _ (by omega)
 clear h1 hb hk h4
 go_enter Tryz.func24, Tryz.ntmps24
 go_wp2_with (go_at_call 27; refine hi.mono ?_)
 intro r w1; first | (intro he b1; subst he) | rintro ⟨rfl, b1⟩
 have hS := hst _ b1
 have c1 := hS.c1
 have f1 := hS.fz 1
 have hN := hS.next
 clear hS hst hi
 go_wp2
 go_ret
 exact ⟨rfl, ⟨g, p + 1, is, im, n, xs, 0, 0, 0, hN, ⟨rfl, rfl, rfl, rfl, hlt⟩, h3, fun _ => by omega⟩, (aB.of_below b1).setCell (.inl (by simp)) _⟩
theorem NR (tx : ByteArray) (hi : Calls Tryz.prog 27 #[.pointer (some ⟨X, 0, none⟩), .string tx] w fun r w' => r = .returned (.bool false) /\ Below w.heap.size w w') :
  Calls Tryz.prog 24 #[.pointer (some ⟨X, 0, none⟩), .string tx] w fun r w' => r = .returned (.bool false) /\ Below w.heap.size w w' := by
 go_enter Tryz.func24, Tryz.ntmps24
 go_wp2_with (go_at_call 27; refine hi.mono ?_)
 intro r w1; first | (intro he b1; subst he) | rintro ⟨rfl, b1⟩
 go_wp2
 go_ret
 exact ⟨rfl, b1⟩
theorem eD (h : MS T X free lv iv st w) (x : ByteArray) : Calls Tryz.prog 24 #[.pointer (some ⟨X, 0, none⟩), .string x] w fun r w' => r = .returned (.bool (isS T x st)) /\ MS T X free lv iv (aS T x st) w' /\ aB [X] w w' := by
 cases hb : isS T x st with
 | true =>
  have e1 : aS T x st = st.next 1 := by unfold aS; rw [if_pos hb]
  rw [e1]
  cases st with
  | ok p => exact LA h x hb
  | bad e l c => rw [isS_bad'] at hb; cases hb
 | false =>
  have e1 : aS T x st = st := by unfold aS; rw [if_neg (by rw [hb]; decide)]
  rw [e1]
  have hi := uP h x
  rw [hb] at hi
  refine (NR x hi).mono ?_
  rintro r w' ⟨rfl, b⟩
  exact ⟨rfl, h.step b, aB.of_below b⟩
where isS_bad' {e l c : Int} : isS T x (.bad e l c) = false := rfl
theorem mJ.failed {pos : Nat} {is im e line col : Int} {n : Nat} {xs : List Value} (h : mJ X lv iv T pos free is im n xs e line col w) (l c x : Int) (hx : x ≠ 0) :
  mJ X lv iv T pos free is im n xs x l c (((w.setCell ⟨X, 6, none⟩ (I x)).setCell ⟨X, 7, none⟩ (I l)).setCell ⟨X, 8, none⟩ (I c)) :=
 ((h.put (e' := x) (pos' := pos) (line' := line) (col' := col) (is' := is) (im' := im) 6 _ (fun h0 => absurd h0 hx) rfl).put (e' := x) (pos' := pos) (line' := l) (col' := col) (is' := is) (im' := im) 7 _ (fun h => h) rfl).put (e' := x) (pos' := pos) (line' := l) (col' := c) (is' := is) (im' := im) 8 _ (fun h => h) rfl
theorem LB {pos : Nat} {is im line col : Int} {n : Nat} {xs : List Value} (h : mJ X lv iv T pos free is im n xs 0 line col w) {t : bD} (ht : T[pos]? = some t) (c : Int) (hc : c ≠ 0) :
  Calls Tryz.prog 32 #[.pointer (some ⟨X, 0, none⟩), I c] w fun r w' => r = .returned (.tuple #[]) /\ mJ X lv iv T pos free is im n xs c t.line t.col w' /\ aB [X] w w' := by
 have hp := TU h ht
 have hst := fun w' (b : Below w.heap.size w w') => h.step b
 have c6 := h.c6
 clear h ht
 unfold fK at hp
 go_enter Tryz.func32, Tryz.ntmps32
 go_wp2_with (go_at_call 31; refine hp.mono ?_)
 intro r w1; first | (intro he b1; subst he) | rintro ⟨rfl, b1⟩
 go_wp2
 have hT := qc w1 (.cells #[I t.kind, .string t.text, I t.value, .string t.bytes, I t.line, I t.col, .bool t.joined] 59)
 have b2 := b1.alloc b1.size (.cells #[I t.kind, .string t.text, I t.value, .string t.bytes, I t.line, I t.col, .bool t.joined] 59)
 generalize w1.alloc (.cells #[I t.kind, .string t.text, I t.value, .string t.bytes, I t.line, I t.col, .bool t.joined] 59) = w2 at hT b2 |-
 generalize w1.heap.size = B at hT |-
 have hS := hst _ b2
 have d6 := hS.c6
 have d7 := hS.c7
 have d8 := hS.c8
 have f6 := hS.fz 6
 have f7 := hS.fz 7
 have f8 := hS.fz 8
 have k4 : w2.cell? ⟨B, 4, none⟩ = some (I t.line) := by rw [Lib.cell_of_heap hT]; rfl
 have k5 : w2.cell? ⟨B, 5, none⟩ = some (I t.col) := by rw [Lib.cell_of_heap hT]; rfl
 have hTY : B ≠ X := by
  rintro rfl
  rw [hS.blk] at hT
  injection hT with hT
  injection hT with _ h2 _
  exact absurd h2 (by decide)
 have hfin := (hS.step (qa _ _).drew).failed t.line t.col c hc
 clear hS hst c6 hp hT
 go_region
 all_goals go_end0
 all_goals exact ⟨rfl, hfin, (((aB.of_below b2).drew.setCell (.inl (by simp)) _).setCell (.inl (by simp)) _).setCell (.inl (by simp)) _⟩
theorem RP {pos : Nat} {is im e line col : Int} {n : Nat} {xs : List Value} (h : mJ X lv iv T pos free is im n xs e line col w) (he : e ≠ 0) (c : Int) :
  Calls Tryz.prog 32 #[.pointer (some ⟨X, 0, none⟩), I c] w fun r w' => r = .returned (.tuple #[]) /\ Below w.heap.size w w' := by
 have c6 := h.c6
 clear h
 go_enter Tryz.func32, Tryz.ntmps32
 go_wp2
 go_end0
 exact ⟨rfl, qa _ _⟩
theorem gP (h : MS T X free lv iv st w) (c : Int) (hc : c ≠ 0) : Calls Tryz.prog 32 #[.pointer (some ⟨X, 0, none⟩), I c] w fun r w' => r = .returned (.tuple #[]) /\ MS T X free lv iv (bF T c st) w' /\ aB [X] w w' := by
 have h0 := h
 obtain ⟨g, pos, is, im, n, xs, e, line, col, h1, h2, h3, h4⟩ := h
 cases st with
 | ok p =>
  obtain ⟨rfl, rfl, rfl, rfl, hp⟩ := h2
  have hm := g.max
  refine (LB h1 (getD_some hp) c hc).mono ?_
  rintro r w' ⟨rfl, hS, ha⟩
  exact ⟨rfl, ⟨g, p, is, im, n, xs, c, _, _, hS, ⟨rfl, hc, rfl, rfl, by omega⟩, h3, fun h => by cases h⟩, ha⟩
 | bad e' l c' =>
  obtain ⟨rfl, he, rfl, rfl, _⟩ := h2
  refine (RP h1 he c).mono ?_
  rintro r w' ⟨rfl, hb'⟩
  exact ⟨rfl, h0.step hb', aB.of_below hb'⟩
theorem fM (h : MS T X free lv iv st w) (x : ByteArray) : Calls Tryz.prog 25 #[.pointer (some ⟨X, 0, none⟩), .string x] w fun r w' => r = .returned (.tuple #[]) /\ MS T X free lv iv (bE T x st) w' /\ aB [X] w w' := by
 have ha := eD h x
 cases hb : isS T x st with
 | true =>
  rw [hb] at ha
  have e1 : aS T x st = bE T x st := by unfold aS bE; rw [if_pos hb, if_pos hb]
  rw [e1] at ha
  clear h hb e1
  go_enter Tryz.func25, Tryz.ntmps25
  go_wp2_with (go_at_call 24; refine ha.mono ?_)
  intro r w1; first | (intro he hS b1; subst he) | rintro ⟨rfl, hS, b1⟩
  go_wp2
  go_end0
  exact ⟨rfl, hS, b1⟩
 | false =>
  rw [hb] at ha
  have e1 : aS T x st = st := by unfold aS; rw [if_neg (by rw [hb]; decide)]
  have e2 : bE T x st = bF T 13 st := by unfold bE; rw [if_neg (by rw [hb]; decide)]
  rw [e1] at ha
  rw [e2]
  have hf := fun w' (h : MS T X free lv iv st w') => gP h 13 (by decide)
  clear h hb e1 e2
  go_enter Tryz.func25, Tryz.ntmps25
  go_wp2_with (go_at_call 24; refine ha.mono ?_)
  intro r w1; first | (intro he hS b1; subst he) | rintro ⟨rfl, hS, b1⟩
  have hf1 := hf _ hS
  go_wp2_with (go_at_call 32; refine hf1.mono ?_)
  intro r w2; first | (intro he hS2 b2; subst he) | rintro ⟨rfl, hS2, b2⟩
  go_wp2
  go_end0
  exact ⟨rfl, hS2, b1.trans b2⟩
end
def tC (w : World) (X : Nat) (v0 v1 v2 v3 v4 v5 v6 : Value) : World :=
 ((((((w.setCell ⟨X, 0, none⟩ v0).setCell ⟨X, 1, none⟩ v1).setCell ⟨X, 2, none⟩ v2).setCell ⟨X, 3, none⟩ v3).setCell ⟨X, 4, none⟩ v4).setCell ⟨X, 5, none⟩ v5).setCell ⟨X, 6, none⟩ v6
theorem AK (w : World) (X : Nat) (v0 v1 v2 v3 v4 v5 v6 : Value) (k : Nat) (hk : k ≠ X) : (tC w X v0 v1 v2 v3 v4 v5 v6).heap[k]? = w.heap[k]? := by
 unfold tC
 rw [qg _ ⟨X, 6, none⟩ _ k hk, qg _ ⟨X, 5, none⟩ _ k hk, qg _ ⟨X, 4, none⟩ _ k hk, qg _ ⟨X, 3, none⟩ _ k hk, qg _ ⟨X, 2, none⟩ _ k hk, qg _ ⟨X, 1, none⟩ _ k hk, qg _ ⟨X, 0, none⟩ _ k hk]
theorem C6 {w : World} {X : Nat} {c0 c1 c2 c3 c4 c5 c6 : Value} {T : TypeId} (v0 v1 v2 v3 v4 v5 v6 : Value) (h : w.heap[X]? = some (.cells #[c0, c1, c2, c3, c4, c5, c6] T (0, 0))) : (tC w X v0 v1 v2 v3 v4 v5 v6).heap[X]? = some (.cells #[v0, v1, v2, v3, v4, v5, v6] T (0, 0)) := by
 unfold tC
 have := Lib.heap_setCell_same (i := 6) (Lib.heap_setCell_same (i := 5) (Lib.heap_setCell_same (i := 4) (Lib.heap_setCell_same (i := 3) (Lib.heap_setCell_same (i := 2) (Lib.heap_setCell_same (i := 1) (Lib.heap_setCell_same (i := 0) h v0) v1) v2) v3) v4) v5) v6
 rw [this]; rfl
theorem C7 {bs : List Nat} {a w : World} {X : Nat} (h : aB bs a w) (hX : a.heap.size <= X) (v0 v1 v2 v3 v4 v5 v6 : Value) : aB bs a (tC w X v0 v1 v2 v3 v4 v5 v6) :=
 ((((((h.setCell (p := ⟨X, 0, none⟩) (.inr hX) v0).setCell (p := ⟨X, 1, none⟩) (.inr hX) v1).setCell (p := ⟨X, 2, none⟩) (.inr hX) v2).setCell (p := ⟨X, 3, none⟩) (.inr hX) v3).setCell (p := ⟨X, 4, none⟩) (.inr hX) v4).setCell (p := ⟨X, 5, none⟩) (.inr hX) v5).setCell (p := ⟨X, 6, none⟩) (.inr hX) v6
theorem LC {w : World} {X : Nat} {cs : Array Value} {T : TypeId} (h : w.heap[X]? = some (.cells cs T (0, 0))) :
  w.frozen? ⟨X, 0, none⟩ = false /\ w.frozen? ⟨X, 1, none⟩ = false /\ w.frozen? ⟨X, 2, none⟩ = false /\ w.frozen? ⟨X, 3, none⟩ = false /\ w.frozen? ⟨X, 4, none⟩ = false /\ w.frozen? ⟨X, 5, none⟩ = false /\ w.frozen? ⟨X, 6, none⟩ = false :=
 ⟨Lib.frozen_of_heap h 0, Lib.frozen_of_heap h 1, Lib.frozen_of_heap h 2, Lib.frozen_of_heap h 3, Lib.frozen_of_heap h 4, Lib.frozen_of_heap h 5, Lib.frozen_of_heap h 6⟩
theorem AM {w : World} {X : Nat} {c0 c1 c2 c3 c4 c5 c6 : Value} {T : TypeId} (h : w.heap[X]? = some (.cells #[c0, c1, c2, c3, c4, c5, c6] T (0, 0))) :
  w.cell? ⟨X, 0, none⟩ = some c0 /\ w.cell? ⟨X, 1, none⟩ = some c1 /\ w.cell? ⟨X, 2, none⟩ = some c2 /\ w.cell? ⟨X, 3, none⟩ = some c3 /\ w.cell? ⟨X, 4, none⟩ = some c4 /\ w.cell? ⟨X, 5, none⟩ = some c5 /\ w.cell? ⟨X, 6, none⟩ = some c6 := by
 refine ⟨?_, ?_, ?_, ?_, ?_, ?_, ?_⟩ <;> (rw [Lib.cell_of_heap h]; rfl)
section
variable {T : List bD} {X : Nat} {free : Bool} {lv iv : Value} {st : aU} {w : World}
theorem mJ.moved {pos pos' : Nat} {is im e line col is' im' e' line' col' : Int} {n : Nat} {xs : List Value} (h : mJ X lv iv T pos free is im n xs e line col w) {w' : World} (ha : aB [X] w w')
  (hb : w'.heap[X]? = some (.cells #[lv, I pos', .bool free, I is', I im', iv, I e', I line', I col'] 42 (0, 0))) (he : e' = 0 -> e = 0) :
  mJ X lv iv T pos' free is' im' n xs e' line' col' w' := by
 have hne : ∀ {v : Value} {E : TypeId} {z m : Nat} {ys : List Value}, E ≠ 42 -> w.ownsRow 0 E z v m ys -> w'.ownsRow 0 E z v m ys := fun {v E z m ys} hE hr =>
  aC hr fun k hk => ha.block k (hr.lt k hk).2 (by
   intro hm
   obtain rfl := qqw.1 hm
   exact dF hr h.blk (by intro cs fr hc; injection hc with _ h2 _; exact hE h2.symm) hk)
 exact ⟨hb, fun h0 => hne (by decide) (h.row (he h0)), hne (by decide) h.ids, fun g hg => qk (h.lvB g hg) ha.size⟩
theorem mJ.aside {pos : Nat} {is im e line col : Int} {n : Nat} {xs : List Value} (h : mJ X lv iv T pos free is im n xs e line col w) (he : e ≠ 0) {w' : World} {k : Nat} {cs : Array Value} (hk : w.heap[k]? = some (.cells cs 59 (0, 0)))
  (hs : w.heap.size <= w'.heap.size) (ho : ∀ j, j ≠ k -> w'.heap[j]? = w.heap[j]?) : mJ X lv iv T pos free is im n xs e line col w' := by
 refine ⟨(ho X ?_).trans h.blk, fun h0 => absurd h0 he, aC h.ids fun j hj => ho j ?_, fun g hg => qk (h.lvB g hg) hs⟩
 ·rintro rfl
  rw [h.blk] at hk
  injection hk with hk
  injection hk with _ h2 _
  exact absurd h2 (by decide)
 ·rintro rfl
  exact dF h.ids hk (by intro cs fr hc; injection hc with _ h2 _; exact absurd h2 (by decide)) hj
def WV : bD := ⟨0, ByteArray.empty, 0, ByteArray.empty, 0, 0, false⟩
theorem TV (h : MS T X free lv iv st w) (k : Int) (hk : (aW T st).kind ≠ k) : Calls Tryz.prog 72 #[.pointer (some ⟨X, 0, none⟩), I k] w fun r w' => r = .returned (fK WV) /\ MS T X free lv iv (bF T 13 st) w' /\ aB [X] w w' := by
 have hXl := h.lt
 have hp := pR (h.step ((qa _ w).alloc (qb _) (.cells #[I 0, .string ⟨#[]⟩, I 0, .string ⟨#[]⟩, I 0, I 0, .bool false] 59)))
 have hR := qc w (.cells #[I 0, .string ⟨#[]⟩, I 0, .string ⟨#[]⟩, I 0, I 0, .bool false] 59)
 have b0 := (qa _ w).alloc (qb _) (.cells #[I 0, .string ⟨#[]⟩, I 0, .string ⟨#[]⟩, I 0, I 0, .bool false] 59)
 have hst := fun w' (b : Below w.heap.size w w') => gP (h.step b) 13 (by decide)
 generalize aW T st = t at hk hp
 obtain ⟨kd, text, v, bt, lin, cl, j⟩ := t
 simp only [fK] at hk hp
 clear h
 unfold fK WV
 go_enter Tryz.func72, Tryz.ntmps72
 go_wp2_with (go_at_call 31; refine hp.mono ?_)
 intro r w1; first | (intro he b1; subst he) | rintro ⟨rfl, b1⟩
 generalize hV : w.alloc (.cells #[I 0, .string ⟨#[]⟩, I 0, .string ⟨#[]⟩, I 0, I 0, .bool false] 59) = V at hp hR b0 b1
 generalize hRR : w.heap.size = R at hR |-
 have b2 := (b0.trans (b1.mono b0.size)).alloc (qv b0.size b1.size) (.cells #[I kd, .string text, I v, .string bt, I lin, I cl, .bool j] 59)
 have hR2 := (((qa _ w1).alloc (qb _) (.cells #[I kd, .string text, I v, .string bt, I lin, I cl, .bool j] 59)).block R (qk (qd.1 hR).1 b1.size)).trans ((b1.block R (qd.1 hR).1).trans hR)
 have hf1 := hst _ b2
 go_wp2_with (go_at_call 32; refine hf1.mono ?_)
 intro r w3; first | (intro he hS b3; subst he) | rintro ⟨rfl, hS, b3⟩
 generalize hW2 : w1.alloc (.cells #[I kd, .string text, I v, .string bt, I lin, I cl, .bool j] 59) = W2 at b2 hR2 hf1 b3
 have hRX : R ≠ X := by omega
 have hR3 := (b3.block R (qd.1 hR2).1 (by simpa using hRX)).trans hR2
 obtain ⟨f0, f1, f2, f3, f4, f5, f6⟩ := LC hR3
 obtain ⟨q0, q1, q2, q3, q4, q5, q6⟩ := AM hR3
 have hfin : MS T X free lv iv (bF T 13 st) (tC w3 R (I 0) (.string ByteArray.empty) (I 0) (.string ByteArray.empty) (I 0) (I 0) (.bool false)) := by
  obtain ⟨g, pos, is, im, n, xs, e, line, col, h1, h2, h3⟩ := hS
  have he : e ≠ 0 := by
   intro h0
   cases st with
   | ok p => exact h2.2.1 h0
   | bad e' l c => exact h2.2.1 h0
  exact ⟨g, pos, is, im, n, xs, e, line, col, h1.aside he hR3 (by unfold tC; simp [World.setCell]) (fun j hj => AK _ _ _ _ _ _ _ _ _ j hj), h2, h3⟩
 have hRf := C6 (I 0) (.string ByteArray.empty) (I 0) (.string ByteArray.empty) (I 0) (I 0) (.bool false) hR3
 have haw := C7 ((aB.of_below b2).trans b3) (qe hRR) (I 0) (.string ByteArray.empty) (I 0) (.string ByteArray.empty) (I 0) (I 0) (.bool false)
 clear hS hst hp hR hR2 hf1 hR3
 unfold tC at hfin hRf haw
 go_wp2
 refine qf (qh rfl _ _ R 59 _ (0, 0) _ rfl hRf Tryz.underlying59 rfl Tryz.sizeTok) rfl ?_
 exact ⟨rfl, hfin, haw⟩
end
section
variable (a0 a2 a4 a5 : Int) (a1 a3 : ByteArray) (a6 : Bool) (w : World)
theorem pN : (Instr.field 59 (.agg #[I a0, .string a1, I a2, .string a3, I a4, I a5, .bool a6]) 0).run Tryz.prog w = .ok (I a0) w := by
 simp [Instr.field, qqc Tryz.underlying59, Result.andThen, asAgg, part, isAgg, qqc Tryz.underlying3]
theorem QF : (Instr.field 59 (.agg #[I a0, .string a1, I a2, .string a3, I a4, I a5, .bool a6]) 1).run Tryz.prog w = .ok (.string a1) w := by
 simp [Instr.field, qqc Tryz.underlying59, Result.andThen, asAgg, part, isAgg, qqc Tryz.underlying9]
theorem XS : (Instr.field 59 (.agg #[I a0, .string a1, I a2, .string a3, I a4, I a5, .bool a6]) 2).run Tryz.prog w = .ok (I a2) w := by
 simp [Instr.field, qqc Tryz.underlying59, Result.andThen, asAgg, part, isAgg, qqc Tryz.underlying3]
theorem ZW : (Instr.field 59 (.agg #[I a0, .string a1, I a2, .string a3, I a4, I a5, .bool a6]) 3).run Tryz.prog w = .ok (.string a3) w := by
 simp [Instr.field, qqc Tryz.underlying59, Result.andThen, asAgg, part, isAgg, qqc Tryz.underlying9]
theorem XT : (Instr.field 59 (.agg #[I a0, .string a1, I a2, .string a3, I a4, I a5, .bool a6]) 6).run Tryz.prog w = .ok (.bool a6) w := by
 simp [Instr.field, qqc Tryz.underlying59, Result.andThen, asAgg, part, isAgg, qqc Tryz.underlying4]
end
section
variable {T : List bD} {X : Nat} {free : Bool} {lv iv : Value} {st : aU} {w : World}
theorem RQ {p : Nat} (h : MS T X free lv iv (.ok p) w) (k : Int) (hk : (aW T (.ok p)).kind = k) (h0 : k ≠ 0) : Calls Tryz.prog 72 #[.pointer (some ⟨X, 0, none⟩), I k] w fun r w' => r = .returned (fK (aW T (.ok p))) /\ MS T X free lv iv (.ok (p + 1)) w' /\ aB [X] w w' := by
 have hXl := h.lt
 have hp := pR (h.step ((qa _ w).alloc (qb _) (.cells #[I 0, .string ⟨#[]⟩, I 0, .string ⟨#[]⟩, I 0, I 0, .bool false] 59)))
 have hR := qc w (.cells #[I 0, .string ⟨#[]⟩, I 0, .string ⟨#[]⟩, I 0, I 0, .bool false] 59)
 have b0 := (qa _ w).alloc (qb _) (.cells #[I 0, .string ⟨#[]⟩, I 0, .string ⟨#[]⟩, I 0, I 0, .bool false] 59)
 obtain ⟨g, pos, is, im, n, xs, e, line, col, h1, h2, h3, h4⟩ := h
 obtain ⟨rfl, rfl, rfl, rfl, hpl⟩ := h2
 have hlt := g.more hpl (by rw [show (T.getD p dA).kind = k from hk]; exact h0)
 have hm := g.max
 have hn := h4 rfl
 have hw : IntKind.i64.wrap ((p : Int) + 1) = (p : Int) + 1 := IntWalk.i64_in _ (by omega)
 generalize aW T (.ok p) = t at hk hp |-
 obtain ⟨kd, text, v, bt, lin, cl, j⟩ := t
 simp only [fK] at hk hp |-
 subst hk
 have hst := fun w' (b : Below w.heap.size w w') => (h1.step b)
 go_enter Tryz.func72, Tryz.ntmps72
 go_wp2_with (go_at_call 31; refine hp.mono ?_)
 intro r w1; first | (intro he b1; subst he) | rintro ⟨rfl, b1⟩
 have b10 := b0.trans (b1.mono b0.size)
 have hR1 := (b1.block _ (qd.1 hR).1).trans hR
 have hRl := qk (qd.1 hR).1 b1.size
 generalize hV : w.alloc (.cells #[I 0, .string ⟨#[]⟩, I 0, .string ⟨#[]⟩, I 0, I 0, .bool false] 59) = V at hp hR b0 b1 hR1 hRl
 generalize hRR : w.heap.size = R at hR hR1 hRl |-
 have hS := hst _ b10
 have c1 := hS.c1
 have f1 := hS.fz 1
 have n1 := qr w1 _ c1
 have l1 := hS.lt
 have hRX : R ≠ X := by omega
 have hXR : X ≠ R := by omega
 have hRn : R ≠ w1.heap.size := by omega
 obtain ⟨f0, g1, f2, f3, f4, f5, f6⟩ := LC hR1
 obtain ⟨r0, r1, r2, r3, r4, r5, r6⟩ := AM hR1
 have hX3 : (w1.setCell ⟨X, 1, none⟩ (I ((p : Int) + 1))).heap[X]? = _ := Lib.heap_setCell_same hS.blk _
 have hR3 : (w1.setCell ⟨X, 1, none⟩ (I ((p : Int) + 1))).heap[R]? = _ := (qg w1 ⟨X, 1, none⟩ _ R hRX).trans hR1
 have a3 : aB [X] w (w1.setCell ⟨X, 1, none⟩ (I ((p : Int) + 1))) := (aB.of_below b10).setCell (.inl (by simp)) _
 have hX4 := (AK (w1.setCell ⟨X, 1, none⟩ (I ((p : Int) + 1))) R (I kd) (.string text) (I v) (.string bt) (I lin) (I cl) (.bool j) X hXR).trans hX3
 have hR4 := C6 (I kd) (.string text) (I v) (.string bt) (I lin) (I cl) (.bool j) hR3
 have a4 := C7 a3 (qe hRR) (I kd) (.string text) (I v) (.string bt) (I lin) (I cl) (.bool j)
 have hfin : MS T X free lv iv (.ok (p + 1)) (tC (w1.setCell ⟨X, 1, none⟩ (I ((p : Int) + 1))) R (I kd) (.string text) (I v) (.string bt) (I lin) (I cl) (.bool j)) := by
  refine ⟨g, p + 1, is, im, n, xs, 0, 0, 0, h1.moved a4 ?_ (fun h => h), ⟨rfl, rfl, rfl, rfl, hlt⟩, h3, fun _ => by omega⟩
  rw [hX4]
  rw [show ((p + 1 : Nat) : Int) = (p : Int) + 1 by omega]
  rfl
 have hfin2 := hfin.step ((qa _ _).alloc (qb _) (.cells #[I kd, .string text, I v, .string bt, I lin, I cl, .bool j] 59))
 have a5 := a4.alloc (.cells #[I kd, .string text, I v, .string bt, I lin, I cl, .bool j] 59)
 have hR5 := (Lib.alloc_old (tC (w1.setCell ⟨X, 1, none⟩ (I ((p : Int) + 1))) R (I kd) (.string text) (I v) (.string bt) (I lin) (I cl) (.bool j)) (.cells #[I kd, .string text, I v, .string bt, I lin, I cl, .bool j] 59) R (qd.1 hR4).1).trans hR4
 clear hS hst hp hR hR1 hX3 hR3 a3 hX4 h1 g h3 h4 hR4 a4 hfin
 unfold tC at hfin2 hR5 a5
 go_wp2
 refine qf (qh rfl _ _ R 59 _ (0, 0) _ rfl hR5 Tryz.underlying59 rfl Tryz.sizeTok) rfl ?_
 exact ⟨rfl, hfin2, a5⟩
theorem QK (h : MS T X free lv iv st w) (k : Int) (h0 : k ≠ 0) (hm1 : k ≠ -1) : Calls Tryz.prog 72 #[.pointer (some ⟨X, 0, none⟩), I k] w fun r w' =>
  r = .returned (fK (if (aW T st).kind = k then aW T st else WV)) /\ MS T X free lv iv (if (aW T st).kind = k then st.next 1 else bF T 13 st) w' /\ aB [X] w w' := by
 by_cases hk : (aW T st).kind = k
 ·rw [if_pos hk, if_pos hk]
  cases st with
  | ok p => exact RQ h k hk h0
  | bad e l c => exact absurd hk.symm hm1
 ·rw [if_neg hk, if_neg hk]
  exact TV h k hk
theorem tY (h : MS T X free lv iv st w) (lo hi : Int) : Calls Tryz.prog 38 #[.pointer (some ⟨X, 0, none⟩), I lo, I hi] w fun r w' => r = .returned (I (bS T lo hi st).1) /\ MS T X free lv iv (bS T lo hi st).2 w' /\ aB [X] w w' := by
 have hp := pR h
 have htk := fun w' (b : Below w.heap.size w w') => QK (h.step b) 2 (by decide) (by decide)
 have hfl := fun w' (b : Below w.heap.size w w') => gP (h.step b) 2 (by decide)
 unfold bS
 by_cases hk : (aW T st).kind = 2
 ·rw [if_neg (by simpa using hk)]
  by_cases hr : (aW T st).value < lo \/ hi < (aW T st).value
  ·rw [if_pos hr]
   clear htk h
   generalize aW T st = t at hk hp hr
   obtain ⟨kd, text, v, bt, lin, cl, j⟩ := t
   simp only [fK] at hk hp hr
   subst hk
   by_cases hl : v < lo
   ·go_enter Tryz.func38, Tryz.ntmps38
    go_wp2_with (go_at_call 31; refine hp.mono ?_)
    intro r w1; first | (intro he b1; subst he) | rintro ⟨rfl, b1⟩
    have b2 := b1.alloc b1.size (.cells #[I 2, .string text, I v, .string bt, I lin, I cl, .bool j] 59)
    have hf1 := hfl _ b2
    go_wp2_with (go_at_call 32; refine hf1.mono ?_)
    intro r w3; first | (intro he hS b3; subst he) | rintro ⟨rfl, hS, b3⟩
    go_wp2
    go_ret
    exact ⟨rfl, hS, (aB.of_below b2).trans b3⟩
   ·have hl1 : decide (v < lo) = false := qt hl
    have hl2 : hi < v := by omega
    go_enter Tryz.func38, Tryz.ntmps38
    go_wp2_with (go_at_call 31; refine hp.mono ?_)
    intro r w1; first | (intro he b1; subst he) | rintro ⟨rfl, b1⟩
    have b2 := b1.alloc b1.size (.cells #[I 2, .string text, I v, .string bt, I lin, I cl, .bool j] 59)
    have hf1 := hfl _ b2
    go_wp2_with (go_at_call 32; refine hf1.mono ?_)
    intro r w3; first | (intro he hS b3; subst he) | rintro ⟨rfl, hS, b3⟩
    go_wp2
    go_ret
    exact ⟨rfl, hS, (aB.of_below b2).trans b3⟩
  ·rw [if_neg hr]
   have htk' := fun w' b => htk w' b
   simp only [if_pos hk] at htk'
   clear htk h hfl
   generalize hst1 : st.next 1 = st1 at htk' |-
   generalize aW T st = t at hk hp hr htk' |-
   obtain ⟨kd, text, v, bt, lin, cl, j⟩ := t
   simp only [fK] at hk hp hr htk' |-
   subst hk
   have hl1 : decide (v < lo) = false := qt (by omega)
   have hl2 : decide (hi < v) = false := qt (by omega)
   have hl3 : ¬ v < lo := by omega
   have hl4 : ¬ hi < v := by omega
   have hfd := XS 2 v lin cl text bt j
   go_enter Tryz.func38, Tryz.ntmps38
   go_wp2_with (go_at_call 31; refine hp.mono ?_)
   intro r w1; first | (intro he b1; subst he) | rintro ⟨rfl, b1⟩
   have b2 := b1.alloc b1.size (.cells #[I 2, .string text, I v, .string bt, I lin, I cl, .bool j] 59)
   have hf1 := htk' _ b2
   go_wp2_with (go_at_call 72; refine hf1.mono ?_)
   intro r w3; first | (intro he hS b3; subst he) | rintro ⟨rfl, hS, b3⟩
   go_wp2
   go_ret
   exact ⟨rfl, hS, (aB.of_below b2).trans b3⟩
 ·rw [if_pos hk]
  have htk' := fun w' b => htk w' b
  simp only [if_neg hk] at htk'
  clear htk h hfl
  generalize bF T 13 st = st1 at htk' |-
  generalize aW T st = t at hk hp
  obtain ⟨kd, text, v, bt, lin, cl, j⟩ := t
  simp only [fK, WV] at hk hp htk'
  have hfd := XS 0 0 0 0 ByteArray.empty ByteArray.empty false
  go_enter Tryz.func38, Tryz.ntmps38
  go_wp2_with (go_at_call 31; refine hp.mono ?_)
  intro r w1; first | (intro he b1; subst he) | rintro ⟨rfl, b1⟩
  have b2 := b1.alloc b1.size (.cells #[I kd, .string text, I v, .string bt, I lin, I cl, .bool j] 59)
  have hf1 := htk' _ b2
  go_wp2_with (go_at_call 72; refine hf1.mono ?_)
  intro r w3; first | (intro he hS b3; subst he) | rintro ⟨rfl, hS, b3⟩
  go_wp2
  go_ret
  exact ⟨rfl, hS, (aB.of_below b2).trans b3⟩
end
section
variable {T : List bD} {free : Bool} {st st0 : aU} {w w0 w' : World}
theorem PS.else {Y M R : Nat} (h : PS T Y M free st w) (h0 : PS T Y M free st0 w0) (hR : w0.heap.size <= R) {cs : Array Value} {t : TypeId} (hk : w.heap[R]? = some (.cells cs t (0, 0))) (ht : t ≠ 59)
  (ho : ∀ j, j ≠ R -> w'.heap[j]? = w.heap[j]?) : PS T Y M free st w' := by
 have l1 := h0.lt
 have l2 := h0.ltM
 obtain ⟨g, tv, pos, line, col, e, ls, ln, es, clk, h1, h2, h3⟩ := h
 refine ⟨g, tv, pos, line, col, e, ls, ln, es, clk, ⟨(ho Y (by omega)).trans h1.blk, (ho M (by omega)).trans h1.map, fun he => aC (h1.row he) fun k hkk => ho k ?_⟩, h2, h3⟩
 rintro rfl
 exact dF (h1.row he) hk (by intro cs' fr' hc; injection hc with _ h2 _; exact ht h2) hkk
theorem MS.else {X R : Nat} {lv iv : Value} (h : MS T X free lv iv st w) (h0 : MS T X free lv iv st0 w0) (hR : w0.heap.size <= R) (hs : w.heap.size <= w'.heap.size)
  (ho : ∀ j, j ≠ R -> w'.heap[j]? = w.heap[j]?) : MS T X free lv iv st w' := by
 have l1 := h0.lt
 obtain ⟨_, pos0, is0, im0, n0, xs0, e0, line0, col0, m1, m2, m3⟩ := h0
 obtain ⟨g, pos, is, im, n, xs, e, line, col, h1, h2, h3⟩ := h
 have hi : ∀ k, iv.ownBlock = some k -> k ≠ R := fun k hk => by have := (m1.ids.lt k hk).2; omega
 have hl : ∀ k, lv.ownBlock = some k -> k ≠ R := fun k hk => by have := m1.lvB k hk; omega
 exact ⟨g, pos, is, im, n, xs, e, line, col, ⟨(ho X (by omega)).trans h1.blk, fun he => aC (h1.row he) fun k hk => ho k (hl k hk), aC h1.ids fun k hk => ho k (hi k hk), fun g hg => qk (h1.lvB g hg) hs⟩, h2, h3⟩
end
theorem aZ {w : World} {R : Nat} {a b : Value} {t : TypeId} (h : w.heap[R]? = some (.cells #[a, b] t (0, 0))) :
  w.cell? ⟨R, 0, none⟩ = some a /\ w.cell? ⟨R, 1, none⟩ = some b /\ w.frozen? ⟨R, 0, none⟩ = false /\ w.frozen? ⟨R, 1, none⟩ = false := by
 refine ⟨?_, ?_, Lib.frozen_of_heap h 0, Lib.frozen_of_heap h 1⟩ <;> (rw [Lib.cell_of_heap h]; rfl)
theorem aB.at {bs : List Nat} {w w' : World} (h : aB bs w w') {k : Nat} {o : Obj} (hk : w.heap[k]? = some o) (hb : k ∉ bs) : w'.heap[k]? = some o := (h.block k (qd.1 hk).1 hb).trans hk
theorem aA {w : World} {k : Nat} {o : Obj} (hk : w.heap[k]? = some o) : k < w.heap.size := (qd.1 hk).1
def dL (w : World) (R : Nat) (a b : Value) : World := (w.setCell ⟨R, 0, none⟩ a).setCell ⟨R, 1, none⟩ b
theorem cL (w : World) (R : Nat) (a b : Value) (k : Nat) (hk : k ≠ R) : (dL w R a b).heap[k]? = w.heap[k]? := by
 unfold dL
 rw [qg _ ⟨R, 1, none⟩ _ k hk, qg _ ⟨R, 0, none⟩ _ k hk]
theorem cC {w : World} {R : Nat} {a b c d : Value} {t : TypeId} (h : w.heap[R]? = some (.cells #[c, d] t (0, 0))) : (dL w R a b).heap[R]? = some (.cells #[a, b] t (0, 0)) := by
 unfold dL
 rw [Lib.heap_setCell_same (Lib.heap_setCell_same h a) b]; rfl
theorem iN (w : World) (R : Nat) (a b : Value) : (dL w R a b).heap.size = w.heap.size := by unfold dL; simp [World.setCell]
theorem cN {bs : List Nat} {a w : World} {R : Nat} (h : aB bs a w) (hR : a.heap.size <= R) (u v : Value) : aB bs a (dL w R u v) :=
 (h.setCell (p := ⟨R, 0, none⟩) (.inr hR) u).setCell (p := ⟨R, 1, none⟩) (.inr hR) v
theorem Tryz.sizeId : (Tryz.prog.info? 24).map (·.size) = some 2 := by kernel_rfl
section
variable {T : List bD} {Y M : Nat} {free : Bool} {st : aU} {w : World}
theorem SF (h : PS T Y M free st w) : Calls Tryz.prog 92 #[.pointer (some ⟨Y, 0, none⟩)] w fun r w' => r = .returned (.agg #[I (fT T st).1.1, I (fT T st).1.2]) /\ PS T Y M free (fT T st).2 w' /\ aB [Y, M] w w' := by
 have hR := qc w (.cells #[I 0, I 0] 24)
 have b0 := (qa _ w).alloc (qb _) (.cells #[I 0, I 0] 24)
 have hw1 : fT T st = (((bS T 0 99 (bE T ⟨#[64]⟩ st)).1, (bS T 1 1073741824 (bE T ⟨#[46]⟩ (bS T 0 99 (bE T ⟨#[64]⟩ st)).2)).1), (bS T 1 1073741824 (bE T ⟨#[46]⟩ (bS T 0 99 (bE T ⟨#[64]⟩ st)).2)).2) := rfl
 rw [hw1]
 clear hw1
 have c1 := fun w' (h : PS T Y M free st w') => iR h ⟨#[64]⟩
 generalize bE T ⟨#[64]⟩ st = s1 at c1 |-
 have c2 := fun w' (h : PS T Y M free s1 w') => xN h 0 99
 generalize bS T 0 99 s1 = q2 at c2 |-
 obtain ⟨n2, s2⟩ := q2
 simp only at c2 |-
 have c3 := fun w' (h : PS T Y M free s2 w') => iR h ⟨#[46]⟩
 generalize bE T ⟨#[46]⟩ s2 = s3 at c3 |-
 have c4 := fun w' (h : PS T Y M free s3 w') => xN h 1 1073741824
 generalize bS T 1 1073741824 s3 = q4 at c4 |-
 obtain ⟨n4, s4⟩ := q4
 simp only at c4 |-
 have hx1 := c1 _ (h.step b0)
 go_enter Tryz.func92, Tryz.ntmps92
 go_wp2_with (go_at_call 54; refine hx1.mono ?_)
 intro r w1; first | (intro he hS1 a1; subst he) | rintro ⟨rfl, hS1, a1⟩
 have a01 := (aB.of_below b0).trans a1
 have hRl := aA hR
 have hR1 := a1.at hR (by have := h.lt; have := h.ltM; simp; omega)
 clear hx1
 have hx2 := c2 _ hS1
 go_wp2_with (go_at_call 114; refine hx2.mono ?_)
 intro r w2; first | (intro he hS2 a2; subst he) | rintro ⟨rfl, hS2, a2⟩
 have hR2 := a2.at hR1 (by have := h.lt; have := h.ltM; simp; omega)
 have b2 := (qa _ w2).alloc (qb _) (.cells #[I n2, I 0] 24)
 have hQ := qc w2 (.cells #[I n2, I 0] 24)
 have hx3 := c3 _ (hS2.step b2)
 clear hx2
 go_wp2_with (go_at_call 54; refine hx3.mono ?_)
 intro r w3; first | (intro he hS3 a3; subst he) | rintro ⟨rfl, hS3, a3⟩
 have hsz1 := a01.size
 have hsz2 := a2.size
 have hR3 := a3.at ((b2.block _ (aA hR2)).trans hR2) (by have := h.lt; have := h.ltM; simp; omega)
 have hQ3 := a3.at hQ (by have := h.lt; have := h.ltM; simp; omega)
 have hx4 := c4 _ hS3
 clear hx3
 go_wp2_with (go_at_call 114; refine hx4.mono ?_)
 intro r w4; first | (intro he hS4 a4; subst he) | rintro ⟨rfl, hS4, a4⟩
 have hR4 := a4.at hR3 (by have := h.lt; have := h.ltM; simp; omega)
 have hQ4 := a4.at hQ3 (by have := h.lt; have := h.ltM; simp; omega)
 have a04 := ((((a01.trans a2).trans (aB.of_below b2)).trans a3).trans a4)
 generalize hQQ : w2.heap.size = Q at hQ hQ3 hQ4 |-
 have hsz0 := a1.size
 generalize hRR : w.heap.size = R at hR hR1 hR2 hR3 hR4 hRl |-
 have hQR : Q ≠ R := by omega
 obtain ⟨q0, q1, qf0, qf1⟩ := aZ hQ4
 obtain ⟨r0, r1, rf0, rf1⟩ := aZ hR4
 have e5 : ∀ j, j ≠ Q -> (w4.setCell ⟨Q, 1, none⟩ (I n4)).heap[j]? = w4.heap[j]? := fun j hj => qg _ _ _ _ hj
 have hR5 := (e5 R hQR.symm).trans hR4
 have hQ5 : (w4.setCell ⟨Q, 1, none⟩ (I n4)).heap[Q]? = _ := Lib.heap_setCell_same hQ4 _
 have hS5 := hS4.else h (qv (by omega : w.heap.size <= Q) (qb _)) hQ4 (by decide) e5
 have hS6 := hS5.else h (qe hRR) hR5 (by decide) (fun j hj => cL _ R (I n2) (I n4) j hj)
 have hR6 := cC (a := I n2) (b := I n4) hR5
 have a6 := cN (a04.setCell (p := ⟨Q, 1, none⟩) (.inr (by show w.heap.size <= Q; omega)) (I n4)) (qe hRR) (I n2) (I n4)
 clear c1 c2 c3 c4 hS1 hS2 hS3 hS4 hS5 hx4 h hR hR1 hR2 hR3 hR4 hQ hQ3 hQ4 e5
 unfold dL at hS6 hR6 a6
 go_wp2
 refine qf (qh rfl _ _ R 24 _ (0, 0) _ rfl hR6 Tryz.underlying24 rfl Tryz.sizeId) rfl ?_
 exact ⟨rfl, hS6, a6⟩
end
section
variable {T : List bD} {X : Nat} {free : Bool} {lv iv : Value} {st : aU} {w : World}
theorem PV (h : MS T X free lv iv st w) : Calls Tryz.prog 64 #[.pointer (some ⟨X, 0, none⟩)] w fun r w' => r = .returned (.agg #[I (fT T st).1.1, I (fT T st).1.2]) /\ MS T X free lv iv (fT T st).2 w' /\ aB [X] w w' := by
 have hR := qc w (.cells #[I 0, I 0] 24)
 have b0 := (qa _ w).alloc (qb _) (.cells #[I 0, I 0] 24)
 have hw1 : fT T st = (((bS T 0 99 (bE T ⟨#[64]⟩ st)).1, (bS T 1 1073741824 (bE T ⟨#[46]⟩ (bS T 0 99 (bE T ⟨#[64]⟩ st)).2)).1), (bS T 1 1073741824 (bE T ⟨#[46]⟩ (bS T 0 99 (bE T ⟨#[64]⟩ st)).2)).2) := rfl
 rw [hw1]
 clear hw1
 have c1 := fun w' (h : MS T X free lv iv st w') => fM h ⟨#[64]⟩
 generalize bE T ⟨#[64]⟩ st = s1 at c1 |-
 have c2 := fun w' (h : MS T X free lv iv s1 w') => tY h 0 99
 generalize bS T 0 99 s1 = q2 at c2 |-
 obtain ⟨n2, s2⟩ := q2
 simp only at c2 |-
 have c3 := fun w' (h : MS T X free lv iv s2 w') => fM h ⟨#[46]⟩
 generalize bE T ⟨#[46]⟩ s2 = s3 at c3 |-
 have c4 := fun w' (h : MS T X free lv iv s3 w') => tY h 1 1073741824
 generalize bS T 1 1073741824 s3 = q4 at c4 |-
 obtain ⟨n4, s4⟩ := q4
 simp only at c4 |-
 have hx1 := c1 _ (h.step b0)
 go_enter Tryz.func64, Tryz.ntmps64
 go_wp2_with (go_at_call 25; refine hx1.mono ?_)
 intro r w1; first | (intro he hS1 a1; subst he) | rintro ⟨rfl, hS1, a1⟩
 have a01 := (aB.of_below b0).trans a1
 have hRl := aA hR
 have hR1 := a1.at hR (by have := h.lt; skip; simp; omega)
 clear hx1
 have hx2 := c2 _ hS1
 go_wp2_with (go_at_call 38; refine hx2.mono ?_)
 intro r w2; first | (intro he hS2 a2; subst he) | rintro ⟨rfl, hS2, a2⟩
 have hR2 := a2.at hR1 (by have := h.lt; skip; simp; omega)
 have b2 := (qa _ w2).alloc (qb _) (.cells #[I n2, I 0] 24)
 have hQ := qc w2 (.cells #[I n2, I 0] 24)
 have hx3 := c3 _ (hS2.step b2)
 clear hx2
 go_wp2_with (go_at_call 25; refine hx3.mono ?_)
 intro r w3; first | (intro he hS3 a3; subst he) | rintro ⟨rfl, hS3, a3⟩
 have hsz1 := a01.size
 have hsz2 := a2.size
 have hR3 := a3.at ((b2.block _ (aA hR2)).trans hR2) (by have := h.lt; skip; simp; omega)
 have hQ3 := a3.at hQ (by have := h.lt; skip; simp; omega)
 have hx4 := c4 _ hS3
 clear hx3
 go_wp2_with (go_at_call 38; refine hx4.mono ?_)
 intro r w4; first | (intro he hS4 a4; subst he) | rintro ⟨rfl, hS4, a4⟩
 have hR4 := a4.at hR3 (by have := h.lt; skip; simp; omega)
 have hQ4 := a4.at hQ3 (by have := h.lt; skip; simp; omega)
 have a04 := ((((a01.trans a2).trans (aB.of_below b2)).trans a3).trans a4)
 generalize hQQ : w2.heap.size = Q at hQ hQ3 hQ4 |-
 have hsz0 := a1.size
 generalize hRR : w.heap.size = R at hR hR1 hR2 hR3 hR4 hRl |-
 have hQR : Q ≠ R := by omega
 obtain ⟨q0, q1, qf0, qf1⟩ := aZ hQ4
 obtain ⟨r0, r1, rf0, rf1⟩ := aZ hR4
 have e5 : ∀ j, j ≠ Q -> (w4.setCell ⟨Q, 1, none⟩ (I n4)).heap[j]? = w4.heap[j]? := fun j hj => qg _ _ _ _ hj
 have hR5 := (e5 R hQR.symm).trans hR4
 have hQ5 : (w4.setCell ⟨Q, 1, none⟩ (I n4)).heap[Q]? = _ := Lib.heap_setCell_same hQ4 _
 have hS5 := hS4.else h (qv (by omega : w.heap.size <= Q) (qb _)) (by simp [World.setCell]) e5
 have hS6 := hS5.else h (qe hRR) (qe (iN _ _ _ _).symm) (fun j hj => cL _ R (I n2) (I n4) j hj)
 have hR6 := cC (a := I n2) (b := I n4) hR5
 have a6 := cN (a04.setCell (p := ⟨Q, 1, none⟩) (.inr (by show w.heap.size <= Q; omega)) (I n4)) (qe hRR) (I n2) (I n4)
 clear c1 c2 c3 c4 hS1 hS2 hS3 hS4 hS5 hx4 h hR hR1 hR2 hR3 hR4 hQ hQ3 hQ4 e5
 unfold dL at hS6 hR6 a6
 go_wp2
 refine qf (qh rfl _ _ R 24 _ (0, 0) _ rfl hR6 Tryz.underlying24 rfl Tryz.sizeId) rfl ?_
 exact ⟨rfl, hS6, a6⟩
end
end Go.Proofs.YtgkhemnmcgicnaaGreatDoor
