/- Towards the law ParserVoices, true for every text (no condition): one part of the proof. -/
import Derived.Test.YtgkhemnmcgicnaaGreatDoorG01
import Derived.Test.YtgkhemnmcgicnaaGreatDoorG43
import Derived.Test.YtgkhemnmcgicnaaGreatDoorG41
namespace Go.Proofs.YtgkhemnmcgicnaaGreatDoor
open Go.RowKit
theorem Tryz.sizeVoice : (Tryz.prog.info? 48).map (·.size) = some 2 := by kernel_rfl
theorem Tryz.infoevs : (Tryz.prog.info? 31).map (fun i => (i.zero.map fun z => z.cells.size, i.size, i.bytes)) = some (some 13, 13, 152) := by kernel_rfl
theorem Tryz.infotups : (Tryz.prog.info? 100).map (fun i => (i.zero.map fun z => z.cells.size, i.size, i.bytes)) = some (some 4, 4, 32) := by kernel_rfl
def fZ.cells (t : fZ) : Array Value := #[I t.first, I t.count, I t.actual, I t.normal]
def DL (B : Nat) : List zC -> List Value -> World -> Prop
 | [], cs, _ => cs = []
 | x :: xs, cs, w => ∃ hv gv lv cs', cs = (x.cells hv gv lv).toList ++ cs' /\ hC B hv gv lv x.heads x.graces x.lyr w /\ DL B xs cs' w
theorem DL.step {B : Nat} : ∀ {xs : List zC} {cs : List Value} {w w' : World}, DL B xs cs w ->
  (∀ k o (T : TypeId), w.heap[k]? = some (.cells o T (0, 0)) -> T = 80 \/ T = 77 \/ T = 147 -> B <= k -> w'.heap[k]? = w.heap[k]?) -> DL B xs cs w'
 | [], _, _, _, h, _ => h
 | _ :: _, _, _, _, ⟨hv, gv, lv, cs', e, r, t⟩, hb => ⟨hv, gv, lv, cs', e, r.step hb, t.step hb⟩
theorem DL.snoc {B : Nat} {x : zC} {hv gv lv : Value} : ∀ {xs : List zC} {cs : List Value} {w : World}, DL B xs cs w -> hC B hv gv lv x.heads x.graces x.lyr w -> DL B (xs ++ [x]) (cs ++ (x.cells hv gv lv).toList) w
 | [], cs, w, h, r => by
  have h : cs = [] := h
  subst h
  exact ⟨hv, gv, lv, [], by simp, r, rfl⟩
 | y :: ys, cs, w, ⟨hv', gv', lv', cs', e, r', t⟩, r => ⟨hv', gv', lv', _, by rw [e, List.append_assoc], r', t.snoc r⟩
theorem hC.lo {B B' : Nat} {hv gv lv : Value} {hs : List eF} {gs : List cY} {ys : List cT} {w : World} (h : hC B' hv gv lv hs gs ys w) (hB : B <= B') : hC B hv gv lv hs gs ys w :=
 ⟨wY h.oh hB, wY h.og hB, wY h.ol hB⟩
def aAH (t : TypeId) : Prop := t ≠ 31 /\ t ≠ 100 /\ t ≠ 80 /\ t ≠ 77 /\ t ≠ 147
structure FX (V B : Nat) (ev tv : Value) (cs : List Value) (v : gJ) (w : World) : Prop where
 hV : w.heap[V]? = some (.cells #[ev, tv] 48 (0, 0))
 oe : w.ownsRow B 31 13 ev v.evs.length cs
 ot : w.ownsRow B 100 4 tv v.tups.length (cH fZ.cells v.tups)
 es : DL B v.evs cs w
 lV : V < B
 lB : B <= w.heap.size
section
variable {V B : Nat} {ev tv : Value} {cs : List Value} {v : gJ} {w w' : World}
theorem FX.away (h : FX V B ev tv cs v w) {bs : List Nat} (a : aB bs w w') (hn : V ∉ bs) (hb : ∀ k ∈ bs, k < B \/ ∃ (c : Array Value) (t : TypeId), w.heap[k]? = some (.cells c t (0, 0)) /\ aAH t) : FX V B ev tv cs v w' := by
 have key : ∀ (k : Nat) (c : Array Value) (t : TypeId), B <= k -> w.heap[k]? = some (.cells c t (0, 0)) -> ¬ aAH t -> w'.heap[k]? = w.heap[k]? := fun k c t hk hc ht => a.block k (aA hc) fun hm => by
  rcases hb k hm with h1 | ⟨d, u, hd, hu⟩
  ·omega
  ·exact dN hc hd fun e => ht (e ▸ hu)
 refine ⟨a.at h.hV hn, aC h.oe fun k hk => ?_, aC h.ot fun k hk => ?_, h.es.step fun k o T ho hT hk => key k o T hk ho fun ⟨_, _, n1, n2, n3⟩ => ?_, h.lV, qv h.lB a.size⟩
 ·obtain ⟨c, hc⟩ := cA h.oe hk
  exact key k c _ (h.oe.lt k hk).1 hc fun n => n.1 rfl
 ·obtain ⟨c, hc⟩ := cA h.ot hk
  exact key k c _ (h.ot.lt k hk).1 hc fun n => n.2.1 rfl
 ·rcases hT with e | e | e
  ·exact n1 e
  ·exact n2 e
  ·exact n3 e
theorem FX.lt (h : FX V B ev tv cs v w) : V < w.heap.size := aA h.hV
theorem FX.cells (h : FX V B ev tv cs v w) : w.cell? ⟨V, 0, none⟩ = some ev /\ w.cell? ⟨V, 1, none⟩ = some tv /\ ∀ i, w.frozen? ⟨V, i, none⟩ = false := by
 refine ⟨?_, ?_, fun i => Lib.frozen_of_heap h.hV i⟩ <;> (rw [Lib.cell_of_heap h.hV]; rfl)
theorem FX.pushE (h : FX V B ev tv cs v w) (hg : w.grownBy w' ev.ownBlock) {u : Value} {n : Nat} {x : zC} {hv gv lv : Value} (hn : n = v.evs.length + 1) (ho : w'.ownsRow B 31 13 u n (cs ++ (x.cells hv gv lv).toList)) (r : hC B hv gv lv x.heads x.graces x.lyr w) :
  FX V B u tv (cs ++ (x.cells hv gv lv).toList) ⟨v.evs ++ [x], v.tups⟩ (w'.setCell ⟨V, 0, none⟩ u) := by
 have keep : ∀ (k : Nat) (o : Array Value) (t : TypeId), w.heap[k]? = some (.cells o t (0, 0)) -> t ≠ 31 -> w'.heap[k]? = w.heap[k]? := fun k o t hk ht => hg.block k (aA hk) fun e => by
  obtain ⟨c, hc⟩ := cA h.oe e.symm
  exact dN hk hc ht
 have hV' := (keep V _ _ h.hV (by decide)).trans h.hV
 have st : ∀ k, k ≠ V -> (w'.setCell ⟨V, 0, none⟩ u).heap[k]? = w'.heap[k]? := fun k hk => aE w' V 0 u k hk
 have lV := h.lV
 refine ⟨by rw [Lib.heap_setCell_same hV']; rfl, ?_, ?_, (h.es.snoc r).step fun k o T hk hT hB => (st k (by omega)).trans (keep k o T hk (by rcases hT with e | e | e <;> rw [e] <;> decide)), h.lV, ?_⟩
 ·rw [qi]
  subst hn
  exact aC ho fun k hk => st k (by have := (ho.lt k hk).1; omega)
 ·refine aC h.ot fun k hk => ?_
  obtain ⟨c, hc⟩ := cA h.ot hk
  exact (st k (by have := (h.ot.lt k hk).1; omega)).trans (keep k c _ hc (by decide))
 ·have := eC w' V 0 u
  have := hg.size
  have := h.lB
  omega
theorem FX.pushT (h : FX V B ev tv cs v w) (hg : w.grownBy w' tv.ownBlock) {u : Value} {n : Nat} {x : fZ} (hn : n = v.tups.length + 1) (ho : w'.ownsRow B 100 4 u n (cH fZ.cells v.tups ++ x.cells.toList)) :
  FX V B ev u cs ⟨v.evs, v.tups ++ [x]⟩ (w'.setCell ⟨V, 1, none⟩ u) := by
 have keep : ∀ (k : Nat) (o : Array Value) (t : TypeId), w.heap[k]? = some (.cells o t (0, 0)) -> t ≠ 100 -> w'.heap[k]? = w.heap[k]? := fun k o t hk ht => hg.block k (aA hk) fun e => by
  obtain ⟨c, hc⟩ := cA h.ot e.symm
  exact dN hk hc ht
 have hV' := (keep V _ _ h.hV (by decide)).trans h.hV
 have st : ∀ k, k ≠ V -> (w'.setCell ⟨V, 1, none⟩ u).heap[k]? = w'.heap[k]? := fun k hk => aE w' V 1 u k hk
 have lV := h.lV
 refine ⟨by rw [Lib.heap_setCell_same hV']; rfl, ?_, ?_, h.es.step fun k o T hk hT hB => (st k (by omega)).trans (keep k o T hk (by rcases hT with e | e | e <;> rw [e] <;> decide)), h.lV, ?_⟩
 ·refine aC h.oe fun k hk => ?_
  obtain ⟨c, hc⟩ := cA h.oe hk
  exact (st k (by have := (h.oe.lt k hk).1; omega)).trans (keep k c _ hc (by decide))
 ·rw [eT, qi]
  subst hn
  exact aC ho fun k hk => st k (by have := (ho.lt k hk).1; omega)
 ·have := eC w' V 1 u
  have := hg.size
  have := h.lB
  omega
end
theorem DM (x : fZ) (c : Int) : ∀ (l : List fZ) (i : Nat), l[i]? = some x -> (cH fZ.cells l).set (i * 4 + 1) (I c) = cH fZ.cells (l.set i ⟨x.first, c, x.actual, x.normal⟩)
 | [], i, h => by simp at h
 | y :: l, 0, h => by
  simp only [qy, qm] at h
  subst h
  simp [cH, fZ.cells]
 | y :: l, i + 1, h => by
  have h : l[i]? = some x := by simpa using h
  have ih := DM x c l i h
  have e : cH fZ.cells (y :: l) = I y.first :: I y.count :: I y.actual :: I y.normal :: cH fZ.cells l := by simp [cH, fZ.cells]
  rw [e, show (i + 1) * 4 + 1 = i * 4 + 1 + 1 + 1 + 1 + 1 by omega, List.set_cons_succ, List.set_cons_succ, List.set_cons_succ, List.set_cons_succ, ih]
  simp [cH, fZ.cells]
theorem FX.setT {V B : Nat} {ev : Value} {cs : List Value} {v : gJ} {w : World} {g : Nat} {n cap : Nat} (h : FX V B ev (.slice (some ⟨g, 0, none⟩) n cap) cs v w) {i : Nat} {x : fZ} (hx : v.tups[i]? = some x) (c : Int) :
  FX V B ev (.slice (some ⟨g, 0, none⟩) n cap) cs ⟨v.evs, v.tups.set i ⟨x.first, c, x.actual, x.normal⟩⟩ (w.setCell ⟨g, i * 4 + 1, none⟩ (I c)) := by
 have lV := h.lV
 have hi : i < v.tups.length := (qqd.1 hx).1
 have hlo := (h.ot.lt g rfl).1
 obtain ⟨hl, h0 | ⟨g', cap', cur, e, hB, hg, hn, hm, hsz, htk⟩⟩ := h.ot
 ·exact absurd h0.1 (by intro e; cases e)
 injection e with e1 e2 e3
 injection e1 with e1
 injection e1 with e1 _ _
 subst e1 e2 e3
 have st : ∀ k, k ≠ g -> (w.setCell ⟨g, i * 4 + 1, none⟩ (I c)).heap[k]? = w.heap[k]? := fun k hk => aE w g (i * 4 + 1) _ k hk
 have no : ∀ (k : Nat) (o : Array Value) (t : TypeId), w.heap[k]? = some (.cells o t (0, 0)) -> t ≠ 100 -> k ≠ g := fun k o t hk ht e => dN hk (e ▸ hg) ht
 refine ⟨(st V (by omega)).trans h.hV, aC h.oe fun k hk => ?_, ⟨by rw [<- DM x c _ _ hx, List.length_set, List.length_set]; exact hl, .inr ⟨g, _, _, by simp only [List.length_set], hB, Lib.heap_setCell_same hg _, ?_, hm, ?_, ?_⟩⟩, h.es.step fun k o T hk hT _ => st k (no k o T hk (by rcases hT with e | e | e <;> rw [e] <;> decide)), h.lV, ?_⟩
 ·obtain ⟨o, ho⟩ := cA h.oe hk
  exact st k (no k o _ ho (by decide))
 ·simp only [List.length_set]; exact hn
 ·rw [Array.size_setIfInBounds]; exact hsz
 ·simp only [List.length_set, Array.toList_setIfInBounds]
  rw [List.take_set, htk, DM x c _ _ hx]
 ·have := eC w g (i * 4 + 1) (I c)
  have := h.lB
  omega
structure VS (bs : List Nat) (ev tv ev' tv' : Value) (w w' : World) : Prop where
 aw : aB (bs ++ (ev.ownBlock.toList ++ tv.ownBlock.toList)) w w'
 he : ∀ k, ev'.ownBlock = some k -> ev.ownBlock = some k \/ w.heap.size <= k
 ht : ∀ k, tv'.ownBlock = some k -> tv.ownBlock = some k \/ w.heap.size <= k
section
variable {bs : List Nat} {ev tv ev' tv' ev'' tv'' : Value} {w w' w'' : World}
theorem VS.refl (bs : List Nat) (ev tv : Value) (w : World) : VS bs ev tv ev tv w w := ⟨aB.refl _ _, fun _ h => .inl h, fun _ h => .inl h⟩
theorem VS.trans (h : VS bs ev tv ev' tv' w w') (k : VS bs ev' tv' ev'' tv'' w' w'') : VS bs ev tv ev'' tv'' w w'' := by
 refine ⟨⟨k.aw.os.trans h.aw.os, k.aw.tape.trans h.aw.tape, k.aw.output.trans h.aw.output, qv h.aw.size k.aw.size, fun i hi hb => (k.aw.block i (qk hi h.aw.size) fun hm => hb ?_).trans (h.aw.block i hi hb)⟩, fun i hi => ?_, fun i hi => ?_⟩
 ·rcases qqb.1 hm with hm | hm
  ·exact qqb.2 (.inl hm)
  ·rcases qqb.1 hm with hm | hm
   ·rw [qql] at hm
    rcases h.he i hm with h1 | h1
    ·exact qqb.2 (.inr (qqb.2 (.inl (by rw [qql]; exact h1))))
    ·omega
   ·rw [qql] at hm
    rcases h.ht i hm with h1 | h1
    ·exact qqb.2 (.inr (qqb.2 (.inr (by rw [qql]; exact h1))))
    ·omega
 ·have := h.aw.size
  rcases k.he i hi with h1 | h1
  ·exact h.he i h1
  ·exact .inr (by omega)
 ·have := h.aw.size
  rcases k.ht i hi with h1 | h1
  ·exact h.ht i h1
  ·exact .inr (by omega)
theorem VS.of_away (h : aB bs w w') : VS bs ev tv ev tv w w' := ⟨h.more fun _k hk => qqb.2 (.inl hk), fun _ h => .inl h, fun _ h => .inl h⟩
theorem VS.of_below (h : Below w.heap.size w w') : VS bs ev tv ev tv w w' := VS.of_away (aB.of_below h)
theorem VS.growE (hg : w.grownBy w' ev.ownBlock) {a : Addr} {n cap : Nat} (hk : ev.ownBlock = some a.block \/ a.block = w.heap.size) : VS bs ev tv (.slice (some a) n cap) tv w w' := by
 refine ⟨⟨hg.os, hg.tape, hg.output, hg.size, fun k hk hb => hg.block k hk fun e => hb (by simp [<- e])⟩, fun k hk' => ?_, fun _ h => .inl h⟩
 simp only [Value.ownBlock, qm] at hk'
 subst hk'
 exact hk.imp id (fun e => qe e.symm)
theorem VS.growT (hg : w.grownBy w' tv.ownBlock) {a : Addr} {n cap : Nat} (hk : tv.ownBlock = some a.block \/ a.block = w.heap.size) : VS bs ev tv ev (.slice (some a) n cap) w w' := by
 refine ⟨⟨hg.os, hg.tape, hg.output, hg.size, fun k hk hb => hg.block k hk fun e => hb (by simp [<- e])⟩, fun _ h => .inl h, fun k hk' => ?_⟩
 simp only [Value.ownBlock, qm] at hk'
 subst hk'
 exact hk.imp id (fun e => qe e.symm)
theorem VS.set (k i : Nat) (u : Value) (hk : k ∈ bs) : VS bs ev tv ev tv w (w.setCell ⟨k, i, none⟩ u) := VS.of_away ((aB.refl _ _).setCell (.inl hk) u)
theorem VS.setT {a : Addr} {n cap : Nat} (i : Nat) (u : Value) : VS bs ev (.slice (some a) n cap) ev (.slice (some a) n cap) w (w.setCell ⟨a.block, i, none⟩ u) :=
 ⟨(aB.refl _ _).setCell (p := ⟨a.block, i, none⟩) (.inl (by simp [Value.ownBlock])) u, fun _ h => .inl h, fun _ h => .inl h⟩
end
set_option maxHeartbeats 8000000
set_option maxRecDepth 100000
def rJ : List ByteArray := [⟨#[64]⟩, ⟨#[103, 114, 97, 99, 101]⟩, ⟨#[60]⟩, ⟨#[114]⟩, ⟨#[82]⟩, ⟨#[115]⟩]
def R1 : Array Value := #[.string ⟨#[64]⟩, .string ⟨#[103, 114, 97, 99, 101]⟩, .string ⟨#[60]⟩, .string ⟨#[114]⟩, .string ⟨#[82]⟩, .string ⟨#[115]⟩]
theorem NY (T : List bD) (s : aU) : jN T s = (rJ.any (fun x => isS T x s) || fG T s) := by
 simp [jN, rJ, Bool.or_assoc]
theorem W5 {w : World} {g : Nat} (h : w.heap[g]? = some (.cells R1 9 (0, 0))) (k : Nat) (hk : k < 6) : w.cell? ⟨g, k, none⟩ = some (.string (rJ.getD k ByteArray.empty)) := by
 rw [Lib.cell_of_heap h]
 rcases (by omega : k = 0 \/ k = 1 \/ k = 2 \/ k = 3 \/ k = 4 \/ k = 5) with rfl | rfl | rfl | rfl | rfl | rfl <;> rfl
theorem YZ {T : List bD} {s : aU} {k : Nat} (hk : k < 6) (h : isS T (rJ.getD k ByteArray.empty) s = true) : rJ.any (fun x => isS T x s) = true := by
 rw [List.any_eq_true]
 refine ⟨_, ?_, h⟩
 rcases (by omega : k = 0 \/ k = 1 \/ k = 2 \/ k = 3 \/ k = 4 \/ k = 5) with rfl | rfl | rfl | rfl | rfl | rfl <;> simp [rJ]
theorem Y0 {T : List bD} {s : aU} (h : ∀ j, j < 6 -> isS T (rJ.getD j ByteArray.empty) s = false) : rJ.any (fun x => isS T x s) = false := by
 have h0 := h 0 (by omega)
 have h1 := h 1 (by omega)
 have h2 := h 2 (by omega)
 have h3 := h 3 (by omega)
 have h4 := h 4 (by omega)
 have h5 := h 5 (by omega)
 simp only [rJ, List.getD_cons_zero, List.getD_cons_succ] at h0 h1 h2 h3 h4 h5
 simp only [rJ, List.any_cons, List.any_nil, h0, h1, h2, h3, h4, h5]
 rfl
section
variable {T : List bD} {Y M : Nat} {free : Bool} {st : aU} {w : World}
theorem Y1 (h : PS T Y M free st w) {g : Nat} (hg : w.heap[g]? = some (.cells R1 9 (0, 0))) :
  Calls Tryz.prog 152 #[.slice (some ⟨g, 0, none⟩) 6 6, .func (.func 76) #[.pointer (some ⟨Y, 0, none⟩)] #[]] w fun r w' =>
   (∃ i : Int, r = .returned (I i) /\ decide (0 <= i) = rJ.any (fun x => isS T x st)) /\ Below w.heap.size w w' := by
 have lg := aA hg
 go_enter Tryz.func152, Tryz.ntmps152
 go_wp2
 go_loopg [8] (6 : Nat) (fun gq s8 wr => ∃ k : Nat, k <= 6 /\ gq = 6 - k /\ s8 = I (k : Nat) /\ (∀ j, j < k -> isS T (rJ.getD j ByteArray.empty) st = false) /\ Below w.heap.size w wr)
 case atStart => exact ⟨0, qn _, rfl, rfl, fun j hj => absurd hj (Nat.not_lt_zero j), qa _ _⟩
 case round =>
  obtain ⟨k, hk, hgq, rfl, hno, hb⟩ := hrel
  by_cases hlt : k < 6
  ·have hlt' : (k : Int) < 6 := by omega
   have hk0 : (0 : Int) <= (k : Int) := by omega
   have hS := h.step hb
   have ck := W5 ((hb.block g lg).trans hg) k hlt
   have xi := LY hS (rJ.getD k ByteArray.empty)
   obtain ⟨b, hbv⟩ : ∃ b, isS T (rJ.getD k ByteArray.empty) st = b := ⟨_, rfl⟩
   rw [hbv] at xi
   have HB := aQ hbv
   have HN := aQ hno
   clear hbv hno hS h
   generalize rJ.getD k ByteArray.empty = x at ck xi
   have m1 : IntKind.i64.wrap ((k : Int) + 1) = (k : Int) + 1 := IntWalk.i64_in _ (by omega)
   cases b with
   | true =>
    go_wp2_with (go_at_call 76; (with_reducible refine xi.mono ?_))
    rintro rr w1 ⟨rfl, b1⟩
    go_wp2
    go_ret
    exact ⟨⟨(k : Int), rfl, by rw [YZ hlt HB.out]; simp⟩, hb.trans (b1.mono hb.size)⟩
   | false =>
    go_wp2_with (go_at_call 76; (with_reducible refine xi.mono ?_))
    rintro rr w1 ⟨rfl, b1⟩
    go_wp2
    go_roundg (6 - (k + 1))
    case measure => omega
    case rel =>
     refine ⟨k + 1, by omega, rfl, by simp, fun j hj => ?_, hb.trans (b1.mono hb.size)⟩
     by_cases e : j = k
     ·rw [e]; exact HB.out
     ·exact HN.out j (by omega)
  ·have : k = 6 := by omega
   subst this
   have ha := Y0 hno
   go_wp2
   go_ret
   exact ⟨⟨-1, rfl, by rw [ha]; rfl⟩, hb⟩
theorem R2 (h : PS T Y M free st w) {g : Nat} (hg : w.heap[g]? = some (.cells R1 9 (0, 0))) :
  Calls Tryz.prog 115 #[.slice (some ⟨g, 0, none⟩) 6 6, .func (.func 76) #[.pointer (some ⟨Y, 0, none⟩)] #[]] w fun r w' =>
   r = .returned (.bool (rJ.any (fun x => isS T x st))) /\ Below w.heap.size w w' := by
 have xi := Y1 h hg
 generalize rJ.any (fun x => isS T x st) = b at xi |-
 go_enter Tryz.func115, Tryz.ntmps115
 go_wp2_with (go_at_call 152; (with_reducible refine xi.mono ?_))
 rintro rr w1 ⟨⟨i, rfl, hi⟩, b1⟩
 go_wp2
 go_ret
 subst hi
 exact ⟨rfl, b1⟩
theorem R3 (h : PS T Y M free st w) : Calls Tryz.prog 78 #[.pointer (some ⟨Y, 0, none⟩)] w fun r w' => r = .returned (.bool (jN T st)) /\ Below w.heap.size w w' := by
 rw [NY]
 have hr := qc w (.cells R1 9)
 have ba := (qa w.heap.size w).alloc (qb _) (.cells R1 9)
 have xc := R2 (h.step ba) hr
 have hps := fun w' (b : Below w.heap.size w w') => h.step b
 have xq := fun w' (b : Below w.heap.size w w') => FD (hps w' b)
 generalize rJ.any (fun x => isS T x st) = b1 at xc |-
 generalize fG T st = b2 at xq |-
 unfold R1 at xc ba
 clear h hr hps
 go_enter Tryz.func78, Tryz.ntmps78
 cases b1 with
 | true =>
  go_wp2_with (go_at_call 115; (with_reducible refine xc.mono ?_))
  rintro rr w1 ⟨rfl, b1⟩
  go_wp2
  go_ret
  exact ⟨rfl, ba.trans (b1.mono ba.size)⟩
 | false =>
  go_wp2_with (go_at_call 115; (with_reducible refine xc.mono ?_))
  rintro rr w1 ⟨rfl, b1⟩
  have bb := ba.trans (b1.mono ba.size)
  have xq1 := xq _ bb
  go_wp2_with (go_at_call 116; (with_reducible refine xq1.mono ?_))
  rintro rr w2 ⟨rfl, b2⟩
  go_wp2
  go_ret
  exact ⟨rfl, bb.trans (b2.mono bb.size)⟩
end
structure xU (W0 : World) (T : List bD) (Y M V B : Nat) (ev tv : Value) (cs : List Value) (v : gJ) (st : aU) (w : World) : Prop where
 ps : PS T Y M true st w
 bas : lG W0 [Y, M] w
 vo : FX V B ev tv cs v w
 lY : Y < B
 lM : M < B
 nY : V ≠ Y
 nM : V ≠ M
 lW : W0.heap.size <= V
theorem lG.row {W0 w w' : World} {bs : List Nat} (h : lG W0 bs w) {cs : List Nat} (a : aB cs w w') (hc : ∀ k ∈ cs, W0.heap.size <= k) : lG W0 bs w' :=
 ⟨h.gl, ((⟨h.gl, h.bel, hc⟩ : lG W0 cs w).away a).bel, h.hs⟩
section
variable {W0 : World} {T : List bD} {Y M V B : Nat} {ev tv ev' tv' : Value} {cs cs' : List Value} {v v' : gJ} {st st' : aU} {w w' : World}
theorem xU.call (h : xU W0 T Y M V B ev tv cs v st w) (hS : PS T Y M true st' w') (a : aB [Y, M] w w') : xU W0 T Y M V B ev tv cs v st' w' := by
 have nY := h.nY
 have nM := h.nM
 have lY := h.lY
 have lM := h.lM
 exact ⟨hS, h.bas.away a, h.vo.away a (by simp; omega) (fun k hk => .inl (by simp at hk; omega)), h.lY, h.lM, h.nY, h.nM, h.lW⟩
theorem xU.step (h : xU W0 T Y M V B ev tv cs v st w) (b : Below w.heap.size w w') : xU W0 T Y M V B ev tv cs v st w' := h.call (h.ps.step b) (aB.of_below b)
theorem xU.pushE (h : xU W0 T Y M V B ev tv cs v st w) (hg : w.grownBy w' ev.ownBlock) {u : Value} {n : Nat} {x : zC} {hv gv lv : Value} (hn : n = v.evs.length + 1) (ho : w'.ownsRow B 31 13 u n (cs ++ (x.cells hv gv lv).toList)) (r : hC B hv gv lv x.heads x.graces x.lyr w) :
  xU W0 T Y M V B u tv (cs ++ (x.cells hv gv lv).toList) ⟨v.evs ++ [x], v.tups⟩ st (w'.setCell ⟨V, 0, none⟩ u) := by
 have lY := h.lY
 have lM := h.lM
 have lW := h.lW
 have lV := h.vo.lV
 have p1 : PS T Y M true st w' := h.ps.grown hg fun k hk => by
  have := (h.vo.oe.lt k hk).1
  obtain ⟨c, hc⟩ := cA h.vo.oe hk
  exact ⟨by omega, by omega, c, _, hc, by decide⟩
 have hV' : w'.heap[V]? = some (.cells #[ev, tv] 48 (0, 0)) := (hg.block V h.vo.lt fun e => by have := (h.vo.oe.lt V e.symm).1; omega).trans h.vo.hV
 have b1 : lG W0 [Y, M] w' := h.bas.row (cs := ev.ownBlock.toList) ⟨hg.os, hg.tape, hg.output, hg.size, fun k hk hb => hg.block k hk fun e => hb (by rw [<- e]; simp)⟩ fun k hk => by
  rw [qql] at hk
  have := (h.vo.oe.lt k hk).1
  omega
 exact ⟨p1.put (R := V) h.nY h.nM hV' (by decide) (aE w' V 0 u), b1.row ((aB.refl [V] w').setCell (p := ⟨V, 0, none⟩) (.inl (by simp)) u) (fun k hk => by simp at hk; omega), h.vo.pushE hg hn ho r, h.lY, h.lM, h.nY, h.nM, h.lW⟩
theorem xU.pushT (h : xU W0 T Y M V B ev tv cs v st w) (hg : w.grownBy w' tv.ownBlock) {u : Value} {n : Nat} {x : fZ} (hn : n = v.tups.length + 1) (ho : w'.ownsRow B 100 4 u n (cH fZ.cells v.tups ++ x.cells.toList)) :
  xU W0 T Y M V B ev u cs ⟨v.evs, v.tups ++ [x]⟩ st (w'.setCell ⟨V, 1, none⟩ u) := by
 have lY := h.lY
 have lM := h.lM
 have lW := h.lW
 have lV := h.vo.lV
 have p1 : PS T Y M true st w' := h.ps.grown hg fun k hk => by
  have := (h.vo.ot.lt k hk).1
  obtain ⟨c, hc⟩ := cA h.vo.ot hk
  exact ⟨by omega, by omega, c, _, hc, by decide⟩
 have hV' : w'.heap[V]? = some (.cells #[ev, tv] 48 (0, 0)) := (hg.block V h.vo.lt fun e => by have := (h.vo.ot.lt V e.symm).1; omega).trans h.vo.hV
 have b1 : lG W0 [Y, M] w' := h.bas.row (cs := tv.ownBlock.toList) ⟨hg.os, hg.tape, hg.output, hg.size, fun k hk hb => hg.block k hk fun e => hb (by rw [<- e]; simp)⟩ fun k hk => by
  rw [qql] at hk
  have := (h.vo.ot.lt k hk).1
  omega
 exact ⟨p1.put (R := V) h.nY h.nM hV' (by decide) (aE w' V 1 u), b1.row ((aB.refl [V] w').setCell (p := ⟨V, 1, none⟩) (.inl (by simp)) u) (fun k hk => by simp at hk; omega), h.vo.pushT hg hn ho, h.lY, h.lM, h.nY, h.nM, h.lW⟩
theorem xU.setT {g n cap : Nat} (h : xU W0 T Y M V B ev (.slice (some ⟨g, 0, none⟩) n cap) cs v st w) {i : Nat} {x : fZ} (hx : v.tups[i]? = some x) (c : Int) :
  xU W0 T Y M V B ev (.slice (some ⟨g, 0, none⟩) n cap) cs ⟨v.evs, v.tups.set i ⟨x.first, c, x.actual, x.normal⟩⟩ st (w.setCell ⟨g, i * 4 + 1, none⟩ (I c)) := by
 have lY := h.lY
 have lM := h.lM
 have lW := h.lW
 have lV := h.vo.lV
 have hlo := (h.vo.ot.lt g rfl).1
 obtain ⟨o, ho⟩ := cA h.vo.ot (k := g) rfl
 exact ⟨h.ps.put (R := g) (by omega) (by omega) ho (by decide) (aE w g _ _), h.bas.row ((aB.refl [g] w).setCell (p := ⟨g, i * 4 + 1, none⟩) (.inl (by simp)) _) (fun k hk => by simp at hk; omega), h.vo.setT hx c, h.lY, h.lM, h.nY, h.nM, h.lW⟩
end
end Go.Proofs.YtgkhemnmcgicnaaGreatDoor
