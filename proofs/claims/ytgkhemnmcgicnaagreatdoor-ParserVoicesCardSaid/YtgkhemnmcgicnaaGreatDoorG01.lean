/- Towards the law ParserVoices, true for every text (no condition): one part of the proof. -/
import Derived.Test.YtgkhemnmcgicnaaGreatDoorRows
import Derived.Below
import Derived.Deep.RegionHeld3
import Derived.KernelRfl
import Derived.Test.YtgkhemnmcgicnaaGreatDoorProg
import Derived.Lib.Builder
import Derived.Lib.BufferMore
import Derived.WalkKit
import Derived.WalkSmall
import Derived.Deep.LoopGhost
import Derived.Lib.Walk
/- Short forms of steps that recur in regions: the normal form of a told row, an operation that is taken. -/
namespace Go
abbrev I (n : Int) : Value := .int .i64 n
end Go
namespace Go.Proofs.YtgkhemnmcgicnaaGreatDoor
theorem qa : type_of% @Go.RowKit.Below.refl := @Go.RowKit.Below.refl
theorem qb : type_of% @Nat.le_refl := @Nat.le_refl
theorem qc : type_of% @Go.heap_alloc_new := @Go.heap_alloc_new
theorem qd : type_of% @Array.getElem?_eq_some_iff := @Array.getElem?_eq_some_iff
theorem qe : type_of% @Nat.le_of_eq := @Nat.le_of_eq
theorem qf : type_of% @Go.bodyPost_ret := @Go.bodyPost_ret
theorem qg : type_of% @Go.RowKit.Below.heap_setCell := @Go.RowKit.Below.heap_setCell
theorem qh : type_of% @Go.results_cell_row := @Go.results_cell_row
theorem qi : type_of% @List.length_append := @List.length_append
theorem qj : type_of% @List.length_cons := @List.length_cons
theorem qk : type_of% @Nat.lt_of_lt_of_le := @Nat.lt_of_lt_of_le
theorem ql : type_of% @Go.World.block_lt_of_cell? := @Go.World.block_lt_of_cell?
theorem qm : type_of% @Option.some.injEq := @Option.some.injEq
theorem qn : type_of% @Nat.zero_le := @Nat.zero_le
theorem qo : type_of% @List.getElem?_eq_getElem := @List.getElem?_eq_getElem
theorem qp : type_of% @Go.wp_region_held_drew := @Go.wp_region_held_drew
theorem qr : type_of% @Go.World.new_ne := @Go.World.new_ne
theorem qt : type_of% @decide_eq_false := @decide_eq_false
theorem qu : type_of% @decide_eq_true := @decide_eq_true
theorem qv : type_of% @Nat.le_trans := @Nat.le_trans
theorem qx : type_of% @Go.wp_region_noPanic := @Go.wp_region_noPanic
theorem qy : type_of% @List.getElem?_cons_zero := @List.getElem?_cons_zero
theorem qz : type_of% @Prod.mk.injEq := @Prod.mk.injEq
theorem qqa : type_of% @List.getElem?_cons_succ := @List.getElem?_cons_succ
theorem qqb : type_of% @List.mem_append := @List.mem_append
theorem qqc : type_of% @Go.run_underlying := @Go.run_underlying
theorem qqd : type_of% @List.getElem?_eq_some_iff := @List.getElem?_eq_some_iff
theorem qqe : type_of% @Go.World.ownsRow_nil := @Go.World.ownsRow_nil
theorem qqf : type_of% @Go.NoPanic.normal := @Go.NoPanic.normal
theorem qqg : type_of% @Go.results_tmp2 := @Go.results_tmp2
theorem qqh : type_of% @Option.map_some := @Option.map_some
theorem qqi : type_of% @List.length_nil := @List.length_nil
theorem qqj : type_of% @List.mem_cons := @List.mem_cons
theorem qqk : type_of% @List.getElem?_toArray := @List.getElem?_toArray
theorem qql : type_of% @Option.mem_toList := @Option.mem_toList
theorem qqm : type_of% @List.getD_eq_getElem?_getD := @List.getD_eq_getElem?_getD
theorem qqn : type_of% @List.all_eq_true := @List.all_eq_true
theorem qqo : type_of% @Nat.le_of_ble_eq_true := @Nat.le_of_ble_eq_true
theorem qqp : type_of% @Go.World.cell?_alloc_lt := @Go.World.cell?_alloc_lt
theorem qqq : type_of% @Nat.eq_of_beq_eq_true := @Nat.eq_of_beq_eq_true
theorem qqr : type_of% @Go.wpAnyH_done := @Go.wpAnyH_done
theorem qqs : type_of% @Array.getElem?_setIfInBounds_ne := @Array.getElem?_setIfInBounds_ne
theorem qqt : type_of% @List.length_singleton := @List.length_singleton
theorem qqu : type_of% @Go.Sem.run_bind := @Go.Sem.run_bind
theorem qqv : type_of% @List.not_mem_nil := @List.not_mem_nil
theorem qqw : type_of% @List.mem_singleton := @List.mem_singleton
theorem qqx : type_of% @Bool.and_eq_true := @Bool.and_eq_true
theorem qqy : type_of% @List.take_succ_eq_append_getElem := @List.take_succ_eq_append_getElem
theorem qqz : type_of% @Option.some.inj := @Option.some.inj
open Go.RowKit

universe u
theorem nm {α : Type u} : (∀ (l : List α) (i : Nat) (h : i < l.toArray.size), l.toArray[i] = l[i]'(by simpa using h)) /\
    (∀ (a : α) (l : List α) (i : Nat) (h : i + 1 < (a :: l).length), (a :: l)[i + 1] = l[i]'(Nat.lt_of_succ_lt_succ h)) /\
    (∀ (a : α) (l : List α) (h : 0 < (a :: l).length), (a :: l)[0] = a) /\
    (∀ (l : List α) (i : Nat) (a : α), l.toArray.setIfInBounds i a = (l.set i a).toArray) /\
    (∀ (x : α) (xs : List α) (a : α), (x :: xs).set 0 a = a :: xs) /\
    (∀ (x : α) (xs : List α) (i : Nat) (a : α), (x :: xs).set (i + 1) a = x :: xs.set i a) :=
  ⟨fun _ _ _ => by simp, fun _ _ _ _ => rfl, fun _ _ _ => rfl, fun _ _ _ => by simp, fun _ _ _ => rfl, fun _ _ _ _ => rfl⟩
theorem ap : (∀ (a : Act) (d : Tmp) (v : Value), a.put (some d) v = { a with tmps := a.tmps.setIfInBounds d v }) /\ (∀ (a : Act) (v : Value), a.put none v = a) :=
  ⟨fun _ _ _ => rfl, fun _ _ => rfl⟩

section
variable {P : Program} {ops : Array Oper} {Q : Exit -> Act -> World -> Prop} {md : Region.Mode} {S : World -> Prop}
theorem dU (i : Nat) {oi : Oper} {fuel : Nat} {listed : Array Bool} {a : Act} {w : World} (hi : ops[i]? = some oi)
    (h : wpAnyH P md ops Q S fuel (listed.setIfInBounds i true) (a.put oi.dst undef) w)
    (hs : Region.noSelect ops = true := by kernel_rfl) (hf : Region.free md ops listed i = true := by kernel_rfl)
    (hr : (Region.ready md ops listed).contains i = true := by kernel_rfl)
    (hQ : ∀ c a w, Q (.panic c) (a.put oi.dst undef) w -> Q (.panic c) a w := by exact fun _ _ _ h => h)
    (hy : Region.wanted oi (yielded ops a.tmps) = false := by rfl) (hS : S w := by assumption) :
    wpAnyH P md ops Q S (fuel + 1) listed a w :=
  wpAnyH_take hi hs hf hr hQ (Or.inr ⟨hy, rfl⟩) hS h
theorem gA (i : Nat) (v : Value) {oi : Oper} {fuel : Nat} {listed : Array Bool} {a : Act} {w : World} (hi : ops[i]? = some oi)
    (hy : ∀ w, S w -> (execOp a.eval oi).run P w = .ok (.value v) w)
    (h : wpAnyH P md ops Q S fuel (listed.setIfInBounds i true) (a.put oi.dst v) w)
    (hs : Region.noSelect ops = true := by kernel_rfl) (hf : Region.free md ops listed i = true := by kernel_rfl)
    (hr : (Region.ready md ops listed).contains i = true := by kernel_rfl)
    (hQ : ∀ c a w, Q (.panic c) (a.put oi.dst v) w -> Q (.panic c) a w := by exact fun _ _ _ h => h)
    (hw : Region.wanted oi (yielded ops a.tmps) = true := by rfl) (hS : S w := by assumption) :
    wpAnyH P md ops Q S (fuel + 1) listed a w :=
  wpAnyH_take hi hs hf hr hQ (Or.inl ⟨hw, hy⟩) hS h
theorem bZ (i : Nat) (v : Value) {oi : Oper} {fuel : Nat} {listed : Array Bool} {a : Act} {w : World} (hi : ops[i]? = some oi)
    (h : wpAnyH P md ops Q S fuel (listed.setIfInBounds i true) (a.put oi.dst v) w)
    (hy : ∀ w, S w -> (execOp a.eval oi).run P w = .ok (.value v) w := by (intro wq hSw; go_simp; try rfl))
    (hs : Region.noSelect ops = true := by kernel_rfl) (hf : Region.free md ops listed i = true := by kernel_rfl)
    (hr : (Region.ready md ops listed).contains i = true := by kernel_rfl)
    (hQ : ∀ c a w, Q (.panic c) (a.put oi.dst v) w -> Q (.panic c) a w := by exact fun _ _ _ h => h)
    (hw : Region.wanted oi (yielded ops a.tmps) = true := by rfl) (hS : S w := by assumption) :
    wpAnyH P md ops Q S (fuel + 1) listed a w :=
  wpAnyH_take hi hs hf hr hQ (Or.inl ⟨hw, hy⟩) hS h
theorem tkr (i : Nat) (v : Value) {oi : Oper} {fuel : Nat} {listed : Array Bool} {a : Act} {w : World} (hi : ops[i]? = some oi)
    (h : wpAnyH P md ops Q S fuel (listed.setIfInBounds i true) (a.put oi.dst v) w)
    (hy : ∀ w, S w -> (execOp a.eval oi).run P w = .ok (.value v) w := by (intro wq hSw; go_simp; try (with_reducible rfl)))
    (hs : Region.noSelect ops = true := by kernel_rfl) (hf : Region.free md ops listed i = true := by kernel_rfl)
    (hr : (Region.ready md ops listed).contains i = true := by kernel_rfl)
    (hQ : ∀ c a w, Q (.panic c) (a.put oi.dst v) w -> Q (.panic c) a w := by exact fun _ _ _ h => h)
    (hw : Region.wanted oi (yielded ops a.tmps) = true := by rfl) (hS : S w := by assumption) :
    wpAnyH P md ops Q S (fuel + 1) listed a w :=
  wpAnyH_take hi hs hf hr hQ (Or.inl ⟨hw, hy⟩) hS h
theorem xQ (r : Nat) {o : Oper} {fuel : Nat} {listed : Array Bool} {a : Act} {w : World} (ho : ops[r]? = some o)
    (h : ∀ K' : Act -> World -> Prop, Shut (∀ a w, S w -> (S w -> wpAnyH P md ops Q S fuel (listed.setIfInBounds r true) a w) -> K' a w) -> if Region.wanted o (yielded ops a.tmps) = true then Oper.wp P o a w K' Q else K' (a.put o.dst undef) w)
    (hr : Region.ready md ops listed = [r] := by kernel_rfl) : wpAnyH P md ops Q S (fuel + 1) listed a w :=
  wpAnyH_ready hr (by simp) (AllReadyH.cons ho h AllReadyH.nil)
end
end Go.Proofs.YtgkhemnmcgicnaaGreatDoor
namespace Go.Proofs.YtgkhemnmcgicnaaGreatDoor
open Go.RowKit
theorem cD {B : Nat} {a w : World} (h : Below B a w) (n : Nat) : Below B a (w.drewN n) := h.trans ⟨rfl, rfl, rfl, qb _, fun _ _ => rfl⟩
structure gG (B X : Nat) (ks : List (Nat × Obj)) (s : ByteArray) (lines : Value) (pos : Int) (lv : Value) (n : Nat) (xs : List Value) (e wr : Int) (w0 w : World) : Prop where
 hX : B <= X
 hB : B <= w.heap.size
 blk : w.heap[X]? = some (.cells #[.string s, I pos, lines, lv, I e, I wr] 108 (0, 0))
 own : w.ownsRow B 59 7 lv n xs
 keep : ∀ p ∈ ks, w.heap[p.1]? = some p.2 /\ p.1 ≠ X /\ B <= p.1 /\ ∀ cs fr, p.2 ≠ .cells cs 59 fr
 below : Below B w0 w
theorem dF {w : World} {B : Nat} {e : TypeId} {size : Nat} {v : Value} {n : Nat} {xs : List Value} {b : Nat} {o : Obj} (hown : w.ownsRow B e size v n xs) (hb : w.heap[b]? = some o) (hTe : ∀ cs fr, o ≠ .cells cs e fr) : v.ownBlock ≠ some b := by
 rcases hown.2 with ⟨rfl, _⟩ | ⟨g, cap, cur, rfl, _, hg, _⟩
 ·simp [Value.ownBlock]
 ·intro h
  simp only [Value.ownBlock, qm] at h
  subst h
  rw [hg] at hb
  exact hTe _ _ (qqz hb).symm
theorem aC {w w' : World} {B : Nat} {e : TypeId} {size : Nat} {v : Value} {n : Nat} {xs : List Value} (h : w.ownsRow B e size v n xs) (hb : ∀ k, v.ownBlock = some k -> w'.heap[k]? = w.heap[k]?) : w'.ownsRow B e size v n xs := by
 refine ⟨h.1, ?_⟩
 rcases h.2 with hn | ⟨g, cap, cur, rfl, hg, hgg, rest⟩
 ·exact .inl hn
 ·exact .inr ⟨g, cap, cur, rfl, hg, (hb g rfl).trans hgg, rest⟩
section
variable {B X : Nat} {ks : List (Nat × Obj)} {s : ByteArray} {lines : Value} {pos : Int} {lv : Value} {n : Nat} {xs : List Value} {e wr : Int} {w0 w : World}
theorem gG.lt (h : gG B X ks s lines pos lv n xs e wr w0 w) : X < w.heap.size := (qd.1 h.blk).1
theorem gG.step (h : gG B X ks s lines pos lv n xs e wr w0 w) {w' : World} (hb : Below w.heap.size w w') : gG B X ks s lines pos lv n xs e wr w0 w' := by
 have hB := h.hB
 refine ⟨h.hX, qv h.hB hb.size, (hb.block X h.lt).trans h.blk, aC h.own fun k hk => hb.block k (h.own.lt k hk).2, fun p hp => ?_, h.below.trans (hb.mono h.hB)⟩
 obtain ⟨h1, h2, h3, h4⟩ := h.keep p hp
 exact ⟨(hb.block _ (qd.1 h1).1).trans h1, h2, h3, h4⟩
theorem gG.put (h : gG B X ks s lines pos lv n xs e wr w0 w) (i : Nat) (u : Value) {pos' e' wr' : Int} (hu : (#[.string s, I pos, lines, lv, I e, I wr] : Array Value).setIfInBounds i u = #[.string s, I pos', lines, lv, I e', I wr']) :
  gG B X ks s lines pos' lv n xs e' wr' w0 (w.setCell ⟨X, i, none⟩ u) := by
 have hne : lv.ownBlock ≠ some X := dF h.own h.blk (by intro cs fr hc; injection hc with _ h2 _; exact absurd h2 (by decide))
 refine ⟨h.hX, by simpa [World.setCell] using h.hB, ?_, aC h.own fun k hk => qg _ _ _ _ (fun e => hne (by rw [hk, e])), fun p hp => ?_, h.below.setCell (p := ⟨X, i, none⟩) h.hX _⟩
 ·rw [Lib.heap_setCell_same h.blk, hu]
 ·obtain ⟨h1, h2, h3, h4⟩ := h.keep p hp
  exact ⟨(qg _ _ _ _ h2).trans h1, h2, h3, h4⟩
theorem gG.at (h : gG B X ks s lines pos lv n xs e wr w0 w) (q : Int) : gG B X ks s lines q lv n xs e wr w0 (w.setCell ⟨X, 1, none⟩ (I q)) := h.put 1 _ rfl
theorem gG.fail (h : gG B X ks s lines pos lv n xs e wr w0 w) (a b : Int) : gG B X ks s lines pos lv n xs a b w0 ((w.setCell ⟨X, 5, none⟩ (I b)).setCell ⟨X, 4, none⟩ (I a)) := (h.put (e' := e) (wr' := b) (pos' := pos) 5 _ rfl).put 4 _ rfl
theorem gG.push (h : gG B X ks s lines pos lv n xs e wr w0 w) {w' : World} {v' : Value} {n' : Nat} {xs' : List Value} (hg : w.grownBy w' lv.ownBlock) (hown : w'.ownsRow B 59 7 v' n' xs') :
  gG B X ks s lines pos v' n' xs' e wr w0 (w'.setCell ⟨X, 3, none⟩ v') := by
 have hne : lv.ownBlock ≠ some X := dF h.own h.blk (by intro cs fr hc; injection hc with _ h2 _; exact absurd h2 (by decide))
 have hblk : w'.heap[X]? = some (.cells #[.string s, I pos, lines, lv, I e, I wr] 108 (0, 0)) := (hg.block X h.lt (fun e => hne e.symm)).trans h.blk
 have hne' : v'.ownBlock ≠ some X := dF hown hblk (by intro cs fr hc; injection hc with _ h2 _; exact absurd h2 (by decide))
 refine ⟨h.hX, by simpa [World.setCell] using qv h.hB hg.size, ?_, aC hown fun k hk => qg _ _ _ _ (fun e => hne' (by rw [hk, e])), fun p hp => ?_, ?_⟩
 ·rw [Lib.heap_setCell_same hblk]; rfl
 ·obtain ⟨h1, h2, h3, h4⟩ := h.keep p hp
  have hnp : lv.ownBlock ≠ some p.1 := dF h.own h1 h4
  exact ⟨(qg _ _ _ _ h2).trans ((hg.block _ (qd.1 h1).1 (fun e => hnp e.symm)).trans h1), h2, h3, h4⟩
 ·exact (h.below.grown hg h.hB (fun k hk => (h.own.lt k hk).1)).setCell (p := ⟨X, 3, none⟩) h.hX _
theorem gG.c0 (h : gG B X ks s lines pos lv n xs e wr w0 w) : w.cell? ⟨X, 0, none⟩ = some (.string s) := by rw [Lib.cell_of_heap h.blk]; rfl
theorem gG.c1 (h : gG B X ks s lines pos lv n xs e wr w0 w) : w.cell? ⟨X, 1, none⟩ = some (I pos) := by rw [Lib.cell_of_heap h.blk]; rfl
theorem gG.c2 (h : gG B X ks s lines pos lv n xs e wr w0 w) : w.cell? ⟨X, 2, none⟩ = some lines := by rw [Lib.cell_of_heap h.blk]; rfl
theorem gG.c3 (h : gG B X ks s lines pos lv n xs e wr w0 w) : w.cell? ⟨X, 3, none⟩ = some lv := by rw [Lib.cell_of_heap h.blk]; rfl
theorem gG.c4 (h : gG B X ks s lines pos lv n xs e wr w0 w) : w.cell? ⟨X, 4, none⟩ = some (I e) := by rw [Lib.cell_of_heap h.blk]; rfl
theorem gG.c5 (h : gG B X ks s lines pos lv n xs e wr w0 w) : w.cell? ⟨X, 5, none⟩ = some (I wr) := by rw [Lib.cell_of_heap h.blk]; rfl
theorem gG.fz (h : gG B X ks s lines pos lv n xs e wr w0 w) (i : Nat) : w.frozen? ⟨X, i, none⟩ = false := Lib.frozen_of_heap h.blk i
theorem gG.lvIs (h : gG B X ks s lines pos lv n xs e wr w0 w) : ∃ ao c, lv = .slice ao n c := by
 rcases h.own.2 with ⟨hv, h0⟩ | ⟨g, cap, cur, hv, _⟩
 ·exact ⟨none, 0, by rw [hv, h0]⟩
 ·exact ⟨_, _, hv⟩
end
structure bD where
 kind : Int
 text : ByteArray
 value : Int
 bytes : ByteArray
 line : Int
 col : Int
 joined : Bool
def bD.cells (t : bD) : List Value := [I t.kind, .string t.text, I t.value, .string t.bytes, I t.line, I t.col, .bool t.joined]
def eP (c : Nat) : Bool := (decide (97 <= c) && decide (c <= 122)) || (decide (65 <= c) && decide (c <= 90))
def dC (c : Nat) : Bool := decide (48 <= c) && decide (c <= 57)
def qL (c : Nat) : Bool := decide (c = 32) || decide (c = 9) || decide (c = 10) || decide (c = 13)
def iQ (c : Nat) : Bool := eP c || dC c || decide (c = 95)
set_option maxHeartbeats 2000000
set_option maxRecDepth 100000
theorem K3 (c : Int) (w : World) : Calls Tryz.prog 117 #[.int .u8 c] w fun e w' => e = .returned (.bool ((decide (97 <= c) && decide (c <= 122)) || (decide (65 <= c) && decide (c <= 90)))) /\ w' = w := by
 go_enter Tryz.func117, Tryz.ntmps117
 by_cases h1 : 97 <= c <;> by_cases h2 : c <= 122 <;> by_cases h3 : 65 <= c <;> by_cases h4 : c <= 90
 all_goals first | omega | skip
 all_goals go_wp2
 all_goals go_ret
 all_goals simp_all
theorem NK (c : Int) (w : World) : Calls Tryz.prog 120 #[.int .u8 c] w fun e w' => e = .returned (.bool (decide (48 <= c) && decide (c <= 57))) /\ w' = w := by
 go_enter Tryz.func120, Tryz.ntmps120
 by_cases h1 : 48 <= c <;> by_cases h2 : c <= 57
 all_goals first | omega | skip
 all_goals go_wp2
 all_goals go_ret
 all_goals simp_all
theorem NL (c : Int) (w : World) : Calls Tryz.prog 129 #[.int .u8 c] w fun e w' => e = .returned (.bool (decide (c = 32) || decide (c = 9) || decide (c = 10) || decide (c = 13))) /\ w' = w := by
 go_enter Tryz.func129, Tryz.ntmps129
 by_cases h1 : c = 32 <;> by_cases h2 : c = 9 <;> by_cases h3 : c = 10 <;> by_cases h4 : c = 13
 all_goals first | omega | skip
 all_goals (try subst h1); (try subst h2); (try subst h3); (try subst h4)
 all_goals go_wp2
 all_goals go_ret
 all_goals simp_all
theorem mZ (c : Nat) (w : World) {b : Bool} (h : eP c = b) : Calls Tryz.prog 117 #[.int .u8 c] w fun e w' => e = .returned (.bool b) /\ w' = w := by
 refine (K3 c w).mono ?_
 rintro e w' ⟨rfl, rfl⟩
 refine ⟨?_, rfl⟩
 rw [<- h]; unfold eP
 congr 2
 congr 1 <;> congr 1 <;> exact decide_eq_decide.2 (by omega)
theorem nS (c : Nat) (w : World) {b : Bool} (h : dC c = b) : Calls Tryz.prog 120 #[.int .u8 c] w fun e w' => e = .returned (.bool b) /\ w' = w := by
 refine (NK c w).mono ?_
 rintro e w' ⟨rfl, rfl⟩
 refine ⟨?_, rfl⟩
 rw [<- h]; unfold dC
 congr 2
 congr 1 <;> exact decide_eq_decide.2 (by omega)
theorem K4 (c : Nat) (w : World) {b : Bool} (h : qL c = b) : Calls Tryz.prog 129 #[.int .u8 c] w fun e w' => e = .returned (.bool b) /\ w' = w := by
 refine (NL c w).mono ?_
 rintro e w' ⟨rfl, rfl⟩
 refine ⟨?_, rfl⟩
 rw [<- h]; unfold qL
 congr 2
 congr 1
 ·congr 1
  ·congr 1 <;> exact decide_eq_decide.2 (by omega)
  ·exact decide_eq_decide.2 (by omega)
 ·exact decide_eq_decide.2 (by omega)
theorem TM (c : Nat) (w : World) (hl : eP c = true) : Calls Tryz.prog 119 #[.int .u8 c] w fun e w' => e = .returned (.bool true) /\ w' = w := by
 go_enter Tryz.func119, Tryz.ntmps119
 go_wp2_with (go_at_call 117; refine (mZ _ _ hl).mono ?_; rintro e w2 ⟨rfl, rfl⟩)
 go_ret
 exact ⟨rfl, rfl⟩
theorem TN (c : Nat) (w : World) (hl : eP c = false) (hd : dC c = true) : Calls Tryz.prog 119 #[.int .u8 c] w fun e w' => e = .returned (.bool true) /\ w' = w := by
 go_enter Tryz.func119, Tryz.ntmps119
 go_wp2_with (first
  | (go_at_call 117; refine (mZ _ _ hl).mono ?_; rintro e w2 ⟨rfl, rfl⟩)
  | (go_at_call 120; refine (nS _ _ hd).mono ?_; rintro e w2 ⟨rfl, rfl⟩))
 go_ret
 exact ⟨rfl, rfl⟩
theorem TP (c : Nat) (w : World) (hl : eP c = false) (hd : dC c = false) : Calls Tryz.prog 119 #[.int .u8 c] w fun e w' => e = .returned (.bool (decide ((c : Int) = 95))) /\ w' = w := by
 go_enter Tryz.func119, Tryz.ntmps119
 go_wp2_with (first
  | (go_at_call 117; refine (mZ _ _ hl).mono ?_; rintro e w2 ⟨rfl, rfl⟩)
  | (go_at_call 120; refine (nS _ _ hd).mono ?_; rintro e w2 ⟨rfl, rfl⟩))
 all_goals go_ret
 all_goals first | exact ⟨rfl, rfl⟩ | simp_all
theorem FJ (c : Nat) (w : World) {b : Bool} (h : iQ c = b) : Calls Tryz.prog 119 #[.int .u8 c] w fun e w' => e = .returned (.bool b) /\ w' = w := by
 unfold iQ at h
 cases hl : eP c
 ·cases hd : dC c
  ·have := TP c w hl hd
   rw [hl, hd] at h
   have hc4 : decide (c = 95) = decide ((c : Int) = 95) := decide_eq_decide.2 (by omega)
   rw [<- hc4] at this
   rw [<- h]; simpa using this
  ·rw [hl, hd] at h
   have := TN c w hl hd
   rw [<- h]; simpa using this
 ·rw [hl] at h
  have := TM c w hl
  rw [<- h]; simpa using this
structure xD (p : Nat -> Bool) (s : ByteArray) (a b : Nat) : Prop where
 ab : a <= b
 bs : b <= s.size
 ins : ∀ k (h : k < s.size), a <= k -> k < b -> p s[k].toNat = true
 out : ∀ h : b < s.size, p s[b].toNat = false
theorem FK (X : Nat) (s : ByteArray) (a b : Nat) (w : World) (c0 : w.cell? ⟨X, 0, none⟩ = some (.string s)) (hsz : s.size <= 1048576) (hu : xD dC s a b) :
  Calls Tryz.prog 118 #[.pointer (some ⟨X, 0, none⟩), I a, .func (.func 120) #[] #[]] w fun e w' => e = .returned (I b) /\ w' = w := by
 obtain ⟨hab, hbs, hin, hout⟩ := hu
 go_enter Tryz.func118, Tryz.ntmps118
 go_wp2
 go_loop [1] (fun v => ∃ k : Nat, a <= k /\ k <= b /\ v = I k) (fun v => b - (intOf v).toNat)
 case atStart => exact ⟨a, qb _, hab, rfl⟩
 case round =>
  obtain ⟨k, hk1, hk2, rfl⟩ := hrel
  by_cases hlt : k < s.size
  ·by_cases hkb : k < b
   ·have hd := hin k hlt hk1 hkb
    go_wp2_with (go_at_call 120; refine (nS _ _ hd).mono ?_; rintro e w2 ⟨rfl, rfl⟩)
    go_round
    case rel => exact ⟨k + 1, by omega, hkb, by go_num⟩
    case measure => simp [intOf]; omega
   ·obtain rfl : k = b := by omega
    have hd := hout hlt
    go_wp2_with (go_at_call 120; refine (nS _ _ hd).mono ?_; rintro e w2 ⟨rfl, rfl⟩)
    go_ret
    exact ⟨rfl, rfl⟩
  ·obtain rfl : k = b := by omega
   go_wp2
   go_ret
   exact ⟨rfl, rfl⟩
theorem C2 (X : Nat) (s : ByteArray) (a b : Nat) (w : World) (c0 : w.cell? ⟨X, 0, none⟩ = some (.string s)) (hsz : s.size <= 1048576) (hu : xD iQ s a b) :
  Calls Tryz.prog 118 #[.pointer (some ⟨X, 0, none⟩), I a, .func (.func 119) #[] #[]] w fun e w' => e = .returned (I b) /\ w' = w := by
 obtain ⟨hab, hbs, hin, hout⟩ := hu
 go_enter Tryz.func118, Tryz.ntmps118
 go_wp2
 go_loop [1] (fun v => ∃ k : Nat, a <= k /\ k <= b /\ v = I k) (fun v => b - (intOf v).toNat)
 case atStart => exact ⟨a, qb _, hab, rfl⟩
 case round =>
  obtain ⟨k, hk1, hk2, rfl⟩ := hrel
  by_cases hlt : k < s.size
  ·by_cases hkb : k < b
   ·have hd := hin k hlt hk1 hkb
    go_wp2_with (go_at_call 119; refine (FJ _ _ hd).mono ?_; rintro e w2 ⟨rfl, rfl⟩)
    go_round
    case rel => exact ⟨k + 1, by omega, hkb, by go_num⟩
    case measure => simp [intOf]; omega
   ·obtain rfl : k = b := by omega
    have hd := hout hlt
    go_wp2_with (go_at_call 119; refine (FJ _ _ hd).mono ?_; rintro e w2 ⟨rfl, rfl⟩)
    go_ret
    exact ⟨rfl, rfl⟩
  ·obtain rfl : k = b := by omega
   go_wp2
   go_ret
   exact ⟨rfl, rfl⟩
section
variable {B X : Nat} {ks : List (Nat × Obj)} {s : ByteArray} {lines : Value} {pos : Int} {lv : Value} {n : Nat} {xs : List Value} {wr : Int} {w0 w : World}
theorem lD (h : gG B X ks s lines pos lv n xs 0 wr w0 w) (a e : Int) :
  Calls Tryz.prog 87 #[.pointer (some ⟨X, 0, none⟩), I a, I e] w fun r w' => r = .returned (.tuple #[]) /\ gG B X ks s lines pos lv n xs e a w0 w' := by
 have c4 := h.c4
 have f4 := h.fz 4
 have f5 := h.fz 5
 have c5 := h.c5
 have hfin := h.fail e a
 clear h
 go_enter Tryz.func87, Tryz.ntmps87
 go_wp2
 go_end0
 exact ⟨rfl, hfin⟩
end
end Go.Proofs.YtgkhemnmcgicnaaGreatDoor
