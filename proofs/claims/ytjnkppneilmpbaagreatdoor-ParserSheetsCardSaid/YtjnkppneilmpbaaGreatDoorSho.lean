/-
  A part of the proof that the law ParserSheets (chapter 19) returns true for every sheet: walks of the program's functions, and runs of them in the kernel by the own evaluator.
-/
import Derived.Test.YtjnkppneilmpbaaGreatDoorTxw
import Derived.OrdersHeld
import Derived.Deep.RegionHeldLaw
import Derived.Test.YtjnkppneilmpbaaGreatDoorPrd
import Derived.MapKept
import Derived.Test.YtjnkppneilmpbaaGreatDoorOkf
namespace Go.Proofs.YtjnkppneilmpbaaGreatDoor
open Go.RowKit

/-- A slice of bytes. -/
def SlIs (w : World) (ao : Option Addr) (r : List UInt8) : Prop := ∀ (k : Nat) (y : UInt8), r[k]? = some y → ∃ q, ao = some q ∧ w.cell? (q.add k) = some (.int .u8 (y.toNat : Nat))
theorem SlIs.step {w w' : World} {ao : Option Addr} {r : List UInt8} (h : SlIs w ao r) (b : Below w.heap.size w w') : SlIs w' ao r := fun k y hy => by
  obtain ⟨q, e2, hq⟩ := h k y hy
  exact ⟨q, e2, (b.cell (World.block_lt_of_cell? w _ hq)).trans hq⟩
/-- What came in: rows of bytes. -/
def RsIs (w : World) (mo : Option Addr) (xs : List (List UInt8)) : Prop := ∀ (i : Nat) (r : List UInt8), xs[i]? = some r → ∃ p ao c, mo = some p ∧ w.cell? (p.add i) = some (.slice ao r.length c) ∧ r.length ≤ c ∧ SlIs w ao r
theorem RsIs.step {w w' : World} {mo : Option Addr} {xs : List (List UInt8)} (h : RsIs w mo xs) (b : Below w.heap.size w w') : RsIs w' mo xs := fun i r hi => by
  obtain ⟨p, ao, c, e, hc, hle, hs⟩ := h i r hi
  exact ⟨p, ao, c, e, (b.cell (World.block_lt_of_cell? w _ hc)).trans hc, hle, hs.step b⟩

/-- Rows as values, the first of a sheet. -/
def SvIs (w : World) (svs : List Value) (ls : List (List UInt8)) : Prop := svs.length = ls.length ∧ ∀ (j : Nat) (r : List UInt8), ls[j]? = some r → ∃ ao c, svs[j]? = some (.slice ao r.length c) ∧ SlIs w ao r
theorem SvIs.step {w w' : World} {svs : List Value} {ls : List (List UInt8)} (h : SvIs w svs ls) (b : Below w.heap.size w w') : SvIs w' svs ls :=
  ⟨h.1, fun j r hr => by
    obtain ⟨ao, c, e, hs⟩ := h.2 j r hr
    exact ⟨ao, c, e, hs.step b⟩⟩
theorem SvIs.more {w : World} {svs : List Value} {ls : List (List UInt8)} (h : SvIs w svs ls) {r : List UInt8} {ao : Option Addr} {c : Nat} (hs : SlIs w ao r) : SvIs w (svs ++ [.slice ao r.length c]) (ls ++ [r]) := by
  refine ⟨by simp [h.1], fun j q hq => ?_⟩
  by_cases hj : j < ls.length
  · rw [List.getElem?_append_left hj] at hq
    obtain ⟨a, c', e, hs'⟩ := h.2 j q hq
    exact ⟨a, c', by rw [List.getElem?_append_left (by rw [h.1]; exact hj)]; exact e, hs'⟩
  · have hjl : j = ls.length := by
      have := (List.getElem?_eq_some_iff.1 hq).1
      simp at this
      omega
    subst hjl
    rw [List.getElem?_append_right (Nat.le_refl _), Nat.sub_self] at hq
    obtain rfl : r = q := by simpa using hq
    exact ⟨ao, c, by rw [← h.1, List.getElem?_append_right (Nat.le_refl _), Nat.sub_self]; rfl, hs⟩

theorem Tryz.infoSl : (Tryz.prog.info? 23).map (fun i => (i.zero, i.size, i.bytes)) = some (some (.slice none 0 0), 1, 24) := by kernel_rfl
theorem Tryz.infoU8 : (Tryz.prog.info? 5).map (fun i => (i.zero, i.size, i.bytes)) = some (some (.int .u8 0), 1, 1) := by kernel_rfl

section
variable {P : Program} {ops : Array Oper} {S : World → Prop} {op : Oper} {a : Act}
theorem yieldsIf_slice (hw : Region.wanted op (yielded ops a.tmps) = true) (t : TypeId) (x h : Operand) (ho : op.op = .slice t x none (some h) none)
    (V : Value) (n : Int) (v : Value) (hx : a.eval x = V) (hh : a.eval h = .int .i64 n) (hrun : ∀ w' : World, (Instr.sliceAt t V none (some (.int .i64 n)) none).run P w' = .ok v w') : YieldsIf P ops S op v a :=
  .inl ⟨hw, fun w _ => by
    unfold execOp
    simp only [ho, hx, hh, Option.map_some, Option.map_none, Sem.run_bind, hrun, Result.andThen_ok]
    rfl⟩
end
theorem add_zero (q : Addr) : q.add 0 = q := by unfold Addr.add; split <;> simp_all
/-- The first six notes of a row. -/
theorem slice6 {w : World} {ao : Option Addr} {c : Nat} {r : List UInt8} (hc : r.length ≤ c) (h : SlIs w ao r) : ∃ ao' c', (∀ w' : World, (Instr.sliceAt 23 (.slice ao r.length c) none (some (.int .i64 ((r.take 6).length : Nat))) none).run Tryz.prog w' = .ok (.slice ao' (r.take 6).length c') w') ∧ SlIs w ao' (r.take 6) := by
  have hl : (r.take 6).length ≤ r.length := by simp; omega
  have h0 : (0 : Int) ≤ ((r.take 6).length : Nat) := by omega
  have hs : SlIs w ao (r.take 6) := fun k y hy => h k y (by
    rw [List.getElem?_take] at hy
    split at hy
    · exact hy
    · cases hy)
  generalize (r.take 6).length = n at *
  refine ⟨if c = 0 then ao else ao.map (·.add 0), c, fun w' => ?_, ?_⟩
  · simp [Instr.sliceAt, Instr.slice, Instr.sliceBounds, Instr.sliceBound, run_underlying Tryz.underlying23, Sem.run_bind, Result.andThen, asIntOf, h0]
    rw [if_pos (show n ≤ c by omega)]
  · by_cases hz : c = 0
    · rw [if_pos hz]; exact hs
    · rw [if_neg hz]
      intro k y hy
      obtain ⟨q, e, hq⟩ := hs k y hy
      exact ⟨q.add 0, by rw [e]; rfl, by rw [add_zero]; exact hq⟩
def u8s (kl : List UInt8) : List Value := kl.map fun y => .int .u8 (y.toNat : Nat)
/-- The sheet that is being made lies at Yb. -/
structure SoAt (Xb Rb Yb : Nat) (T : ByteArray) (mv kv : Value) (svs kvs : List Value) (n n2 : Nat) (xs : Array Value) (w0 w : World) : Prop where
  hX : w.heap[Xb]? = some (.cells xs 25 (0, 0))
  hR : w.heap[Rb]? = some (.cells #[.string ByteArray.empty, .slice none 0 0, .slice none 0 0] 25 (0, 0))
  hY : w.heap[Yb]? = some (.cells #[.string T, mv, kv] 25 (0, 0))
  rows : w.ownsRow w0.heap.size 23 1 mv n svs
  keys : w.ownsRow w0.heap.size 5 1 kv n2 kvs
  below : Below w0.heap.size w0 w
  lY : w0.heap.size ≤ Yb
  lR : w0.heap.size ≤ Rb
  nXY : Xb ≠ Yb
  nRY : Rb ≠ Yb
section
variable {Xb Rb Yb : Nat} {T : ByteArray} {mv kv : Value} {svs kvs : List Value} {n n2 : Nat} {xs : Array Value} {w0 w w' : World}
theorem SoAt.step (p : SoAt Xb Rb Yb T mv kv svs kvs n n2 xs w0 w) (b : Below w.heap.size w w') : SoAt Xb Rb Yb T mv kv svs kvs n n2 xs w0 w' := by
  have s : ∀ {k : Nat} {o : Obj}, w.heap[k]? = some o → w'.heap[k]? = some o := fun {k o} hk => (b.block k (Array.getElem?_eq_some_iff.1 hk).1).trans hk
  exact ⟨s p.hX, s p.hR, s p.hY, own_step p.rows fun k hk => b.block k (p.rows.lt k hk).2, own_step p.keys fun k hk => b.block k (p.keys.lt k hk).2, p.below.trans (b.mono p.below.size), p.lY, p.lR, p.nXY, p.nRY⟩
theorem SoAt.cX (p : SoAt Xb Rb Yb T mv kv svs kvs n n2 xs w0 w) (j : Nat) {u : Value} (hu : xs[j]? = some u) : w.cell? ⟨Xb, j, none⟩ = some u := by rw [Lib.cell_of_heap p.hX]; exact hu
theorem SoAt.c1 (p : SoAt Xb Rb Yb T mv kv svs kvs n n2 xs w0 w) : w.cell? ⟨Yb, 1, none⟩ = some mv := by rw [Lib.cell_of_heap p.hY]; rfl
theorem SoAt.c2 (p : SoAt Xb Rb Yb T mv kv svs kvs n n2 xs w0 w) : w.cell? ⟨Yb, 2, none⟩ = some kv := by rw [Lib.cell_of_heap p.hY]; rfl
theorem SoAt.ltY (p : SoAt Xb Rb Yb T mv kv svs kvs n n2 xs w0 w) : Yb < w.heap.size := (Array.getElem?_eq_some_iff.1 p.hY).1
theorem grown_below {B : Nat} {w w1 w2 : World} {row : Option Nat} (h : Below B w w1) (hB : B ≤ w1.heap.size) (hg : w1.grownBy w2 row) (hr : ∀ k, row = some k → B ≤ k) : Below B w w2 :=
  ⟨hg.os.trans h.os, hg.tape.trans h.tape, hg.output.trans h.output, Nat.le_trans h.size hg.size, fun k hk => (hg.block k (Nat.lt_of_lt_of_le hk hB) (fun e => by
    have := hr k e.symm
    omega)).trans (h.block k hk)⟩
theorem own_isS {w : World} {B : Nat} {T : TypeId} {size : Nat} {v : Value} {n : Nat} {xs : List Value} (h : w.ownsRow B T size v n xs) : ∃ ao c, v = .slice ao n c := by
  rcases h.2 with ⟨hv, h0⟩ | ⟨g, cap, cur, hv, _⟩
  · exact ⟨none, 0, by rw [hv, h0]⟩
  · exact ⟨_, _, hv⟩
theorem rows_ne {w : World} {B B' : Nat} {T T' : TypeId} {size size' n n' : Nat} {v v' : Value} {xs xs' : List Value} (h : w.ownsRow B T size v n xs) (h' : w.ownsRow B' T' size' v' n' xs') (hT : T ≠ T') : ∀ k, v.ownBlock = some k → v'.ownBlock ≠ some k := by
  intro k hk
  rcases h.2 with ⟨rfl, _⟩ | ⟨g, cap, cur, rfl, _, hg, _⟩
  · simp [Value.ownBlock] at hk
  · obtain rfl : g = k := by simpa [Value.ownBlock] using hk
    exact own_ne h' hg (by intro cs fr hc; injection hc with _ h3 _; exact hT h3)
theorem row_grown {w w' : World} {B B' : Nat} {T T' : TypeId} {size size' n n' : Nat} {v v' : Value} {xs xs' : List Value} (h : w.ownsRow B T size v n xs) (h' : w.ownsRow B' T' size' v' n' xs') (hT : T ≠ T') (hg : w.grownBy w' v'.ownBlock) : w'.ownsRow B T size v n xs :=
  own_step h fun k hk => hg.block k (h.lt k hk).2 (fun e => rows_ne h h' hT k hk e.symm)
theorem row_set {w : World} {B : Nat} {T : TypeId} {size n : Nat} {v : Value} {xs : List Value} (h : w.ownsRow B T size v n xs) {k : Nat} {cs : Array Value} {U : TypeId} {fr : Nat × Nat} (hk : w.heap[k]? = some (.cells cs U fr)) (hU : U ≠ T) (i : Nat) (u : Value) : (w.setCell ⟨k, i, none⟩ u).ownsRow B T size v n xs :=
  own_step h fun j hj => Below.heap_setCell _ _ _ _ (fun e => own_ne h hk (by intro cs' fr' hc; injection hc with _ h3 _; exact hU h3) (by rw [hj, e]))

/-- A row of notes is appended. -/
theorem SoAt.addRow {n' : Nat} {mv' : Value} {svs' : List Value} {c : Array Value} (p : SoAt Xb Rb Yb T mv kv svs kvs n n2 xs w0 w) (hg : (w.alloc (.cells c 23)).grownBy w' mv.ownBlock) (hown : w'.ownsRow w0.heap.size 23 1 mv' n' svs') :
    SoAt Xb Rb Yb T mv' kv svs' kvs n' n2 xs w0 (w'.setCell ⟨Yb, 1, none⟩ mv') ∧ w'.heap[Yb]? = some (.cells #[.string T, mv, kv] 25 (0, 0)) := by
  have pa := p.step ((Below.refl _ w).alloc (Nat.le_refl _) (.cells c 23))
  generalize w.alloc (.cells c 23) = v at hg pa
  have ne : ∀ {k : Nat} {cs : Array Value}, v.heap[k]? = some (.cells cs 25 (0, 0)) → w'.heap[k]? = some (.cells cs 25 (0, 0)) := fun {k cs} hk =>
    (hg.block k (Array.getElem?_eq_some_iff.1 hk).1 (fun e => own_ne pa.rows hk (by intro cs' fr hc; injection hc with _ h2 _; exact absurd h2 (by decide)) e.symm)).trans hk
  have hY := ne pa.hY
  exact ⟨⟨(Below.heap_setCell _ _ _ _ p.nXY).trans (ne pa.hX), (Below.heap_setCell _ _ _ _ p.nRY).trans (ne pa.hR), by rw [Lib.heap_setCell_same hY]; rfl, row_set hown hY (by decide) _ _, row_set (row_grown pa.keys pa.rows (by decide) hg) hY (by decide) _ _,
    (grown_below pa.below pa.below.size hg fun k hk => (pa.rows.lt k hk).1).setCell (p := ⟨Yb, 1, none⟩) p.lY _, p.lY, p.lR, p.nXY, p.nRY⟩, hY⟩
/-- A key is appended. -/
theorem SoAt.addKey {n' : Nat} {kv' : Value} {kvs' : List Value} {c : Array Value} (p : SoAt Xb Rb Yb T mv kv svs kvs n n2 xs w0 w) (hg : (w.alloc (.cells c 5)).grownBy w' kv.ownBlock) (hown : w'.ownsRow w0.heap.size 5 1 kv' n' kvs') :
    SoAt Xb Rb Yb T mv kv' svs kvs' n n' xs w0 (w'.setCell ⟨Yb, 2, none⟩ kv') ∧ w'.heap[Yb]? = some (.cells #[.string T, mv, kv] 25 (0, 0)) := by
  have pa := p.step ((Below.refl _ w).alloc (Nat.le_refl _) (.cells c 5))
  generalize w.alloc (.cells c 5) = v at hg pa
  have ne : ∀ {k : Nat} {cs : Array Value}, v.heap[k]? = some (.cells cs 25 (0, 0)) → w'.heap[k]? = some (.cells cs 25 (0, 0)) := fun {k cs} hk =>
    (hg.block k (Array.getElem?_eq_some_iff.1 hk).1 (fun e => own_ne pa.keys hk (by intro cs' fr hc; injection hc with _ h2 _; exact absurd h2 (by decide)) e.symm)).trans hk
  have hY := ne pa.hY
  exact ⟨⟨(Below.heap_setCell _ _ _ _ p.nXY).trans (ne pa.hX), (Below.heap_setCell _ _ _ _ p.nRY).trans (ne pa.hR), by rw [Lib.heap_setCell_same hY]; rfl, row_set (row_grown pa.rows pa.keys (by decide) hg) hY (by decide) _ _, row_set hown hY (by decide) _ _,
    (grown_below pa.below pa.below.size hg fun k hk => (pa.keys.lt k hk).1).setCell (p := ⟨Yb, 2, none⟩) p.lY _, p.lY, p.lR, p.nXY, p.nRY⟩, hY⟩
end

/-- What is made is a sheet. -/
theorem sheet_of {B : Nat} {mv kv : Value} {svs : List Value} {w : World} {ls : List (List UInt8)} {kl : List UInt8} (hrows : w.ownsRow B 23 1 mv ls.length svs) (hkeys : w.ownsRow B 5 1 kv kl.length (u8s kl)) (hs : SvIs w svs ls) (hl : kl.length = ls.length) :
    ∃ mo mc ko kc, mv = .slice mo ls.length mc ∧ kv = .slice ko ls.length kc ∧ ShIs w (ls.zip kl) mo ko := by
  obtain ⟨mo, mc, rfl⟩ := own_isS hrows
  obtain ⟨ko, kc, rfl⟩ := own_isS hkeys
  refine ⟨mo, mc, ko, kc, rfl, by rw [hl], fun i m hi => ?_, fun i m hi => ?_⟩
  · obtain ⟨h1, h2⟩ := List.getElem?_zip_eq_some.1 hi
    obtain ⟨ao, c, hsv, hsl⟩ := hs.2 i m.1 h1
    have hpos : 0 < ls.length := by have := (List.getElem?_eq_some_iff.1 h1).1; omega
    obtain ⟨g, cap, e, _, _⟩ := hrows.form hpos
    injection e with e1 e2 e3
    exact ⟨⟨g, 0, none⟩, ao, c, e1, hrows.cells (g := g) (by rw [e1]; rfl) i _ hsv, hsl⟩
  · obtain ⟨h1, h2⟩ := List.getElem?_zip_eq_some.1 hi
    have hpos : 0 < kl.length := by have := (List.getElem?_eq_some_iff.1 h2).1; omega
    obtain ⟨g, cap, e, _, _⟩ := hkeys.form hpos
    injection e with e1 e2 e3
    exact ⟨⟨g, 0, none⟩, e1, hkeys.cells (g := g) (by rw [e1]; rfl) i _ (by simp [u8s, h2])⟩
end Go.Proofs.YtjnkppneilmpbaaGreatDoor

namespace Go.Proofs.YtjnkppneilmpbaaGreatDoor
open Go.RowKit

theorem ck_int (b : Bool) (n : Nat) (k : Int) (w : World) : (Instr.checkKey b (n + 1) 3 (.int .i64 k)).run Tryz.prog w = .ok () w := by
  unfold Instr.checkKey
  simp [Sem.run_bind, run_underlying Tryz.underlying3, Result.andThen]
theorem ck_int' (b : Bool) (k : Int) (w : World) : (Instr.checkKey b 10000 3 (.int .i64 k)).run Tryz.prog w = .ok () w := ck_int b 9999 k w
theorem setObj_run {M : Nat} {es : Array MapEntry} {clk : Nat} {w : World} (o : Obj) (h : w.heap[M]? = some (.map es clk)) : (setObj M o).run Tryz.prog w = .ok () { w with heap := w.heap.setIfInBounds M o } := by
  simp [setObj, Sem.run, h]
theorem getObj_run {M : Nat} {es : Array MapEntry} {clk : Nat} {w : World} (h : w.heap[M]? = some (.map es clk)) : (getObj M).run Tryz.prog w = .ok (.map es clk) w := by
  simp [getObj, Sem.run, h]
theorem find_none (k : Int) (w : World) : (Instr.findKey 3 (.int .i64 k) []).run Tryz.prog w = .ok none w := by
  unfold Instr.findKey
  simp [run_underlying Tryz.underlying3, Result.andThen, Instr.findNow]
theorem find_one (k b : Int) (born : Nat) (w : World) : (Instr.findKey 3 (.int .i64 k) [⟨.int .i64 k, .int .i64 b, born⟩]).run Tryz.prog w = .ok (some (0, .int .i64 b)) w := by
  unfold Instr.findKey
  simp [Sem.run_bind, run_underlying Tryz.underlying3, Result.andThen, Instr.findNow, Instr.sameNow]
theorem keep_run (k : Int) (w : World) : (Instr.keyThatStays (.int .i64 k) (.int .i64 k)).run Tryz.prog w = .ok (.int .i64 k) w := by
  unfold Instr.keyThatStays
  have : Instr.sameBits 10000 (.int .i64 k) (.int .i64 k) = true := by
    show Instr.sameBits (9999 + 1) _ _ = true
    unfold Instr.sameBits
    simp
  simp [this]

theorem look_none {M : Nat} {clk : Nat} {w : World} (h : w.heap[M]? = some (.map #[] clk)) (k : Int) :
    (Instr.lookup 94 (.map (some M)) (.int .i64 k) false).run Tryz.prog w = .ok (.int .i64 0) w := by
  unfold Instr.lookup
  simp only [Sem.run_bind, run_underlying Tryz.underlying94, Result.andThen_ok, getObj_run h, Sem.run_pure, ck_int', find_none, Tryz.zeroValue3, Bool.false_eq_true, if_false]
theorem look_one {M : Nat} {clk born : Nat} {w : World} {k b : Int} (h : w.heap[M]? = some (.map #[⟨.int .i64 k, .int .i64 b, born⟩] clk)) :
    (Instr.lookup 94 (.map (some M)) (.int .i64 k) false).run Tryz.prog w = .ok (.int .i64 b) w := by
  unfold Instr.lookup
  simp only [Sem.run_bind, run_underlying Tryz.underlying94, Result.andThen_ok, getObj_run h, Sem.run_pure, ck_int', find_one, Bool.false_eq_true, if_false]
theorem put_none {M : Nat} {clk : Nat} {w : World} (h : w.heap[M]? = some (.map #[] clk)) (k v : Int) :
    (Instr.mapUpdate 94 (.map (some M)) (.int .i64 k) (.int .i64 v)).run Tryz.prog w = .ok () { w with heap := w.heap.setIfInBounds M (.map #[⟨.int .i64 k, .int .i64 v, clk⟩] (clk + 1)) } := by
  unfold Instr.mapUpdate
  simp only [Sem.run_bind, run_underlying Tryz.underlying94, Result.andThen_ok, getObj_run h, ck_int', find_none]
  rw [setObj_run _ h]; rfl
theorem put_one {M : Nat} {clk born : Nat} {w : World} {k b : Int} (h : w.heap[M]? = some (.map #[⟨.int .i64 k, .int .i64 b, born⟩] clk)) (v : Int) :
    (Instr.mapUpdate 94 (.map (some M)) (.int .i64 k) (.int .i64 v)).run Tryz.prog w = .ok () { w with heap := w.heap.setIfInBounds M (.map #[⟨.int .i64 k, .int .i64 v, born⟩] clk) } := by
  unfold Instr.mapUpdate
  simp only [Sem.run_bind, run_underlying Tryz.underlying94, Result.andThen_ok, getObj_run h, ck_int', find_one]
  have e : ((#[(⟨.int .i64 k, .int .i64 b, born⟩ : MapEntry)][0]?).map (·.key)).getD (.int .i64 k) = .int .i64 k := rfl
  simp only [e, keep_run, Result.andThen_ok]
  rw [setObj_run _ h]; rfl
end Go.Proofs.YtjnkppneilmpbaaGreatDoor

namespace Go.Proofs.YtjnkppneilmpbaaGreatDoor
open Go.RowKit

/-- How the map of the greatest numbers takes a number of a site: what it had, and what it has then. -/
structure Upd (ls b0 : Int) (es : Array MapEntry) (clk : Nat) (es' : Int → Array MapEntry) (clk' : Nat) : Prop where
  look : ∀ (M : Nat) (w : World), w.heap[M]? = some (.map es clk) → (Instr.lookup 94 (.map (some M)) (.int .i64 ls) false).run Tryz.prog w = .ok (.int .i64 b0) w
  put : ∀ (M : Nat) (w : World) (v : Int), w.heap[M]? = some (.map es clk) → (Instr.mapUpdate 94 (.map (some M)) (.int .i64 ls) (.int .i64 v)).run Tryz.prog w = .ok () { w with heap := w.heap.setIfInBounds M (.map (es' v) clk') }

def entry (k v : Int) (born : Nat) : Array MapEntry := #[⟨.int .i64 k, .int .i64 v, born⟩]

theorem upd_none (ls : Int) (clk : Nat) : Upd ls 0 #[] clk (fun v => entry ls v clk) (clk + 1) := ⟨fun _ _ h => look_none h ls, fun _ _ v h => put_none h ls v⟩
theorem upd_one (ls b0 : Int) (born clk : Nat) : Upd ls b0 (entry ls b0 born) clk (fun v => entry ls v born) clk := ⟨fun _ _ h => look_one h, fun _ _ v h => put_one h v⟩

section
variable {Y M : Nat} {tv : Value} {toks : List Tok} {pos : Nat} {line col e : Int} {free : Bool} {ls ln : Int} {es : Array MapEntry} {clk : Nat} {w : World} {t : Tok}

theorem Prs.remap (h : Prs Y M tv toks pos line col e free ls ln es clk w) (es' : Array MapEntry) (clk' : Nat) : Prs Y M tv toks pos line col e free ls ln es' clk' { w with heap := w.heap.setIfInBounds M (.map es' clk') } := by
  have hne := h.ne
  refine ⟨?_, ?_, fun he => own_step (h.row he) fun k hk => ?_⟩
  · show (w.heap.setIfInBounds M _)[Y]? = _
    rw [Array.getElem?_setIfInBounds_ne (fun e => hne e.symm)]; exact h.blk
  · show (w.heap.setIfInBounds M _)[M]? = _
    rw [Array.getElem?_setIfInBounds_self_of_lt h.ltM]
  · show (w.heap.setIfInBounds M _)[k]? = _
    rw [Array.getElem?_setIfInBounds_ne]
    rintro rfl
    exact own_ne (h.row he) h.map (by intro cs' fr' hc; cases hc) hk

theorem Away.remap {bs : List Nat} {a w : World} (h : Away bs a w) {M : Nat} (hM : M ∈ bs) (o : Obj) : Away bs a { w with heap := w.heap.setIfInBounds M o } :=
  ⟨h.os, h.tape, h.output, by simpa using h.size, fun k hk hb => by
    show (w.heap.setIfInBounds M o)[k]? = _
    rw [Array.getElem?_setIfInBounds_ne (fun e => hb (by rw [← e]; exact hM))]; exact h.block k hk hb⟩

set_option maxHeartbeats 8000000 in
set_option maxRecDepth 100000 in
theorem object_next {b0 : Int} {es' : Int → Array MapEntry} {clk' : Nat} (h : Prs Y M tv toks pos line col 0 false ls ln es clk w) (ht : toks[pos]? = some t) (k : IsTok t atS = false) (hln : ln ≠ 1073741824) (hl0 : 0 ≤ ln) (hl1 : ln ≤ 1073741824)
    (U : Upd ls b0 es clk es' clk') (hb : b0 ≤ ln + 1) :
    Calls Tryz.prog 34 #[.pointer (some ⟨Y, 0, none⟩)] w fun r w' => r = .returned (.agg #[.int .i64 ls, .int .i64 (ln + 1)]) ∧ Prs Y M tv toks pos line col 0 false ls (ln + 1) (es' (ln + 1)) clk' w' ∧ Away [Y, M] w w' := by
  have hw : IntKind.i64.wrap (ln + 1) = ln + 1 := IntWalk.i64_in _ (by omega)
  have lY := h.lt
  have lM := h.ltM
  have b00 := (Below.refl w.heap.size w).alloc (Nat.le_refl _) (.cells #[.int .i64 0, .int .i64 0] 42)
  have h0 := h.step b00
  have x1 := is_ok h0 ht atS k
  have hR0 := heap_alloc_new w (.cells #[.int .i64 0, .int .i64 0] 42)
  have hRY : w.heap.size ≠ Y := by omega
  have hRM : w.heap.size ≠ M := by omega
  go_enter Tryz.func34, Tryz.ntmps34
  go_wp2_with (go_at_call 29; refine x1.mono ?_)
  intro r w1; first | (intro he b1; subst he) | rintro ⟨rfl, b1⟩
  generalize hR : w.heap.size = R at hR0 hRY hRM b00 ⊢
  have hR1 := (b1.block _ (Array.getElem?_eq_some_iff.1 hR0).1).trans hR0
  have h1 := h0.step b1
  have lR1 := (Array.getElem?_eq_some_iff.1 hR1).1
  have aw := (Away.of_below (bs := [Y, M]) (hR ▸ b00)).trans (Away.of_below b1)
  clear x1 h0 h b1 b00 hR0
  have c5 := h1.c5
  have c7 := h1.c7
  have f7 := h1.fz 7
  go_wp2
  have h2 := h1.put (pos' := pos) (line' := line) (col' := col) (e' := 0) (ls' := ls) (ln' := ln + 1) 7 (.int .i64 (ln + 1)) (fun h => h) rfl
  have aw2 := aw.setCell (p := ⟨Y, 7, none⟩) (.inl (by simp)) (.int .i64 (ln + 1))
  have hR2 := (Below.heap_setCell w1 ⟨Y, 7, none⟩ (.int .i64 (ln + 1)) R hRY).trans hR1
  generalize w1.setCell ⟨Y, 7, none⟩ (.int .i64 (ln + 1)) = w2 at h2 aw2 hR2 ⊢
  clear h1 aw hR1 c5 c7 f7 lR1
  have d6 := h2.c6
  have d7 := h2.c7
  have d8 := h2.c8
  have hlk := U.look M w2.drew h2.map
  have hput := U.put M w2.drew (ln + 1) h2.map
  have hmx : max b0 (ln + 1) = ln + 1 := by omega
  go_still_tail 25, (by kernel_rfl)
  change wpList _ _ _ _ _ w2.drew
  have h3 := (h2.step (Below.refl _ w2).drew).remap (es' (ln + 1)) clk'
  have aw3 := aw2.drew.remap (M := M) (by simp) (.map (es' (ln + 1)) clk')
  have hR3 : ({ w2.drew with heap := w2.drew.heap.setIfInBounds M (.map (es' (ln + 1)) clk') } : World).heap[R]? = some (.cells #[.int .i64 0, .int .i64 0] 42 (0, 0)) := (Array.getElem?_setIfInBounds_ne (fun e => hRM e.symm)).trans hR2
  generalize hw3 : ({ w2.drew with heap := w2.drew.heap.setIfInBounds M (.map (es' (ln + 1)) clk') } : World) = w3 at h3 aw3 hR3 hput
  clear h2 aw2 hR2 hlk
  have e6 := h3.c6
  have e7 := h3.c7
  have r0 : w3.cell? ⟨R, 0, none⟩ = some (.int .i64 0) := by rw [Lib.cell_of_heap hR3]; rfl
  have r1 : w3.cell? ⟨R, 1, none⟩ = some (.int .i64 0) := by rw [Lib.cell_of_heap hR3]; rfl
  have fr0 : w3.frozen? ⟨R, 0, none⟩ = false := Lib.frozen_of_heap hR3 0
  have fr1 : w3.frozen? ⟨R, 1, none⟩ = false := Lib.frozen_of_heap hR3 1
  have hR4 := Lib.heap_setCell_same (i := 1) (Lib.heap_setCell_same (i := 0) hR3 (.int .i64 ls)) (.int .i64 (ln + 1))
  have h4 := (h3.elsewhere hR3 (by decide) (by decide) 0 (.int .i64 ls)).elsewhere (Lib.heap_setCell_same (i := 0) hR3 (.int .i64 ls)) (by decide) (by decide) 1 (.int .i64 (ln + 1))
  have aw4 := (aw3.setCell (p := ⟨R, 0, none⟩) (.inr (by rw [hR]; exact Nat.le_refl _)) (.int .i64 ls)).setCell (p := ⟨R, 1, none⟩) (.inr (by rw [hR]; exact Nat.le_refl _)) (.int .i64 (ln + 1))
  clear h3 aw3 hR3
  go_wp2
  refine bodyPost_ret (results_cell_row rfl _ _ R 42 _ (0, 0) _ rfl hR4 Tryz.underlying42 rfl Tryz.sizeId) rfl ?_
  exact ⟨rfl, h4, aw4⟩
end
end Go.Proofs.YtjnkppneilmpbaaGreatDoor

namespace Go.Proofs.YtjnkppneilmpbaaGreatDoor
open Go.RowKit

section
variable {Y M : Nat} {tv : Value} {toks : List Tok} {pos : Nat} {line col e : Int} {free : Bool} {ls ln : Int} {es : Array MapEntry} {clk : Nat} {w : World} {t : Tok}

set_option maxHeartbeats 8000000 in
set_option maxRecDepth 100000 in
theorem object_at {b0 : Int} {es' : Int → Array MapEntry} {clk' : Nat} (h : Prs Y M tv toks pos line col 0 false ls ln es clk w) {t0 t1 t2 t3 : Tok} (ht0 : toks[pos]? = some t0) (ht1 : toks[pos + 1]? = some t1) (ht2 : toks[pos + 2]? = some t2) (ht3 : toks[pos + 3]? = some t3) (k0 : IsTok t0 atS = true) (k1 : t1.kind = 2) (k2 : IsTok t2 dotS = true) (k3 : t3.kind = 2) (hpos : pos ≤ 1048000) (hs0 : 0 ≤ t1.value) (hs1 : t1.value ≤ 99) (hn0 : 1 ≤ t3.value) (hn1 : t3.value ≤ 1073741824) (U : Upd t1.value b0 es clk es' clk') (hb : b0 ≤ t3.value) :
    Calls Tryz.prog 34 #[.pointer (some ⟨Y, 0, none⟩)] w fun r w' => r = .returned (.agg #[.int .i64 (t1.value), .int .i64 (t3.value)]) ∧ Prs Y M tv toks (pos + 4) line col 0 false (t1.value) (t3.value) (es' (t3.value)) clk' w' ∧ Away [Y, M] w w' := by
  have lY := h.lt
  have lM := h.ltM
  have b00 := (Below.refl w.heap.size w).alloc (Nat.le_refl _) (.cells #[.int .i64 0, .int .i64 0] 42)
  have h0 := h.step b00
  have x1 := is_ok h0 ht0 atS k0
  have hR0 := heap_alloc_new w (.cells #[.int .i64 0, .int .i64 0] 42)
  have hRY : w.heap.size ≠ Y := by omega
  have hRM : w.heap.size ≠ M := by omega
  go_enter Tryz.func34, Tryz.ntmps34
  go_wp2_with (go_at_call 29; refine x1.mono ?_)
  intro r w1; first | (intro he b1; subst he) | rintro ⟨rfl, b1⟩
  generalize hR : w.heap.size = R at hR0 hRY hRM b00 ⊢
  have hR1 := (b1.block _ (Array.getElem?_eq_some_iff.1 hR0).1).trans hR0
  have h1 := h0.step b1
  have lR1 := (Array.getElem?_eq_some_iff.1 hR1).1
  have aw := (Away.of_below (bs := [Y, M]) (hR ▸ b00)).trans (Away.of_below b1)
  clear x1 h0 h b1 b00 hR0
  have x2 := written_ok h1 ht0 ht1 ht2 ht3 k0 k1 k2 k3 hpos hs0 hs1 hn0 hn1
  go_wp2_with (go_at_call 28; refine x2.mono ?_)
  intro r w1b; first | (intro he hs b2; subst he) | rintro ⟨rfl, hs, b2⟩
  have hR1b := b2.heap hR1 (by simpa using hRY)
  have awb := aw.trans (b2.more (by simp))
  have f6 := hs.fz 6
  have f7 := hs.fz 7
  have c6 := hs.c6
  have c7 := hs.c7
  clear x2 h1 aw b2 hR1 lR1
  have h2 := (hs.put (pos' := (pos + 4)) (line' := line) (col' := col) (e' := 0) (ls' := t1.value) (ln' := ln) 6 (.int .i64 (t1.value)) (fun h => h) rfl).put (pos' := (pos + 4)) (line' := line) (col' := col) (e' := 0) (ls' := t1.value) (ln' := t3.value) 7 (.int .i64 (t3.value)) (fun h => h) rfl
  have aw2 := (awb.setCell (p := ⟨Y, 6, none⟩) (.inl (by simp)) (.int .i64 (t1.value))).setCell (p := ⟨Y, 7, none⟩) (.inl (by simp)) (.int .i64 (t3.value))
  have hR2 := (Below.heap_setCell (w1b.setCell ⟨Y, 6, none⟩ (.int .i64 (t1.value))) ⟨Y, 7, none⟩ (.int .i64 (t3.value)) R hRY).trans ((Below.heap_setCell w1b ⟨Y, 6, none⟩ (.int .i64 (t1.value)) R hRY).trans hR1b)
  go_wp2
  generalize (w1b.setCell ⟨Y, 6, none⟩ (.int .i64 (t1.value))).setCell ⟨Y, 7, none⟩ (.int .i64 (t3.value)) = w2 at h2 aw2 hR2 ⊢
  clear hs awb hR1b c6 c7 f6 f7
  have d6 := h2.c6
  have d7 := h2.c7
  have d8 := h2.c8
  have hlk := U.look M w2.drew h2.map
  have hput := U.put M w2.drew (t3.value) h2.map
  have hmx : max b0 (t3.value) = t3.value := by omega
  go_still_tail 25, (by kernel_rfl)
  change wpList _ _ _ _ _ w2.drew
  have h3 := (h2.step (Below.refl _ w2).drew).remap (es' (t3.value)) clk'
  have aw3 := aw2.drew.remap (M := M) (by simp) (.map (es' (t3.value)) clk')
  have hR3 : ({ w2.drew with heap := w2.drew.heap.setIfInBounds M (.map (es' (t3.value)) clk') } : World).heap[R]? = some (.cells #[.int .i64 0, .int .i64 0] 42 (0, 0)) := (Array.getElem?_setIfInBounds_ne (fun e => hRM e.symm)).trans hR2
  generalize hw3 : ({ w2.drew with heap := w2.drew.heap.setIfInBounds M (.map (es' (t3.value)) clk') } : World) = w3 at h3 aw3 hR3 hput
  clear h2 aw2 hR2 hlk
  have e6 := h3.c6
  have e7 := h3.c7
  have r0 : w3.cell? ⟨R, 0, none⟩ = some (.int .i64 0) := by rw [Lib.cell_of_heap hR3]; rfl
  have r1 : w3.cell? ⟨R, 1, none⟩ = some (.int .i64 0) := by rw [Lib.cell_of_heap hR3]; rfl
  have fr0 : w3.frozen? ⟨R, 0, none⟩ = false := Lib.frozen_of_heap hR3 0
  have fr1 : w3.frozen? ⟨R, 1, none⟩ = false := Lib.frozen_of_heap hR3 1
  have hR4 := Lib.heap_setCell_same (i := 1) (Lib.heap_setCell_same (i := 0) hR3 (.int .i64 (t1.value))) (.int .i64 (t3.value))
  have h4 := (h3.elsewhere hR3 (by decide) (by decide) 0 (.int .i64 (t1.value))).elsewhere (Lib.heap_setCell_same (i := 0) hR3 (.int .i64 (t1.value))) (by decide) (by decide) 1 (.int .i64 (t3.value))
  have aw4 := (aw3.setCell (p := ⟨R, 0, none⟩) (.inr (by rw [hR]; exact Nat.le_refl _)) (.int .i64 (t1.value))).setCell (p := ⟨R, 1, none⟩) (.inr (by rw [hR]; exact Nat.le_refl _)) (.int .i64 (t3.value))
  clear h3 aw3 hR3
  go_wp2
  refine bodyPost_ret (results_cell_row rfl _ _ R 42 _ (0, 0) _ rfl hR4 Tryz.underlying42 rfl Tryz.sizeId) rfl ?_
  exact ⟨rfl, h4, aw4⟩
end
end Go.Proofs.YtjnkppneilmpbaaGreatDoor

namespace Go.Proofs.YtjnkppneilmpbaaGreatDoor
open Go.RowKit Go.Dam

theorem ck_str (b : Bool) (k : ByteArray) (w : World) : (Instr.checkKey b 10000 9 (.string k)).run Tryz.prog w = .ok () w := by
  show (Instr.checkKey b (9999 + 1) 9 (.string k)).run Tryz.prog w = .ok () w
  unfold Instr.checkKey
  simp [Sem.run_bind, run_underlying Tryz.underlying9, Result.andThen]
theorem find_str (k : ByteArray) {es : List MapEntry} {r : Option (Nat × Value)} (h : Instr.findNow .string (.string k) es 0 = some r) (w : World) : (Instr.findKey 9 (.string k) es).run Tryz.prog w = .ok r w := by
  unfold Instr.findKey
  simp [Sem.run_bind, run_underlying Tryz.underlying9, Result.andThen, h]

theorem look_str_no {M : Nat} {es : Array MapEntry} {clk : Nat} {w : World} (h : w.heap[M]? = some (.map es clk)) (k : ByteArray) (hf : Instr.findNow .string (.string k) es.toList 0 = some none) :
    (Instr.lookup 108 (.map (some M)) (.string k) true).run Tryz.prog w = .ok (.tuple #[.int .i64 0, .bool false]) w := by
  unfold Instr.lookup
  simp only [Sem.run_bind, run_underlying Tryz.underlying108, Result.andThen_ok, getObj_run h, Sem.run_pure, ck_str, find_str k hf, Tryz.zeroValue3, if_true]
theorem look_str_yes {M : Nat} {es : Array MapEntry} {clk : Nat} {w : World} (h : w.heap[M]? = some (.map es clk)) (k : ByteArray) {i : Nat} {v : Value} (hf : Instr.findNow .string (.string k) es.toList 0 = some (some (i, v))) :
    (Instr.lookup 108 (.map (some M)) (.string k) true).run Tryz.prog w = .ok (.tuple #[v, .bool true]) w := by
  unfold Instr.lookup
  simp only [Sem.run_bind, run_underlying Tryz.underlying108, Result.andThen_ok, getObj_run h, Sem.run_pure, ck_str, find_str k hf, if_true]

theorem alloc_over (w : World) (o o' : Obj) : ({ w.alloc o with heap := (w.alloc o).heap.setIfInBounds w.heap.size o' } : World) = w.alloc o' := by
  show ({ w with heap := (w.heap.push o).setIfInBounds w.heap.size o' } : World) = { w with heap := w.heap.push o' }
  congr 1
  apply Array.ext'
  simp

theorem put_str {es : Array MapEntry} {clk : Nat} {w : World} (k : ByteArray) (v : Value) (hf : Instr.findNow .string (.string k) es.toList 0 = some none) :
    (Instr.mapUpdate 108 (.map (some w.heap.size)) (.string k) v).run Tryz.prog (w.alloc (.map es clk)) = .ok () (w.alloc (.map (es.push ⟨.string k, v, clk⟩) (clk + 1))) := by
  unfold Instr.mapUpdate
  have h : (w.alloc (.map es clk)).heap[w.heap.size]? = some (.map es clk) := heap_alloc_new w _
  simp only [Sem.run_bind, run_underlying Tryz.underlying108, Result.andThen_ok, getObj_run h, ck_str, find_str k hf]
  rw [setObj_run _ h, alloc_over]

def kw (i : Nat) : ByteArray := match i with
  | 0 => ⟨#[115, 108, 117, 114]⟩
  | 1 => ⟨#[99, 114, 101, 115, 99, 101, 110, 100, 111]⟩
  | 2 => ⟨#[100, 105, 109, 105, 110, 117, 101, 110, 100, 111]⟩
  | 3 => ⟨#[111, 99, 116, 97, 118, 101, 117, 112]⟩
  | 4 => ⟨#[111, 99, 116, 97, 118, 101, 100, 111, 119, 110]⟩
  | 5 => ⟨#[112, 101, 100, 97, 108]⟩
  | _ => ⟨#[116, 114, 105, 108, 108]⟩
/-- The first k entries of the spanners' words. -/
def kEs (k : Nat) : Array MapEntry := ((List.range k).map fun i => (⟨.string (kw i), .int .i64 (i + 1 : Nat), i⟩ : MapEntry)).toArray

theorem kput (i : Nat) (hi : i < 7) (w : World) : (Instr.mapUpdate 108 (.map (some w.heap.size)) (.string (kw i)) (.int .i64 (i + 1 : Nat))).run Tryz.prog (w.alloc (.map (kEs i) i)) = .ok () (w.alloc (.map (kEs (i + 1)) (i + 1))) := by
  have hf : Instr.findNow .string (.string (kw i)) (kEs i).toList 0 = some none := by
    rcases (by omega : i = 0 ∨ i = 1 ∨ i = 2 ∨ i = 3 ∨ i = 4 ∨ i = 5 ∨ i = 6) with rfl | rfl | rfl | rfl | rfl | rfl | rfl <;> rfl
  rw [put_str (kw i) _ hf]
  rcases (by omega : i = 0 ∨ i = 1 ∨ i = 2 ∨ i = 3 ∨ i = 4 ∨ i = 5 ∨ i = 6) with rfl | rfl | rfl | rfl | rfl | rfl | rfl <;> rfl

set_option maxHeartbeats 4000000 in
set_option maxRecDepth 100000 in
theorem kinds_walk (w : World) : Calls Tryz.prog 32 #[] w fun r w' => r = .returned (.map (some w.heap.size)) ∧ w' = w.alloc (.map (kEs 7) 7) := by
  have p0 := kput 0 (by decide) w
  have p1 := kput 1 (by decide) w
  have p2 := kput 2 (by decide) w
  have p3 := kput 3 (by decide) w
  have p4 := kput 4 (by decide) w
  have p5 := kput 5 (by decide) w
  have p6 := kput 6 (by decide) w
  have e0 : kEs 0 = #[] := rfl
  rw [e0] at p0
  generalize kEs 1 = k1 at p0 p1
  generalize kEs 2 = k2 at p1 p2
  generalize kEs 3 = k3 at p2 p3
  generalize kEs 4 = k4 at p3 p4
  generalize kEs 5 = k5 at p4 p5
  generalize kEs 6 = k6 at p5 p6
  generalize kEs 7 = k7 at p6 ⊢
  have q0 : (Instr.mapUpdate 108 (.map (some w.heap.size)) (.string ⟨#[115, 108, 117, 114]⟩) (.int .i64 1)).run Tryz.prog (w.alloc (.map #[] 0)) = .ok () (w.alloc (.map k1 1)) := p0
  have q1 : (Instr.mapUpdate 108 (.map (some w.heap.size)) (.string ⟨#[99, 114, 101, 115, 99, 101, 110, 100, 111]⟩) (.int .i64 2)).run Tryz.prog (w.alloc (.map k1 1)) = .ok () (w.alloc (.map k2 2)) := p1
  have q2 : (Instr.mapUpdate 108 (.map (some w.heap.size)) (.string ⟨#[100, 105, 109, 105, 110, 117, 101, 110, 100, 111]⟩) (.int .i64 3)).run Tryz.prog (w.alloc (.map k2 2)) = .ok () (w.alloc (.map k3 3)) := p2
  have q3 : (Instr.mapUpdate 108 (.map (some w.heap.size)) (.string ⟨#[111, 99, 116, 97, 118, 101, 117, 112]⟩) (.int .i64 4)).run Tryz.prog (w.alloc (.map k3 3)) = .ok () (w.alloc (.map k4 4)) := p3
  have q4 : (Instr.mapUpdate 108 (.map (some w.heap.size)) (.string ⟨#[111, 99, 116, 97, 118, 101, 100, 111, 119, 110]⟩) (.int .i64 5)).run Tryz.prog (w.alloc (.map k4 4)) = .ok () (w.alloc (.map k5 5)) := p4
  have q5 : (Instr.mapUpdate 108 (.map (some w.heap.size)) (.string ⟨#[112, 101, 100, 97, 108]⟩) (.int .i64 6)).run Tryz.prog (w.alloc (.map k5 5)) = .ok () (w.alloc (.map k6 6)) := p5
  have q6 : (Instr.mapUpdate 108 (.map (some w.heap.size)) (.string ⟨#[116, 114, 105, 108, 108]⟩) (.int .i64 7)).run Tryz.prog (w.alloc (.map k6 6)) = .ok () (w.alloc (.map k7 7)) := p6
  have hmk : (Instr.makeMap 108 none).run Tryz.prog w = .ok (.map (some w.heap.size)) (w.alloc (.map #[] 0)) := by
    simp [Instr.makeMap, newObj, Sem.run]
  clear p0 p1 p2 p3 p4 p5 p6 e0
  go_enter Tryz.func32, Tryz.ntmps32
  go_wp2
  go_ret
  exact ⟨rfl, rfl⟩
end Go.Proofs.YtjnkppneilmpbaaGreatDoor
