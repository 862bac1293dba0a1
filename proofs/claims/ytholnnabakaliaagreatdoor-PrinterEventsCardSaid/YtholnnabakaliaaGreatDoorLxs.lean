/-
  A part of the proof that the law PrinterEvents (chapter 20) returns true for every event: walks of the program's functions, and runs of them in the kernel by the own evaluator.
-/
import Derived.Test.YtholnnabakaliaaGreatDoorProg
import Derived.Lib.Builder
import Derived.Lib.BufferMore
import Derived.WalkKit
import Derived.WalkSmall
import Derived.Below
import Derived.Laws.Tables
import Derived.Laws.Rows
import Derived.Deep.RegionHeld3
import Derived.Deep.QuietTactic
import Derived.Test.YtholnnabakaliaaGreatDoorDamG
import Derived.KernelRfl
import Derived.Deep.LoopGhost
namespace Go.Proofs.YtholnnabakaliaaGreatDoor
open Go.RowKit

theorem belowDrewN {B : Nat} {a w : World} (h : Below B a w) (n : Nat) : Below B a (w.drewN n) := h.trans ⟨rfl, rfl, rfl, Nat.le_refl _, fun _ _ => rfl⟩

/-- The scanner at block X: it stands at 'pos' of 's', has the 'n' tokens whose cells are 'xs', and the error 'e' at 'wr'; the blocks 'ks' hold what they held; below B the world is w0's. -/
structure Scn (B X : Nat) (ks : List (Nat × Obj)) (s : ByteArray) (lines : Value) (pos : Int) (lv : Value) (n : Nat) (xs : List Value) (e wr : Int) (w0 w : World) : Prop where
  hX : B ≤ X
  hB : B ≤ w.heap.size
  blk : w.heap[X]? = some (.cells #[.string s, .int .i64 pos, lines, lv, .int .i64 e, .int .i64 wr] 123 (0, 0))
  own : w.ownsRow B 100 7 lv n xs
  keep : ∀ p ∈ ks, w.heap[p.1]? = some p.2 ∧ p.1 ≠ X ∧ B ≤ p.1 ∧ ∀ cs fr, p.2 ≠ .cells cs 100 fr
  below : Below B w0 w

theorem own_ne {w : World} {B : Nat} {e : TypeId} {size : Nat} {v : Value} {n : Nat} {xs : List Value} {b : Nat} {o : Obj} (hown : w.ownsRow B e size v n xs) (hb : w.heap[b]? = some o) (hTe : ∀ cs fr, o ≠ .cells cs e fr) : v.ownBlock ≠ some b := by
  rcases hown.2 with ⟨rfl, _⟩ | ⟨g, cap, cur, rfl, _, hg, _⟩
  · simp [Value.ownBlock]
  · intro h
    simp only [Value.ownBlock, Option.some.injEq] at h
    subst h
    rw [hg] at hb
    exact hTe _ _ (Option.some.inj hb).symm

theorem own_step {w w' : World} {B : Nat} {e : TypeId} {size : Nat} {v : Value} {n : Nat} {xs : List Value} (h : w.ownsRow B e size v n xs) (hb : ∀ k, v.ownBlock = some k → w'.heap[k]? = w.heap[k]?) : w'.ownsRow B e size v n xs := by
  refine ⟨h.1, ?_⟩
  rcases h.2 with hn | ⟨g, cap, cur, rfl, hg, hgg, rest⟩
  · exact .inl hn
  · exact .inr ⟨g, cap, cur, rfl, hg, (hb g rfl).trans hgg, rest⟩

section
variable {B X : Nat} {ks : List (Nat × Obj)} {s : ByteArray} {lines : Value} {pos : Int} {lv : Value} {n : Nat} {xs : List Value} {e wr : Int} {w0 w : World}

theorem Scn.lt (h : Scn B X ks s lines pos lv n xs e wr w0 w) : X < w.heap.size := (Array.getElem?_eq_some_iff.1 h.blk).1

/-- It lasts where nothing that was there is touched. -/
theorem Scn.step (h : Scn B X ks s lines pos lv n xs e wr w0 w) {w' : World} (hb : Below w.heap.size w w') : Scn B X ks s lines pos lv n xs e wr w0 w' := by
  have hB := h.hB
  refine ⟨h.hX, Nat.le_trans h.hB hb.size, (hb.block X h.lt).trans h.blk, own_step h.own fun k hk => hb.block k (h.own.lt k hk).2, fun p hp => ?_, h.below.trans (hb.mono h.hB)⟩
  obtain ⟨h1, h2, h3, h4⟩ := h.keep p hp
  exact ⟨(hb.block _ (Array.getElem?_eq_some_iff.1 h1).1).trans h1, h2, h3, h4⟩

/-- A store into the scanner's own cells. -/
theorem Scn.put (h : Scn B X ks s lines pos lv n xs e wr w0 w) (i : Nat) (u : Value) {pos' e' wr' : Int} (hu : (#[.string s, .int .i64 pos, lines, lv, .int .i64 e, .int .i64 wr] : Array Value).setIfInBounds i u = #[.string s, .int .i64 pos', lines, lv, .int .i64 e', .int .i64 wr']) :
    Scn B X ks s lines pos' lv n xs e' wr' w0 (w.setCell ⟨X, i, none⟩ u) := by
  have hne : lv.ownBlock ≠ some X := own_ne h.own h.blk (by intro cs fr hc; injection hc with _ h2 _; exact absurd h2 (by decide))
  refine ⟨h.hX, by simpa [World.setCell] using h.hB, ?_, own_step h.own fun k hk => Below.heap_setCell _ _ _ _ (fun e => hne (by rw [hk, e])), fun p hp => ?_, h.below.setCell (p := ⟨X, i, none⟩) h.hX _⟩
  · rw [Lib.heap_setCell_same h.blk, hu]
  · obtain ⟨h1, h2, h3, h4⟩ := h.keep p hp
    exact ⟨(Below.heap_setCell _ _ _ _ h2).trans h1, h2, h3, h4⟩

theorem Scn.at (h : Scn B X ks s lines pos lv n xs e wr w0 w) (q : Int) : Scn B X ks s lines q lv n xs e wr w0 (w.setCell ⟨X, 1, none⟩ (.int .i64 q)) := h.put 1 _ rfl
theorem Scn.fail (h : Scn B X ks s lines pos lv n xs e wr w0 w) (a b : Int) : Scn B X ks s lines pos lv n xs a b w0 ((w.setCell ⟨X, 5, none⟩ (.int .i64 b)).setCell ⟨X, 4, none⟩ (.int .i64 a)) := (h.put (e' := e) (wr' := b) (pos' := pos) 5 _ rfl).put 4 _ rfl

/-- A longer row of tokens. -/
theorem Scn.push (h : Scn B X ks s lines pos lv n xs e wr w0 w) {w' : World} {v' : Value} {n' : Nat} {xs' : List Value} (hg : w.grownBy w' lv.ownBlock) (hown : w'.ownsRow B 100 7 v' n' xs') :
    Scn B X ks s lines pos v' n' xs' e wr w0 (w'.setCell ⟨X, 3, none⟩ v') := by
  have hne : lv.ownBlock ≠ some X := own_ne h.own h.blk (by intro cs fr hc; injection hc with _ h2 _; exact absurd h2 (by decide))
  have hblk : w'.heap[X]? = some (.cells #[.string s, .int .i64 pos, lines, lv, .int .i64 e, .int .i64 wr] 123 (0, 0)) := (hg.block X h.lt (fun e => hne e.symm)).trans h.blk
  have hne' : v'.ownBlock ≠ some X := own_ne hown hblk (by intro cs fr hc; injection hc with _ h2 _; exact absurd h2 (by decide))
  refine ⟨h.hX, by simpa [World.setCell] using Nat.le_trans h.hB hg.size, ?_, own_step hown fun k hk => Below.heap_setCell _ _ _ _ (fun e => hne' (by rw [hk, e])), fun p hp => ?_, ?_⟩
  · rw [Lib.heap_setCell_same hblk]; rfl
  · obtain ⟨h1, h2, h3, h4⟩ := h.keep p hp
    have hnp : lv.ownBlock ≠ some p.1 := own_ne h.own h1 h4
    exact ⟨(Below.heap_setCell _ _ _ _ h2).trans ((hg.block _ (Array.getElem?_eq_some_iff.1 h1).1 (fun e => hnp e.symm)).trans h1), h2, h3, h4⟩
  · exact (h.below.grown hg h.hB (fun k hk => (h.own.lt k hk).1)).setCell (p := ⟨X, 3, none⟩) h.hX _

theorem Scn.c0 (h : Scn B X ks s lines pos lv n xs e wr w0 w) : w.cell? ⟨X, 0, none⟩ = some (.string s) := by rw [Lib.cell_of_heap h.blk]; rfl
theorem Scn.c1 (h : Scn B X ks s lines pos lv n xs e wr w0 w) : w.cell? ⟨X, 1, none⟩ = some (.int .i64 pos) := by rw [Lib.cell_of_heap h.blk]; rfl
theorem Scn.c2 (h : Scn B X ks s lines pos lv n xs e wr w0 w) : w.cell? ⟨X, 2, none⟩ = some lines := by rw [Lib.cell_of_heap h.blk]; rfl
theorem Scn.c3 (h : Scn B X ks s lines pos lv n xs e wr w0 w) : w.cell? ⟨X, 3, none⟩ = some lv := by rw [Lib.cell_of_heap h.blk]; rfl
theorem Scn.c4 (h : Scn B X ks s lines pos lv n xs e wr w0 w) : w.cell? ⟨X, 4, none⟩ = some (.int .i64 e) := by rw [Lib.cell_of_heap h.blk]; rfl
theorem Scn.c5 (h : Scn B X ks s lines pos lv n xs e wr w0 w) : w.cell? ⟨X, 5, none⟩ = some (.int .i64 wr) := by rw [Lib.cell_of_heap h.blk]; rfl
theorem Scn.fz (h : Scn B X ks s lines pos lv n xs e wr w0 w) (i : Nat) : w.frozen? ⟨X, i, none⟩ = false := Lib.frozen_of_heap h.blk i
theorem Scn.lvIs (h : Scn B X ks s lines pos lv n xs e wr w0 w) : ∃ ao c, lv = .slice ao n c := by
  rcases h.own.2 with ⟨hv, h0⟩ | ⟨g, cap, cur, hv, _⟩
  · exact ⟨none, 0, by rw [hv, h0]⟩
  · exact ⟨_, _, hv⟩
end

/-- A token. -/
structure Tok where
  kind : Int
  text : ByteArray
  value : Int
  bytes : ByteArray
  line : Int
  col : Int
  joined : Bool

def Tok.cells (t : Tok) : List Value := [.int .i64 t.kind, .string t.text, .int .i64 t.value, .string t.bytes, .int .i64 t.line, .int .i64 t.col, .bool t.joined]

def isLetter (c : Nat) : Bool := (decide (97 ≤ c) && decide (c ≤ 122)) || (decide (65 ≤ c) && decide (c ≤ 90))
def isDigit (c : Nat) : Bool := decide (48 ≤ c) && decide (c ≤ 57)
def isBlank (c : Nat) : Bool := decide (c = 32) || decide (c = 9) || decide (c = 10) || decide (c = 13)
def isInWord (c : Nat) : Bool := isLetter c || isDigit c || decide (c = 95)

end Go.Proofs.YtholnnabakaliaaGreatDoor

namespace Go.Proofs.YtholnnabakaliaaGreatDoor
open Go.RowKit

theorem run_loadVar_at {P : Program} (w : World) (p : Addr) (ty : TypeId) (cs : Array Value) (d : TypeDesc) (hc : ∀ (j : Nat) (v : Value), cs[j]? = some v → w.cell? (p.add j) = some v)
    (hu : P.underlying ty = some d) (hd : (match d with | .struct _ | .array _ _ => true | _ => false) = true) (hi : (P.info? ty).map (·.size) = some cs.size) :
    (loadVar ty p).run P w = .ok (.agg cs) w := by
  have hl : (loadCells p cs.toList.length).run P w = .ok cs.toList.toArray w := run_loadCells_list (P := P) w p cs.toList (fun j v hv => hc j v (by simpa using hv))
  cases hq : P.info? ty with
  | none => simp [hq] at hi
  | some i =>
    have hs : i.size = cs.size := by simpa [hq] using hi
    have hagg : (isAgg ty).run P w = .ok true w := by
      unfold isAgg
      rw [Sem.run_bind, run_underlying hu w]
      cases d <;> simp_all
    simp only [Array.length_toList, Array.toArray_toList] at hl
    simp [loadVar, Sem.run_bind, hagg, sizeOf, typeInfo, hq, hs, hl]

theorem wpList_load_at {P : Program} {ops : Array Oper} {rest : List Oper} {o : Oper} {a : Act} {w : World} {Q : Exit → Act → World → Prop} (hgd : o.guard = none) (ty : TypeId) (x : Operand) (ho : o.op = .load ty x)
    (p : Addr) (hx : a.eval x = .pointer (some p)) (cs : Array Value) (d : TypeDesc) (hc : ∀ (j : Nat) (v : Value), cs[j]? = some v → w.cell? (p.add j) = some v)
    (hu : P.underlying ty = some d) (hd : (match d with | .struct _ | .array _ _ => true | _ => false) = true) (hi : (P.info? ty).map (·.size) = some cs.size)
    (h : wpList P ops Q rest (a.put o.dst (.agg cs)) w) : wpList P ops Q (o :: rest) a w := by
  refine wpList_plain hgd fun _ hK => ?_
  unfold Oper.wp execOp
  simp only [ho, hx, Instr.loadAt, Instr.sureAddr, Sem.run_bind, Sem.run_pure, Result.andThen_ok, run_loadVar_at w p ty cs d hc hu hd hi]
  exact hK _ _ h

theorem alloc_setRow (w : World) (z cs : Array Value) (T : TypeId) : (w.alloc (.cells z T)).setRow w.heap.size cs = w.alloc (.cells cs T) := by
  have hh : ((w.alloc (.cells z T)).setRow w.heap.size cs).heap = (w.alloc (.cells cs T)).heap := by
    apply Array.ext_getElem?
    intro i
    by_cases hi : i = w.heap.size
    · subst hi
      rw [setRow_heap _ _ _ _ _ _ (heap_alloc_new w _), heap_alloc_new w _]
    · rw [setRow_other _ _ _ _ hi]
      show (w.heap.push _)[i]? = (w.heap.push _)[i]?
      rw [Array.getElem?_push, Array.getElem?_push, if_neg hi, if_neg hi]
  show ({ w.alloc (.cells z T) with heap := ((w.alloc (.cells z T)).setRow w.heap.size cs).heap } : World) = _
  rw [hh]
  rfl

/-- A copy of a row into a block that has just been laid. -/
theorem wpList_store_new {P : Program} {ops : Array Oper} {rest : List Oper} {o : Oper} {a : Act} {w : World} {Q : Exit → Act → World → Prop} (hgd : o.guard = none) (ty : TypeId) (x y : Operand) (ho : o.op = .store ty x y)
    (cells old : Array Value) (T : TypeId) {n : Nat} (hn : n = w.heap.size) (hx : a.eval x = .pointer (some ⟨n, 0, none⟩)) (hy : a.eval y = .agg cells) (hi : (P.info? ty).map (·.size) = some cells.size)
    (hold : old.size = cells.size) (h1 : cells.all (·.oneCell') = true)
    (h : wpList P ops Q rest (a.put o.dst undef) (w.alloc (.cells cells T))) : wpList P ops Q (o :: rest) a (w.alloc (.cells old T)) := by
  subst hn
  refine wpList_store_row hgd ty x y ho w.heap.size cells hx hy T old (heap_alloc_new w _) hi hold h1 ?_
  rw [alloc_setRow]
  exact h

/-- A struct that is built, told. -/
theorem wpList_build_l {P : Program} {ops : Array Oper} {rest : List Oper} {o : Oper} {a : Act} {w : World} {Q : Exit → Act → World → Prop} (hgd : o.guard = none) (t : TypeId) (parts : Array (Nat × Operand)) (ho : o.op = .build t parts) {l : List (Nat × Value)} (hl : (parts.map fun (i, x) => (i, a.eval x)).toList = l)
    {cs : Array Value} (hf : P.built t l = some cs) (h : wpList P ops Q rest (a.put o.dst (.agg cs)) w) : wpList P ops Q (o :: rest) a w := by
  subst hl
  exact wpList_build hgd t parts ho (by rw [hf]; rfl) (by rw [hf]; exact h)

/-- The elements of a slice: rows of s cells, one behind the other. -/
def Els (w : World) (s : Nat) (v : Value) (rows : List (Array Value)) : Prop :=
  (rows = [] ∧ v = .slice none 0 0) ∨
  ∃ g o cap, v = .slice (some ⟨g, o, none⟩) rows.length cap ∧ ∀ (j : Nat) (r : Array Value), rows[j]? = some r → r.size = s ∧ r.all (·.oneCell') = true ∧ ∀ (k : Nat) (u : Value), r[k]? = some u → w.cell? ⟨g, o + j * s + k, none⟩ = some u

theorem Els.is {w : World} {s : Nat} {v : Value} {rows : List (Array Value)} (h : Els w s v rows) : ∃ ao cap, v = .slice ao rows.length cap := by
  rcases h with ⟨rfl, rfl⟩ | ⟨g, o, cap, rfl, _⟩
  · exact ⟨_, _, rfl⟩
  · exact ⟨_, _, rfl⟩

/-- Element j of it. -/
theorem Els.at {w : World} {s : Nat} {ao : Option Addr} {n cap : Nat} {rows : List (Array Value)} (h : Els w s (.slice ao n cap) rows) {j : Nat} (hj : j < rows.length) :
    ∃ g o r, ao = some ⟨g, o, none⟩ ∧ rows[j]? = some r ∧ r.size = s ∧ r.all (·.oneCell') = true ∧ ∀ (k : Nat) (u : Value), r[k]? = some u → w.cell? ⟨g, o + j * s + k, none⟩ = some u := by
  rcases h with ⟨rfl, _⟩ | ⟨g, o, cap', e, h⟩
  · simp at hj
  · injection e with e1 e2 e3
    have hr : rows[j]? = some rows[j] := List.getElem?_eq_getElem hj
    obtain ⟨h1, h2, h3⟩ := h j _ hr
    exact ⟨g, o, rows[j], e1, hr, h1, h2, h3⟩

theorem Els.len {w : World} {s : Nat} {ao : Option Addr} {n cap : Nat} {rows : List (Array Value)} (h : Els w s (.slice ao n cap) rows) : n = rows.length := by
  rcases h with ⟨rfl, e⟩ | ⟨g, o, cap', e, h⟩
  · injection e
  · injection e

theorem Els.step {w w' : World} {s : Nat} {v : Value} {rows : List (Array Value)} (h : Els w s v rows) (b : Below w.heap.size w w') : Els w' s v rows := by
  rcases h with h | ⟨g, o, cap, rfl, h⟩
  · exact .inl h
  · refine .inr ⟨g, o, cap, rfl, fun j r hr => ?_⟩
    obtain ⟨h1, h2, h3⟩ := h j r hr
    exact ⟨h1, h2, fun k u hu => (b.cell (World.block_lt_of_cell? w _ (h3 k u hu))).trans (h3 k u hu)⟩

theorem flat_at {rows : List (Array Value)} {s : Nat} (hs : ∀ r ∈ rows, r.size = s) : ∀ (j : Nat) (r : Array Value), rows[j]? = some r → ∀ (k : Nat) (u : Value), r[k]? = some u → (rows.flatMap (·.toList))[j * s + k]? = some u := by
  induction rows with
  | nil => intro j r hr; simp at hr
  | cons a rows ih =>
    intro j r hr k u hu
    have ha := hs a (by simp)
    cases j with
    | zero =>
      obtain rfl : a = r := by simpa using hr
      have hk : k < a.size := (Array.getElem?_eq_some_iff.1 hu).1
      rw [List.flatMap_cons, Nat.zero_mul, Nat.zero_add, List.getElem?_append_left (by simpa using hk)]
      simpa using hu
    | succ j =>
      have hr' : rows[j]? = some r := by simpa using hr
      have := ih (fun x hx => hs x (by simp [hx])) j r hr' k u hu
      rw [List.flatMap_cons, List.getElem?_append_right (by rw [Array.length_toList, ha, Nat.add_mul]; omega), Array.length_toList, ha, show (j + 1) * s + k - s = j * s + k by rw [Nat.add_mul]; omega]
      exact this

/-- The elements of an own row. -/
theorem Els.of_own {w : World} {B : Nat} {T : TypeId} {s : Nat} {v : Value} {rows : List (Array Value)} {xs : List Value} (h : w.ownsRow B T s v rows.length xs) (hx : xs = rows.flatMap (·.toList)) (hs : ∀ r ∈ rows, r.size = s ∧ r.all (·.oneCell') = true) : Els w s v rows := by
  subst hx
  rcases h.2 with ⟨hv, h0⟩ | ⟨g, cap, cur, hv, _⟩
  · exact .inl ⟨List.length_eq_zero_iff.1 h0, hv⟩
  · subst hv
    refine .inr ⟨g, 0, cap, rfl, fun j r hr => ?_⟩
    obtain ⟨h1, h2⟩ := hs r (List.mem_of_getElem? hr)
    refine ⟨h1, h2, fun k u hu => ?_⟩
    have := h.cells (g := g) rfl (j * s + k) u (flat_at (fun r hr => (hs r hr).1) j r hr k u hu)
    have hadd : (⟨g, 0, none⟩ : Addr).add (j * s + k) = ⟨g, j * s + k, none⟩ := by unfold Addr.add; split <;> simp_all
    rw [Nat.zero_add]
    rwa [hadd] at this
end Go.Proofs.YtholnnabakaliaaGreatDoor

namespace Go.Proofs.YtholnnabakaliaaGreatDoor
open Go.RowKit

structure PitchV where
  st : Int
  al : Int
  oc : Int
structure HeadV where
  p : PitchV
  tied : Bool
  sh : Int
structure GraceV where
  p : PitchV
  lg : Int
  sl : Bool
structure SyllV where
  tx : ByteArray
  ln : Int
structure EvV where
  site : Int
  num : Int
  kind : Int
  lg : Int
  dt : Int
  heads : List HeadV
  graces : List GraceV
  ar : Int
  orn : Int
  dy : Int
  lyr : List SyllV
  stem : Int
  beam : Int

def PitchV.cells (p : PitchV) : Array Value := #[.int .i64 p.st, .int .i64 p.al, .int .i64 p.oc]
def HeadV.cells (h : HeadV) : Array Value := #[.int .i64 h.p.st, .int .i64 h.p.al, .int .i64 h.p.oc, .bool h.tied, .int .i64 h.sh]
def GraceV.cells (g : GraceV) : Array Value := #[.int .i64 g.p.st, .int .i64 g.p.al, .int .i64 g.p.oc, .int .i64 g.lg, .bool g.sl]
def SyllV.cells (x : SyllV) : Array Value := #[.string x.tx, .int .i64 x.ln]

/-- An event's cells, its three slices at hv, gv, lv. -/
def EvV.cells (x : EvV) (hv gv lv : Value) : Array Value :=
  #[.int .i64 x.site, .int .i64 x.num, .int .i64 x.kind, .int .i64 x.lg, .int .i64 x.dt, hv, gv, .int .i64 x.ar, .int .i64 x.orn, .int .i64 x.dy, lv, .int .i64 x.stem, .int .i64 x.beam]

/-- The slices hold the event's heads, grace notes and syllables. -/
structure Holds3 (x : EvV) (hv gv lv : Value) (w : World) : Prop where
  h : Els w 5 hv (x.heads.map HeadV.cells)
  g : Els w 5 gv (x.graces.map GraceV.cells)
  l : Els w 2 lv (x.lyr.map SyllV.cells)
  nh : x.heads.length ≤ 1000000
  ng : x.graces.length ≤ 1000000
  nl : x.lyr.length ≤ 1000000
theorem Holds3.step {x : EvV} {hv gv lv : Value} {w w' : World} (h : Holds3 x hv gv lv w) (b : Below w.heap.size w w') : Holds3 x hv gv lv w' := ⟨h.h.step b, h.g.step b, h.l.step b, h.nh, h.ng, h.nl⟩

def withinE (n m : Int) : Int := if n < 0 ∨ m < n then 2 else 0
def semi (i : Int) : Int := if i = 0 then 0 else if i = 1 then 2 else if i = 2 then 4 else if i = 3 then 5 else if i = 4 then 7 else if i = 5 then 9 else 11
def numOf (p : PitchV) : Int := 12 * (p.oc + 1) + semi p.st + p.al
def pitchOut (p : PitchV) : Prop := p.st < 0 ∨ 6 < p.st ∨ p.al < -2 ∨ 2 < p.al ∨ p.oc < -1 ∨ 9 < p.oc
instance (p : PitchV) : Decidable (pitchOut p) := by unfold pitchOut; infer_instance
def pitchE (p : PitchV) : Int := if pitchOut p then 18 else if numOf p < 0 ∨ 127 < numOf p then 18 else 0
def firstE : List Int → Int
  | [] => 0
  | e :: r => if e ≠ 0 then e else firstE r
def wellE (h : HeadV) : Int := if pitchE h.p ≠ 0 then 18 else withinE h.sh 2
def headsE : Int → List HeadV → Int
  | _, [] => 0
  | last, h :: r => if wellE h ≠ 0 then wellE h else if numOf h.p ≤ last then 25 else headsE (numOf h.p) r
def checkHeadsE (l : List HeadV) : Int := if l.length = 0 then 4 else if 10 < l.length then 9 else headsE (-1) l
def gracesE : List GraceV → Int
  | [] => 0
  | g :: r => if pitchE g.p ≠ 0 then 18 else if g.lg < 1 ∨ 6 < g.lg then 2 else gracesE r
def checkGracesE (l : List GraceV) : Int := if 8 < l.length then 9 else gracesE l
def badByte (c : UInt8) : Bool := decide (c.toNat < 32) || decide (c.toNat = 127)
def syllE (x : SyllV) : Int :=
  if x.ln < 0 ∨ 2 < x.ln then 2 else if 256 < x.tx.size then 5 else if x.tx.data.toList.any badByte then 6 else if x.tx.size = 0 ∧ x.ln = 1 then 3 else 0
def syllsE : List SyllV → Int
  | [] => 0
  | x :: r => if syllE x ≠ 0 then syllE x else syllsE r
def absentB (x : SyllV) : Bool := decide (x.tx.size = 0) && decide (x.ln = 0)
def checkLyricsE (l : List SyllV) : Int :=
  if 4 < l.length then 9 else if syllsE l ≠ 0 then syllsE l else if (match l.getLast? with | some x => absentB x | none => false) then 3 else 0
def valueE (lg dt : Int) : Int := if lg < -1 ∨ 8 < lg ∨ dt < 0 ∨ 3 < dt then 17 else 0

/-- The kind keeps what there is: event.Same of an event and of what strip leaves. -/
def fermataOf (a : Int) : Int := if a < 0 then 0 else IntKind.i64.wrap ((BitVec.ofInt 64 a &&& BitVec.ofInt 64 16).toNat : Nat)
def stripSame (x : EvV) : Bool :=
  if x.kind = 1 then true
  else (if x.kind = 3 then decide (x.lg = 0) && decide (x.dt = 0) else true) && decide (x.ar = if x.kind = 4 then 0 else fermataOf x.ar) && decide (x.orn = 0) && decide (x.stem = 0) && decide (x.beam = 0) && decide (x.heads.length = 0) && decide (x.graces.length = 0) && decide (x.lyr.length = 0)
end Go.Proofs.YtholnnabakaliaaGreatDoor

namespace Go.Proofs.YtholnnabakaliaaGreatDoor
open Go.RowKit

set_option maxHeartbeats 2000000 in
set_option maxRecDepth 100000 in
theorem within_walk (n m : Int) (w : World) : Calls Tryz.prog 13 #[.int .i64 n, .int .i64 m] w fun e w' => e = .returned (.int .i64 (withinE n m)) ∧ w' = w := by
  unfold withinE
  by_cases h1 : n < 0
  · rw [if_pos (.inl h1)]
    go_enter Tryz.func13, Tryz.ntmps13
    go_wp2
    go_ret
    exact ⟨rfl, rfl⟩
  · by_cases h2 : m < n
    · rw [if_pos (.inr h2)]
      go_enter Tryz.func13, Tryz.ntmps13
      go_wp2
      go_ret
      exact ⟨rfl, rfl⟩
    · rw [if_neg (by omega)]
      go_enter Tryz.func13, Tryz.ntmps13
      go_wp2
      go_ret
      exact ⟨rfl, rfl⟩

theorem within_is {n m c : Int} (h : withinE n m = c) (w : World) : Calls Tryz.prog 13 #[.int .i64 n, .int .i64 m] w fun e w' => e = .returned (.int .i64 c) ∧ w' = w := by
  subst h; exact within_walk n m w

theorem shut {p : Prop} (h : p) : Shut p := h
def existsB (k : Int) : Bool := decide (1 ≤ k) && decide (k ≤ 4)
set_option maxHeartbeats 2000000 in
set_option maxRecDepth 100000 in
theorem exists_walk (k : Int) (w : World) : Calls Tryz.prog 14 #[.int .i64 k] w fun e w' => e = .returned (.bool (existsB k)) ∧ w' = w := by
  unfold existsB
  by_cases h1 : 1 ≤ k <;> by_cases h2 : k ≤ 4
  all_goals go_enter Tryz.func14, Tryz.ntmps14
  all_goals go_wp2
  all_goals go_ret
  all_goals simp_all

theorem exists_is {k : Int} {b : Bool} (h : existsB k = b) (w : World) : Calls Tryz.prog 14 #[.int .i64 k] w fun e w' => e = .returned (.bool b) ∧ w' = w := by
  subst h; exact exists_walk k w

set_option maxHeartbeats 2000000 in
set_option maxRecDepth 100000 in
theorem fermata_walk (a : Int) (w : World) : Calls Tryz.prog 40 #[.int .i64 a] w fun e w' => e = .returned (.int .i64 (fermataOf a)) ∧ w' = w := by
  unfold fermataOf
  by_cases h1 : a < 0
  · rw [if_pos h1]
    go_enter Tryz.func40, Tryz.ntmps40
    go_wp2
    go_ret
    exact ⟨rfl, rfl⟩
  · rw [if_neg h1]
    go_enter Tryz.func40, Tryz.ntmps40
    go_wp2
    go_ret
    exact ⟨rfl, rfl⟩

set_option maxHeartbeats 4000000 in
set_option maxRecDepth 100000 in
/-- first, of a row of errors that lies at g. -/
theorem first_walk (l : List Int) (g : Nat) (w : World) (hn : l.length ≤ 8) (h : ∀ (i : Nat) (e : Int), l[i]? = some e → w.cell? ⟨g, i, none⟩ = some (.int .i64 e)) :
    Calls Tryz.prog 12 #[.slice (some ⟨g, 0, none⟩) l.length l.length] w fun e w' => e = .returned (.int .i64 (firstE l)) ∧ w' = w := by
  go_enter Tryz.func12, Tryz.ntmps12
  go_wp2
  go_loopw [7] (fun v wr => ∃ k : Nat, k ≤ l.length ∧ v = .int .i64 (k : Nat) ∧ wr = w ∧ firstE l = firstE (l.drop k)) (fun v _ => 9 - (intOf v).toNat)
  case atStart => exact ⟨0, Nat.zero_le _, rfl, rfl, rfl⟩
  case round =>
    obtain ⟨k, hk, rfl, rfl, hf⟩ := hrel
    by_cases hlt : k < l.length
    · have hlt' : (k : Int) < (l.length : Int) := by omega
      have hk0 : (0 : Int) ≤ (k : Int) := by omega
      have hd : l.drop k = l[k] :: l.drop (k + 1) := List.drop_eq_getElem_cons hlt
      have c0 := h k l[k] (List.getElem?_eq_getElem hlt)
      have m1 : IntKind.i64.wrap ((k : Int) + 1) = (k : Int) + 1 := IntWalk.i64_in _ (by omega)
      rw [hd] at hf
      clear hd h
      generalize l[k] = x at hf c0
      simp only [firstE] at hf
      by_cases hx : x = 0
      · subst hx
        have H := shut (show firstE l = firstE (l.drop (k + 1)) by simpa using hf)
        clear hf
        go_wp2
        go_roundw
        case rel => exact ⟨k + 1, by omega, by simp, trivial, H.out⟩
        case measure => simp [intOf]; omega
      · rw [if_pos hx] at hf
        have H := shut hf
        clear hf
        go_wp2
        go_ret
        exact ⟨by rw [H.out]; rfl, rfl⟩
    · have : k = l.length := by omega
      subst this
      rw [List.drop_length] at hf
      have H := shut hf
      clear hf
      go_wp2
      go_ret
      exact ⟨by rw [H.out]; rfl, rfl⟩

theorem first_at (l : List Int) (n : Nat) (hn : l.length = n) (h8 : n ≤ 8) {c : Int} (hc : firstE l = c) (g : Nat) (w : World) (h : w.heap[g]? = some (.cells (l.map (Value.int .i64)).toArray 34 (0, 0))) :
    Calls Tryz.prog 12 #[.slice (some ⟨g, 0, none⟩) n n] w fun e w' => e = .returned (.int .i64 c) ∧ w' = w := by
  subst hn; subst hc
  refine first_walk l g w h8 fun i e hi => ?_
  rw [Lib.cell_of_heap h]
  simp [hi]
end Go.Proofs.YtholnnabakaliaaGreatDoor

namespace Go.Proofs.YtholnnabakaliaaGreatDoor
open Go.RowKit Go.Dam

def fsAll : Nat := 2 ^ 260 - 1
set_option maxRecDepth 1000000
theorem funcs_ok : okFuncs Tryz.prog Tryz.prog.funcs.size fsAll = true := by kernel_rfl
theorem names_ok : namesOkL Tryz.prog = true := by kernel_rfl
theorem mixed_ok : Tryz.prog.follows .mixedOrders = true := by kernel_rfl
theorem small_ok : Nat.ble (2 * Tryz.prog.globals.size) 100 = true := by kernel_rfl

/-- f at these arguments comes to v, whatever the world. -/
noncomputable def runsV (f : FuncId) (args : List Value) (v : Value) : Bool := match evCall noOrc Tryz.prog fsAll 400 14 (.func f) args ⟨[], 100⟩ with
  | some (u, _) => veq v u
  | none => false

theorem runsV_says {f : FuncId} {args : List Value} {v : Value} (ha : args.all plain = true) (hv : plain v = true) (h : runsV f args v = true) (w : World) :
    Calls Tryz.prog f args.toArray w fun e w' => e = .returned v ∧ Below w.heap.size w w' := by
  unfold runsV at h
  split at h
  · rename_i u S he
    obtain rfl := veq_spec h
    refine closed (args := args) noOrc_ok mixed_ok (namesOk_of names_ok) funcs_ok (h := []) (nx := 100) rfl (by decide) (Nat.le_of_ble_eq_true small_ok) ?_ hv he rfl ?_
    · intro x hx; exact List.all_eq_true.1 ha x hx
    · intro n o hn; cases hn
  · cases h
end Go.Proofs.YtholnnabakaliaaGreatDoor

namespace Go.Proofs.YtholnnabakaliaaGreatDoor
open Go.RowKit

def semis : Value := .agg #[.int .i64 0, .int .i64 2, .int .i64 4, .int .i64 5, .int .i64 7, .int .i64 9, .int .i64 11]
set_option maxRecDepth 1000000 in
theorem semis_run : runsV 112 [] semis = true := by kernel_rfl
theorem semitones_walk (w : World) : Calls Tryz.prog 112 #[] w fun e w' => e = .returned semis ∧ Below w.heap.size w w' := runsV_says (args := []) rfl rfl semis_run w

set_option maxHeartbeats 8000000 in
set_option maxRecDepth 100000 in
theorem number85_0 (a o : Int) (w : World) (h1 : IntKind.i64.wrap (o + 1) = o + 1) (h2 : IntKind.i64.wrap (12 * (o + 1)) = 12 * (o + 1)) (h4 : IntKind.i64.wrap (12 * (o + 1) + a) = 12 * (o + 1) + a) :
    Calls Tryz.prog 85 #[.agg #[.int .i64 0, .int .i64 a, .int .i64 o]] w fun e w' => e = .returned (.int .i64 (12 * (o + 1) + a)) ∧ Below w.heap.size w w' := by
  have hsm := semitones_walk
  unfold semis at hsm
  have hix : ∀ w' : World, (Instr.index 168 (.agg #[.int .i64 0, .int .i64 2, .int .i64 4, .int .i64 5, .int .i64 7, .int .i64 9, .int .i64 11]) (.int .i64 0)).run Tryz.prog w' = .ok (.int .i64 0) w' := fun w' => by kernel_rfl
  go_enter Tryz.func85, Tryz.ntmps85
  go_wp2
  go_region_held3 (fun w' => w'.cell? ⟨w.heap.size, 0, none⟩ = some (.int .i64 0) ∧ w'.cell? ⟨w.heap.size, 1, none⟩ = some (.int .i64 a) ∧ w'.cell? ⟨w.heap.size, 2, none⟩ = some (.int .i64 o)) (go_keep)
    ((go_at_call 112; refine (hsm _).mono ?_; rintro e w1 ⟨rfl, b1⟩; have k0 : w1.cell? ⟨w.heap.size, 0, none⟩ = some (.int .i64 0) := (b1.cell (by simp)).trans (by simp); have k1 : w1.cell? ⟨w.heap.size, 1, none⟩ = some (.int .i64 a) := (b1.cell (by simp)).trans (by simp); have k2 : w1.cell? ⟨w.heap.size, 2, none⟩ = some (.int .i64 o) := (b1.cell (by simp)).trans (by simp)))
  go_wp2
  go_ret
  exact ⟨rfl, (((Below.refl _ w).alloc (Nat.le_refl _) _).drew).trans (b1.mono (by simp))⟩

set_option maxHeartbeats 8000000 in
set_option maxRecDepth 100000 in
theorem number85_1 (a o : Int) (w : World) (h1 : IntKind.i64.wrap (o + 1) = o + 1) (h2 : IntKind.i64.wrap (12 * (o + 1)) = 12 * (o + 1)) (h3 : IntKind.i64.wrap (12 * (o + 1) + 2) = 12 * (o + 1) + 2) (h4 : IntKind.i64.wrap (12 * (o + 1) + 2 + a) = 12 * (o + 1) + 2 + a) :
    Calls Tryz.prog 85 #[.agg #[.int .i64 1, .int .i64 a, .int .i64 o]] w fun e w' => e = .returned (.int .i64 (12 * (o + 1) + 2 + a)) ∧ Below w.heap.size w w' := by
  have hsm := semitones_walk
  unfold semis at hsm
  have hix : ∀ w' : World, (Instr.index 168 (.agg #[.int .i64 0, .int .i64 2, .int .i64 4, .int .i64 5, .int .i64 7, .int .i64 9, .int .i64 11]) (.int .i64 1)).run Tryz.prog w' = .ok (.int .i64 2) w' := fun w' => by kernel_rfl
  go_enter Tryz.func85, Tryz.ntmps85
  go_wp2
  go_region_held3 (fun w' => w'.cell? ⟨w.heap.size, 0, none⟩ = some (.int .i64 1) ∧ w'.cell? ⟨w.heap.size, 1, none⟩ = some (.int .i64 a) ∧ w'.cell? ⟨w.heap.size, 2, none⟩ = some (.int .i64 o)) (go_keep)
    ((go_at_call 112; refine (hsm _).mono ?_; rintro e w1 ⟨rfl, b1⟩; have k0 : w1.cell? ⟨w.heap.size, 0, none⟩ = some (.int .i64 1) := (b1.cell (by simp)).trans (by simp); have k1 : w1.cell? ⟨w.heap.size, 1, none⟩ = some (.int .i64 a) := (b1.cell (by simp)).trans (by simp); have k2 : w1.cell? ⟨w.heap.size, 2, none⟩ = some (.int .i64 o) := (b1.cell (by simp)).trans (by simp)))
  go_wp2
  go_ret
  exact ⟨rfl, (((Below.refl _ w).alloc (Nat.le_refl _) _).drew).trans (b1.mono (by simp))⟩

set_option maxHeartbeats 8000000 in
set_option maxRecDepth 100000 in
theorem number85_2 (a o : Int) (w : World) (h1 : IntKind.i64.wrap (o + 1) = o + 1) (h2 : IntKind.i64.wrap (12 * (o + 1)) = 12 * (o + 1)) (h3 : IntKind.i64.wrap (12 * (o + 1) + 4) = 12 * (o + 1) + 4) (h4 : IntKind.i64.wrap (12 * (o + 1) + 4 + a) = 12 * (o + 1) + 4 + a) :
    Calls Tryz.prog 85 #[.agg #[.int .i64 2, .int .i64 a, .int .i64 o]] w fun e w' => e = .returned (.int .i64 (12 * (o + 1) + 4 + a)) ∧ Below w.heap.size w w' := by
  have hsm := semitones_walk
  unfold semis at hsm
  have hix : ∀ w' : World, (Instr.index 168 (.agg #[.int .i64 0, .int .i64 2, .int .i64 4, .int .i64 5, .int .i64 7, .int .i64 9, .int .i64 11]) (.int .i64 2)).run Tryz.prog w' = .ok (.int .i64 4) w' := fun w' => by kernel_rfl
  go_enter Tryz.func85, Tryz.ntmps85
  go_wp2
  go_region_held3 (fun w' => w'.cell? ⟨w.heap.size, 0, none⟩ = some (.int .i64 2) ∧ w'.cell? ⟨w.heap.size, 1, none⟩ = some (.int .i64 a) ∧ w'.cell? ⟨w.heap.size, 2, none⟩ = some (.int .i64 o)) (go_keep)
    ((go_at_call 112; refine (hsm _).mono ?_; rintro e w1 ⟨rfl, b1⟩; have k0 : w1.cell? ⟨w.heap.size, 0, none⟩ = some (.int .i64 2) := (b1.cell (by simp)).trans (by simp); have k1 : w1.cell? ⟨w.heap.size, 1, none⟩ = some (.int .i64 a) := (b1.cell (by simp)).trans (by simp); have k2 : w1.cell? ⟨w.heap.size, 2, none⟩ = some (.int .i64 o) := (b1.cell (by simp)).trans (by simp)))
  go_wp2
  go_ret
  exact ⟨rfl, (((Below.refl _ w).alloc (Nat.le_refl _) _).drew).trans (b1.mono (by simp))⟩

set_option maxHeartbeats 8000000 in
set_option maxRecDepth 100000 in
theorem number85_3 (a o : Int) (w : World) (h1 : IntKind.i64.wrap (o + 1) = o + 1) (h2 : IntKind.i64.wrap (12 * (o + 1)) = 12 * (o + 1)) (h3 : IntKind.i64.wrap (12 * (o + 1) + 5) = 12 * (o + 1) + 5) (h4 : IntKind.i64.wrap (12 * (o + 1) + 5 + a) = 12 * (o + 1) + 5 + a) :
    Calls Tryz.prog 85 #[.agg #[.int .i64 3, .int .i64 a, .int .i64 o]] w fun e w' => e = .returned (.int .i64 (12 * (o + 1) + 5 + a)) ∧ Below w.heap.size w w' := by
  have hsm := semitones_walk
  unfold semis at hsm
  have hix : ∀ w' : World, (Instr.index 168 (.agg #[.int .i64 0, .int .i64 2, .int .i64 4, .int .i64 5, .int .i64 7, .int .i64 9, .int .i64 11]) (.int .i64 3)).run Tryz.prog w' = .ok (.int .i64 5) w' := fun w' => by kernel_rfl
  go_enter Tryz.func85, Tryz.ntmps85
  go_wp2
  go_region_held3 (fun w' => w'.cell? ⟨w.heap.size, 0, none⟩ = some (.int .i64 3) ∧ w'.cell? ⟨w.heap.size, 1, none⟩ = some (.int .i64 a) ∧ w'.cell? ⟨w.heap.size, 2, none⟩ = some (.int .i64 o)) (go_keep)
    ((go_at_call 112; refine (hsm _).mono ?_; rintro e w1 ⟨rfl, b1⟩; have k0 : w1.cell? ⟨w.heap.size, 0, none⟩ = some (.int .i64 3) := (b1.cell (by simp)).trans (by simp); have k1 : w1.cell? ⟨w.heap.size, 1, none⟩ = some (.int .i64 a) := (b1.cell (by simp)).trans (by simp); have k2 : w1.cell? ⟨w.heap.size, 2, none⟩ = some (.int .i64 o) := (b1.cell (by simp)).trans (by simp)))
  go_wp2
  go_ret
  exact ⟨rfl, (((Below.refl _ w).alloc (Nat.le_refl _) _).drew).trans (b1.mono (by simp))⟩

set_option maxHeartbeats 8000000 in
set_option maxRecDepth 100000 in
theorem number85_4 (a o : Int) (w : World) (h1 : IntKind.i64.wrap (o + 1) = o + 1) (h2 : IntKind.i64.wrap (12 * (o + 1)) = 12 * (o + 1)) (h3 : IntKind.i64.wrap (12 * (o + 1) + 7) = 12 * (o + 1) + 7) (h4 : IntKind.i64.wrap (12 * (o + 1) + 7 + a) = 12 * (o + 1) + 7 + a) :
    Calls Tryz.prog 85 #[.agg #[.int .i64 4, .int .i64 a, .int .i64 o]] w fun e w' => e = .returned (.int .i64 (12 * (o + 1) + 7 + a)) ∧ Below w.heap.size w w' := by
  have hsm := semitones_walk
  unfold semis at hsm
  have hix : ∀ w' : World, (Instr.index 168 (.agg #[.int .i64 0, .int .i64 2, .int .i64 4, .int .i64 5, .int .i64 7, .int .i64 9, .int .i64 11]) (.int .i64 4)).run Tryz.prog w' = .ok (.int .i64 7) w' := fun w' => by kernel_rfl
  go_enter Tryz.func85, Tryz.ntmps85
  go_wp2
  go_region_held3 (fun w' => w'.cell? ⟨w.heap.size, 0, none⟩ = some (.int .i64 4) ∧ w'.cell? ⟨w.heap.size, 1, none⟩ = some (.int .i64 a) ∧ w'.cell? ⟨w.heap.size, 2, none⟩ = some (.int .i64 o)) (go_keep)
    ((go_at_call 112; refine (hsm _).mono ?_; rintro e w1 ⟨rfl, b1⟩; have k0 : w1.cell? ⟨w.heap.size, 0, none⟩ = some (.int .i64 4) := (b1.cell (by simp)).trans (by simp); have k1 : w1.cell? ⟨w.heap.size, 1, none⟩ = some (.int .i64 a) := (b1.cell (by simp)).trans (by simp); have k2 : w1.cell? ⟨w.heap.size, 2, none⟩ = some (.int .i64 o) := (b1.cell (by simp)).trans (by simp)))
  go_wp2
  go_ret
  exact ⟨rfl, (((Below.refl _ w).alloc (Nat.le_refl _) _).drew).trans (b1.mono (by simp))⟩

set_option maxHeartbeats 8000000 in
set_option maxRecDepth 100000 in
theorem number85_5 (a o : Int) (w : World) (h1 : IntKind.i64.wrap (o + 1) = o + 1) (h2 : IntKind.i64.wrap (12 * (o + 1)) = 12 * (o + 1)) (h3 : IntKind.i64.wrap (12 * (o + 1) + 9) = 12 * (o + 1) + 9) (h4 : IntKind.i64.wrap (12 * (o + 1) + 9 + a) = 12 * (o + 1) + 9 + a) :
    Calls Tryz.prog 85 #[.agg #[.int .i64 5, .int .i64 a, .int .i64 o]] w fun e w' => e = .returned (.int .i64 (12 * (o + 1) + 9 + a)) ∧ Below w.heap.size w w' := by
  have hsm := semitones_walk
  unfold semis at hsm
  have hix : ∀ w' : World, (Instr.index 168 (.agg #[.int .i64 0, .int .i64 2, .int .i64 4, .int .i64 5, .int .i64 7, .int .i64 9, .int .i64 11]) (.int .i64 5)).run Tryz.prog w' = .ok (.int .i64 9) w' := fun w' => by kernel_rfl
  go_enter Tryz.func85, Tryz.ntmps85
  go_wp2
  go_region_held3 (fun w' => w'.cell? ⟨w.heap.size, 0, none⟩ = some (.int .i64 5) ∧ w'.cell? ⟨w.heap.size, 1, none⟩ = some (.int .i64 a) ∧ w'.cell? ⟨w.heap.size, 2, none⟩ = some (.int .i64 o)) (go_keep)
    ((go_at_call 112; refine (hsm _).mono ?_; rintro e w1 ⟨rfl, b1⟩; have k0 : w1.cell? ⟨w.heap.size, 0, none⟩ = some (.int .i64 5) := (b1.cell (by simp)).trans (by simp); have k1 : w1.cell? ⟨w.heap.size, 1, none⟩ = some (.int .i64 a) := (b1.cell (by simp)).trans (by simp); have k2 : w1.cell? ⟨w.heap.size, 2, none⟩ = some (.int .i64 o) := (b1.cell (by simp)).trans (by simp)))
  go_wp2
  go_ret
  exact ⟨rfl, (((Below.refl _ w).alloc (Nat.le_refl _) _).drew).trans (b1.mono (by simp))⟩

set_option maxHeartbeats 8000000 in
set_option maxRecDepth 100000 in
theorem number85_6 (a o : Int) (w : World) (h1 : IntKind.i64.wrap (o + 1) = o + 1) (h2 : IntKind.i64.wrap (12 * (o + 1)) = 12 * (o + 1)) (h3 : IntKind.i64.wrap (12 * (o + 1) + 11) = 12 * (o + 1) + 11) (h4 : IntKind.i64.wrap (12 * (o + 1) + 11 + a) = 12 * (o + 1) + 11 + a) :
    Calls Tryz.prog 85 #[.agg #[.int .i64 6, .int .i64 a, .int .i64 o]] w fun e w' => e = .returned (.int .i64 (12 * (o + 1) + 11 + a)) ∧ Below w.heap.size w w' := by
  have hsm := semitones_walk
  unfold semis at hsm
  have hix : ∀ w' : World, (Instr.index 168 (.agg #[.int .i64 0, .int .i64 2, .int .i64 4, .int .i64 5, .int .i64 7, .int .i64 9, .int .i64 11]) (.int .i64 6)).run Tryz.prog w' = .ok (.int .i64 11) w' := fun w' => by kernel_rfl
  go_enter Tryz.func85, Tryz.ntmps85
  go_wp2
  go_region_held3 (fun w' => w'.cell? ⟨w.heap.size, 0, none⟩ = some (.int .i64 6) ∧ w'.cell? ⟨w.heap.size, 1, none⟩ = some (.int .i64 a) ∧ w'.cell? ⟨w.heap.size, 2, none⟩ = some (.int .i64 o)) (go_keep)
    ((go_at_call 112; refine (hsm _).mono ?_; rintro e w1 ⟨rfl, b1⟩; have k0 : w1.cell? ⟨w.heap.size, 0, none⟩ = some (.int .i64 6) := (b1.cell (by simp)).trans (by simp); have k1 : w1.cell? ⟨w.heap.size, 1, none⟩ = some (.int .i64 a) := (b1.cell (by simp)).trans (by simp); have k2 : w1.cell? ⟨w.heap.size, 2, none⟩ = some (.int .i64 o) := (b1.cell (by simp)).trans (by simp)))
  go_wp2
  go_ret
  exact ⟨rfl, (((Below.refl _ w).alloc (Nat.le_refl _) _).drew).trans (b1.mono (by simp))⟩

theorem number85 (s a o : Int) (h : ¬ pitchOut ⟨s, a, o⟩) (w : World) : Calls Tryz.prog 85 #[.agg #[.int .i64 s, .int .i64 a, .int .i64 o]] w fun e w' => e = .returned (.int .i64 (numOf ⟨s, a, o⟩)) ∧ Below w.heap.size w w' := by
  simp only [pitchOut] at h
  have h1 : IntKind.i64.wrap (o + 1) = o + 1 := IntWalk.i64_in _ (by omega)
  have h2 : IntKind.i64.wrap (12 * (o + 1)) = 12 * (o + 1) := IntWalk.i64_in _ (by omega)
  have h3 : ∀ m : Int, 0 ≤ m → m ≤ 11 → IntKind.i64.wrap (12 * (o + 1) + m) = 12 * (o + 1) + m := fun m _ _ => IntWalk.i64_in _ (by omega)
  have h4 : ∀ m : Int, 0 ≤ m → m ≤ 11 → IntKind.i64.wrap (12 * (o + 1) + m + a) = 12 * (o + 1) + m + a := fun m _ _ => IntWalk.i64_in _ (by omega)
  have hc : s = 0 ∨ s = 1 ∨ s = 2 ∨ s = 3 ∨ s = 4 ∨ s = 5 ∨ s = 6 := by omega
  rcases hc with rfl | rfl | rfl | rfl | rfl | rfl | rfl
  · have := h4 0 (by decide) (by decide)
    rw [Int.add_zero] at this
    have e : numOf ⟨0, a, o⟩ = 12 * (o + 1) + a := by simp [numOf, semi]
    rw [e]
    exact number85_0 a o w h1 h2 this
  · exact number85_1 a o w h1 h2 (h3 2 (by decide) (by decide)) (h4 2 (by decide) (by decide))
  · exact number85_2 a o w h1 h2 (h3 4 (by decide) (by decide)) (h4 4 (by decide) (by decide))
  · exact number85_3 a o w h1 h2 (h3 5 (by decide) (by decide)) (h4 5 (by decide) (by decide))
  · exact number85_4 a o w h1 h2 (h3 7 (by decide) (by decide)) (h4 7 (by decide) (by decide))
  · exact number85_5 a o w h1 h2 (h3 9 (by decide) (by decide)) (h4 9 (by decide) (by decide))
  · exact number85_6 a o w h1 h2 (h3 11 (by decide) (by decide)) (h4 11 (by decide) (by decide))

set_option maxHeartbeats 8000000 in
set_option maxRecDepth 100000 in
theorem check58 (s a o : Int) (w : World) : Calls Tryz.prog 58 #[.agg #[.int .i64 s, .int .i64 a, .int .i64 o]] w fun e w' => e = .returned (.int .i64 (pitchE ⟨s, a, o⟩)) ∧ Below w.heap.size w w' := by
  unfold pitchE
  have b0 := (Below.refl w.heap.size w).alloc (Nat.le_refl _) (.cells #[.int .i64 s, .int .i64 a, .int .i64 o] 44)
  by_cases h1 : s < 0
  · rw [if_pos (by simp only [pitchOut]; omega)]
    go_enter Tryz.func58, Tryz.ntmps58
    go_wp2
    go_ret
    exact ⟨rfl, b0⟩
  by_cases h2 : 6 < s
  · rw [if_pos (by simp only [pitchOut]; omega)]
    go_enter Tryz.func58, Tryz.ntmps58
    go_wp2
    go_ret
    exact ⟨rfl, b0⟩
  by_cases h3 : a < -2
  · rw [if_pos (by simp only [pitchOut]; omega)]
    go_enter Tryz.func58, Tryz.ntmps58
    go_wp2
    go_ret
    exact ⟨rfl, b0⟩
  by_cases h4 : 2 < a
  · rw [if_pos (by simp only [pitchOut]; omega)]
    go_enter Tryz.func58, Tryz.ntmps58
    go_wp2
    go_ret
    exact ⟨rfl, b0⟩
  by_cases h5 : o < -1
  · rw [if_pos (by simp only [pitchOut]; omega)]
    go_enter Tryz.func58, Tryz.ntmps58
    go_wp2
    go_ret
    exact ⟨rfl, b0⟩
  by_cases h6 : 9 < o
  · rw [if_pos (by simp only [pitchOut]; omega)]
    go_enter Tryz.func58, Tryz.ntmps58
    go_wp2
    go_ret
    exact ⟨rfl, b0⟩
  have hno : ¬ pitchOut ⟨s, a, o⟩ := by simp only [pitchOut]; omega
  rw [if_neg hno]
  have hnm := number85 s a o hno
  generalize numOf ⟨s, a, o⟩ = n at hnm ⊢
  clear hno
  by_cases h7 : n < 0
  · rw [if_pos (.inl h7)]
    go_enter Tryz.func58, Tryz.ntmps58
    go_wp2_with (go_at_call 85; refine (hnm _).mono ?_)
    intro e w1; first | (intro he b1; subst he) | rintro ⟨rfl, b1⟩
    go_wp2
    go_ret
    exact ⟨rfl, b0.trans (b1.mono (by first | omega | simp))⟩
  by_cases h8 : 127 < n
  · rw [if_pos (.inr h8)]
    go_enter Tryz.func58, Tryz.ntmps58
    go_wp2_with (go_at_call 85; refine (hnm _).mono ?_)
    intro e w1; first | (intro he b1; subst he) | rintro ⟨rfl, b1⟩
    go_wp2
    go_ret
    exact ⟨rfl, b0.trans (b1.mono (by first | omega | simp))⟩
  · rw [if_neg (by omega)]
    go_enter Tryz.func58, Tryz.ntmps58
    go_wp2_with (go_at_call 85; refine (hnm _).mono ?_)
    intro e w1; first | (intro he b1; subst he) | rintro ⟨rfl, b1⟩
    go_wp2
    go_ret
    exact ⟨rfl, b0.trans (b1.mono (by first | omega | simp))⟩

theorem pitchE_cases (p : PitchV) : (pitchE p = 18) ∨ (pitchE p = 0 ∧ ¬ pitchOut p ∧ 0 ≤ numOf p ∧ numOf p ≤ 127) := by
  unfold pitchE
  by_cases h : pitchOut p
  · rw [if_pos h]; exact .inl rfl
  · rw [if_neg h]
    by_cases h2 : numOf p < 0 ∨ 127 < numOf p
    · rw [if_pos h2]; exact .inl rfl
    · rw [if_neg h2]; exact .inr ⟨rfl, h, by omega, by omega⟩

/-- What event.number and pitch.Number return. -/
def numV (p : PitchV) : Value := if pitchE p = 0 then .tuple #[.int .i64 (numOf p), .int .i64 0] else .tuple #[.int .i64 0, .int .i64 18]
theorem numE_ok {p : PitchV} (h : pitchE p = 0) : numV p = .tuple #[.int .i64 (numOf p), .int .i64 0] := if_pos h
theorem numE_bad {p : PitchV} (h : ¬ pitchE p = 0) : numV p = .tuple #[.int .i64 0, .int .i64 18] := if_neg h

set_option maxHeartbeats 8000000 in
set_option maxRecDepth 100000 in
theorem number69 (s a o : Int) (w : World) : Calls Tryz.prog 69 #[.agg #[.int .i64 s, .int .i64 a, .int .i64 o]] w fun e w' => e = .returned (numV ⟨s, a, o⟩) ∧ Below w.heap.size w w' := by
  have hck := check58 s a o
  have b0 := (Below.refl w.heap.size w).alloc (Nat.le_refl _) (.cells #[.int .i64 s, .int .i64 a, .int .i64 o] 44)
  unfold numV
  rcases pitchE_cases ⟨s, a, o⟩ with hp | ⟨hp, hno, h1, h2⟩
  · rw [hp] at hck ⊢
    go_enter Tryz.func69, Tryz.ntmps69
    go_wp2_with (go_at_call 58; refine (hck _).mono ?_)
    intro e w1; first | (intro he b1; subst he) | rintro ⟨rfl, b1⟩
    go_wp2
    go_ret2
    exact ⟨rfl, b0.trans (b1.mono (by first | omega | simp))⟩
  · rw [hp] at hck ⊢
    have hnm := number85 s a o hno
    generalize numOf ⟨s, a, o⟩ = n at hnm ⊢
    clear h1 h2 hno hp
    go_enter Tryz.func69, Tryz.ntmps69
    go_wp2_with (go_at_call 58; refine (hck _).mono ?_)
    intro e w1; first | (intro he b1; subst he) | rintro ⟨rfl, b1⟩
    have z0 : w1.cell? ⟨w.heap.size, 0, none⟩ = some (.int .i64 s) := (b1.cell (by simp)).trans (by simp)
    have z1 : w1.cell? ⟨w.heap.size, 1, none⟩ = some (.int .i64 a) := (b1.cell (by simp)).trans (by simp)
    have z2 : w1.cell? ⟨w.heap.size, 2, none⟩ = some (.int .i64 o) := (b1.cell (by simp)).trans (by simp)
    have bb := b0.trans (b1.mono (by first | omega | simp))
    go_wp2_with (go_at_call 85; refine (hnm _).mono ?_)
    intro e w2; first | (intro he b2; subst he) | rintro ⟨rfl, b2⟩
    go_wp2
    go_ret2
    exact ⟨rfl, bb.trans (b2.mono (by first | omega | exact bb.size))⟩

set_option maxHeartbeats 8000000 in
set_option maxRecDepth 100000 in
theorem evNumber_walk (s a o : Int) (w : World) : Calls Tryz.prog 42 #[.agg #[.int .i64 s, .int .i64 a, .int .i64 o]] w fun e w' => e = .returned (numV ⟨s, a, o⟩) ∧ Below w.heap.size w w' := by
  have hck := number69 s a o
  have b0 := (Below.refl w.heap.size w).alloc (Nat.le_refl _) (.cells #[.int .i64 s, .int .i64 a, .int .i64 o] 44)
  unfold numV at hck ⊢
  rcases pitchE_cases ⟨s, a, o⟩ with hp | ⟨hp, hno, h1, h2⟩
  · rw [hp] at hck ⊢
    go_enter Tryz.func42, Tryz.ntmps42
    go_wp2_with (go_at_call 69; refine (hck _).mono ?_)
    intro e w1; first | (intro he b1; subst he) | rintro ⟨rfl, b1⟩
    go_wp2
    go_ret2
    exact ⟨rfl, b0.trans (b1.mono (by first | omega | simp))⟩
  · rw [hp] at hck ⊢
    generalize numOf ⟨s, a, o⟩ = n at hck h1 h2 ⊢
    have h1' : ¬ n < 0 := by omega
    have h2' : ¬ 127 < n := by omega
    clear h1 h2 hno hp
    go_enter Tryz.func42, Tryz.ntmps42
    go_wp2_with (go_at_call 69; refine (hck _).mono ?_)
    intro e w1; first | (intro he b1; subst he) | rintro ⟨rfl, b1⟩
    go_wp2
    go_ret2
    exact ⟨rfl, b0.trans (b1.mono (by first | omega | simp))⟩

theorem wellE_zero {h : HeadV} (e : wellE h = 0) : pitchE h.p = 0 ∧ withinE h.sh 2 = 0 := by
  unfold wellE at e
  by_cases hp : pitchE h.p = 0
  · rw [if_neg (by simpa using hp)] at e; exact ⟨hp, e⟩
  · rw [if_pos hp] at e; cases e

theorem first_zero (y : Int) : firstE [0, y] = y := by
  by_cases h : y = 0 <;> simp [firstE, h]

set_option maxHeartbeats 8000000 in
set_option maxRecDepth 100000 in
theorem well_walk (s a o sh : Int) (ti : Bool) (w : World) : Calls Tryz.prog 41 #[.agg #[.int .i64 s, .int .i64 a, .int .i64 o, .bool ti, .int .i64 sh]] w fun e w' => e = .returned (.int .i64 (wellE ⟨⟨s, a, o⟩, ti, sh⟩)) ∧ Below w.heap.size w w' := by
  have hnm := evNumber_walk s a o
  have hwi := within_walk sh 2
  have b0 := (Below.refl w.heap.size w).alloc (Nat.le_refl _) (.cells #[.int .i64 s, .int .i64 a, .int .i64 o, .bool ti, .int .i64 sh] 46)
  unfold wellE
  have key : ∀ (x : Int) (n : Int), (∀ w, Calls Tryz.prog 42 #[.agg #[.int .i64 s, .int .i64 a, .int .i64 o]] w fun e w' => e = .returned (.tuple #[.int .i64 n, .int .i64 x]) ∧ Below w.heap.size w w') →
      Calls Tryz.prog 41 #[.agg #[.int .i64 s, .int .i64 a, .int .i64 o, .bool ti, .int .i64 sh]] w fun e w' => e = .returned (.int .i64 (firstE [x, withinE sh 2])) ∧ Below w.heap.size w w' := by
    intro x n hnm
    generalize withinE sh 2 = y at hwi ⊢
    go_enter Tryz.func41, Tryz.ntmps41
    go_wp2_with (go_at_call 42; refine (hnm _).mono ?_)
    intro e w1; first | (intro he b1; subst he) | rintro ⟨rfl, b1⟩
    have z4 : w1.cell? ⟨w.heap.size, 4, none⟩ = some (.int .i64 sh) := (b1.cell (by simp)).trans (by simp)
    have bb := b0.trans (b1.mono (by first | omega | simp))
    have hfi := first_walk [x, y] w1.heap.size (w1.alloc (.cells #[.int .i64 x, .int .i64 y] 34)) (by simp) (fun i e hi => by
      have hh := heap_alloc_new w1 (.cells #[.int .i64 x, .int .i64 y] 34)
      rw [Lib.cell_of_heap hh]
      match i, hi with
      | 0, hi => simp at hi; subst hi; rfl
      | 1, hi => simp at hi; subst hi; rfl)
    go_wp2_with (first
      | (go_at_call 13; refine (hwi _).mono ?_; rintro e w' ⟨rfl, rfl⟩)
      | (go_at_call 12; refine hfi.mono ?_; rintro e w' ⟨rfl, rfl⟩))
    go_ret
    exact ⟨rfl, bb.alloc bb.size _⟩
  unfold numV at hnm
  rcases pitchE_cases ⟨s, a, o⟩ with hp | ⟨hp, hno, h1, h2⟩
  · rw [hp] at hnm ⊢
    exact key 18 0 hnm
  · rw [hp] at hnm ⊢
    have := key 0 _ hnm
    rw [first_zero] at this
    exact this

set_option maxHeartbeats 8000000 in
set_option maxRecDepth 100000 in
theorem value_check (lg dt : Int) (w : World) : Calls Tryz.prog 17 #[.agg #[.int .i64 lg, .int .i64 dt]] w fun e w' => e = .returned (.int .i64 (valueE lg dt)) ∧ Below w.heap.size w w' := by
  unfold valueE
  have b0 := (Below.refl w.heap.size w).alloc (Nat.le_refl _) (.cells #[.int .i64 lg, .int .i64 dt] 25)
  by_cases h1 : lg < -1
  · rw [if_pos (.inl h1)]
    go_enter Tryz.func17, Tryz.ntmps17
    go_wp2
    go_ret
    exact ⟨rfl, b0⟩
  by_cases h2 : 8 < lg
  · rw [if_pos (.inr (.inl h2))]
    go_enter Tryz.func17, Tryz.ntmps17
    go_wp2
    go_ret
    exact ⟨rfl, b0⟩
  by_cases h3 : dt < 0
  · rw [if_pos (.inr (.inr (.inl h3)))]
    go_enter Tryz.func17, Tryz.ntmps17
    go_wp2
    go_ret
    exact ⟨rfl, b0⟩
  by_cases h4 : 3 < dt
  · rw [if_pos (.inr (.inr (.inr h4)))]
    go_enter Tryz.func17, Tryz.ntmps17
    go_wp2
    go_ret
    exact ⟨rfl, b0⟩
  · rw [if_neg (by omega)]
    go_enter Tryz.func17, Tryz.ntmps17
    go_wp2
    go_ret
    exact ⟨rfl, b0⟩
end Go.Proofs.YtholnnabakaliaaGreatDoor

namespace Go.Proofs.YtholnnabakaliaaGreatDoor
open Go.RowKit

/-- Element j of a slice of l, its cells in memory. -/
theorem Els.atM {α : Type} {f : α → Array Value} {l : List α} {w : World} {s : Nat} {ao : Option Addr} {n cap : Nat} (h : Els w s (.slice ao n cap) (l.map f)) {j : Nat} (hj : j < l.length) :
    ∃ g o, ao = some ⟨g, o, none⟩ ∧ ∀ (k : Nat) (u : Value), (f l[j])[k]? = some u → w.cell? ⟨g, o + j * s + k, none⟩ = some u := by
  obtain ⟨g, o, r, e, hr, _, _, hc⟩ := h.at (j := j) (by simpa using hj)
  refine ⟨g, o, e, fun k u hu => hc k u ?_⟩
  rw [List.getElem?_map, List.getElem?_eq_getElem hj] at hr
  obtain rfl := Option.some.inj hr
  exact hu
theorem Els.isM {α : Type} {f : α → Array Value} {l : List α} {w : World} {s : Nat} {v : Value} (h : Els w s v (l.map f)) : ∃ ao cap, v = .slice ao l.length cap := by
  obtain ⟨ao, cap, e⟩ := h.is
  exact ⟨ao, cap, by rw [e, List.length_map]⟩

set_option maxHeartbeats 8000000 in
set_option maxRecDepth 100000 in
theorem checkHeads_walk (l : List HeadV) (v : Value) (w : World) (h : Els w 5 v (l.map HeadV.cells)) :
    Calls Tryz.prog 18 #[v] w fun e w' => e = .returned (.int .i64 (checkHeadsE l)) ∧ Below w.heap.size w w' := by
  unfold checkHeadsE
  obtain ⟨ao, cap, rfl⟩ := h.isM
  by_cases h0 : l.length = 0
  · rw [if_pos h0, h0]
    go_enter Tryz.func18, Tryz.ntmps18
    go_wp2
    go_ret
    exact ⟨rfl, Below.refl _ _⟩
  rw [if_neg h0]
  have h0' : ¬ (l.length : Int) = 0 := by omega
  by_cases h10 : 10 < l.length
  · rw [if_pos h10]
    have h10' : (10 : Int) < (l.length : Int) := by omega
    go_enter Tryz.func18, Tryz.ntmps18
    go_wp2
    go_ret
    exact ⟨rfl, Below.refl _ _⟩
  rw [if_neg h10]
  have h10' : ¬ (10 : Int) < (l.length : Int) := by omega
  go_enter Tryz.func18, Tryz.ntmps18
  go_wp2
  go_loopg [3, 19] l.length (fun g s3 s19 wr => ∃ (k : Nat) (last : Int), k ≤ l.length ∧ g = l.length - k ∧ s3 = .int .i64 last ∧ s19 = .int .i64 (k : Nat) ∧ Below w.heap.size w wr ∧ headsE (-1) l = headsE last (l.drop k))
  case atStart => exact ⟨0, -1, Nat.zero_le _, rfl, rfl, rfl, Below.refl _ _, rfl⟩
  case round =>
    obtain ⟨k, last, hk, hg, rfl, rfl, hb, hf⟩ := hrel
    by_cases hlt : k < l.length
    · have hlt' : (k : Int) < (l.length : Int) := by omega
      have hk0 : (0 : Int) ≤ (k : Int) := by omega
      have hd : l.drop k = l[k] :: l.drop (k + 1) := List.drop_eq_getElem_cons hlt
      obtain ⟨g, oo, rfl, hc⟩ := (h.step hb).atM hlt
      have m1 : IntKind.i64.wrap ((k : Int) + 1) = (k : Int) + 1 := IntWalk.i64_in _ (by omega)
      rw [hd] at hf
      clear hd
      generalize l[k] = x at hf hc
      obtain ⟨⟨st, al, oc⟩, ti, sh⟩ := x
      have c0 : wr.cell? ⟨g, oo + k * 5, none⟩ = some (.int .i64 st) := hc 0 _ rfl
      have c1 : wr.cell? ⟨g, oo + k * 5 + 1, none⟩ = some (.int .i64 al) := hc 1 _ rfl
      have c2 : wr.cell? ⟨g, oo + k * 5 + 2, none⟩ = some (.int .i64 oc) := hc 2 _ rfl
      have c3 : wr.cell? ⟨g, oo + k * 5 + 3, none⟩ = some (.bool ti) := hc 3 _ rfl
      have c4 : wr.cell? ⟨g, oo + k * 5 + 4, none⟩ = some (.int .i64 sh) := hc 4 _ rfl
      have hwl := well_walk st al oc sh ti
      have hnm := evNumber_walk st al oc
      simp only [headsE] at hf
      generalize hwe : wellE ⟨⟨st, al, oc⟩, ti, sh⟩ = we at hf hwl
      have H := shut (And.intro hf hwe)
      clear hc hf hwe
      go_wp2_with (go_at_call 41; refine (hwl _).mono ?_)
      intro e w1; first | (intro he b1; subst he) | rintro ⟨rfl, b1⟩
      by_cases hw0 : we = 0
      · subst hw0
        obtain ⟨hf, hwe⟩ := H.out
        clear H
        obtain ⟨hp0, -⟩ := wellE_zero hwe
        rw [numE_ok hp0] at hnm
        clear hwe hp0
        generalize numOf ⟨st, al, oc⟩ = nn at hf hnm
        simp only [ne_eq, not_true_eq_false, if_false] at hf
        have H := shut hf
        clear hf
        have z0 : w1.cell? ⟨wr.heap.size, 0, none⟩ = some (.int .i64 st) := (b1.cell (by simp)).trans (by simp)
        have z1 : w1.cell? ⟨wr.heap.size, 1, none⟩ = some (.int .i64 al) := (b1.cell (by simp)).trans (by simp)
        have z2 : w1.cell? ⟨wr.heap.size, 2, none⟩ = some (.int .i64 oc) := (b1.cell (by simp)).trans (by simp)
        have hb1 := (hb.alloc hb.size (.cells #[.int .i64 st, .int .i64 al, .int .i64 oc, .bool ti, .int .i64 sh] 46)).trans (b1.mono (by have := hb.size; first | omega | (simp; omega)))
        go_wp2_with (go_at_call 42; refine (hnm _).mono ?_)
        intro e w2; first | (intro he b2; subst he) | rintro ⟨rfl, b2⟩
        have hb2 := hb1.trans (b2.mono (by have := hb1.size; first | omega | (simp at *; omega)))
        by_cases hle : nn ≤ last
        · go_wp2
          go_ret
          exact ⟨by rw [H.out, if_pos hle]; rfl, hb2⟩
        · have hle' : last < nn := by omega
          go_wp2
          go_roundg (l.length - (k + 1))
          case measure => omega
          case rel => exact ⟨k + 1, nn, by omega, rfl, rfl, by simp, hb2, by rw [H.out, if_neg (by omega)]⟩
      · clear hnm
        have hb1 := (hb.alloc hb.size (.cells #[.int .i64 st, .int .i64 al, .int .i64 oc, .bool ti, .int .i64 sh] 46)).trans (b1.mono (by have := hb.size; first | omega | (simp; omega)))
        go_wp2
        go_ret
        exact ⟨by rw [H.out.1, if_pos hw0]; rfl, hb1⟩
    · have : k = l.length := by omega
      subst this
      rw [List.drop_length] at hf
      have H := shut hf
      clear hf
      go_wp2
      go_ret
      exact ⟨by rw [H.out]; rfl, hb⟩

set_option maxHeartbeats 8000000 in
set_option maxRecDepth 100000 in
theorem checkGraces_walk (l : List GraceV) (v : Value) (w : World) (h : Els w 5 v (l.map GraceV.cells)) :
    Calls Tryz.prog 19 #[v] w fun e w' => e = .returned (.int .i64 (checkGracesE l)) ∧ Below w.heap.size w w' := by
  unfold checkGracesE
  obtain ⟨ao, cap, rfl⟩ := h.isM
  by_cases h8 : 8 < l.length
  · rw [if_pos h8]
    have h8' : (8 : Int) < (l.length : Int) := by omega
    go_enter Tryz.func19, Tryz.ntmps19
    go_wp2
    go_ret
    exact ⟨rfl, Below.refl _ _⟩
  rw [if_neg h8]
  have h8' : ¬ (8 : Int) < (l.length : Int) := by omega
  go_enter Tryz.func19, Tryz.ntmps19
  go_wp2
  go_loopg [12] l.length (fun g s12 wr => ∃ (k : Nat), k ≤ l.length ∧ g = l.length - k ∧ s12 = .int .i64 (k : Nat) ∧ Below w.heap.size w wr ∧ gracesE l = gracesE (l.drop k))
  case atStart => exact ⟨0, Nat.zero_le _, rfl, rfl, Below.refl _ _, rfl⟩
  case round =>
    obtain ⟨k, hk, hg, rfl, hb, hf⟩ := hrel
    by_cases hlt : k < l.length
    · have hlt' : (k : Int) < (l.length : Int) := by omega
      have hk0 : (0 : Int) ≤ (k : Int) := by omega
      have hd : l.drop k = l[k] :: l.drop (k + 1) := List.drop_eq_getElem_cons hlt
      obtain ⟨g, oo, rfl, hc⟩ := (h.step hb).atM hlt
      have m1 : IntKind.i64.wrap ((k : Int) + 1) = (k : Int) + 1 := IntWalk.i64_in _ (by omega)
      rw [hd] at hf
      clear hd
      generalize l[k] = x at hf hc
      obtain ⟨⟨st, al, oc⟩, lg, sl⟩ := x
      have c0 : wr.cell? ⟨g, oo + k * 5, none⟩ = some (.int .i64 st) := hc 0 _ rfl
      have c1 : wr.cell? ⟨g, oo + k * 5 + 1, none⟩ = some (.int .i64 al) := hc 1 _ rfl
      have c2 : wr.cell? ⟨g, oo + k * 5 + 2, none⟩ = some (.int .i64 oc) := hc 2 _ rfl
      have c3 : wr.cell? ⟨g, oo + k * 5 + 3, none⟩ = some (.int .i64 lg) := hc 3 _ rfl
      have c4 : wr.cell? ⟨g, oo + k * 5 + 4, none⟩ = some (.bool sl) := hc 4 _ rfl
      have hnm := evNumber_walk st al oc
      simp only [gracesE] at hf
      have hb0 := hb.alloc hb.size (.cells #[.int .i64 st, .int .i64 al, .int .i64 oc, .int .i64 lg, .bool sl] 61)
      clear hc
      by_cases hp0 : pitchE ⟨st, al, oc⟩ = 0
      · rw [numE_ok hp0] at hnm
        generalize numOf ⟨st, al, oc⟩ = nn at hnm
        rw [if_neg (by simpa using hp0)] at hf
        have H := shut hf
        clear hf hp0
        go_wp2_with (go_at_call 42; refine (hnm _).mono ?_)
        intro e w1; first | (intro he b1; subst he) | rintro ⟨rfl, b1⟩
        have z3 : w1.cell? ⟨wr.heap.size, 3, none⟩ = some (.int .i64 lg) := (b1.cell (by simp)).trans (by simp)
        have hb1 := hb0.trans (b1.mono (by have := hb.size; first | omega | (simp; omega)))
        by_cases h1 : lg < 1
        · go_wp2
          go_ret
          exact ⟨by rw [H.out, if_pos (.inl h1)]; rfl, hb1⟩
        · by_cases h6 : 6 < lg
          · go_wp2
            go_ret
            exact ⟨by rw [H.out, if_pos (.inr h6)]; rfl, hb1⟩
          · go_wp2
            go_roundg (l.length - (k + 1))
            case measure => omega
            case rel => exact ⟨k + 1, by omega, rfl, by simp, hb1, by rw [H.out, if_neg (by omega)]⟩
      · rw [if_pos hp0] at hf
        rw [numE_bad hp0] at hnm
        have H := shut hf
        clear hf hp0
        go_wp2_with (go_at_call 42; refine (hnm _).mono ?_)
        intro e w1; first | (intro he b1; subst he) | rintro ⟨rfl, b1⟩
        have hb1 := hb0.trans (b1.mono (by have := hb.size; first | omega | (simp; omega)))
        go_wp2
        go_ret
        exact ⟨by rw [H.out]; rfl, hb1⟩
    · have : k = l.length := by omega
      subst this
      rw [List.drop_length] at hf
      have H := shut hf
      clear hf
      go_wp2
      go_ret
      exact ⟨by rw [H.out]; rfl, hb⟩
end Go.Proofs.YtholnnabakaliaaGreatDoor
