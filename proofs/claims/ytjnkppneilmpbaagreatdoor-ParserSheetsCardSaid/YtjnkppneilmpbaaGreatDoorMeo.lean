/-
  A part of the proof that the law ParserSheets (chapter 19) returns true for every sheet: walks of the program's functions, and runs of them in the kernel by the own evaluator.
-/
import Derived.Test.YtjnkppneilmpbaaGreatDoorMes
import Derived.Laws.Tables
import Derived.Test.YtjnkppneilmpbaaGreatDoorSrt
namespace Go.Proofs.YtjnkppneilmpbaaGreatDoor
open Go.RowKit

def measCells : Array Value := #[.int .i64 0, .int .i64 0, .int .i64 4, .int .i64 4, .int .i64 0, .int .i64 0, .int .i64 0, .int .i64 0, .int .i64 0, .int .i64 0, .int .i64 0, .int .i64 0, .bool false, .int .i64 0, .int .i64 0, .int .i64 0, .int .i64 0, .int .i64 0, .int .i64 0, .string ByteArray.empty, .slice none 0 0, .slice none 0 0]
def metCells : Array Value := #[.int .i64 4, .int .i64 4, .int .i64 0, .int .i64 0, .int .i64 0, .int .i64 0, .int .i64 0, .int .i64 0]
theorem built52 : Tryz.prog.built 52 [(0, .int .i64 4), (1, .int .i64 4)] = some metCells := by kernel_rfl
theorem built56 : Tryz.prog.built 56 [(1, .agg metCells)] = some measCells := by kernel_rfl

theorem get_put {a : Act} {n : Nat} (v : Value) (h : n < a.tmps.size) : (a.put (some n) v).eval (.tmp n) = v := by
  simp [Act.put, Act.eval, h]
theorem get_put_ne {a : Act} {n m : Nat} (v : Value) (h : n ≠ m) : (a.put (some n) v).eval (.tmp m) = a.eval (.tmp m) := by
  simp [Act.put, Act.eval, h]
theorem size_put {a : Act} {d : Option Nat} (v : Value) : (a.put d v).tmps.size = a.tmps.size := by
  cases d <;> simp [Act.put]

set_option maxRecDepth 100000 in
theorem meas_ops {ops : Array Oper} {Q : Exit → Act → World → Prop} {a : Act} {w : World} {o1 o2 o3 o4 : Oper} (g1 : o1.guard = none) (g2 : o2.guard = none) (g3 : o3.guard = none) (g4 : o4.guard = none)
    (e1 : o1.op = .build 52 #[(0, .const (.int .i64 4)), (1, .const (.int .i64 4))]) (e2 : o2.op = .build 56 #[(1, .tmp 59)]) (e3 : o3.op = .alloc 56) (e4 : o4.op = .store 56 (.tmp 5) (.tmp 60))
    (d1 : o1.dst = some 59) (d2 : o2.dst = some 60) (d3 : o3.dst = some 5) (d4 : o4.dst = none) (hs : 60 < a.tmps.size)
    (h : ∀ v1 v2, Q .normal ((((a.put (some 59) v1).put (some 60) v2).put (some 5) (.pointer (some ⟨w.heap.size, 0, none⟩))).put none undef) (w.alloc (.cells measCells 56))) :
    wpList Tryz.prog ops Q [o1, o2, o3, o4] a w := by
  have hl0 : ((#[(0, Operand.const (.int .i64 4)), (1, Operand.const (.int .i64 4))] : Array (Nat × Operand)).map fun (i, x) => (i, a.eval x)).toList = [(0, .int .i64 4), (1, .int .i64 4)] := by simp [Act.eval]
  refine wpList_build g1 52 _ e1 (by rw [hl0, built52]; rfl) ?_
  rw [hl0, built52, d1]
  simp only [Option.getD_some]
  have hl : ((#[(1, Operand.tmp 59)] : Array (Nat × Operand)).map fun (i, x) => (i, (a.put (some 59) (.agg metCells)).eval x)).toList = [(1, .agg metCells)] := by
    simp [get_put _ (show 59 < a.tmps.size by omega)]
  refine wpList_build g2 56 _ e2 (by rw [hl, built56]; rfl) ?_
  rw [hl, built56, d2]
  simp only [Option.getD_some]
  generalize ha2 : ((a.put (some 59) (.agg metCells)).put (some 60) (.agg measCells)) = a2
  have hs2 : a2.tmps.size = a.tmps.size := by rw [← ha2, size_put, size_put]
  have hv60 : a2.eval (.tmp 60) = .agg measCells := by rw [← ha2]; exact get_put _ (by rw [size_put]; exact hs)
  have hal : (execOp a2.eval o3).run Tryz.prog w = .ok (.value (.pointer (some ⟨w.heap.size, 0, none⟩))) (w.alloc (.cells zMeasArr 56)) := by
    unfold execOp
    simp only [e3]
    simp [go_sem]
    rfl
  refine wpList_plain g3 fun K hK => ?_
  unfold Oper.wp
  rw [hal, Oper.upon_value]
  refine hK _ _ ?_
  rw [d3]
  have hv5 : (a2.put (some 5) (.pointer (some ⟨w.heap.size, 0, none⟩))).eval (.tmp 5) = .pointer (some ⟨w.heap.size, 0, none⟩) := get_put _ (by omega)
  have hv60' : (a2.put (some 5) (.pointer (some ⟨w.heap.size, 0, none⟩))).eval (.tmp 60) = .agg measCells := by rw [get_put_ne _ (by decide)]; exact hv60
  refine wpList_store_row g4 56 _ _ e4 w.heap.size measCells hv5 hv60' 56 zMeasArr (heap_alloc_new w _) Tryz.szq56 rfl (by simp [measCells, Value.oneCell']) ?_
  rw [d4]
  refine wpList_nil ?_
  have hw : (w.alloc (.cells zMeasArr 56)).setRow w.heap.size measCells = w.alloc (.cells measCells 56) := by
    have hh : ((w.alloc (.cells zMeasArr 56)).setRow w.heap.size measCells).heap = (w.alloc (.cells measCells 56)).heap := by
      apply Array.ext_getElem?
      intro i
      by_cases hi : i = w.heap.size
      · subst hi
        rw [setRow_heap _ _ _ _ _ _ (heap_alloc_new w _), heap_alloc_new w _]
      · rw [setRow_other _ _ _ _ hi]
        show (w.heap.push _)[i]? = (w.heap.push _)[i]?
        rw [Array.getElem?_push, Array.getElem?_push, if_neg hi, if_neg hi]
    show ({ w.alloc (.cells zMeasArr 56) with heap := ((w.alloc (.cells zMeasArr 56)).setRow w.heap.size measCells).heap } : World) = _
    rw [hh]
    rfl
  rw [hw, ← ha2]
  exact h _ _
end Go.Proofs.YtjnkppneilmpbaaGreatDoor

namespace Go.Proofs.YtjnkppneilmpbaaGreatDoor
open Go.RowKit

theorem Tryz.sizeScore : (Tryz.prog.info? 32).map (·.size) = some 6 := by kernel_rfl
theorem Tryz.infoPart : (Tryz.prog.info? 49).map (fun i => (i.zero, i.size, i.bytes)) = some (some (.agg #[.int .i64 0, .int .i64 0, .string ByteArray.empty, .int .i64 0, .int .i64 0, .slice none 0 0]), 6, 72) := by kernel_rfl
theorem Tryz.infoId : (Tryz.prog.info? 42).map (fun i => (i.zero, i.size, i.bytes)) = some (some (.agg #[.int .i64 0, .int .i64 0]), 2, 16) := by kernel_rfl
theorem Tryz.infoMeas : (Tryz.prog.info? 56).map (fun i => (i.zero, i.size, i.bytes)) = some (some (.agg zMeasArr), 22, 216) := by kernel_rfl

def zScore : Obj := .cells #[.string ByteArray.empty, .bool false, .slice none 0 0, .slice none 0 0, .slice none 0 0, .slice none 0 0] 32 (0, 0)

/-- The score that is being read lies at X: its parts are pv (their staves sv), its measures mv, its last numbers lv. R is where the result will lie. -/
structure ScAt (R X Y M : Nat) (title : ByteArray) (pv mv lv : Value) (np : Nat) (ps : List Value) (l : List (List (Option UInt8) × Int)) (nl : Nat) (xl : List Value) (sv : Value) (ns : Nat) (ss : List Value) (w0 w : World) : Prop where
  hX : w.heap[X]? = some (.cells #[.string title, .bool false, pv, mv, .slice none 0 0, lv] 32 (0, 0))
  hR : w.heap[R]? = some zScore
  parts : w.ownsRow w0.heap.size 49 6 pv np ps
  staves : w.ownsRow w0.heap.size 44 3 sv ns ss
  ms : ∃ rs, w.ownsRow w0.heap.size 56 22 mv l.length (rs.flatMap (·.toList)) ∧ MsIs w 2 l rs
  last : w.ownsRow w0.heap.size 42 2 lv nl xl
  aw : Away [Y, M] w0 w
  lR : w0.heap.size ≤ R
  lX : R < X
  nX : X ∉ [Y, M]
  nR : R ∉ [Y, M]

section
variable {R X Y M : Nat} {title : ByteArray} {pv mv lv : Value} {np : Nat} {ps : List Value} {l : List (List (Option UInt8) × Int)} {nl : Nat} {xl : List Value} {sv : Value} {ns : Nat} {ss : List Value} {w0 w w' : World} {tv : Value} {toks : List Tok} {pos : Nat} {line col e : Int} {free : Bool} {ls ln : Int} {es : Array MapEntry} {clk : Nat}

theorem ScAt.same (p : ScAt R X Y M title pv mv lv np ps l nl xl sv ns ss w0 w) (s : Same [32, 42, 44, 49, 56, 60, 67, 71, 75] w w') (ha : Away [Y, M] w w') : ScAt R X Y M title pv mv lv np ps l nl xl sv ns ss w0 w' := by
  obtain ⟨rs, h1, h2⟩ := p.ms
  exact ⟨s _ _ _ _ (by simp) p.hX, s _ _ _ _ (by simp) p.hR, s.own (by simp) p.parts, s.own (by simp) p.staves, ⟨rs, s.own (by simp) h1, h2.same (s.less (by simp))⟩, s.own (by simp) p.last, p.aw.trans ha, p.lR, p.lX, p.nX, p.nR⟩
theorem ScAt.away (p : ScAt R X Y M title pv mv lv np ps l nl xl sv ns ss w0 w) (hS : Prs Y M tv toks pos line col e free ls ln es clk w) (ha : Away [Y, M] w w') : ScAt R X Y M title pv mv lv np ps l nl xl sv ns ss w0 w' := p.same (Same.of_away hS ha (by decide)) ha
theorem ScAt.away1 (p : ScAt R X Y M title pv mv lv np ps l nl xl sv ns ss w0 w) (hS : Prs Y M tv toks pos line col e free ls ln es clk w) (ha : Away [Y] w w') : ScAt R X Y M title pv mv lv np ps l nl xl sv ns ss w0 w' := p.away hS (ha.more (by simp))
theorem ScAt.step (p : ScAt R X Y M title pv mv lv np ps l nl xl sv ns ss w0 w) (hb : Below w.heap.size w w') : ScAt R X Y M title pv mv lv np ps l nl xl sv ns ss w0 w' := p.same (Same.of_below hb) (Away.of_below hb)
theorem ScAt.ltX (p : ScAt R X Y M title pv mv lv np ps l nl xl sv ns ss w0 w) : X < w.heap.size := (Array.getElem?_eq_some_iff.1 p.hX).1
theorem ScAt.ltR (p : ScAt R X Y M title pv mv lv np ps l nl xl sv ns ss w0 w) : R < w.heap.size := (Array.getElem?_eq_some_iff.1 p.hR).1
theorem ScAt.f (p : ScAt R X Y M title pv mv lv np ps l nl xl sv ns ss w0 w) (i : Nat) : w.frozen? ⟨X, i, none⟩ = false := Lib.frozen_of_heap p.hX i
theorem ScAt.c0 (p : ScAt R X Y M title pv mv lv np ps l nl xl sv ns ss w0 w) : w.cell? ⟨X, 0, none⟩ = some (.string title) := by rw [Lib.cell_of_heap p.hX]; rfl
theorem ScAt.c1 (p : ScAt R X Y M title pv mv lv np ps l nl xl sv ns ss w0 w) : w.cell? ⟨X, 1, none⟩ = some (.bool false) := by rw [Lib.cell_of_heap p.hX]; rfl
theorem ScAt.c2 (p : ScAt R X Y M title pv mv lv np ps l nl xl sv ns ss w0 w) : w.cell? ⟨X, 2, none⟩ = some pv := by rw [Lib.cell_of_heap p.hX]; rfl
theorem ScAt.c3 (p : ScAt R X Y M title pv mv lv np ps l nl xl sv ns ss w0 w) : w.cell? ⟨X, 3, none⟩ = some mv := by rw [Lib.cell_of_heap p.hX]; rfl
theorem ScAt.c4 (p : ScAt R X Y M title pv mv lv np ps l nl xl sv ns ss w0 w) : w.cell? ⟨X, 4, none⟩ = some (.slice none 0 0) := by rw [Lib.cell_of_heap p.hX]; rfl
theorem ScAt.c5 (p : ScAt R X Y M title pv mv lv np ps l nl xl sv ns ss w0 w) : w.cell? ⟨X, 5, none⟩ = some lv := by rw [Lib.cell_of_heap p.hX]; rfl

theorem ScAt.ba (p : ScAt R X Y M title pv mv lv np ps l nl xl sv ns ss w0 w) : w0.heap.size ≤ X := Nat.le_trans p.lR (Nat.le_of_lt p.lX)

/-- A cell of the score is stored. -/
theorem ScAt.set (p : ScAt R X Y M title pv mv lv np ps l nl xl sv ns ss w0 w) (i : Nat) (u : Value) {title' : ByteArray} (hu : (#[.string title, .bool false, pv, mv, .slice none 0 0, lv] : Array Value).setIfInBounds i u = #[.string title', .bool false, pv, mv, .slice none 0 0, lv]) : ScAt R X Y M title' pv mv lv np ps l nl xl sv ns ss w0 (w.setCell ⟨X, i, none⟩ u) := by
  have s : Same [42, 44, 49, 56, 60, 67, 71, 75] w (w.setCell ⟨X, i, none⟩ u) := Same.of_set p.hX (by decide)
  obtain ⟨rs, h1, h2⟩ := p.ms
  exact ⟨by rw [Lib.heap_setCell_same p.hX, hu], (Below.heap_setCell _ _ _ _ (Nat.ne_of_lt p.lX)).trans p.hR, s.own (by simp) p.parts, s.own (by simp) p.staves, ⟨rs, s.own (by simp) h1, h2.same (s.less (by simp))⟩, s.own (by simp) p.last, p.aw.setCell (p := ⟨X, i, none⟩) (.inr p.ba) _, p.lR, p.lX, p.nX, p.nR⟩
theorem ScAt.setTitle (p : ScAt R X Y M title pv mv lv np ps l nl xl sv ns ss w0 w) (t : ByteArray) : ScAt R X Y M t pv mv lv np ps l nl xl sv ns ss w0 (w.setCell ⟨X, 0, none⟩ (.string t)) := p.set 0 _ rfl
theorem ScAt.setWritten (p : ScAt R X Y M title pv mv lv np ps l nl xl sv ns ss w0 w) : ScAt R X Y M title pv mv lv np ps l nl xl sv ns ss w0 (w.setCell ⟨X, 1, none⟩ (.bool false)) := p.set 1 _ rfl
theorem ScAt.withStaves {sv' : Value} {ns' : Nat} {ss' : List Value} (p : ScAt R X Y M title pv mv lv np ps l nl xl sv ns ss w0 w) (h : w.ownsRow w0.heap.size 44 3 sv' ns' ss') : ScAt R X Y M title pv mv lv np ps l nl xl sv' ns' ss' w0 w := { p with staves := h }

theorem zScore_ne {T : TypeId} (hT : T ≠ 32) : ∀ cs fr, zScore ≠ .cells cs T fr := by
  unfold zScore; intro cs fr hc; injection hc with _ h2 _; exact hT h2.symm

/-- A part is appended. -/
theorem ScAt.addPart (p : ScAt R X Y M title pv mv lv np ps l nl xl sv ns ss w0 w) (hS : Prs Y M tv toks pos line col e free ls ln es clk w) {pv' : Value} {c : Array Value} {ps' : List Value}
    (hg : (w.alloc (.cells c 49)).grownBy w' pv.ownBlock) (hown : w'.ownsRow w0.heap.size 49 6 pv' (np + 1) ps') :
    ScAt R X Y M title pv' mv lv (np + 1) ps' l nl xl sv ns ss w0 (w'.setCell ⟨X, 2, none⟩ pv') ∧ Prs Y M tv toks pos line col e free ls ln es clk (w'.setCell ⟨X, 2, none⟩ pv') ∧ w'.heap[X]? = some (.cells #[.string title, .bool false, pv, mv, .slice none 0 0, lv] 32 (0, 0)) := by
  have bc := (Below.refl _ w).alloc (Nat.le_refl _) (.cells c 49)
  have pa := p.step bc
  have ha := hS.step bc
  generalize w.alloc (.cells c 49) = v at hg pa ha
  obtain ⟨r1, r2, r3⟩ := ha.rowNe pa.parts (by decide) (by decide)
  have s1 : Same [32, 42, 44, 56, 60, 67, 71, 75] v w' := Same.of_grown hg pa.parts (by decide)
  have hX' := s1 _ _ _ _ (by simp) pa.hX
  have s2 : Same [42, 44, 49, 56, 60, 67, 71, 75] w' (w'.setCell ⟨X, 2, none⟩ pv') := Same.of_set hX' (by decide)
  have s3 : Same [42, 44, 56, 60, 67, 71, 75] v (w'.setCell ⟨X, 2, none⟩ pv') := (s1.less (by simp)).trans (s2.less (by simp))
  obtain ⟨rs, h1, h2⟩ := pa.ms
  exact ⟨⟨by rw [Lib.heap_setCell_same hX']; rfl, (Below.heap_setCell _ _ _ _ (Nat.ne_of_lt p.lX)).trans (s1 _ _ _ _ (by simp) pa.hR), s2.own (by simp) hown, s3.own (by simp) pa.staves, ⟨rs, s3.own (by simp) h1, h2.same (s3.less (by simp))⟩, s3.own (by simp) pa.last,
    (pa.aw.grownRow hg fun j hj => .inr (pa.parts.lt j hj).1).setCell (p := ⟨X, 2, none⟩) (.inr p.ba) _, p.lR, p.lX, p.nX, p.nR⟩, (ha.grown hg r1 r2 r3).elsewhere hX' (by decide) (by decide) 2 pv', hX'⟩

/-- A last number is appended. -/
theorem ScAt.addLast (p : ScAt R X Y M title pv mv lv np ps l nl xl sv ns ss w0 w) (hS : Prs Y M tv toks pos line col e free ls ln es clk w) {lv' : Value} {c : Array Value} {xl' : List Value}
    (hg : (w.alloc (.cells c 42)).grownBy w' lv.ownBlock) (hown : w'.ownsRow w0.heap.size 42 2 lv' (nl + 1) xl') :
    ScAt R X Y M title pv mv lv' np ps l (nl + 1) xl' sv ns ss w0 (w'.setCell ⟨X, 5, none⟩ lv') ∧ Prs Y M tv toks pos line col e free ls ln es clk (w'.setCell ⟨X, 5, none⟩ lv') ∧ w'.heap[X]? = some (.cells #[.string title, .bool false, pv, mv, .slice none 0 0, lv] 32 (0, 0)) := by
  have bc := (Below.refl _ w).alloc (Nat.le_refl _) (.cells c 42)
  have pa := p.step bc
  have ha := hS.step bc
  generalize w.alloc (.cells c 42) = v at hg pa ha
  obtain ⟨r1, r2, r3⟩ := ha.rowNe pa.last (by decide) (by decide)
  have s1 : Same [32, 44, 49, 56, 60, 67, 71, 75] v w' := Same.of_grown hg pa.last (by decide)
  have hX' := s1 _ _ _ _ (by simp) pa.hX
  have s2 : Same [42, 44, 49, 56, 60, 67, 71, 75] w' (w'.setCell ⟨X, 5, none⟩ lv') := Same.of_set hX' (by decide)
  have s3 : Same [44, 49, 56, 60, 67, 71, 75] v (w'.setCell ⟨X, 5, none⟩ lv') := (s1.less (by simp)).trans (s2.less (by simp))
  obtain ⟨rs, h1, h2⟩ := pa.ms
  exact ⟨⟨by rw [Lib.heap_setCell_same hX']; rfl, (Below.heap_setCell _ _ _ _ (Nat.ne_of_lt p.lX)).trans (s1 _ _ _ _ (by simp) pa.hR), s3.own (by simp) pa.parts, s3.own (by simp) pa.staves, ⟨rs, s3.own (by simp) h1, h2.same (s3.less (by simp))⟩, s2.own (by simp) hown,
    (pa.aw.grownRow hg fun j hj => .inr (pa.last.lt j hj).1).setCell (p := ⟨X, 5, none⟩) (.inr p.ba) _, p.lR, p.lX, p.nX, p.nR⟩, (ha.grown hg r1 r2 r3).elsewhere hX' (by decide) (by decide) 5 lv', hX'⟩

/-- A measure is appended. -/
theorem ScAt.addMeas (p : ScAt R X Y M title pv mv lv np ps l nl xl sv ns ss w0 w) (hS : Prs Y M tv toks pos line col e free ls ln es clk w) {mv' : Value} {m : Array Value} {rs : List (Array Value)} {q : List (Option UInt8)} {k : Int}
    (hm : MsIs w 2 l rs) (hr : MeasIs w (total 2 l) q k m)
    (hg : (w.alloc (.cells m 56)).grownBy w' mv.ownBlock) (hown0 : w.ownsRow w0.heap.size 56 22 mv l.length (rs.flatMap (·.toList))) (hown : w'.ownsRow w0.heap.size 56 22 mv' (l.length + 1) (rs.flatMap (·.toList) ++ m.toList)) :
    ScAt R X Y M title pv mv' lv np ps (l ++ [(q, k)]) nl xl sv ns ss w0 (w'.setCell ⟨X, 3, none⟩ mv') ∧ Prs Y M tv toks pos line col e free ls ln es clk (w'.setCell ⟨X, 3, none⟩ mv') ∧ w'.heap[X]? = some (.cells #[.string title, .bool false, pv, mv, .slice none 0 0, lv] 32 (0, 0)) := by
  have bc := (Below.refl _ w).alloc (Nat.le_refl _) (.cells m 56)
  have pa := p.step bc
  have ha := hS.step bc
  have hm1 := hm.more hr
  have hm2 := hm1.same (Same.of_below bc)
  have ho2 := hown0.alloc (.cells m 56)
  generalize w.alloc (.cells m 56) = v at hg pa ha hm2 ho2
  obtain ⟨r1, r2, r3⟩ := ha.rowNe ho2 (by decide) (by decide)
  have s1 : Same [32, 42, 44, 49, 60, 67, 71, 75] v w' := Same.of_grown hg ho2 (by decide)
  have hX' := s1 _ _ _ _ (by simp) pa.hX
  have s2 : Same [42, 44, 49, 56, 60, 67, 71, 75] w' (w'.setCell ⟨X, 3, none⟩ mv') := Same.of_set hX' (by decide)
  have s3 : Same [42, 44, 49, 60, 67, 71, 75] v (w'.setCell ⟨X, 3, none⟩ mv') := (s1.less (by simp)).trans (s2.less (by simp))
  refine ⟨⟨by rw [Lib.heap_setCell_same hX']; rfl, (Below.heap_setCell _ _ _ _ (Nat.ne_of_lt p.lX)).trans (s1 _ _ _ _ (by simp) pa.hR), s3.own (by simp) pa.parts, s3.own (by simp) pa.staves, ⟨rs ++ [m], ?_, hm2.same (s3.less (by simp))⟩, s3.own (by simp) pa.last,
    (pa.aw.grownRow hg fun j hj => .inr (ho2.lt j hj).1).setCell (p := ⟨X, 3, none⟩) (.inr p.ba) _, p.lR, p.lX, p.nX, p.nR⟩, (ha.grown hg r1 r2 r3).elsewhere hX' (by decide) (by decide) 3 mv', hX'⟩
  have e1 : (rs ++ [m]).flatMap (·.toList) = rs.flatMap (·.toList) ++ m.toList := by simp
  rw [e1, List.length_append]
  exact s2.own (by simp) hown
end

section
variable {R X Y M : Nat} {title : ByteArray} {pv mv lv : Value} {np : Nat} {ps : List Value} {l : List (List (Option UInt8) × Int)} {nl : Nat} {xl : List Value} {sv : Value} {ns : Nat} {ss : List Value} {w0 w w' : World}
/-- The measure before is stored. -/
theorem ScAt.setB (p : ScAt R X Y M title pv mv lv np ps l nl xl sv ns ss w0 w) {Bm : Nat} {cs : Array Value} {fr : Nat × Nat} (hB : w.heap[Bm]? = some (.cells cs 56 fr)) (hne : mv.ownBlock ≠ some Bm) (hb : w0.heap.size ≤ Bm) (m : Array Value) : ScAt R X Y M title pv mv lv np ps l nl xl sv ns ss w0 (w.setRow Bm m) := by
  have s : Same [32, 42, 44, 49, 60, 67, 71, 75] w (w.setRow Bm m) := Same.of_setRow hB (by decide) m
  obtain ⟨rs, h1, h2⟩ := p.ms
  exact ⟨s _ _ _ _ (by simp) p.hX, s _ _ _ _ (by simp) p.hR, s.own (by simp) p.parts, s.own (by simp) p.staves, ⟨rs, own_step h1 fun k hk => setRow_other _ _ _ _ (fun e => hne (by rw [hk, e])), h2.same (s.less (by simp))⟩, s.own (by simp) p.last, p.aw.setRow hb m, p.lR, p.lX, p.nX, p.nR⟩
end
theorem own_is {w : World} {B : Nat} {T : TypeId} {size : Nat} {v : Value} {n : Nat} {xs : List Value} (h : w.ownsRow B T size v n xs) : ∃ ao c, v = .slice ao n c := by
  rcases h.2 with ⟨hv, h0⟩ | ⟨g, cap, cur, hv, _⟩
  · exact ⟨none, 0, by rw [hv, h0]⟩
  · exact ⟨_, _, hv⟩
theorem MeasIs.shape {w : World} {N : Nat} {ns : List (Option UInt8)} {k : Int} {m : Array Value} (h : MeasIs w N ns k m) : ∃ i ao n c, m = measArr i k (.slice ao n c) := by
  obtain ⟨cv, vs, rfl, h1, _⟩ := h
  obtain ⟨ao, c, rfl⟩ := own_is h1
  exact ⟨_, _, _, _, rfl⟩

def measureS : ByteArray := ⟨#[109, 101, 97, 115, 117, 114, 101]⟩
/-- Measures lie one behind the other. -/
inductive Meass (toks : List Tok) : Nat → Nat → Int → List (List (Option UInt8) × Int) → Nat → Prop
  | nil (pos N : Nat) (k : Int) : Meass toks pos N k [] pos
  | cons {pos k N kl pos' posE : Nat} {k0 k1 : Int} {ns : List (Option UInt8)} {l : List (List (Option UInt8) × Int)} {tm tb t0 t : Tok} (htm : toks[pos]? = some tm) (km : IsTok tm measureS = true)
      (hI : IdAt toks (pos + 1) k N) (hpos : pos + 1 ≤ 900000) (hN : N ≤ 90000) (hK : KeyAt toks (pos + 1 + k) k0 kl k1) (hn : ns.length ≤ 10000) (htb : toks[pos + 1 + k + kl]? = some tb) (kb : IsTok tb openB = true) (hi : Notes toks (pos + 1 + k + kl + 1) (N + 1) ns pos')
      (ht0 : toks[pos + 1 + k + kl + 1]? = some t0) (hc0 : IsTok t0 clefS = false) (ht : toks[pos']? = some t) (kt : IsTok t closeB = true) (kt4 : t.kind = 4) (hpos' : pos' ≤ 900000)
      (hrest : Meass toks (pos' + 1) (N + 1 + ns.length) k1 l posE) : Meass toks pos N k0 ((ns, k1) :: l) posE
theorem total_app : ∀ (a b : List (List (Option UInt8) × Int)) (N : Nat), total N (a ++ b) = total (total N a) b
  | [], _, _ => rfl
  | _ :: a, b, _ => total_app a b _
end Go.Proofs.YtjnkppneilmpbaaGreatDoor
