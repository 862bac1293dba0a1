/-
  A part of the proof that the law ParserIds (chapter 19) returns true for every site, number and count: walks of the program's functions, and runs of them in the kernel by the own evaluator.
-/
import Derived.Test.YtaimdnddmddbnaaGreatDoorPrj
import Derived.Test.YtaimdnddmddbnaaGreatDoorSrt
import Derived.Laws.Tables
namespace Go.Proofs.YtaimdnddmddbnaaGreatDoor
open Go.RowKit

theorem Tryz.sizeScore : (Tryz.prog.info? 29).map (·.size) = some 6 := by kernel_rfl
theorem Tryz.infoPart : (Tryz.prog.info? 40).map (fun i => (i.zero, i.size, i.bytes)) = some (some (.agg #[.int .i64 0, .int .i64 0, .string ByteArray.empty, .int .i64 0, .int .i64 0, .slice none 0 0]), 6, 72) := by kernel_rfl
theorem Tryz.infoId : (Tryz.prog.info? 35).map (fun i => (i.zero, i.size, i.bytes)) = some (some (.agg #[.int .i64 0, .int .i64 0]), 2, 16) := by kernel_rfl

def zScore : Obj := .cells #[.string ByteArray.empty, .bool false, .slice none 0 0, .slice none 0 0, .slice none 0 0, .slice none 0 0] 29 (0, 0)

section
variable {B0 Y M : Nat} {tv : Value} {toks : List Tok} {pos : Nat} {line col e : Int} {free : Bool} {ls ln : Int} {es : Array MapEntry} {clk : Nat} {w : World}

theorem Prs.rowAway (h : Prs Y M tv toks pos line col e free ls ln es clk w) {v : Value} {n : Nat} {xs : List Value} {T : TypeId} {size : Nat} (hown : w.ownsRow B0 T size v n xs) (h1 : T ≠ 83) (h2 : T ≠ 95) {w' : World} (ha : Away [Y, M] w w') : w'.ownsRow B0 T size v n xs := by
  obtain ⟨r1, r2, _⟩ := h.rowNe hown h1 h2
  refine own_step hown fun k hk => ha.block k (hown.lt k hk).2 ?_
  intro hm
  rcases List.mem_cons.1 hm with rfl | hm
  · exact r1 hk
  · obtain rfl := List.mem_singleton.1 hm
    exact r2 hk
end

/-- Rows of different kinds lie apart. -/
theorem rows_ne {w : World} {B B' T T' size size' n n' : Nat} {v v' : Value} {xs xs' : List Value} (h : w.ownsRow B T size v n xs) (h' : w.ownsRow B' T' size' v' n' xs') (hT : T ≠ T') : ∀ k, v.ownBlock = some k → v'.ownBlock ≠ some k := by
  intro k hk
  rcases h.2 with ⟨rfl, _⟩ | ⟨g, cap, cur, rfl, _, hg, _⟩
  · simp [Value.ownBlock] at hk
  · obtain rfl : g = k := by simpa [Value.ownBlock] using hk
    exact own_ne h' hg (by intro cs fr hc; injection hc with _ h3 _; exact hT h3)

/-- A row lasts while another of another kind grows. -/
theorem row_grown {w w' : World} {B B' T T' size size' n n' : Nat} {v v' : Value} {xs xs' : List Value} (h : w.ownsRow B T size v n xs) (h' : w.ownsRow B' T' size' v' n' xs') (hT : T ≠ T') (hg : w.grownBy w' v'.ownBlock) : w'.ownsRow B T size v n xs :=
  own_step h fun k hk => hg.block k (h.lt k hk).2 (fun e => rows_ne h h' hT k hk e.symm)

/-- A row lasts while a block of another kind is written. -/
theorem row_set {w : World} {B T size n : Nat} {v : Value} {xs : List Value} (h : w.ownsRow B T size v n xs) {k : Nat} {cs : Array Value} {U : TypeId} {fr : Nat × Nat} (hk : w.heap[k]? = some (.cells cs U fr)) (hU : U ≠ T) (i : Nat) (u : Value) : (w.setCell ⟨k, i, none⟩ u).ownsRow B T size v n xs :=
  own_step h fun j hj => Below.heap_setCell _ _ _ _ (fun e => own_ne h hk (by intro cs' fr' hc; injection hc with _ h3 _; exact hU h3) (by rw [hj, e]))

/-- The score that is being read lies at X: its title, its parts (the row pv), its last numbers (the row lv); sv are the staves of its part. R is where the result will lie. -/
structure ScAt (B0 R X Y M : Nat) (title : ByteArray) (pv : Value) (np : Nat) (ps : List Value) (lv : Value) (nl : Nat) (xl : List Value) (sv : Value) (ns : Nat) (ss : List Value) (w0 w : World) : Prop where
  hX : w.heap[X]? = some (.cells #[.string title, .bool false, pv, .slice none 0 0, .slice none 0 0, lv] 29 (0, 0))
  hR : w.heap[R]? = some zScore
  parts : w.ownsRow B0 40 6 pv np ps
  last : w.ownsRow B0 35 2 lv nl xl
  staves : w.ownsRow B0 42 3 sv ns ss
  aw : Away [Y, M] w0 w
  hB : B0 = w0.heap.size
  hBR : B0 ≤ R
  hRX : R ≠ X
  hBX : B0 ≤ X
  nXY : X ≠ Y
  nXM : X ≠ M
  nRY : R ≠ Y
  nRM : R ≠ M

section
variable {B0 R X Y M : Nat} {title : ByteArray} {pv : Value} {np : Nat} {ps : List Value} {lv : Value} {nl : Nat} {xl : List Value} {sv : Value} {ns : Nat} {ss : List Value} {w0 w : World} {tv : Value} {toks : List Tok} {pos : Nat} {line col e : Int} {free : Bool} {ls ln : Int} {es : Array MapEntry} {clk : Nat}

theorem ScAt.away (p : ScAt B0 R X Y M title pv np ps lv nl xl sv ns ss w0 w) (hS : Prs Y M tv toks pos line col e free ls ln es clk w) {w' : World} (ha : Away [Y, M] w w') : ScAt B0 R X Y M title pv np ps lv nl xl sv ns ss w0 w' := by
  have n1 := p.nXY
  have n2 := p.nXM
  have n3 := p.nRY
  have n4 := p.nRM
  exact ⟨ha.heap p.hX (by simp; omega), ha.heap p.hR (by simp; omega), hS.rowAway p.parts (by decide) (by decide) ha, hS.rowAway p.last (by decide) (by decide) ha, hS.rowAway p.staves (by decide) (by decide) ha, p.aw.trans ha, p.hB, p.hBR, p.hRX, p.hBX, p.nXY, p.nXM, p.nRY, p.nRM⟩
theorem ScAt.away1 (p : ScAt B0 R X Y M title pv np ps lv nl xl sv ns ss w0 w) (hS : Prs Y M tv toks pos line col e free ls ln es clk w) {w' : World} (ha : Away [Y] w w') : ScAt B0 R X Y M title pv np ps lv nl xl sv ns ss w0 w' := p.away hS (ha.more (by simp))
theorem ScAt.step (p : ScAt B0 R X Y M title pv np ps lv nl xl sv ns ss w0 w) (hS : Prs Y M tv toks pos line col e free ls ln es clk w) {w' : World} (hb : Below w.heap.size w w') : ScAt B0 R X Y M title pv np ps lv nl xl sv ns ss w0 w' := p.away hS (Away.of_below hb)
theorem ScAt.ltX (p : ScAt B0 R X Y M title pv np ps lv nl xl sv ns ss w0 w) : X < w.heap.size := (Array.getElem?_eq_some_iff.1 p.hX).1
theorem ScAt.f (p : ScAt B0 R X Y M title pv np ps lv nl xl sv ns ss w0 w) (i : Nat) : w.frozen? ⟨X, i, none⟩ = false := Lib.frozen_of_heap p.hX i
theorem ScAt.c0 (p : ScAt B0 R X Y M title pv np ps lv nl xl sv ns ss w0 w) : w.cell? ⟨X, 0, none⟩ = some (.string title) := by rw [Lib.cell_of_heap p.hX]; rfl
theorem ScAt.c1 (p : ScAt B0 R X Y M title pv np ps lv nl xl sv ns ss w0 w) : w.cell? ⟨X, 1, none⟩ = some (.bool false) := by rw [Lib.cell_of_heap p.hX]; rfl
theorem ScAt.c2 (p : ScAt B0 R X Y M title pv np ps lv nl xl sv ns ss w0 w) : w.cell? ⟨X, 2, none⟩ = some pv := by rw [Lib.cell_of_heap p.hX]; rfl
theorem ScAt.c3 (p : ScAt B0 R X Y M title pv np ps lv nl xl sv ns ss w0 w) : w.cell? ⟨X, 3, none⟩ = some (.slice none 0 0) := by rw [Lib.cell_of_heap p.hX]; rfl
theorem ScAt.c4 (p : ScAt B0 R X Y M title pv np ps lv nl xl sv ns ss w0 w) : w.cell? ⟨X, 4, none⟩ = some (.slice none 0 0) := by rw [Lib.cell_of_heap p.hX]; rfl
theorem ScAt.c5 (p : ScAt B0 R X Y M title pv np ps lv nl xl sv ns ss w0 w) : w.cell? ⟨X, 5, none⟩ = some lv := by rw [Lib.cell_of_heap p.hX]; rfl

/-- The title is stored. -/
theorem ScAt.setTitle (p : ScAt B0 R X Y M title pv np ps lv nl xl sv ns ss w0 w) (t : ByteArray) : ScAt B0 R X Y M t pv np ps lv nl xl sv ns ss w0 (w.setCell ⟨X, 0, none⟩ (.string t)) :=
  ⟨by rw [Lib.heap_setCell_same p.hX]; rfl, (Below.heap_setCell _ _ _ _ p.hRX).trans p.hR, row_set p.parts p.hX (by decide) _ _, row_set p.last p.hX (by decide) _ _, row_set p.staves p.hX (by decide) _ _, p.aw.setCell (p := ⟨X, 0, none⟩) (.inr (by rw [← p.hB]; exact p.hBX)) _, p.hB, p.hBR, p.hRX, p.hBX, p.nXY, p.nXM, p.nRY, p.nRM⟩
theorem ScAt.setWritten (p : ScAt B0 R X Y M title pv np ps lv nl xl sv ns ss w0 w) : ScAt B0 R X Y M title pv np ps lv nl xl sv ns ss w0 (w.setCell ⟨X, 1, none⟩ (.bool false)) :=
  ⟨by rw [Lib.heap_setCell_same p.hX]; rfl, (Below.heap_setCell _ _ _ _ p.hRX).trans p.hR, row_set p.parts p.hX (by decide) _ _, row_set p.last p.hX (by decide) _ _, row_set p.staves p.hX (by decide) _ _, p.aw.setCell (p := ⟨X, 1, none⟩) (.inr (by rw [← p.hB]; exact p.hBX)) _, p.hB, p.hBR, p.hRX, p.hBX, p.nXY, p.nXM, p.nRY, p.nRM⟩

theorem zScore_ne {T : TypeId} (hT : T ≠ 29) : ∀ cs fr, zScore ≠ .cells cs T fr := by
  unfold zScore; intro cs fr hc; injection hc with _ h2 _; exact hT h2.symm

/-- A part is appended. -/
theorem ScAt.addPart (p : ScAt B0 R X Y M title pv np ps lv nl xl sv ns ss w0 w) (hS : Prs Y M tv toks pos line col e free ls ln es clk w) {w' : World} {pv' : Value} {c : Array Value} {ps' : List Value}
    (hg : (w.alloc (.cells c 40)).grownBy w' pv.ownBlock) (hown : w'.ownsRow B0 40 6 pv' (np + 1) ps') :
    ScAt B0 R X Y M title pv' (np + 1) ps' lv nl xl sv ns ss w0 (w'.setCell ⟨X, 2, none⟩ pv') ∧ Prs Y M tv toks pos line col e free ls ln es clk (w'.setCell ⟨X, 2, none⟩ pv') ∧ w'.heap[X]? = some (.cells #[.string title, .bool false, pv, .slice none 0 0, .slice none 0 0, lv] 29 (0, 0)) := by
  have pa := p.step hS ((Below.refl _ w).alloc (Nat.le_refl _) (.cells c 40))
  have ha := hS.step ((Below.refl _ w).alloc (Nat.le_refl _) (.cells c 40))
  generalize w.alloc (.cells c 40) = v at hg pa ha
  obtain ⟨r1, r2, r3⟩ := ha.rowNe pa.parts (by decide) (by decide)
  have hP := ha.grown hg r1 r2 r3
  have hXne : pv.ownBlock ≠ some X := own_ne pa.parts pa.hX (by intro cs fr hc; injection hc with _ h2 _; exact absurd h2 (by decide))
  have hX' : w'.heap[X]? = some (.cells #[.string title, .bool false, pv, .slice none 0 0, .slice none 0 0, lv] 29 (0, 0)) := (hg.block X pa.ltX (fun e => hXne e.symm)).trans pa.hX
  have hRne : pv.ownBlock ≠ some R := own_ne pa.parts pa.hR (zScore_ne (by decide))
  have hR' : w'.heap[R]? = some zScore := (hg.block R (Array.getElem?_eq_some_iff.1 pa.hR).1 (fun e => hRne e.symm)).trans pa.hR
  have hl := row_grown pa.last pa.parts (by decide) hg
  have hs := row_grown pa.staves pa.parts (by decide) hg
  refine ⟨⟨by rw [Lib.heap_setCell_same hX']; rfl, (Below.heap_setCell _ _ _ _ p.hRX).trans hR', row_set hown hX' (by decide) _ _, row_set hl hX' (by decide) _ _, row_set hs hX' (by decide) _ _, ?_, p.hB, p.hBR, p.hRX, p.hBX, p.nXY, p.nXM, p.nRY, p.nRM⟩, hP.elsewhere hX' (by decide) (by decide) 2 pv', hX'⟩
  refine (pa.aw.grown hg fun k hk => ?_).setCell (p := ⟨X, 2, none⟩) (.inr (by rw [← p.hB]; exact p.hBX)) _
  rw [← p.hB]
  exact (pa.parts.lt k hk).1

/-- A last number is appended. -/
theorem ScAt.addLast (p : ScAt B0 R X Y M title pv np ps lv nl xl sv ns ss w0 w) (hS : Prs Y M tv toks pos line col e free ls ln es clk w) {w' : World} {lv' : Value} {c : Array Value} {xl' : List Value}
    (hg : (w.alloc (.cells c 35)).grownBy w' lv.ownBlock) (hown : w'.ownsRow B0 35 2 lv' (nl + 1) xl') :
    ScAt B0 R X Y M title pv np ps lv' (nl + 1) xl' sv ns ss w0 (w'.setCell ⟨X, 5, none⟩ lv') ∧ Prs Y M tv toks pos line col e free ls ln es clk (w'.setCell ⟨X, 5, none⟩ lv') ∧ w'.heap[X]? = some (.cells #[.string title, .bool false, pv, .slice none 0 0, .slice none 0 0, lv] 29 (0, 0)) := by
  have pa := p.step hS ((Below.refl _ w).alloc (Nat.le_refl _) (.cells c 35))
  have ha := hS.step ((Below.refl _ w).alloc (Nat.le_refl _) (.cells c 35))
  generalize w.alloc (.cells c 35) = v at hg pa ha
  obtain ⟨r1, r2, r3⟩ := ha.rowNe pa.last (by decide) (by decide)
  have hP := ha.grown hg r1 r2 r3
  have hXne : lv.ownBlock ≠ some X := own_ne pa.last pa.hX (by intro cs fr hc; injection hc with _ h2 _; exact absurd h2 (by decide))
  have hX' : w'.heap[X]? = some (.cells #[.string title, .bool false, pv, .slice none 0 0, .slice none 0 0, lv] 29 (0, 0)) := (hg.block X pa.ltX (fun e => hXne e.symm)).trans pa.hX
  have hRne : lv.ownBlock ≠ some R := own_ne pa.last pa.hR (zScore_ne (by decide))
  have hR' : w'.heap[R]? = some zScore := (hg.block R (Array.getElem?_eq_some_iff.1 pa.hR).1 (fun e => hRne e.symm)).trans pa.hR
  have hl := row_grown pa.parts pa.last (by decide) hg
  have hs := row_grown pa.staves pa.last (by decide) hg
  refine ⟨⟨by rw [Lib.heap_setCell_same hX']; rfl, (Below.heap_setCell _ _ _ _ p.hRX).trans hR', row_set hl hX' (by decide) _ _, row_set hown hX' (by decide) _ _, row_set hs hX' (by decide) _ _, ?_, p.hB, p.hBR, p.hRX, p.hBX, p.nXY, p.nXM, p.nRY, p.nRM⟩, hP.elsewhere hX' (by decide) (by decide) 5 lv', hX'⟩
  refine (pa.aw.grown hg fun k hk => ?_).setCell (p := ⟨X, 5, none⟩) (.inr (by rw [← p.hB]; exact p.hBX)) _
  rw [← p.hB]
  exact (pa.last.lt k hk).1
end
end Go.Proofs.YtaimdnddmddbnaaGreatDoor

namespace Go.Proofs.YtaimdnddmddbnaaGreatDoor
open Go.RowKit

theorem Tryz.sizeMeasure : (Tryz.prog.info? 56).map (·.size) = some 22 := by kernel_rfl
def measCells : Array Value := #[.int .i64 0, .int .i64 0, .int .i64 4, .int .i64 4, .int .i64 0, .int .i64 0, .int .i64 0, .int .i64 0, .int .i64 0, .int .i64 0, .int .i64 0, .int .i64 0, .bool false, .int .i64 0, .int .i64 0, .int .i64 0, .int .i64 0, .int .i64 0, .int .i64 0, .string ByteArray.empty, .slice none 0 0, .slice none 0 0]
def metCells : Array Value := #[.int .i64 4, .int .i64 4, .int .i64 0, .int .i64 0, .int .i64 0, .int .i64 0, .int .i64 0, .int .i64 0]
theorem built52 : Tryz.prog.built 52 [(0, .int .i64 4), (1, .int .i64 4)] = some metCells := by kernel_rfl
def measZ : Array Value := #[.int .i64 0, .int .i64 0, .int .i64 0, .int .i64 0, .int .i64 0, .int .i64 0, .int .i64 0, .int .i64 0, .int .i64 0, .int .i64 0, .int .i64 0, .int .i64 0, .bool false, .int .i64 0, .int .i64 0, .int .i64 0, .int .i64 0, .int .i64 0, .int .i64 0, .string ByteArray.empty, .slice none 0 0, .slice none 0 0]
theorem built56 : Tryz.prog.built 56 [(1, .agg metCells)] = some measCells := by kernel_rfl

theorem get_put {a : Act} {n : Nat} (v : Value) (h : n < a.tmps.size) : (a.put (some n) v).eval (.tmp n) = v := by
  simp [Act.put, Act.eval, h]
theorem get_put_ne {a : Act} {n m : Nat} (v : Value) (h : n ≠ m) : (a.put (some n) v).eval (.tmp m) = a.eval (.tmp m) := by
  simp [Act.put, Act.eval, h]
theorem size_put {a : Act} {d : Option Nat} (v : Value) : (a.put d v).tmps.size = a.tmps.size := by
  cases d <;> simp [Act.put]

set_option maxRecDepth 100000 in
theorem meas_ops {ops : Array Oper} {Q : Exit → Act → World → Prop} {a : Act} {w : World} {o1 o2 o3 o4 : Oper} (g1 : o1.guard = none) (g2 : o2.guard = none) (g3 : o3.guard = none) (g4 : o4.guard = none)
    (e1 : o1.op = .build 52 #[(0, .const (.int .i64 4)), (1, .const (.int .i64 4))]) (e2 : o2.op = .build 56 #[(1, .tmp 59)]) (e3 : o3.op = .alloc 56) (e4 : o4.op = .store 56 (.tmp 5) (.tmp 60))
    (d1 : o1.dst = some 59) (d2 : o2.dst = some 60) (d3 : o3.dst = some 5) (d4 : o4.dst = none) (hs : 60 < a.tmps.size)
    (h : ∀ v1 v2 o, Q .normal ((((a.put (some 59) v1).put (some 60) v2).put (some 5) (.pointer (some ⟨w.heap.size, 0, none⟩))).put none undef) (w.alloc o)) :
    wpList Tryz.prog ops Q [o1, o2, o3, o4] a w := by
  have hl0 : ((#[(0, Operand.const (.int .i64 4)), (1, Operand.const (.int .i64 4))] : Array (Nat × Operand)).map fun (i, x) => (i, a.eval x)).toList = [(0, .int .i64 4), (1, .int .i64 4)] := by simp [Act.eval]
  refine wpList_build g1 52 _ e1 (by rw [hl0, built52]; rfl) ?_
  rw [hl0, built52, d1]
  simp only [Option.getD_some]
  have hl : ((#[(1, Operand.tmp 59)] : Array (Nat × Operand)).map fun (i, x) => (i, (a.put (some 59) (.agg metCells)).eval x)).toList = [(1, .agg metCells)] := by
    simp [get_put _ (show 59 < a.tmps.size by omega)]
  refine wpList_build g2 56 _ e2 (by rw [hl, built56]; rfl) ?_
  rw [hl, built56, d2]
  simp only [Option.getD_some]
  generalize ha2 : ((a.put (some 59) (.agg metCells)).put (some 60) (.agg measCells)) = a2
  have hs2 : a2.tmps.size = a.tmps.size := by rw [← ha2, size_put, size_put]
  have hv60 : a2.eval (.tmp 60) = .agg measCells := by rw [← ha2]; exact get_put _ (by rw [size_put]; exact hs)
  have hal : (execOp a2.eval o3).run Tryz.prog w = .ok (.value (.pointer (some ⟨w.heap.size, 0, none⟩))) (w.alloc (.cells measZ 56)) := by
    unfold execOp
    simp only [e3]
    simp [go_sem]
    rfl
  refine wpList_plain g3 fun K hK => ?_
  unfold Oper.wp
  rw [hal, Oper.upon_value]
  refine hK _ _ ?_
  rw [d3]
  have hv5 : (a2.put (some 5) (.pointer (some ⟨w.heap.size, 0, none⟩))).eval (.tmp 5) = .pointer (some ⟨w.heap.size, 0, none⟩) := get_put _ (by omega)
  have hv60' : (a2.put (some 5) (.pointer (some ⟨w.heap.size, 0, none⟩))).eval (.tmp 60) = .agg measCells := by rw [get_put_ne _ (by decide)]; exact hv60
  refine wpList_store_row g4 56 _ _ e4 w.heap.size measCells hv5 hv60' 56 measZ (heap_alloc_new w _) Tryz.sizeMeasure rfl (by simp [measCells, Value.oneCell']) ?_
  rw [d4]
  refine wpList_nil ?_
  have hw : (w.alloc (.cells measZ 56)).setRow w.heap.size measCells = w.alloc (.cells measCells 56) := by
    have hh : ((w.alloc (.cells measZ 56)).setRow w.heap.size measCells).heap = (w.alloc (.cells measCells 56)).heap := by
      apply Array.ext_getElem?
      intro i
      by_cases hi : i = w.heap.size
      · subst hi
        rw [setRow_heap _ _ _ _ _ _ (heap_alloc_new w _), heap_alloc_new w _]
      · rw [setRow_other _ _ _ _ hi]
        show (w.heap.push _)[i]? = (w.heap.push _)[i]?
        rw [Array.getElem?_push, Array.getElem?_push, if_neg hi, if_neg hi]
    show ({ w.alloc (.cells measZ 56) with heap := ((w.alloc (.cells measZ 56)).setRow w.heap.size measCells).heap } : World) = _
    rw [hh]
    rfl
  rw [hw, ← ha2]
  exact h _ _ _
end Go.Proofs.YtaimdnddmddbnaaGreatDoor
