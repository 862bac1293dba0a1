/-
  A part of the proof that the law ParserSheets (chapter 19) returns true for every sheet: walks of the program's functions, and runs of them in the kernel by the own evaluator.
-/
import Derived.Test.YtjnkppneilmpbaaGreatDoorOpt
import Derived.Test.YtjnkppneilmpbaaGreatDoorEqe
namespace Go.Proofs.YtjnkppneilmpbaaGreatDoor
open Go.RowKit

section
variable {P : Program} {ops : Array Oper} {S : World → Prop} {op : Oper} {a : Act}
theorem yieldsIf_load_at (hw : Region.wanted op (yielded ops a.tmps) = true) (ty : TypeId) (x : Operand) (ho : op.op = .load ty x)
    (p : Addr) (hx : a.eval x = .pointer (some p)) (cs : Array Value) (d : TypeDesc) (hS : ∀ w, S w → ∀ (j : Nat) (v : Value), cs[j]? = some v → w.cell? (p.add j) = some v)
    (hu : P.underlying ty = some d) (hd : (match d with | .struct _ | .array _ _ => true | _ => false) = true) (hi : (P.info? ty).map (·.size) = some cs.size) : YieldsIf P ops S op (.agg cs) a :=
  .inl ⟨hw, fun w hw' => by
    unfold execOp
    simp only [ho, hx, Instr.loadAt, Instr.sureAddr, Sem.run_bind, Sem.run_pure, Result.andThen_ok, run_loadVar_at w p ty cs d (hS w hw') hu hd hi]⟩
theorem yieldsIf_build (hw : Region.wanted op (yielded ops a.tmps) = true) (t : TypeId) (parts : Array (Nat × Operand)) (ho : op.op = .build t parts) {l : List (Nat × Value)} (hl : (parts.map fun (i, x) => (i, a.eval x)).toList = l)
    {cs : Array Value} (hf : P.built t l = some cs) : YieldsIf P ops S op (.agg cs) a :=
  .inl ⟨hw, fun w _ => by
    subst hl
    unfold execOp
    simp only [ho, Sem.run_bind, run_build w t _ cs hf, Result.andThen_ok]
    rfl⟩
end

theorem Tryz.sizeMetre : (Tryz.prog.info? 52).map (·.size) = some 8 := by kernel_rfl
def metArr : Array Value := #[.int .i64 4, .int .i64 4, .int .i64 0, .int .i64 0, .int .i64 0, .int .i64 0, .int .i64 0, .int .i64 0]
def zMeasArr : Array Value := #[.int .i64 0, .int .i64 0, .int .i64 0, .int .i64 0, .int .i64 0, .int .i64 0, .int .i64 0, .int .i64 0, .int .i64 0, .int .i64 0, .int .i64 0, .int .i64 0, .bool false, .int .i64 0, .int .i64 0, .int .i64 0, .int .i64 0, .int .i64 0, .int .i64 0, .string ByteArray.empty, .slice none 0 0, .slice none 0 0]
def zMeas : Obj := .cells zMeasArr 56 (0, 0)
theorem built_meas (i k : Int) : Tryz.prog.built 56 [(0, .agg #[.int .i64 0, .int .i64 i]), (1, .agg metArr), (3, .int .i64 k)] = some (measArr i k (.slice none 0 0)) := by kernel_rfl

theorem add_off (g o j : Nat) : (⟨g, o, none⟩ : Addr).add j = ⟨g, o + j, none⟩ := by unfold Addr.add; split <;> simp_all
theorem met_at {w : World} {B : Nat} {i k : Int} {cv : Value} {p : Prop} (h : w.heap[B]? = some (.cells (measArr i k cv) 56 (0, 0)) ∧ p) (j : Nat) (v : Value) (hv : metArr[j]? = some v) : w.cell? ((⟨B, 2, none⟩ : Addr).add j) = some v := by
  rw [add_off]
  refine measArr_at h.1 (2 + j) ?_
  match j, hv with
  | 0, hv => exact hv
  | 1, hv => exact hv
  | 2, hv => exact hv
  | 3, hv => exact hv
  | 4, hv => exact hv
  | 5, hv => exact hv
  | 6, hv => exact hv
  | 7, hv => exact hv
  | j + 8, hv => simp [metArr] at hv
theorem meas_k {w : World} {B : Nat} {i k : Int} {cv : Value} (h : w.heap[B]? = some (.cells (measArr i k cv) 56 (0, 0))) : w.cell? ⟨B, 11, none⟩ = some (.int .i64 k) := measArr_at h 11 rfl

/-- The measure that is being read lies at X; R is where the result will lie. -/
structure MAt (R X Y M : Nat) (i k : Int) (cv : Value) (n : Nat) (xs : List Value) (w0 w : World) : Prop where
  hX : w.heap[X]? = some (.cells (measArr i k cv) 56 (0, 0))
  hR : w.heap[R]? = some zMeas
  own : w.ownsRow w0.heap.size 75 2 cv n xs
  aw : Away [Y, M] w0 w
  lR : w0.heap.size ≤ R
  lX : R < X
  nX : X ∉ [Y, M]
  nR : R ∉ [Y, M]

section
variable {R X Y M : Nat} {i k : Int} {cv : Value} {n : Nat} {xs : List Value} {w0 w w' : World} {tv : Value} {toks : List Tok} {pos : Nat} {line col e : Int} {free : Bool} {ls ln : Int} {es : Array MapEntry} {clk : Nat}
theorem MAt.away (p : MAt R X Y M i k cv n xs w0 w) (hS : Prs Y M tv toks pos line col e free ls ln es clk w) (ha : Away [Y, M] w w') : MAt R X Y M i k cv n xs w0 w' := by
  obtain ⟨r1, r2, _⟩ := hS.rowNe p.own (by decide) (by decide)
  refine ⟨ha.heap p.hX p.nX, ha.heap p.hR p.nR, own_step p.own fun j hj => ha.block j (p.own.lt j hj).2 ?_, p.aw.trans ha, p.lR, p.lX, p.nX, p.nR⟩
  intro hm
  rcases List.mem_cons.1 hm with rfl | hm
  · exact r1 hj
  · obtain rfl := List.mem_singleton.1 hm
    exact r2 hj
theorem MAt.step (p : MAt R X Y M i k cv n xs w0 w) (hS : Prs Y M tv toks pos line col e free ls ln es clk w) (hb : Below w.heap.size w w') : MAt R X Y M i k cv n xs w0 w' := p.away hS (Away.of_below hb)
theorem MAt.away1 (p : MAt R X Y M i k cv n xs w0 w) (hS : Prs Y M tv toks pos line col e free ls ln es clk w) (ha : Away [Y] w w') : MAt R X Y M i k cv n xs w0 w' := p.away hS (ha.more (by simp))
theorem MAt.ltX (p : MAt R X Y M i k cv n xs w0 w) : X < w.heap.size := (Array.getElem?_eq_some_iff.1 p.hX).1
theorem MAt.ltR (p : MAt R X Y M i k cv n xs w0 w) : R < w.heap.size := (Array.getElem?_eq_some_iff.1 p.hR).1
theorem MAt.c21 (p : MAt R X Y M i k cv n xs w0 w) : w.cell? ⟨X, 21, none⟩ = some cv := measArr_at p.hX 21 rfl
theorem MAt.f (p : MAt R X Y M i k cv n xs w0 w) (j : Nat) : w.frozen? ⟨X, j, none⟩ = false := Lib.frozen_of_heap p.hX j
theorem MAt.neX (p : MAt R X Y M i k cv n xs w0 w) : cv.ownBlock ≠ some X := own_ne p.own p.hX (by intro cs fr hc; injection hc with _ h2 _; exact absurd h2 (by decide))
theorem MAt.neR (p : MAt R X Y M i k cv n xs w0 w) : cv.ownBlock ≠ some R := own_ne p.own p.hR (by unfold zMeas; intro cs fr hc; injection hc with _ h2 _; exact absurd h2 (by decide))
theorem MAt.setKey (p : MAt R X Y M i k cv n xs w0 w) (k' : Int) : MAt R X Y M i k' cv n xs w0 (w.setCell ⟨X, 11, none⟩ (.int .i64 k')) :=
  ⟨by rw [Lib.heap_setCell_same p.hX]; rfl, (Below.heap_setCell _ _ _ _ (Nat.ne_of_lt p.lX)).trans p.hR, own_step p.own fun j hj => Below.heap_setCell _ _ _ _ (fun e => p.neX (by rw [hj, e])), p.aw.setCell (p := ⟨X, 11, none⟩) (.inr (by have := p.lX; have := p.lR; show w0.heap.size ≤ X; omega)) _, p.lR, p.lX, p.nX, p.nR⟩
/-- A cell is appended. -/
theorem MAt.push (p : MAt R X Y M i k cv n xs w0 w) (hS : Prs Y M tv toks pos line col e free ls ln es clk w) {cv' : Value} {c : Array Value} {xs' : List Value} {N0 : Nat} {ns : List (Option UInt8)} {vs : Value} (hC : CellIs w N0 ns vs)
    (hg : (w.alloc (.cells c 75)).grownBy w' cv.ownBlock) (hown : w'.ownsRow w0.heap.size 75 2 cv' (n + 1) xs') :
    MAt R X Y M i k cv' (n + 1) xs' w0 (w'.setCell ⟨X, 21, none⟩ cv') ∧ Prs Y M tv toks pos line col e free ls ln es clk (w'.setCell ⟨X, 21, none⟩ cv') ∧ CellIs (w'.setCell ⟨X, 21, none⟩ cv') N0 ns vs ∧ w'.heap[X]? = some (.cells (measArr i k cv) 56 (0, 0)) := by
  have bc := (Below.refl _ w).alloc (Nat.le_refl _) (.cells c 75)
  have pa := p.step hS bc
  have ha := hS.step bc
  have hCa := hC.same (Same.of_below bc)
  generalize w.alloc (.cells c 75) = v at hg pa ha hCa
  obtain ⟨r1, r2, r3⟩ := ha.rowNe pa.own (by decide) (by decide)
  have hP := ha.grown hg r1 r2 r3
  have hX' : w'.heap[X]? = some (.cells (measArr i k cv) 56 (0, 0)) := (hg.block X pa.ltX (fun e => pa.neX e.symm)).trans pa.hX
  have hR' : w'.heap[R]? = some zMeas := (hg.block R pa.ltR (fun e => pa.neR e.symm)).trans pa.hR
  have hC' := (hCa.same (Same.of_grown hg pa.own (by decide))).same (Same.of_set (i := 21) (u := cv') hX' (by decide))
  have hne' : cv'.ownBlock ≠ some X := own_ne hown hX' (by intro cs fr hc; injection hc with _ h2 _; exact absurd h2 (by decide))
  have l1 := p.lX
  have l2 := p.lR
  refine ⟨⟨by rw [Lib.heap_setCell_same hX']; rfl, (Below.heap_setCell _ _ _ _ (Nat.ne_of_lt p.lX)).trans hR', own_step hown fun j hj => Below.heap_setCell _ _ _ _ (fun e => hne' (by rw [hj, e])), ?_, p.lR, p.lX, p.nX, p.nR⟩, hP.elsewhere hX' (by decide) (by decide) 21 cv', hC', hX'⟩
  exact (pa.aw.grownRow hg fun j hj => .inr (pa.own.lt j hj).1).setCell (p := ⟨X, 21, none⟩) (.inr (by show w0.heap.size ≤ X; omega)) _
end

/-- The options' words. -/
def optWords : List ByteArray := [o0, o1, o2, o3, o4, o5, o6, o7, o8, o9, o10, o11, o12, o13]
theorem opt_at {w : World} {O Bp Bm b : Nat} (h : w.heap[O]? = some (optRow Bp Bm b)) {j : Nat} (hj : j < 14) : ∃ s f, optWords[j]? = some s ∧ (j = 2 → s = o2 ∧ f = .func (.func 80) #[] #[.pointer (some ⟨Bp, 0, none⟩), .pointer (some ⟨Bm, 0, none⟩)]) ∧ f.oneCell' = true ∧
    ∀ (m : Nat) (u : Value), (#[.string s, f] : Array Value)[m]? = some u → w.cell? ⟨O, j * 2 + m, none⟩ = some u := by
  unfold optRow at h
  have two : ∀ (s : ByteArray) (f : Value), w.cell? ⟨O, j * 2, none⟩ = some (.string s) → w.cell? ⟨O, j * 2 + 1, none⟩ = some f → ∀ (m : Nat) (u : Value), (#[.string s, f] : Array Value)[m]? = some u → w.cell? ⟨O, j * 2 + m, none⟩ = some u := by
    intro s f h0 h1 m u hu
    match m, hu with
    | 0, hu => simp at hu; subst hu; exact h0
    | 1, hu => simp at hu; subst hu; exact h1
    | m + 2, hu => simp at hu
  match j, hj with
  | 0, _ => exact ⟨_, _, rfl, (by intro e; cases e), rfl, two _ _ (by rw [Lib.cell_of_heap h]; rfl) (by rw [Lib.cell_of_heap h]; rfl)⟩
  | 1, _ => exact ⟨_, _, rfl, (by intro e; cases e), rfl, two _ _ (by rw [Lib.cell_of_heap h]; rfl) (by rw [Lib.cell_of_heap h]; rfl)⟩
  | 2, _ => exact ⟨_, _, rfl, (fun _ => ⟨rfl, rfl⟩), rfl, two _ _ (by rw [Lib.cell_of_heap h]; rfl) (by rw [Lib.cell_of_heap h]; rfl)⟩
  | 3, _ => exact ⟨_, _, rfl, (by intro e; cases e), rfl, two _ _ (by rw [Lib.cell_of_heap h]; rfl) (by rw [Lib.cell_of_heap h]; rfl)⟩
  | 4, _ => exact ⟨_, _, rfl, (by intro e; cases e), rfl, two _ _ (by rw [Lib.cell_of_heap h]; rfl) (by rw [Lib.cell_of_heap h]; rfl)⟩
  | 5, _ => exact ⟨_, _, rfl, (by intro e; cases e), rfl, two _ _ (by rw [Lib.cell_of_heap h]; rfl) (by rw [Lib.cell_of_heap h]; rfl)⟩
  | 6, _ => exact ⟨_, _, rfl, (by intro e; cases e), rfl, two _ _ (by rw [Lib.cell_of_heap h]; rfl) (by rw [Lib.cell_of_heap h]; rfl)⟩
  | 7, _ => exact ⟨_, _, rfl, (by intro e; cases e), rfl, two _ _ (by rw [Lib.cell_of_heap h]; rfl) (by rw [Lib.cell_of_heap h]; rfl)⟩
  | 8, _ => exact ⟨_, _, rfl, (by intro e; cases e), rfl, two _ _ (by rw [Lib.cell_of_heap h]; rfl) (by rw [Lib.cell_of_heap h]; rfl)⟩
  | 9, _ => exact ⟨_, _, rfl, (by intro e; cases e), rfl, two _ _ (by rw [Lib.cell_of_heap h]; rfl) (by rw [Lib.cell_of_heap h]; rfl)⟩
  | 10, _ => exact ⟨_, _, rfl, (by intro e; cases e), rfl, two _ _ (by rw [Lib.cell_of_heap h]; rfl) (by rw [Lib.cell_of_heap h]; rfl)⟩
  | 11, _ => exact ⟨_, _, rfl, (by intro e; cases e), rfl, two _ _ (by rw [Lib.cell_of_heap h]; rfl) (by rw [Lib.cell_of_heap h]; rfl)⟩
  | 12, _ => exact ⟨_, _, rfl, (by intro e; cases e), rfl, two _ _ (by rw [Lib.cell_of_heap h]; rfl) (by rw [Lib.cell_of_heap h]; rfl)⟩
  | 13, _ => exact ⟨_, _, rfl, (by intro e; cases e), rfl, two _ _ (by rw [Lib.cell_of_heap h]; rfl) (by rw [Lib.cell_of_heap h]; rfl)⟩

theorem all_two {s : ByteArray} {f : Value} (h : f.oneCell' = true) : (#[.string s, f] : Array Value).all (·.oneCell') = true := by cases f <;> simp_all [Value.oneCell']
/-- A token that is no option's word. -/
def NoOpt (t : Tok) : Prop := ∀ s ∈ optWords, IsTok t s = false
/-- Where the options begin: no option, or the key. -/
def KeyAt (toks : List Tok) (q : Nat) (k0 : Int) (kl : Nat) (k1 : Int) : Prop :=
  (kl = 0 ∧ k1 = k0 ∧ ∃ t, toks[q]? = some t ∧ NoOpt t) ∨
  (kl = 2 ∧ ∃ t0 t1 t2, toks[q]? = some t0 ∧ IsTok t0 o2 = true ∧ toks[q + 1]? = some t1 ∧ t1.kind = 2 ∧ t1.value = k1 ∧ 0 ≤ k1 ∧ k1 ≤ 7 ∧ toks[q + 2]? = some t2 ∧ NoOpt t2)
theorem word_ne2 {j : Nat} {s : ByteArray} (h : optWords[j]? = some s) (hj : j ≠ 2) : o2 ≠ s := by
  match j, h with
  | 0, h => injection h with h; subst h; decide
  | 1, h => injection h with h; subst h; decide
  | 2, h => exact absurd rfl hj
  | 3, h => injection h with h; subst h; decide
  | 4, h => injection h with h; subst h; decide
  | 5, h => injection h with h; subst h; decide
  | 6, h => injection h with h; subst h; decide
  | 7, h => injection h with h; subst h; decide
  | 8, h => injection h with h; subst h; decide
  | 9, h => injection h with h; subst h; decide
  | 10, h => injection h with h; subst h; decide
  | 11, h => injection h with h; subst h; decide
  | 12, h => injection h with h; subst h; decide
  | 13, h => injection h with h; subst h; decide
  | j + 14, h => simp [optWords] at h
/-- The parser's place and the key ahead of option j. -/
def OptPos (q0 kl : Nat) (k0 k1 : Int) (j q : Nat) (kq : Int) : Prop := (j ≤ 2 ∧ q = q0 ∧ kq = k0) ∨ (2 < j ∧ q = q0 + kl ∧ kq = k1)
theorem KeyAt.at {toks : List Tok} {q0 kl j q : Nat} {k0 k1 kq : Int} (h : KeyAt toks q0 k0 kl k1) (hp : OptPos q0 kl k0 k1 j q kq) {s : ByteArray} (hs : optWords[j]? = some s) :
    (OptPos q0 kl k0 k1 (j + 1) q kq ∧ ∃ t, toks[q]? = some t ∧ IsTok t s = false) ∨
    (j = 2 ∧ q = q0 ∧ OptPos q0 kl k0 k1 3 (q0 + 2) k1 ∧ ∃ t0 t1, toks[q0]? = some t0 ∧ IsTok t0 o2 = true ∧ toks[q0 + 1]? = some t1 ∧ t1.kind = 2 ∧ t1.value = k1 ∧ 0 ≤ k1 ∧ k1 ≤ 7) := by
  have hm : s ∈ optWords := List.mem_of_getElem? hs
  rcases h with ⟨rfl, rfl, t, ht, hn⟩ | ⟨rfl, t0, t1, t2, h0, e0, h1, k, v, lo, hi, h2, hn⟩
  · refine .inl ⟨?_, t, ?_, hn s hm⟩
    · rcases hp with ⟨a, b, c⟩ | ⟨a, b, c⟩
      · by_cases hj : j = 2
        · exact .inr ⟨by omega, b, c⟩
        · exact .inl ⟨by omega, b, c⟩
      · exact .inr ⟨by omega, b, c⟩
    · rcases hp with ⟨a, b, c⟩ | ⟨a, b, c⟩ <;> (subst b; exact ht)
  · rcases hp with ⟨a, b, c⟩ | ⟨a, b, c⟩
    · by_cases hj : j = 2
      · exact .inr ⟨hj, b, .inr ⟨by omega, rfl, rfl⟩, t0, t1, h0, e0, h1, k, v, lo, hi⟩
      · exact .inl ⟨.inl ⟨by omega, b, c⟩, t0, b ▸ h0, isTok_other e0 (word_ne2 hs hj)⟩
    · exact .inl ⟨.inr ⟨by omega, b, c⟩, t2, b ▸ h2, hn s hm⟩

def tempoS : ByteArray := ⟨#[116, 101, 109, 112, 111]⟩
def openB : ByteArray := ⟨#[123]⟩
def closeB : ByteArray := ⟨#[125]⟩
def slashS : ByteArray := ⟨#[47]⟩
theorem Tryz.sizeOpt : (Tryz.prog.info? 151).map (·.size) = some 2 := by kernel_rfl
theorem Tryz.infoCell : (Tryz.prog.info? 75).map (fun i => (i.zero, i.size, i.bytes)) = some (some (.agg #[.slice none 0 0, .slice none 0 0]), 2, 48) := by kernel_rfl
theorem CellIs.is {w : World} {N0 : Nat} {ns : List (Option UInt8)} {vs : Value} (h : CellIs w N0 ns vs) : ∃ a n c, vs = .slice a n c := by
  rcases h with ⟨_, rfl⟩ | ⟨_, ev, hs, _, h2, _⟩
  · exact ⟨_, _, _, rfl⟩
  · rcases h2.2 with ⟨hv, _⟩ | ⟨g, cap, cur, hv, _⟩
    · exact ⟨_, _, _, hv⟩
    · exact ⟨_, _, _, hv⟩

end Go.Proofs.YtjnkppneilmpbaaGreatDoor

namespace Go.Proofs.YtjnkppneilmpbaaGreatDoor
open Go.RowKit

/-- A measure lies in memory: N ids stand ahead of it. -/
def MeasIs (w : World) (N : Nat) (ns : List (Option UInt8)) (k : Int) (r : Array Value) : Prop :=
  ∃ cv vs, r = measArr ((N : Int) + 1) k cv ∧ w.ownsRow 0 75 2 cv 1 [.slice none 0 0, vs] ∧ CellIs w (N + 1) ns vs
theorem MeasIs.same {w w' : World} {N : Nat} {ns : List (Option UInt8)} {k : Int} {r : Array Value} (h : MeasIs w N ns k r) (s : Same [60, 67, 71, 75] w w') : MeasIs w' N ns k r := by
  obtain ⟨cv, vs, e, h1, h2⟩ := h
  exact ⟨cv, vs, e, s.own (by simp) h1, h2.same (s.less (by simp))⟩
/-- The measures of a sheet, one behind the other. -/
def MsIs (w : World) : Nat → List (List (Option UInt8) × Int) → List (Array Value) → Prop
  | _, [], [] => True
  | N, p :: l, r :: rs => MeasIs w N p.1 p.2 r ∧ MsIs w (N + 1 + p.1.length) l rs
  | _, _, _ => False
/-- How many ids there are behind them. -/
def total : Nat → List (List (Option UInt8) × Int) → Nat
  | N, [] => N
  | N, p :: l => total (N + 1 + p.1.length) l
theorem total_more (p : List (Option UInt8) × Int) : ∀ (l : List (List (Option UInt8) × Int)) (N : Nat), total N (l ++ [p]) = total N l + 1 + p.1.length
  | [], _ => rfl
  | _ :: l, _ => total_more p l _
theorem total_le : ∀ (l : List (List (Option UInt8) × Int)) (N : Nat), N ≤ total N l
  | [], _ => Nat.le_refl _
  | _ :: l, _ => Nat.le_trans (by omega) (total_le l _)
theorem MsIs.len {w : World} : ∀ {l : List (List (Option UInt8) × Int)} {N : Nat} {rs : List (Array Value)}, MsIs w N l rs → rs.length = l.length
  | [], _, [], _ => rfl
  | _ :: _, _, _ :: _, h => by simp [MsIs.len h.2]
theorem MsIs.more {w : World} {ns : List (Option UInt8)} {k : Int} {r : Array Value} : ∀ {l : List (List (Option UInt8) × Int)} {N : Nat} {rs : List (Array Value)}, MsIs w N l rs → MeasIs w (total N l) ns k r → MsIs w N (l ++ [(ns, k)]) (rs ++ [r])
  | [], _, [], _, h => ⟨h, trivial⟩
  | _ :: _, _, _ :: _, h, h' => ⟨h.1, MsIs.more h.2 h'⟩
theorem MsIs.same {w w' : World} (s : Same [60, 67, 71, 75] w w') : ∀ {l : List (List (Option UInt8) × Int)} {N : Nat} {rs : List (Array Value)}, MsIs w N l rs → MsIs w' N l rs
  | [], _, [], _ => trivial
  | _ :: _, _, _ :: _, h => ⟨h.1.same s, MsIs.same s h.2⟩
theorem meas_form (i k : Int) (cv : Value) (h : cv.oneCell' = true) : (measArr i k cv).size = 22 ∧ (measArr i k cv).all (·.oneCell') = true := ⟨rfl, by cases cv <;> simp_all [measArr, Value.oneCell']⟩
theorem own_one {w : World} {B : Nat} {T : TypeId} {size : Nat} {v : Value} {n : Nat} {xs : List Value} (h : w.ownsRow B T size v n xs) : v.oneCell' = true := by
  rcases h.2 with ⟨rfl, _⟩ | ⟨g, cap, cur, rfl, _⟩ <;> rfl
theorem MeasIs.form {w : World} {N : Nat} {ns : List (Option UInt8)} {k : Int} {r : Array Value} (h : MeasIs w N ns k r) : r.size = 22 ∧ r.all (·.oneCell') = true := by
  obtain ⟨cv, vs, rfl, h1, _⟩ := h
  exact meas_form _ _ _ (own_one h1)
theorem MsIs.forms {w : World} : ∀ {l : List (List (Option UInt8) × Int)} {N : Nat} {rs : List (Array Value)}, MsIs w N l rs → ∀ r ∈ rs, r.size = 22 ∧ r.all (·.oneCell') = true
  | [], _, [], _ => fun r hr => absurd hr List.not_mem_nil
  | _ :: _, _, _ :: _, h => fun r hr => by
    rcases List.mem_cons.1 hr with rfl | hr
    · exact h.1.form
    · exact MsIs.forms h.2 r hr

/-! ### Equal ones -/
theorem els_block {w : World} {H s : Nat} {r : Array Value} {T : TypeId} {fr : Nat × Nat} (h : w.heap[H]? = some (.cells r T fr)) (hs : r.size = s) (h1 : r.all (·.oneCell') = true) : Els w s (.slice (some ⟨H, 0, none⟩) 1 1) [r] :=
  .inr ⟨H, 1, rfl, fun j q hq => by
    match j, hq with
    | 0, hq =>
      obtain rfl : r = q := by simpa using hq
      exact ⟨hs, h1, fun k u hu => by rw [Nat.zero_mul, Nat.zero_add, Lib.cell_of_heap h]; exact hu⟩
    | j + 1, hq => simp at hq⟩
def headArr (c : UInt8) : Array Value := #[.int .i64 (stepOf c), .int .i64 0, .int .i64 4, .bool false, .int .i64 0]
theorem els_head {w : World} {H : Nat} {c : UInt8} (h : w.heap[H]? = some (headObj c)) : Els w 5 (.slice (some ⟨H, 0, none⟩) 1 1) [headArr c] := els_block h rfl (by simp [headArr, Value.oneCell'])

/-- The events' rows, one by one. -/
def evRows : Nat → List (Option (UInt8 × Nat)) → List (Array Value)
  | _, [] => []
  | N, e :: l => (evVals ((N : Int) + 1) (e.map (·.2))).toArray :: evRows (N + 1) l
theorem evRows_flat : ∀ (hs : List (Option (UInt8 × Nat))) (N : Nat), evRow N hs = (evRows N hs).flatMap (·.toList)
  | [], _ => rfl
  | e :: l, N => by simp [evRow, evRows, evRows_flat l (N + 1)]
theorem evRows_len : ∀ (hs : List (Option (UInt8 × Nat))) (N : Nat), (evRows N hs).length = hs.length
  | [], _ => rfl
  | e :: l, N => by simp [evRows, evRows_len l (N + 1)]
theorem evRows_form : ∀ (hs : List (Option (UInt8 × Nat))) (N : Nat), ∀ r ∈ evRows N hs, r.size = 13 ∧ r.all (·.oneCell') = true
  | [], _, r, hr => absurd hr List.not_mem_nil
  | e :: l, N, r, hr => by
    rcases List.mem_cons.1 hr with rfl | hr
    · cases e <;> exact ⟨rfl, by simp [evVals, Value.oneCell']⟩
    · exact evRows_form l (N + 1) r hr
theorem ev_eq {w : World} {i : Int} {e e' : Option (UInt8 × Nat)} (h : e.map (·.1) = e'.map (·.1)) (hh : ∀ (c : UInt8) (H : Nat), e = some (c, H) → w.heap[H]? = some (headObj c)) (hh' : ∀ (c : UInt8) (H : Nat), e' = some (c, H) → w.heap[H]? = some (headObj c)) :
    EvEq w (evVals i (e.map (·.2))).toArray (evVals i (e'.map (·.2))).toArray := by
  cases e with
  | none =>
    cases e' with
    | none => exact ⟨0, i, 2, 2, 0, 0, 0, 0, 0, 0, none, none, 0, 0, 0, 0, [], by simp, .inl ⟨rfl, rfl⟩, .inl ⟨rfl, rfl⟩, fun x hx => absurd hx List.not_mem_nil, rfl, rfl⟩
    | some p => cases h
  | some p =>
    cases e' with
    | none => cases h
    | some p' =>
      obtain ⟨c, H⟩ := p
      obtain ⟨c', H'⟩ := p'
      obtain rfl : c = c' := by simpa using h
      exact ⟨0, i, 1, 2, 0, 0, 0, 0, 0, 0, some ⟨H, 0, none⟩, some ⟨H', 0, none⟩, 1, 1, 1, 1, [headArr c], by simp, els_head (hh c H rfl), els_head (hh' c H' rfl), fun x hx => by obtain rfl := List.mem_singleton.1 hx; exact ⟨_, _, _, _, _, rfl⟩, rfl, rfl⟩
theorem evs_eq {w : World} : ∀ (hs hs' : List (Option (UInt8 × Nat))) (N : Nat), hs.map (·.map (·.1)) = hs'.map (·.map (·.1)) → (∀ (c : UInt8) (H : Nat), some (c, H) ∈ hs → w.heap[H]? = some (headObj c)) → (∀ (c : UInt8) (H : Nat), some (c, H) ∈ hs' → w.heap[H]? = some (headObj c)) →
    ∀ (j : Nat) (r r' : Array Value), (evRows N hs)[j]? = some r → (evRows N hs')[j]? = some r' → EvEq w r r'
  | [], _, _, _, _, _, j, r, r', hr, _ => by simp [evRows] at hr
  | e :: l, [], _, h, _, _, _, _, _, _, _ => by simp at h
  | e :: l, e' :: l', N, h, hh, hh', j, r, r', hr, hr' => by
    simp only [List.map_cons, List.cons.injEq] at h
    match j, hr, hr' with
    | 0, hr, hr' =>
      simp only [evRows, List.getElem?_cons_zero, Option.some.injEq] at hr hr'
      subst hr hr'
      exact ev_eq h.1 (fun c H e' => hh c H (by simp [e'])) (fun c H e' => hh' c H (by simp [e']))
    | j + 1, hr, hr' =>
      exact evs_eq l l' (N + 1) h.2 (fun c H hm => hh c H (List.mem_cons_of_mem _ hm)) (fun c H hm => hh' c H (List.mem_cons_of_mem _ hm)) j r r' (by simpa [evRows] using hr) (by simpa [evRows] using hr')
theorem els_events {w : World} {ev : Value} {N : Nat} {hs : List (Option (UInt8 × Nat))} (h : w.ownsRow 0 67 13 ev hs.length (evRow N hs)) : Els w 13 ev (evRows N hs) :=
  Els.of_own (B := 0) (T := 67) (by rw [evRows_len]; exact h) (evRows_flat hs N) (evRows_form hs N)
theorem els_two {w : World} {T : TypeId} {v a b : Value} (h : w.ownsRow 0 T 2 v 1 [a, b]) (ha : a.oneCell' = true) (hb : b.oneCell' = true) : Els w 2 v [#[a, b]] :=
  Els.of_own (B := 0) (T := T) (rows := [#[a, b]]) h rfl (fun r hr => by obtain rfl := List.mem_singleton.1 hr; exact ⟨rfl, by simp [ha, hb]⟩)
theorem all_one {R : World → Array Value → Array Value → Prop} {w : World} {r r' : Array Value} (h : R w r r') : AllEq R w [r] [r'] :=
  ⟨rfl, by simp, fun j q q' hq hq' => by
    match j, hq, hq' with
    | 0, hq, hq' =>
      obtain rfl : r = q := by simpa using hq
      obtain rfl : r' = q' := by simpa using hq'
      exact h
    | j + 1, hq, _ => simp at hq⟩
theorem cell_eq {w : World} {N : Nat} {ns : List (Option UInt8)} {vs vs' : Value} (hl : ns.length ≤ 1000000) (h : CellIs w N ns vs) (h' : CellIs w N ns vs') : ClEq w #[.slice none 0 0, vs] #[.slice none 0 0, vs'] := by
  rcases h with ⟨hn, rfl⟩ | ⟨hn, ev, hs, e, h1, h2, h3⟩
  · rcases h' with ⟨_, rfl⟩ | ⟨hn', _⟩
    · exact ⟨_, _, [], [], .inl ⟨rfl, rfl⟩, .inl ⟨rfl, rfl⟩, ⟨rfl, by simp, fun j r r' hr => by simp at hr⟩, rfl, rfl⟩
    · exact absurd hn hn'
  · rcases h' with ⟨hn', _⟩ | ⟨_, ev', hs', e', h1', h2', h3'⟩
    · exact absurd hn' hn
    · have hlen : hs'.length = hs.length := by
        have := congrArg List.length (e.trans e'.symm)
        simpa using this.symm
      have hle : hs.length ≤ 1000000 := by
        have := congrArg List.length e
        simp at this
        omega
      exact ⟨vs, vs', _, _, els_two h1 (own_one h2) rfl, els_two h1' (own_one h2') rfl, all_one (R := VcEq) ⟨ev, ev', _, _, els_events h2, els_events h2', ⟨by rw [evRows_len, evRows_len, hlen], by rw [evRows_len]; exact hle, evs_eq hs hs' N (e.trans e'.symm) h3 h3'⟩, rfl, rfl⟩, rfl, rfl⟩
theorem cell_one {w : World} {N : Nat} {ns : List (Option UInt8)} {vs : Value} (h : CellIs w N ns vs) : vs.oneCell' = true := by
  obtain ⟨a, n, c, rfl⟩ := h.is
  rfl
theorem meas_eq {w : World} {N : Nat} {ns : List (Option UInt8)} {k : Int} {r r' : Array Value} (hl : ns.length ≤ 1000000) (h : MeasIs w N ns k r) (h' : MeasIs w N ns k r') : MsEq w r r' := by
  obtain ⟨cv, vs, rfl, h1, h2⟩ := h
  obtain ⟨cv', vs', rfl, h1', h2'⟩ := h'
  exact ⟨_, _, cv, cv', _, _, els_two h1 rfl (cell_one h2), els_two h1' rfl (cell_one h2'), all_one (R := ClEq) (cell_eq hl h2 h2'), rfl, rfl⟩
theorem ms_eq {w : World} : ∀ {l : List (List (Option UInt8) × Int)} {N : Nat} {rs rs' : List (Array Value)}, (∀ p ∈ l, p.1.length ≤ 1000000) → MsIs w N l rs → MsIs w N l rs' → ∀ (j : Nat) (r r' : Array Value), rs[j]? = some r → rs'[j]? = some r' → MsEq w r r'
  | [], _, [], [], _, _, _, j, r, r', hr, _ => by simp at hr
  | p :: l, N, q :: rs, q' :: rs', hl, h, h', j, r, r', hr, hr' => by
    match j, hr, hr' with
    | 0, hr, hr' =>
      obtain rfl : q = r := by simpa using hr
      obtain rfl : q' = r' := by simpa using hr'
      exact meas_eq (hl p (by simp)) h.1 h'.1
    | j + 1, hr, hr' => exact ms_eq (fun p hp => hl p (by simp [hp])) h.2 h'.2 j r r' (by simpa using hr) (by simpa using hr')

theorem all_last {sv : Value} (h : sv.oneCell' = true) : (#[.int .i64 0, .int .i64 1, .string ByteArray.empty, .int .i64 0, .int .i64 0, sv] : Array Value).all (·.oneCell') = true := by cases sv <;> simp_all [Value.oneCell']
/-- A score lies in memory: its title, its one part of one staff, its measures. -/
def ScoreIs (w : World) (t : ByteArray) (l : List (List (Option UInt8) × Int)) (v : Value) : Prop :=
  ∃ pv mv lv sv rs, v = .agg #[.string t, .bool false, pv, mv, .slice none 0 0, lv] ∧ w.ownsRow 0 49 6 pv 1 [.int .i64 0, .int .i64 1, .string ByteArray.empty, .int .i64 0, .int .i64 0, sv] ∧ w.ownsRow 0 44 3 sv 1 [.int .i64 0, .int .i64 2, .int .i64 1] ∧
    w.ownsRow 0 56 22 mv l.length (rs.flatMap (·.toList)) ∧ MsIs w 2 l rs ∧ w.ownsRow 0 42 2 lv 1 [.int .i64 0, .int .i64 (total 2 l : Nat)]
theorem ScoreIs.step {w w' : World} {t : ByteArray} {l : List (List (Option UInt8) × Int)} {v : Value} (h : ScoreIs w t l v) (b : Below w.heap.size w w') : ScoreIs w' t l v := by
  obtain ⟨pv, mv, lv, sv, rs, e, h1, h2, h3, h4, h5⟩ := h
  have s : Same [42, 44, 49, 56] w w' := Same.of_below b
  exact ⟨pv, mv, lv, sv, rs, e, s.own (by simp) h1, s.own (by simp) h2, s.own (by simp) h3, h4.same (Same.of_below b), s.own (by simp) h5⟩
theorem els_ms {w : World} {l : List (List (Option UInt8) × Int)} {rs : List (Array Value)} {mv : Value} (h : w.ownsRow 0 56 22 mv l.length (rs.flatMap (·.toList))) (hm : MsIs w 2 l rs) : Els w 22 mv rs :=
  Els.of_own (B := 0) (T := 56) (by rw [hm.len]; exact h) rfl hm.forms
theorem score_eq {w : World} {t : ByteArray} {l : List (List (Option UInt8) × Int)} {a b : Value} (hn : l.length ≤ 1000000) (hl : ∀ p ∈ l, p.1.length ≤ 1000000) (h : ScoreIs w t l a) (h' : ScoreIs w t l b) :
    Calls Tryz.prog 9 #[a, b] w fun e w' => e = .returned (.bool true) ∧ Below w.heap.size w w' := by
  obtain ⟨pv, mv, lv, sv, rs, rfl, h1, h2, h3, h4, h5⟩ := h
  obtain ⟨pv', mv', lv', sv', rs', rfl, h1', h2', h3', h4', h5'⟩ := h'
  have f2 : Els w 3 sv [#[.int .i64 0, .int .i64 2, .int .i64 1]] := Els.of_own (B := 0) (T := 44) (rows := [#[.int .i64 0, .int .i64 2, .int .i64 1]]) h2 rfl (fun r hr => by obtain rfl := List.mem_singleton.1 hr; exact ⟨rfl, by simp [Value.oneCell']⟩)
  have f2' : Els w 3 sv' [#[.int .i64 0, .int .i64 2, .int .i64 1]] := Els.of_own (B := 0) (T := 44) (rows := [#[.int .i64 0, .int .i64 2, .int .i64 1]]) h2' rfl (fun r hr => by obtain rfl := List.mem_singleton.1 hr; exact ⟨rfl, by simp [Value.oneCell']⟩)
  have f1 : Els w 6 pv [#[.int .i64 0, .int .i64 1, .string ByteArray.empty, .int .i64 0, .int .i64 0, sv]] := Els.of_own (B := 0) (T := 49) (rows := [#[.int .i64 0, .int .i64 1, .string ByteArray.empty, .int .i64 0, .int .i64 0, sv]]) h1 rfl (fun r hr => by obtain rfl := List.mem_singleton.1 hr; exact ⟨rfl, all_last (own_one h2)⟩)
  have f1' : Els w 6 pv' [#[.int .i64 0, .int .i64 1, .string ByteArray.empty, .int .i64 0, .int .i64 0, sv']] := Els.of_own (B := 0) (T := 49) (rows := [#[.int .i64 0, .int .i64 1, .string ByteArray.empty, .int .i64 0, .int .i64 0, sv']]) h1' rfl (fun r hr => by obtain rfl := List.mem_singleton.1 hr; exact ⟨rfl, all_last (own_one h2')⟩)
  exact score_equal t pv pv' mv mv' lv lv' _ _ rs rs' _ w f1 f1' (all_one (R := PtEq) ⟨0, 1, 0, 0, ByteArray.empty, sv, sv', _, by simp, f2, f2', fun r hr => by obtain rfl := List.mem_singleton.1 hr; exact ⟨_, _, _, rfl⟩, rfl, rfl⟩)
    (els_ms h3 h4) (els_ms h3' h4') ⟨by rw [h4.len, h4'.len], by rw [h4.len]; exact hn, ms_eq hl h4 h4'⟩ (by simp) (els_two h5 rfl rfl) (els_two h5' rfl rfl) (fun r hr => by obtain rfl := List.mem_singleton.1 hr; exact ⟨_, _, rfl⟩)
end Go.Proofs.YtjnkppneilmpbaaGreatDoor
