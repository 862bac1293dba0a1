/-
  A part of the proof that the law PrinterEvents (chapter 20) returns true for every event: walks of the program's functions, and runs of them in the kernel by the own evaluator.
-/
import Derived.Test.YtholnnabakaliaaGreatDoorPly
namespace Go.Proofs.YtholnnabakaliaaGreatDoor
open Go.RowKit

theorem bel_nx {w W w' : World} (h : Below w.heap.size w W) (b : Below W.heap.size W w') : Below w.heap.size w w' := h.trans (b.mono h.size)
theorem grp_nonneg (i : Int) : 0 ≤ grp i := by unfold grp; (repeat' split) <;> omega
theorem cells_ne {w : World} {a b : Nat} {c1 c2 : Array Value} {T1 T2 : TypeId} {f1 f2 : Nat × Nat} (h1 : w.heap[a]? = some (.cells c1 T1 f1)) (h2 : w.heap[b]? = some (.cells c2 T2 f2)) (hT : T1 ≠ T2) : a ≠ b := by
  rintro rfl
  rw [h1] at h2
  injection h2 with h2
  injection h2 with _ h _
  exact hT h

/-- What the closure finds in memory. -/
structure Cl (Bw Bp Bl Be Q E Y M : Nat) (tv : Value) (toks : List Tok) (pos : Nat) (line col : Int) (free : Bool) (ls ln : Int) (es : Array MapEntry) (clk : Nat) (last kd lg dt : Int) (hv gv lv : Value) (A : A5) (w0 w : World) : Prop where
  prs : Prs Y M tv toks pos line col 0 free ls ln es clk w
  hw : w.heap[Bw]? = some (.cells #[.map (some Q)] 132 (0, 0))
  hp : w.heap[Bp]? = some (.cells #[.pointer (some ⟨Y, 0, none⟩)] 56 (0, 0))
  hl : w.heap[Bl]? = some (.cells #[.int .i64 last] 3 (0, 0))
  he : w.heap[Be]? = some (.cells #[.pointer (some ⟨E, 0, none⟩)] 97 (0, 0))
  hq : w.heap[Q]? = some (.map (wEs 22) 22)
  hE : w.heap[E]? = some (.cells (evC kd lg dt hv gv A lv) 30 (0, 0))
  aw : Away [Y, E] w0 w
  bl : w0.heap.size ≤ Bl

section
variable {Bw Bp Bl Be Q E Y M : Nat} {tv : Value} {toks : List Tok} {pos pos' : Nat} {line col : Int} {free : Bool} {ls ln : Int} {es : Array MapEntry} {clk : Nat} {last kd lg dt : Int} {hv gv lv : Value} {A : A5} {w0 w w' : World} {t : Tok}

theorem Cl.step (h : Cl Bw Bp Bl Be Q E Y M tv toks pos line col free ls ln es clk last kd lg dt hv gv lv A w0 w) (b : Below w.heap.size w w') : Cl Bw Bp Bl Be Q E Y M tv toks pos line col free ls ln es clk last kd lg dt hv gv lv A w0 w' :=
  ⟨h.prs.step b, (b.block _ (Array.getElem?_eq_some_iff.1 h.hw).1).trans h.hw, (b.block _ (Array.getElem?_eq_some_iff.1 h.hp).1).trans h.hp, (b.block _ (Array.getElem?_eq_some_iff.1 h.hl).1).trans h.hl, (b.block _ (Array.getElem?_eq_some_iff.1 h.he).1).trans h.he, (b.block _ (Array.getElem?_eq_some_iff.1 h.hq).1).trans h.hq, (b.block _ (Array.getElem?_eq_some_iff.1 h.hE).1).trans h.hE, h.aw.step b, h.bl⟩
theorem Cl.qY (h : Cl Bw Bp Bl Be Q E Y M tv toks pos line col free ls ln es clk last kd lg dt hv gv lv A w0 w) : Q ≠ Y := by
  rintro rfl
  have := h.hq
  rw [h.prs.blk] at this
  injection this with this
  cases this
theorem Cl.qB (h : Cl Bw Bp Bl Be Q E Y M tv toks pos line col free ls ln es clk last kd lg dt hv gv lv A w0 w) {b : Nat} {cs : Array Value} {T : TypeId} {fr : Nat × Nat} (hb : w.heap[b]? = some (.cells cs T fr)) : Q ≠ b := by
  rintro rfl
  have := h.hq
  rw [hb] at this
  injection this with this
  cases this
theorem Cl.away (h : Cl Bw Bp Bl Be Q E Y M tv toks pos line col free ls ln es clk last kd lg dt hv gv lv A w0 w) (b : Away [Y] w w') (hS : Prs Y M tv toks pos' line col 0 free ls ln es clk w') : Cl Bw Bp Bl Be Q E Y M tv toks pos' line col free ls ln es clk last kd lg dt hv gv lv A w0 w' := by
  have hY := h.prs.blk
  refine ⟨hS, b.heap h.hw (by simp; exact cells_ne h.hw hY (by decide)), b.heap h.hp (by simp; exact cells_ne h.hp hY (by decide)), b.heap h.hl (by simp; exact cells_ne h.hl hY (by decide)), b.heap h.he (by simp; exact cells_ne h.he hY (by decide)), b.heap h.hq (by simp; exact h.qY), b.heap h.hE (by simp; exact cells_ne h.hE hY (by decide)), h.aw.trans (b.more (by simp)), h.bl⟩
theorem Cl.setLast (h : Cl Bw Bp Bl Be Q E Y M tv toks pos line col free ls ln es clk last kd lg dt hv gv lv A w0 w) (v : Int) : Cl Bw Bp Bl Be Q E Y M tv toks pos line col free ls ln es clk v kd lg dt hv gv lv A w0 (w.setCell ⟨Bl, 0, none⟩ (.int .i64 v)) := by
  have o : ∀ k, k ≠ Bl → (w.setCell ⟨Bl, 0, none⟩ (.int .i64 v)).heap[k]? = w.heap[k]? := fun k hk => Below.heap_setCell _ _ _ k hk
  refine ⟨h.prs.elsewhere h.hl (by decide) (by decide) 0 _, (o _ (cells_ne h.hw h.hl (by decide))).trans h.hw, (o _ (cells_ne h.hp h.hl (by decide))).trans h.hp, ?_, (o _ (cells_ne h.he h.hl (by decide))).trans h.he, (o _ (h.qB h.hl)).trans h.hq, (o _ (cells_ne h.hE h.hl (by decide))).trans h.hE, h.aw.setCell (p := ⟨Bl, 0, none⟩) (.inr h.bl) _, h.bl⟩
  rw [Lib.heap_setCell_same (i := 0) h.hl (.int .i64 v)]; rfl
theorem Cl.setE (h : Cl Bw Bp Bl Be Q E Y M tv toks pos line col free ls ln es clk last kd lg dt hv gv lv A w0 w) (i : Nat) (hw' : w'.heap = (w.setCell ⟨E, setOff i, none⟩ (.int .i64 (setVal A i))).heap) (ha : Away [E] w w') : Cl Bw Bp Bl Be Q E Y M tv toks pos line col free ls ln es clk last kd lg dt hv gv lv (setA A i) w0 w' := by
  have o : ∀ k, k ≠ E → w'.heap[k]? = w.heap[k]? := fun k hk => by rw [hw']; exact Below.heap_setCell _ _ _ k hk
  have hP := h.prs.elsewhere h.hE (by decide) (by decide) (setOff i) (.int .i64 (setVal A i))
  refine ⟨⟨by rw [hw']; exact hP.blk, by rw [hw']; exact hP.map, fun he => own_step (hP.row he) fun k hk => by rw [hw']⟩, (o _ (cells_ne h.hw h.hE (by decide))).trans h.hw, (o _ (cells_ne h.hp h.hE (by decide))).trans h.hp, (o _ (cells_ne h.hl h.hE (by decide))).trans h.hl, (o _ (cells_ne h.he h.hE (by decide))).trans h.he, (o _ (h.qB h.hE)).trans h.hq, ?_, h.aw.trans (ha.more (by simp)), h.bl⟩
  rw [hw', Lib.heap_setCell_same (i := setOff i) h.hE (.int .i64 (setVal A i)), setA_cells]

set_option maxHeartbeats 16000000 in
set_option maxRecDepth 100000 in
theorem word_closure (h : Cl Bw Bp Bl Be Q E Y M tv toks pos line col free ls ln es clk last kd lg dt hv gv lv A w0 w) (ht : toks[pos]? = some t) (hk : t.kind = 1) (i : Nat) (hi : i < 22) (hx : t.text = attrB i) (hpos : pos ≤ 1000000) (hl0 : -1 ≤ last) (hl1 : last < 22) (hok : okNext last i = true) (hA : i < 5 → 0 ≤ A.ar ∧ A.ar < 2 ^ i) :
    Calls Tryz.prog 80 #[.pointer (some ⟨Bw, 0, none⟩), .pointer (some ⟨Bp, 0, none⟩), .pointer (some ⟨Bl, 0, none⟩), .pointer (some ⟨Be, 0, none⟩)] w fun r w' => r = .returned (.int .i64 (i : Nat)) ∧ Cl Bw Bp Bl Be Q E Y M tv toks (pos + 1) line col free ls ln es clk i kd lg dt hv gv lv (setA A i) w0 w' ∧ Away [Y, E, Bl] w w' := by
  have hf := attr_found hi
  have hpk : ∀ W, Below w.heap.size w W → Calls Tryz.prog 56 #[.pointer (some ⟨Y, 0, none⟩)] W fun r w' => r = .returned (.agg #[.int .i64 1, .string (attrB i), .int .i64 t.value, .string t.bytes, .int .i64 t.line, .int .i64 t.col, .bool t.joined]) ∧ Below W.heap.size W w' := fun W b => by
    have := peek_ok (h.prs.step b) ht
    rw [hk, hx] at this
    exact this
  have hwd : ∀ W, Below w.heap.size w W → Calls Tryz.prog 82 #[.pointer (some ⟨Y, 0, none⟩), .map (some Q)] W fun r w' => r = .returned (.int .i64 (i : Nat)) ∧ Prs Y M tv toks (pos + 1) line col 0 free ls ln es clk w' ∧ Away [Y] W w' := fun W b => word_ok (h.prs.step b) ht hk (by omega) (h.step b).hq (by rw [hx]; exact hf)
  have hgi := group_walk (i := (i : Int)) (by omega) (by omega)
  have hgl : 0 ≤ last → ∀ W, Calls Tryz.prog 81 #[.int .i64 last] W fun e w' => e = .returned (.int .i64 (grp last)) ∧ Below W.heap.size W w' := fun h0 => group_walk h0 hl1
  have hstep : ∀ W, Below w.heap.size w W → Cl Bw Bp Bl Be Q E Y M tv toks pos line col free ls ln es clk last kd lg dt hv gv lv A w0 W := fun W b => h.step b
  have cw : w.cell? ⟨Bw, 0, none⟩ = some (.map (some Q)) := by rw [Lib.cell_of_heap h.hw]; rfl
  have cp : w.cell? ⟨Bp, 0, none⟩ = some (.pointer (some ⟨Y, 0, none⟩)) := by rw [Lib.cell_of_heap h.hp]; rfl
  have cl : w.cell? ⟨Bl, 0, none⟩ = some (.int .i64 last) := by rw [Lib.cell_of_heap h.hl]; rfl
  have lw := (Array.getElem?_eq_some_iff.1 h.hw).1
  have lp := (Array.getElem?_eq_some_iff.1 h.hp).1
  have ll := (Array.getElem?_eq_some_iff.1 h.hl).1
  have lQ := (Array.getElem?_eq_some_iff.1 h.hq).1
  have hQ := h.hq
  have r0d := (Below.refl w.heap.size w).drew
  have hfd1 := field1_run (.int .i64 1) (attrB i) (.int .i64 t.value) (.string t.bytes) (.int .i64 t.line) (.int .i64 t.col) (.bool t.joined)
  have hfd0 := field0_run 1 (.string (attrB i)) (.int .i64 t.value) (.string t.bytes) (.int .i64 t.line) (.int .i64 t.col) (.bool t.joined)
  have hno : 0 ≤ last → last < (i : Int) ∧ (grp i = 0 ∨ ¬ grp i = grp last) := fun h0 => by
    unfold okNext at hok
    simp only [Bool.or_eq_true, Bool.and_eq_true, decide_eq_true_eq] at hok
    rcases hok with h1 | h1
    · omega
    · exact h1
  have HA := shut (And.intro hx hA)
  generalize attrB i = tx at hf hpk hfd1 hfd0
  clear h ht hk hx hok hA
  go_enter Tryz.func80, Tryz.ntmps80
  go_wp2
  go_region_held3 (fun w' => Below w.heap.size w w' ∧ w'.cell? ⟨Bw, 0, none⟩ = some (.map (some Q)) ∧ w'.cell? ⟨Bp, 0, none⟩ = some (.pointer (some ⟨Y, 0, none⟩))) (first | exact ⟨r0d, cw, cp⟩ | exact ⟨bN, cwN, cpN⟩) (first
    | (go_at_call 56; ((with_reducible refine (hpk _ ?hb).mono ?_); (case hb => first | exact r0d | assumption)); rintro e w1 ⟨rfl, bx⟩; have bN : Below w.heap.size w w1 := bel_nx (by first | exact r0d | assumption) bx; have cwN : w1.cell? ⟨Bw, 0, none⟩ = some (.map (some Q)) := (bN.cell lw).trans cw; have cpN : w1.cell? ⟨Bp, 0, none⟩ = some (.pointer (some ⟨Y, 0, none⟩)) := (bN.cell lp).trans cp; have hlk := look_str_yes ((bN.block Q lQ).trans hQ) tx hf))
  have r1d : Below w.heap.size w w1.drew := bN.drew
  have cp1 := cpN
  have cl1 : w1.cell? ⟨Bl, 0, none⟩ = some (.int .i64 last) := (bN.cell ll).trans cl
  clear bx hlk cwN cpN r0d
  go_upto_region 2 with (fail)
  go_cut [46] from 8 (fun s46 wc => s46 = .bool false ∧ Below w.heap.size w wc)
  case first =>
    by_cases h0 : 0 ≤ last
    · obtain ⟨h1, h2⟩ := hno h0
      have hgl' := hgl h0
      have h1' : decide ((i : Int) ≤ last) = false := decide_eq_false (by omega)
      have hgn := grp_nonneg (i : Int)
      generalize grp (i : Int) = gi at hgi h2 hgn
      generalize grp last = gl at hgl' h2
      clear hgl hno h1
      by_cases hg0 : gi = 0
      · subst hg0
        clear h2 hgn
        have hbP := r1d
        have hSd : Below w.heap.size w w1.drew ∧ w1.drew.cell? ⟨Bp, 0, none⟩ = some (.pointer (some ⟨Y, 0, none⟩)) ∧ w1.drew.cell? ⟨Bl, 0, none⟩ = some (.int .i64 last) := ⟨r1d, cp1, cl1⟩
        refine wp_region_noPanic ?_
        refine wp_region_held_drew (S := fun w' => Below w.heap.size w w' ∧ w'.cell? ⟨Bp, 0, none⟩ = some (.pointer (some ⟨Y, 0, none⟩)) ∧ w'.cell? ⟨Bl, 0, none⟩ = some (.int .i64 last)) (by kernel_rfl) hSd (fun hHeld => ?_)
        refine wpAnyH_take (i := 0) (v := .pointer (some ⟨Y, 0, none⟩)) rfl (by kernel_rfl) (by kernel_rfl) (by kernel_rfl) (fun _ _ _ h => h) (Or.inl ⟨by rfl, ?hy0⟩) (by assumption) ?_
        case hy0 => (intro wq hSw; obtain ⟨hSb, hSp, hSl⟩ := hSw; go_simp; try rfl)
        try simp only [Act.put, List.getElem_toArray, List.getElem_cons_zero, List.setIfInBounds_toArray, List.set_cons_zero, List.set_cons_succ]
        refine wpAnyH_take (i := 1) (v := ?v1) rfl (by kernel_rfl) (by kernel_rfl) (by kernel_rfl) (fun _ _ _ h => h) (Or.inl ⟨by rfl, ?hy1⟩) (by assumption) ?_
        case hy1 => (intro wq hSw; go_simp; try (with_reducible rfl))
        try simp only [Act.put, List.getElem_toArray, List.getElem_cons_succ, List.getElem_cons_zero, List.setIfInBounds_toArray, List.set_cons_zero, List.set_cons_succ]
        refine wpAnyH_take (i := 2) (v := ?v2) rfl (by kernel_rfl) (by kernel_rfl) (by kernel_rfl) (fun _ _ _ h => h) (Or.inl ⟨by rfl, ?hy2⟩) (by assumption) ?_
        case hy2 => (intro wq hSw; go_simp; try (with_reducible rfl))
        try simp only [Act.put, List.getElem_toArray, List.getElem_cons_succ, List.getElem_cons_zero, List.setIfInBounds_toArray, List.set_cons_zero, List.set_cons_succ]
        refine wpAnyH_ready (rs := [3]) (by kernel_rfl) (by simp) (AllReadyH.cons rfl (fun K hK => ?_) AllReadyH.nil)
        go_simp
        (go_at_call 56; (with_reducible refine (hpk _ r1d).mono ?_); rintro e wa ⟨rfl, bx⟩)
        have hbwa : Below w.heap.size w wa := bel_nx hbP bx
        have hpwa : wa.cell? ⟨Bp, 0, none⟩ = some (.pointer (some ⟨Y, 0, none⟩)) := (hbwa.cell lp).trans cp
        have hlwa := (hbwa.cell ll).trans cl
        refine hK.out _ _ ⟨hbwa, hpwa, hlwa⟩ (fun hHeld => ?_)
        clear hK K bx hbP
        have hbP := hbwa
        try simp only [Act.put, List.getElem_toArray, List.getElem_cons_succ, List.getElem_cons_zero, List.setIfInBounds_toArray, List.set_cons_zero, List.set_cons_succ]
        refine wpAnyH_take (i := 4) (v := ?v4) rfl (by kernel_rfl) (by kernel_rfl) (by kernel_rfl) (fun _ _ _ h => h) (Or.inl ⟨by rfl, ?hy4⟩) (by assumption) ?_
        case hy4 => (intro wq hSw; go_simp; try (with_reducible rfl))
        try simp only [Act.put, List.getElem_toArray, List.getElem_cons_succ, List.getElem_cons_zero, List.setIfInBounds_toArray, List.set_cons_zero, List.set_cons_succ]
        refine wpAnyH_take (i := 5) (v := ?v5) rfl (by kernel_rfl) (by kernel_rfl) (by kernel_rfl) (fun _ _ _ h => h) (Or.inl ⟨by rfl, ?hy5⟩) (by assumption) ?_
        case hy5 => (intro wq hSw; go_simp; try (with_reducible rfl))
        try simp only [Act.put, List.getElem_toArray, List.getElem_cons_succ, List.getElem_cons_zero, List.setIfInBounds_toArray, List.set_cons_zero, List.set_cons_succ]
        refine wpAnyH_take (i := 6) (v := ?v6) rfl (by kernel_rfl) (by kernel_rfl) (by kernel_rfl) (fun _ _ _ h => h) (Or.inl ⟨by rfl, ?hy6⟩) (by assumption) ?_
        case hy6 => (intro wq hSw; go_simp; try (with_reducible rfl))
        try simp only [Act.put, List.getElem_toArray, List.getElem_cons_succ, List.getElem_cons_zero, List.setIfInBounds_toArray, List.set_cons_zero, List.set_cons_succ]
        refine wpAnyH_take (i := 7) (v := ?v7) rfl (by kernel_rfl) (by kernel_rfl) (by kernel_rfl) (fun _ _ _ h => h) (Or.inl ⟨by rfl, ?hy7⟩) (by assumption) ?_
        case hy7 => (intro wq hSw; go_simp; try (with_reducible rfl))
        try simp only [Act.put, List.getElem_toArray, List.getElem_cons_succ, List.getElem_cons_zero, List.setIfInBounds_toArray, List.set_cons_zero, List.set_cons_succ]
        refine wpAnyH_take (i := 8) (v := ?v8) rfl (by kernel_rfl) (by kernel_rfl) (by kernel_rfl) (fun _ _ _ h => h) (Or.inl ⟨by rfl, ?hy8⟩) (by assumption) ?_
        case hy8 => (intro wq hSw; go_simp; try (with_reducible rfl))
        try simp only [Act.put, List.getElem_toArray, List.getElem_cons_succ, List.getElem_cons_zero, List.setIfInBounds_toArray, List.set_cons_zero, List.set_cons_succ]
        refine wpAnyH_take (i := 9) (v := ?v9) rfl (by kernel_rfl) (by kernel_rfl) (by kernel_rfl) (fun _ _ _ h => h) (Or.inl ⟨by rfl, ?hy9⟩) (by assumption) ?_
        case hy9 => (intro wq hSw; go_simp; try (with_reducible rfl))
        try simp only [Act.put, List.getElem_toArray, List.getElem_cons_succ, List.getElem_cons_zero, List.setIfInBounds_toArray, List.set_cons_zero, List.set_cons_succ]
        refine wpAnyH_take (i := 10) (v := .int .i64 last) rfl (by kernel_rfl) (by kernel_rfl) (by kernel_rfl) (fun _ _ _ h => h) (Or.inl ⟨by rfl, ?hy10⟩) (by assumption) ?_
        case hy10 => (intro wq hSw; obtain ⟨hSb, hSp, hSl⟩ := hSw; go_simp; try rfl)
        try simp only [Act.put, List.getElem_toArray, List.getElem_cons_succ, List.getElem_cons_zero, List.setIfInBounds_toArray, List.set_cons_zero, List.set_cons_succ]
        refine wpAnyH_take (i := 11) (v := .bool true) rfl (by kernel_rfl) (by kernel_rfl) (by kernel_rfl) (fun _ _ _ h => h) (Or.inl ⟨by rfl, ?hy11⟩) (by assumption) ?_
        case hy11 => (intro wq hSw; go_simp; try rfl)
        try simp only [Act.put, List.getElem_toArray, List.getElem_cons_succ, List.getElem_cons_zero, List.setIfInBounds_toArray, List.set_cons_zero, List.set_cons_succ]
        refine wpAnyH_take (i := 12) (v := .bool true) rfl (by kernel_rfl) (by kernel_rfl) (by kernel_rfl) (fun _ _ _ h => h) (Or.inl ⟨by rfl, ?hy12⟩) (by assumption) ?_
        case hy12 => (intro wq hSw; go_simp; try rfl)
        try simp only [Act.put, List.getElem_toArray, List.getElem_cons_succ, List.getElem_cons_zero, List.setIfInBounds_toArray, List.set_cons_zero, List.set_cons_succ]
        refine wpAnyH_take (i := 13) (v := .bool true) rfl (by kernel_rfl) (by kernel_rfl) (by kernel_rfl) (fun _ _ _ h => h) (Or.inl ⟨by rfl, ?hy13⟩) (by assumption) ?_
        case hy13 => (intro wq hSw; go_simp; try rfl)
        try simp only [Act.put, List.getElem_toArray, List.getElem_cons_succ, List.getElem_cons_zero, List.setIfInBounds_toArray, List.set_cons_zero, List.set_cons_succ]
        refine wpAnyH_take (i := 14) (v := .int .i64 (i : Nat)) rfl (by kernel_rfl) (by kernel_rfl) (by kernel_rfl) (fun _ _ _ h => h) (Or.inl ⟨by rfl, ?hy14⟩) (by assumption) ?_
        case hy14 => (intro wq hSw; go_simp; try rfl)
        try simp only [Act.put, List.getElem_toArray, List.getElem_cons_succ, List.getElem_cons_zero, List.setIfInBounds_toArray, List.set_cons_zero, List.set_cons_succ]
        refine wpAnyH_take (i := 15) (v := .int .i64 last) rfl (by kernel_rfl) (by kernel_rfl) (by kernel_rfl) (fun _ _ _ h => h) (Or.inl ⟨by rfl, ?hy15⟩) (by assumption) ?_
        case hy15 => (intro wq hSw; obtain ⟨hSb, hSp, hSl⟩ := hSw; go_simp; try rfl)
        try simp only [Act.put, List.getElem_toArray, List.getElem_cons_succ, List.getElem_cons_zero, List.setIfInBounds_toArray, List.set_cons_zero, List.set_cons_succ]
        refine wpAnyH_take (i := 16) (v := .bool false) rfl (by kernel_rfl) (by kernel_rfl) (by kernel_rfl) (fun _ _ _ h => h) (Or.inl ⟨by rfl, ?hy16⟩) (by assumption) ?_
        case hy16 => (intro wq hSw; go_simp; try rfl)
        try simp only [Act.put, List.getElem_toArray, List.getElem_cons_succ, List.getElem_cons_zero, List.setIfInBounds_toArray, List.set_cons_zero, List.set_cons_succ]
        refine wpAnyH_take (i := 17) (v := .bool false) rfl (by kernel_rfl) (by kernel_rfl) (by kernel_rfl) (fun _ _ _ h => h) (Or.inl ⟨by rfl, ?hy17⟩) (by assumption) ?_
        case hy17 => (intro wq hSw; go_simp; try rfl)
        try simp only [Act.put, List.getElem_toArray, List.getElem_cons_succ, List.getElem_cons_zero, List.setIfInBounds_toArray, List.set_cons_zero, List.set_cons_succ]
        refine wpAnyH_take (i := 18) (v := .int .i64 (i : Nat)) rfl (by kernel_rfl) (by kernel_rfl) (by kernel_rfl) (fun _ _ _ h => h) (Or.inl ⟨by rfl, ?hy18⟩) (by assumption) ?_
        case hy18 => (intro wq hSw; go_simp; try rfl)
        try simp only [Act.put, List.getElem_toArray, List.getElem_cons_succ, List.getElem_cons_zero, List.setIfInBounds_toArray, List.set_cons_zero, List.set_cons_succ]
        refine wpAnyH_ready (rs := [19]) (by kernel_rfl) (by simp) (AllReadyH.cons rfl (fun K hK => ?_) AllReadyH.nil)
        go_simp
        (go_at_call 81; (with_reducible refine (hgi _).mono ?_); rintro e wb ⟨rfl, bx⟩)
        have hbwb : Below w.heap.size w wb := bel_nx hbP bx
        have hpwb : wb.cell? ⟨Bp, 0, none⟩ = some (.pointer (some ⟨Y, 0, none⟩)) := (hbwb.cell lp).trans cp
        have hlwb := (hbwb.cell ll).trans cl
        refine hK.out _ _ ⟨hbwb, hpwb, hlwb⟩ (fun hHeld => ?_)
        clear hK K bx hbP
        have hbP := hbwb
        try simp only [Act.put, List.getElem_toArray, List.getElem_cons_succ, List.getElem_cons_zero, List.setIfInBounds_toArray, List.set_cons_zero, List.set_cons_succ]
        refine wpAnyH_take (i := 20) (v := .bool false) rfl (by kernel_rfl) (by kernel_rfl) (by kernel_rfl) (fun _ _ _ h => h) (Or.inl ⟨by rfl, ?hy20⟩) (by assumption) ?_
        case hy20 => (intro wq hSw; go_simp; try rfl)
        try simp only [Act.put, List.getElem_toArray, List.getElem_cons_succ, List.getElem_cons_zero, List.setIfInBounds_toArray, List.set_cons_zero, List.set_cons_succ]
        refine wpAnyH_take (i := 21) (v := .bool false) rfl (by kernel_rfl) (by kernel_rfl) (by kernel_rfl) (fun _ _ _ h => h) (Or.inl ⟨by rfl, ?hy21⟩) (by assumption) ?_
        case hy21 => (intro wq hSw; go_simp; try rfl)
        try simp only [Act.put, List.getElem_toArray, List.getElem_cons_succ, List.getElem_cons_zero, List.setIfInBounds_toArray, List.set_cons_zero, List.set_cons_succ]
        refine wpAnyH_take (i := 22) (v := undef) rfl (by kernel_rfl) (by kernel_rfl) (by kernel_rfl) (fun _ _ _ h => h) (Or.inr ⟨by rfl, rfl⟩) (by assumption) ?_
        try simp only [Act.put, List.getElem_toArray, List.getElem_cons_succ, List.getElem_cons_zero, List.setIfInBounds_toArray, List.set_cons_zero, List.set_cons_succ]
        refine wpAnyH_take (i := 24) (v := undef) rfl (by kernel_rfl) (by kernel_rfl) (by kernel_rfl) (fun _ _ _ h => h) (Or.inr ⟨by rfl, rfl⟩) (by assumption) ?_
        try simp only [Act.put, List.getElem_toArray, List.getElem_cons_succ, List.getElem_cons_zero, List.setIfInBounds_toArray, List.set_cons_zero, List.set_cons_succ]
        refine wpAnyH_ready (rs := [23]) (by kernel_rfl) (by simp) (AllReadyH.cons rfl (fun K hK => ?_) AllReadyH.nil)
        split
        · rename_i hh; exact absurd (show false = true from hh) (by decide)
        refine hK.out _ _ (by assumption) (fun hHeld2 => ?_)
        clear hK K hHeld2
        try simp only [Act.put, List.getElem_toArray, List.getElem_cons_succ, List.getElem_cons_zero, List.setIfInBounds_toArray, List.set_cons_zero, List.set_cons_succ]
        refine wpAnyH_ready (rs := [25]) (by kernel_rfl) (by simp) (AllReadyH.cons rfl (fun K hK => ?_) AllReadyH.nil)
        split
        · rename_i hh; exact absurd (show false = true from hh) (by decide)
        refine hK.out _ _ (by assumption) (fun hHeld2 => ?_)
        clear hK K hHeld2
        try simp only [Act.put, List.getElem_toArray, List.getElem_cons_succ, List.getElem_cons_zero, List.setIfInBounds_toArray, List.set_cons_zero, List.set_cons_succ]
        refine wpAnyH_take (i := 26) (v := undef) rfl (by kernel_rfl) (by kernel_rfl) (by kernel_rfl) (fun _ _ _ h => h) (Or.inr ⟨by rfl, rfl⟩) (by assumption) ?_
        try simp only [Act.put, List.getElem_toArray, List.getElem_cons_succ, List.getElem_cons_zero, List.setIfInBounds_toArray, List.set_cons_zero, List.set_cons_succ]
        refine wpAnyH_take (i := 27) (v := .bool false) rfl (by kernel_rfl) (by kernel_rfl) (by kernel_rfl) (fun _ _ _ h => h) (Or.inl ⟨by rfl, ?hy27⟩) (by assumption) ?_
        case hy27 => (intro wq hSw; go_simp; try rfl)
        try simp only [Act.put, List.getElem_toArray, List.getElem_cons_succ, List.getElem_cons_zero, List.setIfInBounds_toArray, List.set_cons_zero, List.set_cons_succ]
        refine wpAnyH_take (i := 28) (v := .bool false) rfl (by kernel_rfl) (by kernel_rfl) (by kernel_rfl) (fun _ _ _ h => h) (Or.inl ⟨by rfl, ?hy28⟩) (by assumption) ?_
        case hy28 => (intro wq hSw; go_simp; try rfl)
        try simp only [Act.put, List.getElem_toArray, List.getElem_cons_succ, List.getElem_cons_zero, List.setIfInBounds_toArray, List.set_cons_zero, List.set_cons_succ]
        refine wpAnyH_take (i := 29) (v := .bool false) rfl (by kernel_rfl) (by kernel_rfl) (by kernel_rfl) (fun _ _ _ h => h) (Or.inl ⟨by rfl, ?hy29⟩) (by assumption) ?_
        case hy29 => (intro wq hSw; go_simp; try rfl)
        try simp only [Act.put, List.getElem_toArray, List.getElem_cons_succ, List.getElem_cons_zero, List.setIfInBounds_toArray, List.set_cons_zero, List.set_cons_succ]
        refine wpAnyH_done (by kernel_rfl) ?_ _
        refine NoPanic.normal ?_
        go_wp2
        go_meet
        case rel => exact ⟨rfl, by assumption⟩
      · have h3 : 0 < gi := by omega
        have h4 : ¬ gi = gl := h2.resolve_left hg0
        have h5 : (gi == gl) = false := by simp [h4]
        clear h2 hgn hg0
        have hbP := r1d
        have hSd : Below w.heap.size w w1.drew ∧ w1.drew.cell? ⟨Bp, 0, none⟩ = some (.pointer (some ⟨Y, 0, none⟩)) ∧ w1.drew.cell? ⟨Bl, 0, none⟩ = some (.int .i64 last) := ⟨r1d, cp1, cl1⟩
        refine wp_region_noPanic ?_
        refine wp_region_held_drew (S := fun w' => Below w.heap.size w w' ∧ w'.cell? ⟨Bp, 0, none⟩ = some (.pointer (some ⟨Y, 0, none⟩)) ∧ w'.cell? ⟨Bl, 0, none⟩ = some (.int .i64 last)) (by kernel_rfl) hSd (fun hHeld => ?_)
        refine wpAnyH_take (i := 0) (v := .pointer (some ⟨Y, 0, none⟩)) rfl (by kernel_rfl) (by kernel_rfl) (by kernel_rfl) (fun _ _ _ h => h) (Or.inl ⟨by rfl, ?hy0⟩) (by assumption) ?_
        case hy0 => (intro wq hSw; obtain ⟨hSb, hSp, hSl⟩ := hSw; go_simp; try rfl)
        try simp only [Act.put, List.getElem_toArray, List.getElem_cons_zero, List.setIfInBounds_toArray, List.set_cons_zero, List.set_cons_succ]
        refine wpAnyH_take (i := 1) (v := ?v1) rfl (by kernel_rfl) (by kernel_rfl) (by kernel_rfl) (fun _ _ _ h => h) (Or.inl ⟨by rfl, ?hy1⟩) (by assumption) ?_
        case hy1 => (intro wq hSw; go_simp; try (with_reducible rfl))
        try simp only [Act.put, List.getElem_toArray, List.getElem_cons_succ, List.getElem_cons_zero, List.setIfInBounds_toArray, List.set_cons_zero, List.set_cons_succ]
        refine wpAnyH_take (i := 2) (v := ?v2) rfl (by kernel_rfl) (by kernel_rfl) (by kernel_rfl) (fun _ _ _ h => h) (Or.inl ⟨by rfl, ?hy2⟩) (by assumption) ?_
        case hy2 => (intro wq hSw; go_simp; try (with_reducible rfl))
        try simp only [Act.put, List.getElem_toArray, List.getElem_cons_succ, List.getElem_cons_zero, List.setIfInBounds_toArray, List.set_cons_zero, List.set_cons_succ]
        refine wpAnyH_ready (rs := [3]) (by kernel_rfl) (by simp) (AllReadyH.cons rfl (fun K hK => ?_) AllReadyH.nil)
        go_simp
        (go_at_call 56; (with_reducible refine (hpk _ r1d).mono ?_); rintro e wa ⟨rfl, bx⟩)
        have hbwa : Below w.heap.size w wa := bel_nx hbP bx
        have hpwa : wa.cell? ⟨Bp, 0, none⟩ = some (.pointer (some ⟨Y, 0, none⟩)) := (hbwa.cell lp).trans cp
        have hlwa := (hbwa.cell ll).trans cl
        refine hK.out _ _ ⟨hbwa, hpwa, hlwa⟩ (fun hHeld => ?_)
        clear hK K bx hbP
        have hbP := hbwa
        try simp only [Act.put, List.getElem_toArray, List.getElem_cons_succ, List.getElem_cons_zero, List.setIfInBounds_toArray, List.set_cons_zero, List.set_cons_succ]
        refine wpAnyH_take (i := 4) (v := ?v4) rfl (by kernel_rfl) (by kernel_rfl) (by kernel_rfl) (fun _ _ _ h => h) (Or.inl ⟨by rfl, ?hy4⟩) (by assumption) ?_
        case hy4 => (intro wq hSw; go_simp; try (with_reducible rfl))
        try simp only [Act.put, List.getElem_toArray, List.getElem_cons_succ, List.getElem_cons_zero, List.setIfInBounds_toArray, List.set_cons_zero, List.set_cons_succ]
        refine wpAnyH_take (i := 5) (v := ?v5) rfl (by kernel_rfl) (by kernel_rfl) (by kernel_rfl) (fun _ _ _ h => h) (Or.inl ⟨by rfl, ?hy5⟩) (by assumption) ?_
        case hy5 => (intro wq hSw; go_simp; try (with_reducible rfl))
        try simp only [Act.put, List.getElem_toArray, List.getElem_cons_succ, List.getElem_cons_zero, List.setIfInBounds_toArray, List.set_cons_zero, List.set_cons_succ]
        refine wpAnyH_take (i := 6) (v := ?v6) rfl (by kernel_rfl) (by kernel_rfl) (by kernel_rfl) (fun _ _ _ h => h) (Or.inl ⟨by rfl, ?hy6⟩) (by assumption) ?_
        case hy6 => (intro wq hSw; go_simp; try (with_reducible rfl))
        try simp only [Act.put, List.getElem_toArray, List.getElem_cons_succ, List.getElem_cons_zero, List.setIfInBounds_toArray, List.set_cons_zero, List.set_cons_succ]
        refine wpAnyH_take (i := 7) (v := ?v7) rfl (by kernel_rfl) (by kernel_rfl) (by kernel_rfl) (fun _ _ _ h => h) (Or.inl ⟨by rfl, ?hy7⟩) (by assumption) ?_
        case hy7 => (intro wq hSw; go_simp; try (with_reducible rfl))
        try simp only [Act.put, List.getElem_toArray, List.getElem_cons_succ, List.getElem_cons_zero, List.setIfInBounds_toArray, List.set_cons_zero, List.set_cons_succ]
        refine wpAnyH_take (i := 8) (v := ?v8) rfl (by kernel_rfl) (by kernel_rfl) (by kernel_rfl) (fun _ _ _ h => h) (Or.inl ⟨by rfl, ?hy8⟩) (by assumption) ?_
        case hy8 => (intro wq hSw; go_simp; try (with_reducible rfl))
        try simp only [Act.put, List.getElem_toArray, List.getElem_cons_succ, List.getElem_cons_zero, List.setIfInBounds_toArray, List.set_cons_zero, List.set_cons_succ]
        refine wpAnyH_take (i := 9) (v := ?v9) rfl (by kernel_rfl) (by kernel_rfl) (by kernel_rfl) (fun _ _ _ h => h) (Or.inl ⟨by rfl, ?hy9⟩) (by assumption) ?_
        case hy9 => (intro wq hSw; go_simp; try (with_reducible rfl))
        try simp only [Act.put, List.getElem_toArray, List.getElem_cons_succ, List.getElem_cons_zero, List.setIfInBounds_toArray, List.set_cons_zero, List.set_cons_succ]
        refine wpAnyH_take (i := 10) (v := .int .i64 last) rfl (by kernel_rfl) (by kernel_rfl) (by kernel_rfl) (fun _ _ _ h => h) (Or.inl ⟨by rfl, ?hy10⟩) (by assumption) ?_
        case hy10 => (intro wq hSw; obtain ⟨hSb, hSp, hSl⟩ := hSw; go_simp; try rfl)
        try simp only [Act.put, List.getElem_toArray, List.getElem_cons_succ, List.getElem_cons_zero, List.setIfInBounds_toArray, List.set_cons_zero, List.set_cons_succ]
        refine wpAnyH_take (i := 11) (v := .bool true) rfl (by kernel_rfl) (by kernel_rfl) (by kernel_rfl) (fun _ _ _ h => h) (Or.inl ⟨by rfl, ?hy11⟩) (by assumption) ?_
        case hy11 => (intro wq hSw; go_simp; try rfl)
        try simp only [Act.put, List.getElem_toArray, List.getElem_cons_succ, List.getElem_cons_zero, List.setIfInBounds_toArray, List.set_cons_zero, List.set_cons_succ]
        refine wpAnyH_take (i := 12) (v := .bool true) rfl (by kernel_rfl) (by kernel_rfl) (by kernel_rfl) (fun _ _ _ h => h) (Or.inl ⟨by rfl, ?hy12⟩) (by assumption) ?_
        case hy12 => (intro wq hSw; go_simp; try rfl)
        try simp only [Act.put, List.getElem_toArray, List.getElem_cons_succ, List.getElem_cons_zero, List.setIfInBounds_toArray, List.set_cons_zero, List.set_cons_succ]
        refine wpAnyH_take (i := 13) (v := .bool true) rfl (by kernel_rfl) (by kernel_rfl) (by kernel_rfl) (fun _ _ _ h => h) (Or.inl ⟨by rfl, ?hy13⟩) (by assumption) ?_
        case hy13 => (intro wq hSw; go_simp; try rfl)
        try simp only [Act.put, List.getElem_toArray, List.getElem_cons_succ, List.getElem_cons_zero, List.setIfInBounds_toArray, List.set_cons_zero, List.set_cons_succ]
        refine wpAnyH_take (i := 14) (v := .int .i64 (i : Nat)) rfl (by kernel_rfl) (by kernel_rfl) (by kernel_rfl) (fun _ _ _ h => h) (Or.inl ⟨by rfl, ?hy14⟩) (by assumption) ?_
        case hy14 => (intro wq hSw; go_simp; try rfl)
        try simp only [Act.put, List.getElem_toArray, List.getElem_cons_succ, List.getElem_cons_zero, List.setIfInBounds_toArray, List.set_cons_zero, List.set_cons_succ]
        refine wpAnyH_take (i := 15) (v := .int .i64 last) rfl (by kernel_rfl) (by kernel_rfl) (by kernel_rfl) (fun _ _ _ h => h) (Or.inl ⟨by rfl, ?hy15⟩) (by assumption) ?_
        case hy15 => (intro wq hSw; obtain ⟨hSb, hSp, hSl⟩ := hSw; go_simp; try rfl)
        try simp only [Act.put, List.getElem_toArray, List.getElem_cons_succ, List.getElem_cons_zero, List.setIfInBounds_toArray, List.set_cons_zero, List.set_cons_succ]
        refine wpAnyH_take (i := 16) (v := .bool false) rfl (by kernel_rfl) (by kernel_rfl) (by kernel_rfl) (fun _ _ _ h => h) (Or.inl ⟨by rfl, ?hy16⟩) (by assumption) ?_
        case hy16 => (intro wq hSw; go_simp; try rfl)
        try simp only [Act.put, List.getElem_toArray, List.getElem_cons_succ, List.getElem_cons_zero, List.setIfInBounds_toArray, List.set_cons_zero, List.set_cons_succ]
        refine wpAnyH_take (i := 17) (v := .bool false) rfl (by kernel_rfl) (by kernel_rfl) (by kernel_rfl) (fun _ _ _ h => h) (Or.inl ⟨by rfl, ?hy17⟩) (by assumption) ?_
        case hy17 => (intro wq hSw; go_simp; try rfl)
        try simp only [Act.put, List.getElem_toArray, List.getElem_cons_succ, List.getElem_cons_zero, List.setIfInBounds_toArray, List.set_cons_zero, List.set_cons_succ]
        refine wpAnyH_take (i := 18) (v := .int .i64 (i : Nat)) rfl (by kernel_rfl) (by kernel_rfl) (by kernel_rfl) (fun _ _ _ h => h) (Or.inl ⟨by rfl, ?hy18⟩) (by assumption) ?_
        case hy18 => (intro wq hSw; go_simp; try rfl)
        try simp only [Act.put, List.getElem_toArray, List.getElem_cons_succ, List.getElem_cons_zero, List.setIfInBounds_toArray, List.set_cons_zero, List.set_cons_succ]
        refine wpAnyH_ready (rs := [19]) (by kernel_rfl) (by simp) (AllReadyH.cons rfl (fun K hK => ?_) AllReadyH.nil)
        go_simp
        (go_at_call 81; (with_reducible refine (hgi _).mono ?_); rintro e wb ⟨rfl, bx⟩)
        have hbwb : Below w.heap.size w wb := bel_nx hbP bx
        have hpwb : wb.cell? ⟨Bp, 0, none⟩ = some (.pointer (some ⟨Y, 0, none⟩)) := (hbwb.cell lp).trans cp
        have hlwb := (hbwb.cell ll).trans cl
        refine hK.out _ _ ⟨hbwb, hpwb, hlwb⟩ (fun hHeld => ?_)
        clear hK K bx hbP
        have hbP := hbwb
        try simp only [Act.put, List.getElem_toArray, List.getElem_cons_succ, List.getElem_cons_zero, List.setIfInBounds_toArray, List.set_cons_zero, List.set_cons_succ]
        refine wpAnyH_take (i := 20) (v := .bool true) rfl (by kernel_rfl) (by kernel_rfl) (by kernel_rfl) (fun _ _ _ h => h) (Or.inl ⟨by rfl, ?hy20⟩) (by assumption) ?_
        case hy20 => (intro wq hSw; go_simp; try rfl)
        try simp only [Act.put, List.getElem_toArray, List.getElem_cons_succ, List.getElem_cons_zero, List.setIfInBounds_toArray, List.set_cons_zero, List.set_cons_succ]
        refine wpAnyH_take (i := 21) (v := .bool true) rfl (by kernel_rfl) (by kernel_rfl) (by kernel_rfl) (fun _ _ _ h => h) (Or.inl ⟨by rfl, ?hy21⟩) (by assumption) ?_
        case hy21 => (intro wq hSw; go_simp; try rfl)
        try simp only [Act.put, List.getElem_toArray, List.getElem_cons_succ, List.getElem_cons_zero, List.setIfInBounds_toArray, List.set_cons_zero, List.set_cons_succ]
        refine wpAnyH_take (i := 22) (v := .int .i64 (i : Nat)) rfl (by kernel_rfl) (by kernel_rfl) (by kernel_rfl) (fun _ _ _ h => h) (Or.inl ⟨by rfl, ?hy22⟩) (by assumption) ?_
        case hy22 => (intro wq hSw; go_simp; try rfl)
        try simp only [Act.put, List.getElem_toArray, List.getElem_cons_succ, List.getElem_cons_zero, List.setIfInBounds_toArray, List.set_cons_zero, List.set_cons_succ]
        refine wpAnyH_take (i := 24) (v := .int .i64 last) rfl (by kernel_rfl) (by kernel_rfl) (by kernel_rfl) (fun _ _ _ h => h) (Or.inl ⟨by rfl, ?hy24⟩) (by assumption) ?_
        case hy24 => (intro wq hSw; obtain ⟨hSb, hSp, hSl⟩ := hSw; go_simp; try rfl)
        try simp only [Act.put, List.getElem_toArray, List.getElem_cons_succ, List.getElem_cons_zero, List.setIfInBounds_toArray, List.set_cons_zero, List.set_cons_succ]
        refine wpAnyH_ready (rs := [23]) (by kernel_rfl) (by simp) (AllReadyH.cons rfl (fun K hK => ?_) AllReadyH.nil)
        go_simp
        (go_at_call 81; (with_reducible refine (hgi _).mono ?_); rintro e wc ⟨rfl, bx⟩)
        have hbwc : Below w.heap.size w wc := bel_nx hbP bx
        have hpwc : wc.cell? ⟨Bp, 0, none⟩ = some (.pointer (some ⟨Y, 0, none⟩)) := (hbwc.cell lp).trans cp
        have hlwc := (hbwc.cell ll).trans cl
        refine hK.out _ _ ⟨hbwc, hpwc, hlwc⟩ (fun hHeld => ?_)
        clear hK K bx hbP
        have hbP := hbwc
        try simp only [Act.put, List.getElem_toArray, List.getElem_cons_succ, List.getElem_cons_zero, List.setIfInBounds_toArray, List.set_cons_zero, List.set_cons_succ]
        refine wpAnyH_ready (rs := [25]) (by kernel_rfl) (by simp) (AllReadyH.cons rfl (fun K hK => ?_) AllReadyH.nil)
        go_simp
        (go_at_call 81; (with_reducible refine (hgl' _).mono ?_); rintro e wd ⟨rfl, bx⟩)
        have hbwd : Below w.heap.size w wd := bel_nx hbP bx
        have hpwd : wd.cell? ⟨Bp, 0, none⟩ = some (.pointer (some ⟨Y, 0, none⟩)) := (hbwd.cell lp).trans cp
        have hlwd := (hbwd.cell ll).trans cl
        refine hK.out _ _ ⟨hbwd, hpwd, hlwd⟩ (fun hHeld => ?_)
        clear hK K bx hbP
        have hbP := hbwd
        try simp only [Act.put, List.getElem_toArray, List.getElem_cons_succ, List.getElem_cons_zero, List.setIfInBounds_toArray, List.set_cons_zero, List.set_cons_succ]
        refine wpAnyH_take (i := 26) (v := .bool false) rfl (by kernel_rfl) (by kernel_rfl) (by kernel_rfl) (fun _ _ _ h => h) (Or.inl ⟨by rfl, ?hy26⟩) (by assumption) ?_
        case hy26 => (intro wq hSw; go_simp; try rfl)
        try simp only [Act.put, List.getElem_toArray, List.getElem_cons_succ, List.getElem_cons_zero, List.setIfInBounds_toArray, List.set_cons_zero, List.set_cons_succ]
        refine wpAnyH_take (i := 27) (v := .bool false) rfl (by kernel_rfl) (by kernel_rfl) (by kernel_rfl) (fun _ _ _ h => h) (Or.inl ⟨by rfl, ?hy27⟩) (by assumption) ?_
        case hy27 => (intro wq hSw; go_simp; try rfl)
        try simp only [Act.put, List.getElem_toArray, List.getElem_cons_succ, List.getElem_cons_zero, List.setIfInBounds_toArray, List.set_cons_zero, List.set_cons_succ]
        refine wpAnyH_take (i := 28) (v := .bool false) rfl (by kernel_rfl) (by kernel_rfl) (by kernel_rfl) (fun _ _ _ h => h) (Or.inl ⟨by rfl, ?hy28⟩) (by assumption) ?_
        case hy28 => (intro wq hSw; go_simp; try rfl)
        try simp only [Act.put, List.getElem_toArray, List.getElem_cons_succ, List.getElem_cons_zero, List.setIfInBounds_toArray, List.set_cons_zero, List.set_cons_succ]
        refine wpAnyH_take (i := 29) (v := .bool false) rfl (by kernel_rfl) (by kernel_rfl) (by kernel_rfl) (fun _ _ _ h => h) (Or.inl ⟨by rfl, ?hy29⟩) (by assumption) ?_
        case hy29 => (intro wq hSw; go_simp; try rfl)
        try simp only [Act.put, List.getElem_toArray, List.getElem_cons_succ, List.getElem_cons_zero, List.setIfInBounds_toArray, List.set_cons_zero, List.set_cons_succ]
        refine wpAnyH_done (by kernel_rfl) ?_ _
        refine NoPanic.normal ?_
        go_wp2
        go_meet
        case rel => exact ⟨rfl, by assumption⟩
    · obtain rfl : last = -1 := by omega
      clear hgl hno h0
      have hbP := r1d
      have hSd : Below w.heap.size w w1.drew ∧ w1.drew.cell? ⟨Bp, 0, none⟩ = some (.pointer (some ⟨Y, 0, none⟩)) ∧ w1.drew.cell? ⟨Bl, 0, none⟩ = some (.int .i64 (-1)) := ⟨r1d, cp1, cl1⟩
      refine wp_region_noPanic ?_
      refine wp_region_held_drew (S := fun w' => Below w.heap.size w w' ∧ w'.cell? ⟨Bp, 0, none⟩ = some (.pointer (some ⟨Y, 0, none⟩)) ∧ w'.cell? ⟨Bl, 0, none⟩ = some (.int .i64 (-1))) (by kernel_rfl) hSd (fun hHeld => ?_)
      refine wpAnyH_take (i := 0) (v := .pointer (some ⟨Y, 0, none⟩)) rfl (by kernel_rfl) (by kernel_rfl) (by kernel_rfl) (fun _ _ _ h => h) (Or.inl ⟨by rfl, ?hy0⟩) (by assumption) ?_
      case hy0 => (intro wq hSw; obtain ⟨hSb, hSp, hSl⟩ := hSw; go_simp; try rfl)
      try simp only [Act.put, List.getElem_toArray, List.getElem_cons_zero, List.setIfInBounds_toArray, List.set_cons_zero, List.set_cons_succ]
      refine wpAnyH_take (i := 1) (v := ?v1) rfl (by kernel_rfl) (by kernel_rfl) (by kernel_rfl) (fun _ _ _ h => h) (Or.inl ⟨by rfl, ?hy1⟩) (by assumption) ?_
      case hy1 => (intro wq hSw; go_simp; try (with_reducible rfl))
      try simp only [Act.put, List.getElem_toArray, List.getElem_cons_succ, List.getElem_cons_zero, List.setIfInBounds_toArray, List.set_cons_zero, List.set_cons_succ]
      refine wpAnyH_take (i := 2) (v := ?v2) rfl (by kernel_rfl) (by kernel_rfl) (by kernel_rfl) (fun _ _ _ h => h) (Or.inl ⟨by rfl, ?hy2⟩) (by assumption) ?_
      case hy2 => (intro wq hSw; go_simp; try (with_reducible rfl))
      try simp only [Act.put, List.getElem_toArray, List.getElem_cons_succ, List.getElem_cons_zero, List.setIfInBounds_toArray, List.set_cons_zero, List.set_cons_succ]
      refine wpAnyH_ready (rs := [3]) (by kernel_rfl) (by simp) (AllReadyH.cons rfl (fun K hK => ?_) AllReadyH.nil)
      go_simp
      (go_at_call 56; (with_reducible refine (hpk _ r1d).mono ?_); rintro e wa ⟨rfl, bx⟩)
      have hbwa : Below w.heap.size w wa := bel_nx hbP bx
      have hpwa : wa.cell? ⟨Bp, 0, none⟩ = some (.pointer (some ⟨Y, 0, none⟩)) := (hbwa.cell lp).trans cp
      have hlwa := (hbwa.cell ll).trans cl
      refine hK.out _ _ ⟨hbwa, hpwa, hlwa⟩ (fun hHeld => ?_)
      clear hK K bx hbP
      have hbP := hbwa
      try simp only [Act.put, List.getElem_toArray, List.getElem_cons_succ, List.getElem_cons_zero, List.setIfInBounds_toArray, List.set_cons_zero, List.set_cons_succ]
      refine wpAnyH_take (i := 4) (v := ?v4) rfl (by kernel_rfl) (by kernel_rfl) (by kernel_rfl) (fun _ _ _ h => h) (Or.inl ⟨by rfl, ?hy4⟩) (by assumption) ?_
      case hy4 => (intro wq hSw; go_simp; try (with_reducible rfl))
      try simp only [Act.put, List.getElem_toArray, List.getElem_cons_succ, List.getElem_cons_zero, List.setIfInBounds_toArray, List.set_cons_zero, List.set_cons_succ]
      refine wpAnyH_take (i := 5) (v := ?v5) rfl (by kernel_rfl) (by kernel_rfl) (by kernel_rfl) (fun _ _ _ h => h) (Or.inl ⟨by rfl, ?hy5⟩) (by assumption) ?_
      case hy5 => (intro wq hSw; go_simp; try (with_reducible rfl))
      try simp only [Act.put, List.getElem_toArray, List.getElem_cons_succ, List.getElem_cons_zero, List.setIfInBounds_toArray, List.set_cons_zero, List.set_cons_succ]
      refine wpAnyH_take (i := 6) (v := ?v6) rfl (by kernel_rfl) (by kernel_rfl) (by kernel_rfl) (fun _ _ _ h => h) (Or.inl ⟨by rfl, ?hy6⟩) (by assumption) ?_
      case hy6 => (intro wq hSw; go_simp; try (with_reducible rfl))
      try simp only [Act.put, List.getElem_toArray, List.getElem_cons_succ, List.getElem_cons_zero, List.setIfInBounds_toArray, List.set_cons_zero, List.set_cons_succ]
      refine wpAnyH_take (i := 7) (v := ?v7) rfl (by kernel_rfl) (by kernel_rfl) (by kernel_rfl) (fun _ _ _ h => h) (Or.inl ⟨by rfl, ?hy7⟩) (by assumption) ?_
      case hy7 => (intro wq hSw; go_simp; try (with_reducible rfl))
      try simp only [Act.put, List.getElem_toArray, List.getElem_cons_succ, List.getElem_cons_zero, List.setIfInBounds_toArray, List.set_cons_zero, List.set_cons_succ]
      refine wpAnyH_take (i := 8) (v := ?v8) rfl (by kernel_rfl) (by kernel_rfl) (by kernel_rfl) (fun _ _ _ h => h) (Or.inl ⟨by rfl, ?hy8⟩) (by assumption) ?_
      case hy8 => (intro wq hSw; go_simp; try (with_reducible rfl))
      try simp only [Act.put, List.getElem_toArray, List.getElem_cons_succ, List.getElem_cons_zero, List.setIfInBounds_toArray, List.set_cons_zero, List.set_cons_succ]
      refine wpAnyH_take (i := 9) (v := ?v9) rfl (by kernel_rfl) (by kernel_rfl) (by kernel_rfl) (fun _ _ _ h => h) (Or.inl ⟨by rfl, ?hy9⟩) (by assumption) ?_
      case hy9 => (intro wq hSw; go_simp; try (with_reducible rfl))
      try simp only [Act.put, List.getElem_toArray, List.getElem_cons_succ, List.getElem_cons_zero, List.setIfInBounds_toArray, List.set_cons_zero, List.set_cons_succ]
      refine wpAnyH_take (i := 10) (v := .int .i64 (-1)) rfl (by kernel_rfl) (by kernel_rfl) (by kernel_rfl) (fun _ _ _ h => h) (Or.inl ⟨by rfl, ?hy10⟩) (by assumption) ?_
      case hy10 => (intro wq hSw; obtain ⟨hSb, hSp, hSl⟩ := hSw; go_simp; try rfl)
      try simp only [Act.put, List.getElem_toArray, List.getElem_cons_succ, List.getElem_cons_zero, List.setIfInBounds_toArray, List.set_cons_zero, List.set_cons_succ]
      refine wpAnyH_take (i := 11) (v := .bool false) rfl (by kernel_rfl) (by kernel_rfl) (by kernel_rfl) (fun _ _ _ h => h) (Or.inl ⟨by rfl, ?hy11⟩) (by assumption) ?_
      case hy11 => (intro wq hSw; go_simp; try rfl)
      try simp only [Act.put, List.getElem_toArray, List.getElem_cons_succ, List.getElem_cons_zero, List.setIfInBounds_toArray, List.set_cons_zero, List.set_cons_succ]
      refine wpAnyH_take (i := 12) (v := .bool false) rfl (by kernel_rfl) (by kernel_rfl) (by kernel_rfl) (fun _ _ _ h => h) (Or.inl ⟨by rfl, ?hy12⟩) (by assumption) ?_
      case hy12 => (intro wq hSw; go_simp; try rfl)
      try simp only [Act.put, List.getElem_toArray, List.getElem_cons_succ, List.getElem_cons_zero, List.setIfInBounds_toArray, List.set_cons_zero, List.set_cons_succ]
      refine wpAnyH_take (i := 13) (v := .bool false) rfl (by kernel_rfl) (by kernel_rfl) (by kernel_rfl) (fun _ _ _ h => h) (Or.inl ⟨by rfl, ?hy13⟩) (by assumption) ?_
      case hy13 => (intro wq hSw; go_simp; try rfl)
      try simp only [Act.put, List.getElem_toArray, List.getElem_cons_succ, List.getElem_cons_zero, List.setIfInBounds_toArray, List.set_cons_zero, List.set_cons_succ]
      refine wpAnyH_take (i := 14) (v := undef) rfl (by kernel_rfl) (by kernel_rfl) (by kernel_rfl) (fun _ _ _ h => h) (Or.inr ⟨by rfl, rfl⟩) (by assumption) ?_
      try simp only [Act.put, List.getElem_toArray, List.getElem_cons_succ, List.getElem_cons_zero, List.setIfInBounds_toArray, List.set_cons_zero, List.set_cons_succ]
      refine wpAnyH_take (i := 15) (v := undef) rfl (by kernel_rfl) (by kernel_rfl) (by kernel_rfl) (fun _ _ _ h => h) (Or.inr ⟨by rfl, rfl⟩) (by assumption) ?_
      try simp only [Act.put, List.getElem_toArray, List.getElem_cons_succ, List.getElem_cons_zero, List.setIfInBounds_toArray, List.set_cons_zero, List.set_cons_succ]
      refine wpAnyH_take (i := 16) (v := undef) rfl (by kernel_rfl) (by kernel_rfl) (by kernel_rfl) (fun _ _ _ h => h) (Or.inr ⟨by rfl, rfl⟩) (by assumption) ?_
      try simp only [Act.put, List.getElem_toArray, List.getElem_cons_succ, List.getElem_cons_zero, List.setIfInBounds_toArray, List.set_cons_zero, List.set_cons_succ]
      refine wpAnyH_take (i := 17) (v := undef) rfl (by kernel_rfl) (by kernel_rfl) (by kernel_rfl) (fun _ _ _ h => h) (Or.inr ⟨by rfl, rfl⟩) (by assumption) ?_
      try simp only [Act.put, List.getElem_toArray, List.getElem_cons_succ, List.getElem_cons_zero, List.setIfInBounds_toArray, List.set_cons_zero, List.set_cons_succ]
      refine wpAnyH_take (i := 18) (v := undef) rfl (by kernel_rfl) (by kernel_rfl) (by kernel_rfl) (fun _ _ _ h => h) (Or.inr ⟨by rfl, rfl⟩) (by assumption) ?_
      try simp only [Act.put, List.getElem_toArray, List.getElem_cons_succ, List.getElem_cons_zero, List.setIfInBounds_toArray, List.set_cons_zero, List.set_cons_succ]
      refine wpAnyH_ready (rs := [19]) (by kernel_rfl) (by simp) (AllReadyH.cons rfl (fun K hK => ?_) AllReadyH.nil)
      split
      · rename_i hh; exact absurd (show false = true from hh) (by decide)
      refine hK.out _ _ (by assumption) (fun hHeld2 => ?_)
      clear hK K hHeld2
      try simp only [Act.put, List.getElem_toArray, List.getElem_cons_succ, List.getElem_cons_zero, List.setIfInBounds_toArray, List.set_cons_zero, List.set_cons_succ]
      refine wpAnyH_take (i := 20) (v := undef) rfl (by kernel_rfl) (by kernel_rfl) (by kernel_rfl) (fun _ _ _ h => h) (Or.inr ⟨by rfl, rfl⟩) (by assumption) ?_
      try simp only [Act.put, List.getElem_toArray, List.getElem_cons_succ, List.getElem_cons_zero, List.setIfInBounds_toArray, List.set_cons_zero, List.set_cons_succ]
      refine wpAnyH_take (i := 21) (v := undef) rfl (by kernel_rfl) (by kernel_rfl) (by kernel_rfl) (fun _ _ _ h => h) (Or.inr ⟨by rfl, rfl⟩) (by assumption) ?_
      try simp only [Act.put, List.getElem_toArray, List.getElem_cons_succ, List.getElem_cons_zero, List.setIfInBounds_toArray, List.set_cons_zero, List.set_cons_succ]
      refine wpAnyH_take (i := 22) (v := undef) rfl (by kernel_rfl) (by kernel_rfl) (by kernel_rfl) (fun _ _ _ h => h) (Or.inr ⟨by rfl, rfl⟩) (by assumption) ?_
      try simp only [Act.put, List.getElem_toArray, List.getElem_cons_succ, List.getElem_cons_zero, List.setIfInBounds_toArray, List.set_cons_zero, List.set_cons_succ]
      refine wpAnyH_take (i := 24) (v := undef) rfl (by kernel_rfl) (by kernel_rfl) (by kernel_rfl) (fun _ _ _ h => h) (Or.inr ⟨by rfl, rfl⟩) (by assumption) ?_
      try simp only [Act.put, List.getElem_toArray, List.getElem_cons_succ, List.getElem_cons_zero, List.setIfInBounds_toArray, List.set_cons_zero, List.set_cons_succ]
      refine wpAnyH_ready (rs := [23]) (by kernel_rfl) (by simp) (AllReadyH.cons rfl (fun K hK => ?_) AllReadyH.nil)
      split
      · rename_i hh; exact absurd (show false = true from hh) (by decide)
      refine hK.out _ _ (by assumption) (fun hHeld2 => ?_)
      clear hK K hHeld2
      try simp only [Act.put, List.getElem_toArray, List.getElem_cons_succ, List.getElem_cons_zero, List.setIfInBounds_toArray, List.set_cons_zero, List.set_cons_succ]
      refine wpAnyH_ready (rs := [25]) (by kernel_rfl) (by simp) (AllReadyH.cons rfl (fun K hK => ?_) AllReadyH.nil)
      split
      · rename_i hh; exact absurd (show false = true from hh) (by decide)
      refine hK.out _ _ (by assumption) (fun hHeld2 => ?_)
      clear hK K hHeld2
      try simp only [Act.put, List.getElem_toArray, List.getElem_cons_succ, List.getElem_cons_zero, List.setIfInBounds_toArray, List.set_cons_zero, List.set_cons_succ]
      refine wpAnyH_take (i := 26) (v := undef) rfl (by kernel_rfl) (by kernel_rfl) (by kernel_rfl) (fun _ _ _ h => h) (Or.inr ⟨by rfl, rfl⟩) (by assumption) ?_
      try simp only [Act.put, List.getElem_toArray, List.getElem_cons_succ, List.getElem_cons_zero, List.setIfInBounds_toArray, List.set_cons_zero, List.set_cons_succ]
      refine wpAnyH_take (i := 27) (v := undef) rfl (by kernel_rfl) (by kernel_rfl) (by kernel_rfl) (fun _ _ _ h => h) (Or.inr ⟨by rfl, rfl⟩) (by assumption) ?_
      try simp only [Act.put, List.getElem_toArray, List.getElem_cons_succ, List.getElem_cons_zero, List.setIfInBounds_toArray, List.set_cons_zero, List.set_cons_succ]
      refine wpAnyH_take (i := 28) (v := undef) rfl (by kernel_rfl) (by kernel_rfl) (by kernel_rfl) (fun _ _ _ h => h) (Or.inr ⟨by rfl, rfl⟩) (by assumption) ?_
      try simp only [Act.put, List.getElem_toArray, List.getElem_cons_succ, List.getElem_cons_zero, List.setIfInBounds_toArray, List.set_cons_zero, List.set_cons_succ]
      refine wpAnyH_take (i := 29) (v := .bool false) rfl (by kernel_rfl) (by kernel_rfl) (by kernel_rfl) (fun _ _ _ h => h) (Or.inl ⟨by rfl, ?hy29⟩) (by assumption) ?_
      case hy29 => (intro wq hSw; go_simp; try rfl)
      try simp only [Act.put, List.getElem_toArray, List.getElem_cons_succ, List.getElem_cons_zero, List.setIfInBounds_toArray, List.set_cons_zero, List.set_cons_succ]
      refine wpAnyH_done (by kernel_rfl) ?_ _
      refine NoPanic.normal ?_
      go_wp2
      go_meet
      case rel => exact ⟨rfl, by assumption⟩
  case rest =>
    obtain ⟨rfl, bM⟩ := hcut
    have V2 := hstep _ bM
    have hwd2 := fun W (bW : Below wc.heap.size wc W) => hwd W (bel_nx bM bW)
    have cw2 : wc.cell? ⟨Bw, 0, none⟩ = some (.map (some Q)) := (bM.cell lw).trans cw
    have cp2 : wc.cell? ⟨Bp, 0, none⟩ = some (.pointer (some ⟨Y, 0, none⟩)) := (bM.cell lp).trans cp
    have nPL : Bp ≠ Bl := cells_ne V2.hp V2.hl (by decide)
    have nWL : Bw ≠ Bl := cells_ne V2.hw V2.hl (by decide)
    have r2d := (Below.refl wc.heap.size wc).drew
    clear hpk hgi hgl hno hstep hfd0 hfd1 hf cp1 cl1 r1d hwd bN
    go_wp2
    go_region_held3 (fun w' => w'.cell? ⟨Bp, 0, none⟩ = some (.pointer (some ⟨Y, 0, none⟩)) ∧ w'.cell? ⟨Bw, 0, none⟩ = some (.map (some Q))) (first | exact ⟨cp2, cw2⟩ | exact ⟨cp3, cw3⟩ | exact ⟨cp4, cw4⟩) (first
      | (go_at_call 82; (with_reducible refine (hwd2 _ ?hb).mono ?_); (case hb => exact r2d); rintro e w3 ⟨rfl, hS3, a3⟩; have V3 := (V2.step r2d).away a3 hS3; have cp3 : w3.cell? ⟨Bp, 0, none⟩ = some (.pointer (some ⟨Y, 0, none⟩)) := (by rw [Lib.cell_of_heap V3.hp]; rfl); have cw3 : w3.cell? ⟨Bw, 0, none⟩ = some (.map (some Q)) := (by rw [Lib.cell_of_heap V3.hw]; rfl); have cl3 : w3.cell? ⟨Bl, 0, none⟩ = some (.int .i64 last) := (by rw [Lib.cell_of_heap V3.hl]; rfl); have fl3 := Lib.frozen_of_heap V3.hl 0; have V4 := V3.setLast (i : Int); have cp4 : (w3.setCell ⟨Bl, 0, none⟩ (.int .i64 (i : Nat))).cell? ⟨Bp, 0, none⟩ = some (.pointer (some ⟨Y, 0, none⟩)) := (by rw [Lib.cell_of_heap V4.hp]; rfl); have cw4 : (w3.setCell ⟨Bl, 0, none⟩ (.int .i64 (i : Nat))).cell? ⟨Bw, 0, none⟩ = some (.map (some Q)) := (by rw [Lib.cell_of_heap V4.hw]; rfl)))
    have aF := (((Away.of_below (bs := [Y, E, Bl]) bM).drew).trans (a3.more (by simp))).setCell (p := ⟨Bl, 0, none⟩) (.inl (by simp)) (.int .i64 (i : Nat))
    clear V3 cp3 cw3 cl3 fl3 hS3 a3 V2 hwd2 cp2 cw2 r2d bM
    generalize w3.setCell ⟨Bl, 0, none⟩ (.int .i64 (i : Nat)) = w4 at V4 cp4 cw4 aF ⊢
    have c4 := V4.prs.c4
    have ce : w4.cell? ⟨Be, 0, none⟩ = some (.pointer (some ⟨E, 0, none⟩)) := by rw [Lib.cell_of_heap V4.he]; rfl
    have cl4 : w4.cell? ⟨Bl, 0, none⟩ = some (.int .i64 (i : Nat)) := by rw [Lib.cell_of_heap V4.hl]; rfl
    have xs := set_walk V4.hE i hi HA.out.2
    go_wp2_with (go_at_call 83; (with_reducible refine xs.mono ?_))
    intro r w5; first | (intro he hw5 a5; subst he) | rintro ⟨rfl, hw5, a5⟩
    have V6 := V4.setE i hw5 a5
    have aG := aF.trans (a5.more (by simp))
    have cl6 : w5.cell? ⟨Bl, 0, none⟩ = some (.int .i64 (i : Nat)) := by rw [Lib.cell_of_heap V6.hl]; rfl
    clear hw5 a5 aF
    go_wp2
    go_ret
    exact ⟨rfl, V6, aG⟩
end
end Go.Proofs.YtholnnabakaliaaGreatDoor
