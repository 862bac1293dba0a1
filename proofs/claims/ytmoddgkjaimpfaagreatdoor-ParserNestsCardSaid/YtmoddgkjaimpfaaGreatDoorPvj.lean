/-
  A part of the proof that the law ParserNests (chapter 19) returns true for every depth and every list of notes: walks of the program's functions, and runs of them in the kernel by the own evaluator.
-/
import Derived.Test.YtmoddgkjaimpfaaGreatDoorPvh
namespace Go.Proofs.YtmoddgkjaimpfaaGreatDoor
open Go.RowKit

theorem Tryz.infoTuplet : (Tryz.prog.info? 25).map (fun i => (i.zero, i.size, i.bytes)) = some (some (.agg #[.int .i64 0, .int .i64 0, .int .i64 0, .int .i64 0]), 4, 32) := by kernel_rfl

theorem tupCells_at (ts : List (Int × Int)) (p : Int × Int) (rest : List (Int × Int)) : (tupCells (ts ++ p :: rest))[ts.length * 4 + 1]? = some (.int .i64 p.2) := by
  have h : tupCells (ts ++ p :: rest) = tupCells ts ++ ([.int .i64 p.1, .int .i64 p.2, .int .i64 3, .int .i64 2] ++ tupCells rest) := by simp [tupCells]
  rw [h, List.getElem?_append_right (by rw [tupCells_len]; omega), tupCells_len, show ts.length * 4 + 1 - 4 * ts.length = 1 by omega]
  rfl

section
variable {V Y M : Nat} {tv : Value} {toks : List Tok} {pos pos' : Nat} {line col ls ln : Int} {es : Array MapEntry} {clk : Nat} {ev tu : Value} {a : Nat} {ts : List (Int × Int)} {w w' : World}

theorem VS.putTu (h : VS V Y M tv toks pos line col ls ln es clk ev tu a ts w) {g cap j : Nat} {u : Value} {ts' : List (Int × Int)} (htu : tu = .slice (some ⟨g, 0, none⟩) ts.length cap) (hts : (tupCells ts).set j u = tupCells ts') (hl : ts'.length = ts.length) :
    VS V Y M tv toks pos line col ls ln es clk ev tu a ts' (w.setCell ⟨g, j, none⟩ u) := by
  subst htu
  have hs := h.tus.stored j u
  rw [hts] at hs
  have hgV : g ≠ V := fun e => h.tuV (by simp [Value.ownBlock, e])
  have hgY : g ≠ Y := fun e => h.tuY (by simp [Value.ownBlock, e])
  obtain ⟨xs, ho⟩ := h.evs
  obtain ⟨r1, r2, r3⟩ := h.prs.rowNe h.tus (by decide) (by decide)
  refine ⟨(Below.heap_setCell _ _ _ _ (fun e => hgV e.symm)).trans h.hV, ⟨xs, own_step ho fun k hk => Below.heap_setCell _ _ _ _ (fun e => h.evTu hk (by simp [Value.ownBlock, e]))⟩, ?_, h.prs.grown hs.2 r1 r2 r3⟩
  rw [hl]; exact hs.1

def zTup : Obj := .cells #[.int .i64 0, .int .i64 0, .int .i64 0, .int .i64 0] 25 (0, 0)
theorem four_cells {X : Nat} {c0 c1 c2 c3 : Value} {T : TypeId} (h : w.heap[X]? = some (.cells #[c0, c1, c2, c3] T (0, 0))) :
    (w.cell? ⟨X, 0, none⟩ = some c0 ∧ w.cell? ⟨X, 1, none⟩ = some c1 ∧ w.cell? ⟨X, 2, none⟩ = some c2 ∧ w.cell? ⟨X, 3, none⟩ = some c3) ∧
    (w.frozen? ⟨X, 0, none⟩ = false ∧ w.frozen? ⟨X, 1, none⟩ = false ∧ w.frozen? ⟨X, 2, none⟩ = false ∧ w.frozen? ⟨X, 3, none⟩ = false) := by
  refine ⟨⟨?_, ?_, ?_, ?_⟩, Lib.frozen_of_heap h 0, Lib.frozen_of_heap h 1, Lib.frozen_of_heap h 2, Lib.frozen_of_heap h 3⟩ <;> (rw [Lib.cell_of_heap h]; rfl)

/-- Stores elsewhere. -/
theorem VS.other (h : VS V Y M tv toks pos line col ls ln es clk ev tu a ts w) {k : Nat} {cs : Array Value} {fr : Nat × Nat} (hk : w.heap[k]? = some (.cells cs 25 fr)) (hn : tu.ownBlock ≠ some k) (i : Nat) (u : Value) :
    VS V Y M tv toks pos line col ls ln es clk ev tu a ts (w.setCell ⟨k, i, none⟩ u) := by
  have hkV : V ≠ k := by
    rintro rfl
    rw [h.hV] at hk
    injection hk with hk
    injection hk with _ h2 _
    exact absurd h2 (by decide)
  obtain ⟨xs, ho⟩ := h.evs
  have hne : ev.ownBlock ≠ some k := own_ne ho hk (by intro cs fr hc; injection hc with _ h2 _; exact absurd h2 (by decide))
  exact ⟨(Below.heap_setCell _ _ _ _ hkV).trans h.hV, ⟨xs, own_step ho fun j hj => Below.heap_setCell _ _ _ _ (fun e => hne (by rw [hj, e]))⟩, own_step h.tus fun j hj => Below.heap_setCell _ _ _ _ (fun e => hn (by rw [hj, e])), h.prs.elsewhere hk (by decide) (by decide) i u⟩

/-- What there is behind the numerals of a tuplet: its own block T, and the voice. -/
structure TupS (T V Y M : Nat) (tv : Value) (toks : List Tok) (pos : Nat) (line col ls ln : Int) (es : Array MapEntry) (clk : Nat) (ev tu : Value) (a : Nat) (ts : List (Int × Int)) (n2 : Int) (w0 w : World) : Prop where
  hT : w.heap[T]? = some (.cells #[.int .i64 (a : Int), .int .i64 0, .int .i64 3, .int .i64 n2] 25 (0, 0))
  vs : VS V Y M tv toks pos line col ls ln es clk ev tu a ts w
  aw : Away [Y] w0 w
  bT : w0.heap.size ≤ T
  nT : tu.ownBlock ≠ some T
theorem TupS.nY {T : Nat} {n2 : Int} {w0 : World} (h : TupS T V Y M tv toks pos line col ls ln es clk ev tu a ts n2 w0 w) : T ≠ Y := by
  rintro rfl
  have := h.hT.symm.trans h.vs.prs.blk
  injection this with this
  injection this with _ h2 _
  exact absurd h2 (by decide)
theorem TupS.away {T : Nat} {n2 : Int} {w0 : World} (h : TupS T V Y M tv toks pos line col ls ln es clk ev tu a ts n2 w0 w) (b : Away [Y] w w') (hS : Prs Y M tv toks pos' line col 0 true ls ln es clk w') : TupS T V Y M tv toks pos' line col ls ln es clk ev tu a ts n2 w0 w' :=
  ⟨b.heap h.hT (by simp [h.nY]), h.vs.away b hS, h.aw.trans b, h.bT, h.nT⟩

set_option maxHeartbeats 32000000 in
set_option maxRecDepth 100000 in
/-- Its beginning: the parenthesis and the first number. -/
theorem tuplet_walk {n p1 a1 : Nat} {rest : List (Int × Int)} (hn1 : 1 ≤ n) (hn : n ≤ 100000) (hpos : pos ≤ 1000000) (hp1 : p1 ≤ 1000000) (ha : a ≤ 100000) (ha1 : a1 ≤ 100000) (hts : ts.length ≤ 100000)
    {t0 t1 t2 t3 tc : Tok} (ht0 : toks[pos]? = some t0) (k0 : IsTok t0 ⟨#[40]⟩ = true) (ht1 : toks[pos + 1]? = some t1) (k1 : t1.kind = 2) (v1 : t1.value = 3) (ht2 : toks[pos + 2]? = some t2) (k2 : IsTok t2 ⟨#[58]⟩ = true) (ht3 : toks[pos + 3]? = some t3) (k3 : t3.kind = 2) (v3 : t3.value = 2)
    (hi : Items toks n (pos + 4) a (ts ++ [((a : Int), 0)]) p1 a1 (ts ++ ((a : Int), 0) :: rest)) (htc : toks[p1]? = some tc) (kc : IsTok tc ⟨#[41]⟩ = true) (hs : VStop tc) :
    TupAt toks pos a ts (p1 + 1) a1 (ts ++ ((a : Int), (a1 : Int) - a) :: rest) := by
  refine ⟨⟨t0, ht0, k0⟩, ?_⟩
  intro V Y M tv line col ls ln es clk ev tu w h
  have x0 := expect_yes h.prs ht0 ⟨#[40]⟩ k0 (by omega)
  have lV := h.lt
  have lY := h.prs.lt
  go_enter Tryz.func14, Tryz.ntmps14
  go_wp2_with (go_at_call 23; refine x0.mono ?_)
  intro r w1; first | (intro he hS1 b1; subst he) | rintro ⟨rfl, hS1, b1⟩
  have h1 := h.away b1 hS1
  have hnum : ∀ w', VS V Y M tv toks (pos + 1) line col ls ln es clk ev tu a ts w' → Calls Tryz.prog 24 #[.pointer (some ⟨Y, 0, none⟩), .int .i64 1, .int .i64 32] w' fun r w'' => r = .returned (.int .i64 3) ∧ VS V Y M tv toks (pos + 2) line col ls ln es clk ev tu a ts w'' ∧ Away [Y] w' w'' := fun w' h' => by
    have := number_ok h'.prs ht1 k1 (by omega) 1 32 (by omega) (by omega)
    rw [v1] at this
    exact this.mono fun r w'' hh => ⟨hh.1, h'.away hh.2.2 hh.2.1, hh.2.2⟩
  clear x0 hS1
  obtain ⟨ao, cp, rfl⟩ := h1.evIs
  have hD := h1.step (Below.refl _ w1).drew
  have c0 := hD.c0
  have c0a := h1.c0
  have n0 : w1.heap.size ≠ V := World.new_ne w1 _ c0a
  have lV1 := hD.lt
  go_wp2
  go_cut [4] from 6 (fun s4 wc => ∃ T, s4 = .pointer (some ⟨T, 0, none⟩) ∧ TupS T V Y M tv toks (pos + 2) line col ls ln es clk (.slice ao a cp) tu a ts 0 w1 wc)
  case first =>
    have hA := hD.step ((Below.refl _ _).alloc (Nat.le_refl _) zTup)
    have hT1 : (w1.drew.alloc zTup).heap[w1.heap.size]? = some zTup := heap_alloc_new w1.drew zTup
    have lYD : Y < w1.heap.size := hD.prs.lt
    have hTY : w1.heap.size ∉ [Y] := by simp; omega
    go_region_held3 (fun w' => w'.cell? ⟨V, 0, none⟩ = some (.slice ao a cp)) (go_keep) (first
      | (go_at_call 24; refine (hnum _ (by first | exact hD | exact hA)).mono ?_; rintro r w2 ⟨rfl, h2, aw2⟩; have c0 := h2.c0; have n0 := World.new_ne _ _ c0; have lV2 := h2.lt; (first | (have hx := aw2.heap hT1 hTY; obtain ⟨⟨q0, q1, q2, q3⟩, r0, r1, r2, r3⟩ := four_cells hx) | skip)))
    · go_wp2
      go_meet
      case rel =>
        refine ⟨_, rfl, heap_alloc_new w2 _, h2.step ((Below.refl _ w2).alloc (Nat.le_refl _) _), ((Away.of_below (bs := [Y]) ((Below.refl _ w1).drew)).trans aw2).alloc _, aw2.size, fun e => ?_⟩
        have := (h2.tus.lt _ e).2
        omega
    · go_wp2
      go_meet
      case rel =>
        have ht1n : tu.ownBlock ≠ some w1.heap.size := fun e => by
          have := (h1.tus.lt _ e).2
          omega
        have o1 := h2.other hx ht1n 0 (.int .i64 (a : Int))
        have y1 := Lib.heap_setCell_same (i := 0) hx (.int .i64 (a : Int))
        have o2 := o1.other y1 ht1n 1 (.int .i64 0)
        have y2 := Lib.heap_setCell_same (i := 1) y1 (.int .i64 0)
        have o3 := o2.other y2 ht1n 2 (.int .i64 3)
        have y3 := Lib.heap_setCell_same (i := 2) y2 (.int .i64 3)
        have o4 := o3.other y3 ht1n 3 (.int .i64 0)
        have y4 := Lib.heap_setCell_same (i := 3) y3 (.int .i64 0)
        have aw3 := ((Away.of_below (bs := [Y]) ((Below.refl _ w1).drew)).alloc zTup).trans aw2
        exact ⟨_, rfl, y4, o4, (((aw3.setCell (p := ⟨w1.heap.size, 0, none⟩) (.inr (Nat.le_refl _)) _).setCell (p := ⟨w1.heap.size, 1, none⟩) (.inr (Nat.le_refl _)) _).setCell (p := ⟨w1.heap.size, 2, none⟩) (.inr (Nat.le_refl _)) _).setCell (p := ⟨w1.heap.size, 3, none⟩) (.inr (Nat.le_refl _)) _, Nat.le_refl _, ht1n⟩
  case rest =>
    obtain ⟨T, rfl, p2⟩ := hcut
    have aw0 := (Away.of_below (bs := [Y]) (Below.refl w.heap.size w)).trans b1
    clear hnum hD c0 c0a n0 lV1 h1
    have x2 := expect_yes p2.vs.prs ht2 ⟨#[58]⟩ k2 (by omega)
    go_wp2_with (go_at_call 23; refine x2.mono ?_)
    intro r w3; first | (intro he hS3 b3; subst he) | rintro ⟨rfl, hS3, b3⟩
    have p3 := p2.away b3 hS3
    clear x2 p2 hS3 b3
    have x3 := number_ok p3.vs.prs ht3 k3 (by omega) 1 32 (by omega) (by omega)
    rw [v3] at x3
    go_wp2_with (go_at_call 24; refine x3.mono ?_)
    intro r w4; first | (intro he hS4 b4; subst he) | rintro ⟨rfl, hS4, b4⟩
    have p4 := p3.away b4 hS4
    clear x3 p3 hS4 b4
    obtain ⟨⟨q0, q1, q2, q3⟩, r0, r1, r2, r3⟩ := four_cells p4.hT
    have hT5 := Lib.heap_setCell_same (i := 3) p4.hT (.int .i64 2)
    have p5 : TupS T V Y M tv toks (pos + 4) line col ls ln es clk (.slice ao a cp) tu a ts 2 w1 (w4.setCell ⟨T, 3, none⟩ (.int .i64 2)) :=
      ⟨hT5, p4.vs.other p4.hT p4.nT 3 _, p4.aw.setCell (p := ⟨T, 3, none⟩) (.inr p4.bT) _, p4.bT, p4.nT⟩
    obtain ⟨tao, tcp, rfl⟩ := p5.vs.tuIs
    have c1 := p5.vs.c1
    have awp := b1.trans p5.aw
    go_wp2
    clear q0 q1 q2 q3 r0 r1 r2 r3
    generalize w4.setCell ⟨T, 3, none⟩ (.int .i64 2) = w5 at p5 hT5 c1 awp ⊢
    clear p4
    have p5d : VS V Y M tv toks (pos + 4) line col ls ln es clk (.slice ao a cp) (.slice tao ts.length tcp) a ts w5.drew := p5.vs.step (Below.refl _ w5).drew
    have hT5d : w5.drew.heap[T]? = some (.cells #[.int .i64 (a : Int), .int .i64 0, .int .i64 3, .int .i64 2] 25 (0, 0)) := hT5
    have c1d := p5d.c1
    have n1 : w5.heap.size ≠ V := World.new_ne w5 _ c1
    obtain ⟨⟨q0, q1, q2, q3⟩, r0, r1, r2, r3⟩ := four_cells hT5
    obtain ⟨⟨u0, u1, u2, u3⟩, -⟩ := four_cells hT5d
    have nT1 : w5.heap.size ≠ T := World.new_ne w5 _ q0
    have lT5 : T < w5.heap.size := (Array.getElem?_eq_some_iff.1 hT5).1
    have lV5 := p5.vs.lt
    have own5 := p5d.tus
    obtain ⟨i0, hi0, hz0, hz1, hz2⟩ := info_parts Tryz.infoTuplet
    have hTV : T ≠ V := by
      rintro rfl
      have := hT5.symm.trans p5.vs.hV
      injection this with this
      injection this with _ h2 _
      exact absurd h2 (by decide)
    have hTY := p5.nY
    have hTn := p5.nT
    have bT := p5.bT
    clear p5 hT5
    go_cut [5] from 6 (fun s5 wc => s5 = .int .i64 ts.length ∧ ∃ tu6, VS V Y M tv toks (pos + 4) line col ls ln es clk (.slice ao a cp) tu6 a (ts ++ [((a : Int), 0)]) wc ∧ Away (vb V Y (.slice ao a cp) (.slice tao ts.length tcp)) w wc ∧ Fresh w (.slice tao ts.length tcp) tu6 ∧
        wc.heap[T]? = some (.cells #[.int .i64 (a : Int), .int .i64 0, .int .i64 3, .int .i64 2] 25 (0, 0)) ∧ T ∉ vb V Y (.slice ao a cp) tu6)
    case first =>
      go_region_law ((refine step_append_lies _ (by rfl) _ _ _ (by rfl) 0 25 i0 _ 4 32 Tryz.underlying23 hi0 hz0 hz1 hz2 rfl (by omega) (.slice tao ts.length tcp) ts.length (tupCells ts) (by rfl) (World.ownsRow.alloc own5 _) ⟨w5.heap.size, 0, none⟩ 1 1 [.int .i64 (a : Int), .int .i64 0, .int .i64 3, .int .i64 2] (by rfl) (by rfl) (World.news_of_block (cs := #[.int .i64 (a : Int), .int .i64 0, .int .i64 3, .int .i64 2]) (t := 25) (fr := (0, 0)) (heap_alloc_new w5.drew _)) (by simp [Value.oneCell']) (by omega) (by simp only [maxLen]; omega) (by omega) (by simp) (w5.heap.size + 1) (by simp) ?_; intro gg cap w6 hown1 hgrow hat hgl; rw [← tupCells_more ts ((a : Int), 0)] at hown1; obtain ⟨h6, hV6⟩ := (p5d.step ((Below.refl _ w5.drew).alloc (Nat.le_refl _) (.cells #[.int .i64 (a : Int), .int .i64 0, .int .i64 3, .int .i64 2] 25))).pushTu (by simp) hgrow hown1; have c1 := Lib.cell_of_heap hV6 1; have g1 := Lib.frozen_of_heap hV6 1; simp only [List.getElem?_toArray, List.getElem?_cons_succ, List.getElem?_cons_zero] at c1))
      all_goals go_wp2
      all_goals go_meet
      all_goals (
        have aw6 : Away (vb V Y (.slice ao a cp) (.slice tao ts.length tcp)) w (w6.setCell ⟨V, 1, none⟩ (.slice (some ⟨gg, 0, none⟩) (ts.length + 1) cap)) :=
          ((((awp.more (fun i hi => mem_vb.2 (.inl (List.mem_singleton.1 hi)))).drew).alloc _).grownRow hgrow (fun i hi => .inl (mem_vb.2 (.inr (.inr (.inr hi)))))).setCell (p := ⟨V, 1, none⟩) (.inl (mem_vb.2 (.inr (.inl rfl)))) _
        have fr6 : Fresh w (.slice tao ts.length tcp) (.slice (some ⟨gg, 0, none⟩) (ts.length + 1) cap) := fun i hi => by
          obtain rfl : gg = i := by simpa [Value.ownBlock] using hi
          rcases hat with h | h
          · exact .inl h
          · exact .inr (by have := awp.size; omega)
        have hgT : gg ≠ T := by
          rintro rfl
          rcases hat with h | h
          · exact hTn h
          · omega
        have hT6 : (w6.setCell ⟨V, 1, none⟩ (.slice (some ⟨gg, 0, none⟩) (ts.length + 1) cap)).heap[T]? = some (.cells #[.int .i64 (a : Int), .int .i64 0, .int .i64 3, .int .i64 2] 25 (0, 0)) :=
          (Below.heap_setCell _ _ _ _ hTV).trans ((hgrow.block T (by simp; omega) (fun e => hTn e.symm)).trans ((Lib.alloc_old _ _ _ lT5).trans hT5d))
        obtain ⟨xs6, oe6⟩ := h6.evs
        have hTb : T ∉ vb V Y (.slice ao a cp) (.slice (some ⟨gg, 0, none⟩) (ts.length + 1) cap) := by
          rw [mem_vb]
          rintro (h | h | h | h)
          · exact hTY h
          · exact hTV h
          · exact own_ne oe6 hT6 (by intro cs fr hc; injection hc with _ h2 _; exact absurd h2 (by decide)) h
          · exact hgT (by simpa [Value.ownBlock] using h)
        exact ⟨rfl, _, h6, aw6, fr6, hT6, hTb⟩)
    case rest =>
      obtain ⟨rfl, tu6, h6, aw6, fr6, hT6, hTb⟩ := hcut
      clear p5d own5 c1d u0 u1 u2 u3 q0 q1 q2 q3 r0 r1 r2 r3 hT5d n1 nT1
      have xv := voice_walk 1 hn1 hn hi htc hs h6
      go_wp2_with (go_at_call 7; refine xv.mono ?_)
      rintro r w7 ⟨rfl, ev7, tu7, h7, aw7, fe7, ft7⟩
      have hT7 := aw7.heap hT6 hTb
      have x8 := expect_yes h7.prs htc ⟨#[41]⟩ kc (by omega)
      go_wp2_with (go_at_call 23; refine x8.mono ?_)
      intro r w8; first | (intro he hS8 b8; subst he) | rintro ⟨rfl, hS8, b8⟩
      have h8 := h7.away b8 hS8
      have hT8 := b8.heap hT7 (by simp [hTY])
      have aw8 : Away (vb V Y ev7 tu7) w7 w8 := b8.more (fun i hi => mem_vb.2 (.inl (List.mem_singleton.1 hi)))
      have E8 : VEnd V Y M tv toks (p1 + 1) line col ls ln es clk (.slice ao a cp) (.slice tao ts.length tcp) a1 (ts ++ ((a : Int), 0) :: rest) w w8 :=
        VEnd.trans aw6 (Fresh.refl _ _) fr6 (VEnd.trans aw7 fe7 ft7 ⟨ev7, tu7, h8, aw8, Fresh.refl _ _, Fresh.refl _ _⟩)
      clear x8 xv h7 hT7 aw7 fe7 ft7 hS8 b8 aw8 h6 hT6 hTb aw6 fr6 h8
      obtain ⟨ev8, tu8, h8, aw8, fe8, ft8⟩ := E8
      obtain ⟨ao8, c8, rfl⟩ := h8.evIs
      obtain ⟨g, cap8, rfl, _, _⟩ := h8.tus.form (by simp; omega)
      have x := h8.tus.cellAt (ts.length * 4 + 1) (by simp; omega)
      rw [tupCells_at] at x
      have xf := h8.tus.frozenAt (ts.length * 4 + 1)
      have y1 := h8.c1
      have y0 := h8.c0
      have yT : w8.cell? ⟨T, 0, none⟩ = some (.int .i64 (a : Int)) := by rw [Lib.cell_of_heap hT8]; rfl
      have hL : (ts.length : Int) < (((ts ++ ((a : Int), 0) :: rest).length : Nat) : Int) := by simp; omega
      have hL0 : (0 : Int) ≤ (ts.length : Int) := by omega
      have hw : IntKind.i64.wrap ((a1 : Int) - a) = (a1 : Int) - a := IntWalk.i64_in _ (by omega)
      have hset := tupCells_set ts ((a : Int), 0) ((a1 : Int) - a) rest
      have hlen : (ts ++ ((a : Int), (a1 : Int) - a) :: rest).length = (ts ++ ((a : Int), 0) :: rest).length := by simp
      have hfin := (h8.step (Below.refl _ w8).drew).putTu (j := ts.length * 4 + 1) (u := .int .i64 ((a1 : Int) - a)) (ts' := ts ++ ((a : Int), (a1 : Int) - a) :: rest) rfl hset hlen
      have hgb : g ∈ vb V Y (.slice ao a cp) (.slice tao ts.length tcp) ∨ w.heap.size ≤ g := by
        rcases ft8 g rfl with h | h
        · exact .inl (mem_vb.2 (.inr (.inr (.inr h))))
        · exact .inr h
      have awf := aw8.drew.setCell (p := ⟨g, ts.length * 4 + 1, none⟩) hgb (.int .i64 ((a1 : Int) - a))
      generalize (ts ++ ((a : Int), 0) :: rest).length = L at *
      clear h8 hT8 aw8 hgb hi
      go_wp2
      go_region
      all_goals go_end0
      all_goals exact ⟨rfl, _, _, hfin, awf, fe8, ft8⟩
end
end Go.Proofs.YtmoddgkjaimpfaaGreatDoor
