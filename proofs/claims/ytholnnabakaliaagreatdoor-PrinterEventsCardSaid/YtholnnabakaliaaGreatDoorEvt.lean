/-
  A part of the proof that the law PrinterEvents (chapter 20) returns true for every event: walks of the program's functions, and runs of them in the kernel by the own evaluator.
-/
import Derived.Test.YtholnnabakaliaaGreatDoorAte
import Derived.Test.YtholnnabakaliaaGreatDoorSyb
import Derived.Deep.CutBlock
namespace Go.Proofs.YtholnnabakaliaaGreatDoor
open Go.RowKit

theorem fill13_other (w : World) (X : Nat) (v0 v1 v2 v3 v4 v5 v6 v7 v8 v9 v10 v11 v12 : Value) (k : Nat) (hk : k ≠ X) : (fill13 w X v0 v1 v2 v3 v4 v5 v6 v7 v8 v9 v10 v11 v12).heap[k]? = w.heap[k]? := by
  have s : ∀ (u : World) (i : Nat) (v : Value), (u.setCell ⟨X, i, none⟩ v).heap[k]? = u.heap[k]? := fun u i v => Below.heap_setCell u ⟨X, i, none⟩ v k hk
  unfold fill13
  simp only [s]
theorem fill13_away {bs : List Nat} {a w : World} {X : Nat} (h : Away bs a w) (hX : a.heap.size ≤ X) (v0 v1 v2 v3 v4 v5 v6 v7 v8 v9 v10 v11 v12 : Value) : Away bs a (fill13 w X v0 v1 v2 v3 v4 v5 v6 v7 v8 v9 v10 v11 v12) := by
  have s : ∀ {u : World}, Away bs a u → ∀ (i : Nat) (v : Value), Away bs a (u.setCell ⟨X, i, none⟩ v) := fun hu i v => hu.setCell (p := ⟨X, i, none⟩) (.inr hX) v
  exact s (s (s (s (s (s (s (s (s (s (s (s (s h 0 v0) 1 v1) 2 v2) 3 v3) 4 v4) 5 v5) 6 v6) 7 v7) 8 v8) 9 v9) 10 v10) 11 v11) 12 v12
theorem sep_attr : ∀ (l : List Nat) (bl : List UInt8), sepPs wPs bl (l.map fun i => (attrB i).data.toList) = sepPs attrPs1 bl l
  | [], _ => rfl
  | i :: r, bl => by rw [List.map_cons, sep_head, sep_head, sep_attr r]; rfl
theorem ev_fold {x : EvV} (h : EvOk x) : (idxs x.ar x.orn x.dy x.stem x.beam).foldl setA ⟨0, 0, 0, 0, 0⟩ = ⟨x.ar, x.orn, x.dy, x.stem, x.beam⟩ ∧ okL (-1) (idxs x.ar x.orn x.dy x.stem x.beam) = true ∧ okA ⟨0, 0, 0, 0, 0⟩ (idxs x.ar x.orn x.dy x.stem x.beam) = true ∧ ∀ j ∈ idxs x.ar x.orn x.dy x.stem x.beam, j < 22 := by
  have := h.allOk
  unfold allOk at this
  simp only [Bool.and_eq_true, decide_eq_true_eq, List.all_eq_true] at this
  obtain ⟨⟨⟨⟨⟨⟨⟨h1, h2⟩, h3⟩, h4⟩, h5⟩, h6⟩, h7⟩, h8⟩ := this
  refine ⟨?_, h1, h2, h8⟩
  generalize (idxs x.ar x.orn x.dy x.stem x.beam).foldl setA ⟨0, 0, 0, 0, 0⟩ = A at *
  obtain ⟨a, o, d, s, b⟩ := A
  simp only at h3 h4 h5 h6 h7
  rw [h3, h4, h5, h6, h7]
theorem Prs.fill13 {Y M : Nat} {tv : Value} {toks : List Tok} {pos : Nat} {line col e ls ln : Int} {free : Bool} {es : Array MapEntry} {clk : Nat} {w : World} (h : Prs Y M tv toks pos line col e free ls ln es clk w) {X : Nat} {cs : Array Value} (hk : w.heap[X]? = some (.cells cs 30 (0, 0))) (v0 v1 v2 v3 v4 v5 v6 v7 v8 v9 v10 v11 v12 : Value) : Prs Y M tv toks pos line col e free ls ln es clk (fill13 w X v0 v1 v2 v3 v4 v5 v6 v7 v8 v9 v10 v11 v12) := by
  have s : ∀ {u : World} (i : Nat) (v : Value), (Prs Y M tv toks pos line col e free ls ln es clk u ∧ ∃ cs, u.heap[X]? = some (.cells cs 30 (0, 0))) → (Prs Y M tv toks pos line col e free ls ln es clk (u.setCell ⟨X, i, none⟩ v) ∧ ∃ cs, (u.setCell ⟨X, i, none⟩ v).heap[X]? = some (.cells cs 30 (0, 0))) := fun i v ⟨h1, c, h2⟩ => ⟨h1.elsewhere h2 (by decide) (by decide) i v, _, Lib.heap_setCell_same (i := i) h2 v⟩
  exact (s 12 v12 (s 11 v11 (s 10 v10 (s 9 v9 (s 8 v8 (s 7 v7 (s 6 v6 (s 5 v5 (s 4 v4 (s 3 v3 (s 2 v2 (s 1 v1 (s 0 v0 ⟨h, _, hk⟩))))))))))))).1
theorem els_one {w w' : World} {c : Array Value} (h : w'.heap[w.heap.size]? = some (.cells c 46 (0, 0))) (hs : c.size = 5) (h1 : c.all (·.oneCell') = true) : Els w' 5 (.slice (some ⟨w.heap.size, 0, none⟩) 1 1) [c] := by
  refine .inr ⟨w.heap.size, 0, 1, rfl, fun j r hj => ?_⟩
  cases j with
  | zero =>
    obtain rfl : c = r := by simpa using hj
    refine ⟨hs, h1, fun k u hk => ?_⟩
    simp only [Lib.cell_of_heap h, Nat.zero_mul, Nat.zero_add]
    exact hk
  | succ j => simp at hj

section
variable {Y M : Nat} {tv : Value} {toks : List Tok} {pos : Nat} {line col ls ln : Int} {es : Array MapEntry} {clk : Nat} {w : World}

set_option maxHeartbeats 32000000 in
set_option maxRecDepth 100000 in
theorem event_at (h : Prs Y M tv toks pos line col 0 true ls ln es clk w) {x : EvV} (hx : EvOk x) (hA : At toks pos (evPs x ++ [endP []])) (hpos : pos + (evPs x).length + 1 ≤ 1000000) {b : Nat} (T : Tabs b w) (hY : 7 ≤ Y) :
    Calls Tryz.prog 22 #[.pointer (some ⟨Y, 0, none⟩)] w fun rr w' => ∃ hv gv lv, rr = .returned (.agg (evC x.kind x.lg x.dt hv gv ⟨x.ar, x.orn, x.dy, x.stem, x.beam⟩ lv)) ∧ Els w' 5 hv (x.heads.map HeadV.cells) ∧ Els w' 5 gv (x.graces.map GraceV.cells) ∧ Els w' 2 lv (x.lyr.map SyllV.cells) ∧ Prs Y M tv toks (pos + (evPs x).length) line col 0 true ls ln es clk w' ∧ Away [Y] w w' ∧ ∀ k, hv.ownBlock = some k ∨ gv.ownBlock = some k ∨ lv.ownBlock = some k → w.heap.size < k := by
  -- the places
  unfold evPs at hA hpos ⊢
  rw [List.append_assoc, List.append_assoc, List.append_assoc] at hA
  rw [List.length_append, List.length_append, List.length_append] at hpos ⊢
  have hG := hA.left
  have hA1 := hA.right
  obtain ⟨p1, hp1⟩ : ∃ p, p = pos + (gracesPs x.graces).length := ⟨_, rfl⟩
  rw [← hp1] at hA1
  obtain ⟨tb, htb, hb1, hb2, hb3, hb4, hb5, hb6⟩ := body_first hx hA1
  have hA2 := hA1.right
  obtain ⟨p2, hp2⟩ : ∃ p, p = p1 + (bodyPs x).length := ⟨_, rfl⟩
  rw [← hp2] at hA2
  obtain ⟨ta, hta, ha1, ha2⟩ := after_body hx hA2
  have hA3 := hA2.right
  obtain ⟨p3, hp3⟩ : ∃ p, p = p2 + (attrPs (wordsB x.ar x.orn x.dy x.stem x.beam)).length := ⟨_, rfl⟩
  rw [← hp3] at hA3
  obtain ⟨p4, hp4⟩ : ∃ p, p = p3 + (sepPs syllPs [32] x.lyr).length := ⟨_, rfl⟩
  have he : pos + ((gracesPs x.graces).length + ((bodyPs x).length + ((attrPs (wordsB x.ar x.orn x.dy x.stem x.beam)).length + (sepPs syllPs [32] x.lyr).length))) = p4 := by omega
  rw [he] at hpos ⊢
  -- the beginning
  have lY := h.lt
  have b0 := (Below.refl w.heap.size w).alloc (Nat.le_refl _) (.cells #[.int .i64 0, .int .i64 0, .int .i64 0, .int .i64 0, .int .i64 0, .slice none 0 0, .slice none 0 0, .int .i64 0, .int .i64 0, .int .i64 0, .slice none 0 0, .int .i64 0, .int .i64 0] 30)
  have h0 := h.step b0
  have hR0 := heap_alloc_new w (.cells #[.int .i64 0, .int .i64 0, .int .i64 0, .int .i64 0, .int .i64 0, .slice none 0 0, .slice none 0 0, .int .i64 0, .int .i64 0, .int .i64 0, .slice none 0 0, .int .i64 0, .int .i64 0] 30)
  obtain ⟨tg, htg, hg1, hg2⟩ : ∃ t, toks[pos]? = some t ∧ IsTok t ⟨#[64]⟩ = false ∧ IsTok t ⟨#[103, 114, 97, 99, 101]⟩ = decide (x.graces ≠ []) := by
    unfold gracesPs at hG hp1
    split at hG
    · rename_i hn
      rw [if_pos hn] at hp1
      have : p1 = pos := by rw [hp1]; rfl
      rw [this] at htb
      exact ⟨tb, htb, hb1, hb2.trans (by simp [hn])⟩
    · rename_i hn
      obtain ⟨t, ht, hi⟩ := At.first (p := wordP [32] [103, 114, 97, 99, 101]) hG
      exact ⟨t, ht, (isTok_of hi [64]).trans (by decide), (isTok_of hi [103, 114, 97, 99, 101]).trans (by simp [wordP, hn])⟩
  have xo := object_free h0 htg hg1
  go_enter Tryz.func22, Tryz.ntmps22
  go_wp2_with (go_at_call 46; (with_reducible refine xo.mono ?_))
  intro rr w1; first | (intro he1 b1; subst he1) | rintro ⟨rfl, b1⟩
  have hR1 := (b1.block _ (by simp)).trans hR0
  have lR1 := (Array.getElem?_eq_some_iff.1 hR1).1
  have bb := b0.trans (b1.mono b0.size)
  have V1 : EvS b w.heap.size w1.heap.size Y M tv toks pos line col ls ln es clk 0 0 0 (.slice none 0 0) (.slice none 0 0) (.slice none 0 0) ⟨0, 0, 0, 0, 0⟩ [] [] w (w1.alloc (.cells #[.int .i64 0, .int .i64 0, .int .i64 0, .int .i64 0, .int .i64 0, .slice none 0 0, .slice none 0 0, .int .i64 0, .int .i64 0, .int .i64 0, .slice none 0 0, .int .i64 0, .int .i64 0] 30)) :=
    ⟨(h0.step b1).step ((Below.refl _ w1).alloc (Nat.le_refl _) _), (Lib.alloc_old w1 _ _ lR1).trans hR1, heap_alloc_new w1 _, (T.step bb).step ((Below.refl _ w1).alloc (Nat.le_refl _) _), (Away.of_below bb).alloc _, hY, lY, Nat.le_refl _, lR1, .inl ⟨rfl, rfl⟩, .inl ⟨rfl, rfl⟩, fun k hk => (by cases hk), fun k hk => (by cases hk)⟩
  clear xo h0 h hR0 hR1 b0 b1 bb
  obtain ⟨bg, hbg⟩ : ∃ c : Bool, c = decide (x.graces ≠ []) := ⟨_, rfl⟩
  rw [← hbg] at hg2
  have xa := accept_gen V1.prs htg _ hg2 (q := if bg = true then pos + 1 else pos) rfl (by omega)
  have HB := shut hbg
  have HP := shut (And.intro hG (And.intro hp1 (And.intro hp2 (And.intro hp3 (And.intro hp4 (And.intro hA1 (And.intro hA2 hA3)))))))
  have HT := shut (And.intro hta (And.intro ha1 (And.intro ha2 (And.intro htb (And.intro hb3 (And.intro hb4 (And.intro hb5 hb6)))))))
  have o1 : pos ≤ p1 := by omega
  have o2 : p1 ≤ p2 := by omega
  have o3 : p2 ≤ p3 := by omega
  have o4 : p3 ≤ p4 := by omega
  clear hbg hg1 htg hg2 hG hp1 hp2 hp3 hp4 hA1 hA2 hA3 hta ha1 ha2 htb hb1 hb2 hb3 hb4 hb5 hb6 hA he
  go_upto_if 10 with (go_at_call 47; (with_reducible refine xa.mono ?_); rintro rr w2 ⟨rfl, hS2, a2⟩)
  have V2 := V1.away a2 hS2
  generalize w1.heap.size = E at V2 ⊢
  clear V1 xa hS2 a2 lR1 T
  go_cut [] from 4 (fun wc => ∃ gv, EvS b w.heap.size E Y M tv toks p1 line col ls ln es clk 0 0 0 (.slice none 0 0) gv (.slice none 0 0) ⟨0, 0, 0, 0, 0⟩ [] (x.graces.map GraceV.cells) w wc)
  case first =>
    obtain ⟨hG, hp1, -⟩ := HP.out
    have hbg := HB.out
    cases bg with
    | false =>
      have hg : x.graces = [] := by simpa using hbg.symm
      have hq : p1 = pos := by rw [hp1, gracesPs, if_pos hg]; rfl
      have V3 : EvS b w.heap.size E Y M tv toks p1 line col ls ln es clk 0 0 0 (.slice none 0 0) (.slice none 0 0) (.slice none 0 0) ⟨0, 0, 0, 0, 0⟩ [] (x.graces.map GraceV.cells) w w2 := by rw [hg, hq]; simpa using V2
      clear V2 hbg hG hp1
      go_wp2
      go_meet
      case rel => exact ⟨_, V3⟩
    | true =>
      have hg : x.graces ≠ [] := by simpa using hbg.symm
      simp only [if_true] at V2
      have hlen : (gracesPs x.graces).length = (sepPs gracePs [] x.graces).length + 3 := by unfold gracesPs; rw [if_neg hg]; simp
      have hG1 : At toks (pos + 1) (symP [32] 40 :: (sepPs gracePs [] x.graces ++ [symP [] 41])) := by
        unfold gracesPs at hG; rw [if_neg hg] at hG; exact hG.rest
      obtain ⟨t1, ht1, hi1⟩ := hG1.first
      have xe := expect_yes V2.prs ht1 ⟨#[40]⟩ ((isTok_of hi1 [40]).trans (by decide)) (by omega)
      obtain ⟨gx, gr, hge⟩ : ∃ g r, x.graces = g :: r := by
        cases hh : x.graces with
        | nil => exact absurd hh hg
        | cons g r => exact ⟨g, r, rfl⟩
      have hG2 := hG1.rest
      have hgok := hx.gok
      have hg8 := hx.g8
      clear hbg
      rw [hge] at hG2 hlen hgok hg8 hp1
      rw [List.length_cons] at hg8
      go_wp2_with (go_at_call 48; (with_reducible refine xe.mono ?_))
      intro rr w3; first | (intro he1 hS3 a3; subst he1) | rintro ⟨rfl, hS3, a3⟩
      have V3 := V2.away a3 hS3
      have xs := several_graces V3.prs gx gr [] hgok hG2 (by omega) (by omega) V3.tab V3.y7
      clear V2 xe hS3 a3
      go_wp2_with (go_at_call 49; (with_reducible refine xs.mono ?_))
      rintro rr w4 ⟨gv, rfl, hel, hown, hS4, a4⟩
      obtain ⟨ga, gc, hgv⟩ := hel.is
      generalize ((gx :: gr).map GraceV.cells).length = gn at hgv
      subst hgv
      have V4 := V3.away a4 hS4
      have lE := (Array.getElem?_eq_some_iff.1 V3.hE).1
      obtain ⟨c2, c3, c4, c5, c6, c10, fz⟩ := V4.cells
      have f6 := fz 6
      have V5 := V4.put 6 (.slice ga gn gc) (hv' := (.slice none 0 0)) (gv' := .slice ga gn gc) (hs' := []) (gs' := (gx :: gr).map GraceV.cells) rfl V4.eh hel V4.kh (fun k hk => Nat.lt_of_lt_of_le lE (hown k hk))
      have hq : pos + 1 + 1 + (sepPs gracePs [] (gx :: gr)).length + 1 = p1 := by rw [hp1]; omega
      rw [hq, ← hge] at V5
      clear V3 V4 xs hS4 a4 c2 c3 c4 c5 c10 fz hel hown
      go_wp2
      go_meet
      case rel => exact ⟨_, V5⟩
  case rest =>
    obtain ⟨gv, V3⟩ := hcut
    clear V2 HB
    obtain ⟨ga, gc, hgv⟩ := V3.eg.is
    generalize hgn : ((x.graces.map GraceV.cells)).length = gn at hgv
    clear hgn
    subst hgv
    go_upto_block 0 with (fail)
    go_cut [] from 4 (fun wc => ∃ hv q2, EvS b w.heap.size E Y M tv toks q2 line col ls ln es clk x.kind 0 0 hv (.slice ga gn gc) (.slice none 0 0) ⟨0, 0, 0, 0, 0⟩ (x.heads.map HeadV.cells) (x.graces.map GraceV.cells) w wc ∧ (x.kind = 3 → q2 = p2) ∧ (x.kind ≠ 3 → At toks q2 (symP [] 58 :: valPs [] x.lg x.dt) ∧ q2 + 1 + (valPs [] x.lg x.dt).length = p2))
    case first =>
      obtain ⟨-, -, -, htb, hb3, hb4, hb5, hb6⟩ := HT.out
      obtain ⟨-, -, hp2, -, -, hA1, -, -⟩ := HP.out
      have hB := hA1.left
      have lE := (Array.getElem?_eq_some_iff.1 V3.hE).1
      have hkn := hx.hn
      clear hA1
      rcases hx.kd with hk | hk | hk | hk
      · -- notes
        rw [hk] at hb3 hb4 hb5 hb6
        have hbp : bodyPs x = headsPs x.heads ++ (symP [] 58 :: valPs [] x.lg x.dt) := by unfold bodyPs; simp [hk]
        rw [hbp] at hB hp2
        have x3 := accept_no V3.prs htb _ (hb3.trans (by decide))
        go_wp2_with (go_at_call 47; (with_reducible refine x3.mono ?_))
        intro rr w4; first | (intro he1 b4; subst he1) | rintro ⟨rfl, b4⟩
        have V4 := V3.step b4
        have x4 := accept_no V4.prs htb _ (hb4.trans (by decide))
        clear x3 V3 b4
        go_wp2_with (go_at_call 47; (with_reducible refine x4.mono ?_))
        intro rr w5; first | (intro he1 b5; subst he1) | rintro ⟨rfl, b5⟩
        have V5 := V4.step b5
        have x5 := accept_no V5.prs htb _ (hb5.trans (by decide))
        clear x4 V4 b5
        go_wp2_with (go_at_call 47; (with_reducible refine x5.mono ?_))
        intro rr w6; first | (intro he1 b6; subst he1) | rintro ⟨rfl, b6⟩
        have V6 := V5.step b6
        clear x5 V5 b6
        by_cases h1 : x.heads.length = 1
        · obtain ⟨y, hy⟩ := List.length_eq_one_iff.1 h1
          have x6 := accept_no V6.prs htb _ (hb6.trans (by simp [h1]))
          have hhp : headsPs x.heads = headPs [32] y := by unfold headsPs; rw [if_pos h1, hy]; simp [sepPs]
          rw [hhp] at hB hp2
          have hq2 := hB.right
          obtain ⟨t1, ht1, hi1⟩ := hq2.first
          have hyo := hx.hok y (by rw [hy]; simp)
          rw [List.length_append, List.length_cons] at hp2
          have x7 := fun W (bW : Below w6.heap.size w6 W) => head_at (bl := [32]) (V6.step bW).prs hyo hB.left ht1 (noHead_sym hi1 (by decide)) (by omega) (V6.step bW).tab
          go_wp2_with (go_at_call 47; (with_reducible refine x6.mono ?_))
          intro rr w7; first | (intro he1 b7; subst he1) | rintro ⟨rfl, b7⟩
          have V7 := V6.step b7
          have x8 := x7 _ b7
          have hhs : x.heads.map HeadV.cells = [y.cells] := by rw [hy]; rfl
          clear x6 x7 V6 b7 hhp hy hi1 ht1 h1
          have hp2' : p1 + (headPs [32] y).length + 1 + (valPs [] x.lg x.dt).length = p2 := by omega
          have HH := shut (And.intro hhs (And.intro hq2 (And.intro hp2' hk)))
          clear hhs hq2 hp2 hp2' hk hB hbp hyo
          generalize p1 + (headPs [32] y).length = q2 at x8 HH ⊢
          obtain ⟨⟨y0, y1, y2⟩, y3, y4⟩ := y
          simp only [HeadV.cells] at x8
          go_wp2_with (go_at_call 52; (with_reducible refine x8.mono ?_))
          intro rr w8; first | (intro he1 hS8 a8; subst he1) | rintro ⟨rfl, hS8, a8⟩
          have V8 := V7.away a8 hS8
          obtain ⟨c2, c3, c4, c5, c6, c10, fz⟩ := V8.cells
          have f2 := fz 2
          have f5 := fz 5
          have lE8 := (Array.getElem?_eq_some_iff.1 V8.hE).1
          have nE8 : w8.heap.size ≠ E := by omega
          clear V7 x8 hS8 a8 fz
          go_wp2
          have aF : Away [Y, E] w8 (((w8.setCell ⟨E, 2, none⟩ (.int .i64 1)).setCell ⟨E, 5, none⟩ (.slice (some ⟨w8.heap.size, 0, none⟩) 1 1)).alloc (.cells #[.int .i64 y0, .int .i64 y1, .int .i64 y2, .bool y3, .int .i64 y4] 46)) :=
            (((Away.refl [Y, E] w8).setCell (p := ⟨E, 2, none⟩) (.inl (by simp)) _).setCell (p := ⟨E, 5, none⟩) (.inl (by simp)) _).alloc _
          have szF : ((w8.setCell ⟨E, 2, none⟩ (.int .i64 1)).setCell ⟨E, 5, none⟩ (.slice (some ⟨w8.heap.size, 0, none⟩) 1 1)).heap.size = w8.heap.size := by simp [World.setCell]
          have hNF := heap_alloc_new ((w8.setCell ⟨E, 2, none⟩ (.int .i64 1)).setCell ⟨E, 5, none⟩ (.slice (some ⟨w8.heap.size, 0, none⟩) 1 1)) (.cells #[.int .i64 y0, .int .i64 y1, .int .i64 y2, .bool y3, .int .i64 y4] 46)
          rw [szF] at hNF
          have hE2 := Lib.heap_setCell_same (i := 5) (Lib.heap_setCell_same (i := 2) V8.hE (.int .i64 1)) (.slice (some ⟨w8.heap.size, 0, none⟩) 1 1)
          have hEF := (Lib.alloc_old _ (.cells #[.int .i64 y0, .int .i64 y1, .int .i64 y2, .bool y3, .int .i64 y4] 46) _ (Array.getElem?_eq_some_iff.1 hE2).1).trans hE2
          have hPF := (((V8.prs.elsewhere V8.hE (by decide) (by decide) 2 (.int .i64 1)).elsewhere (Lib.heap_setCell_same (i := 2) V8.hE (.int .i64 1)) (by decide) (by decide) 5 (.slice (some ⟨w8.heap.size, 0, none⟩) 1 1))).step ((Below.refl _ _).alloc (Nat.le_refl _) (.cells #[.int .i64 y0, .int .i64 y1, .int .i64 y2, .bool y3, .int .i64 y4] 46))
          obtain ⟨hhs, hq2, hp2, hk⟩ := HH.out
          have VF := V8.other2 aF hPF (kd' := x.kind) (lg' := 0) (dt' := 0) (hv' := .slice (some ⟨w8.heap.size, 0, none⟩) 1 1) (gv' := .slice ga gn gc) (lv' := (.slice none 0 0)) (A' := ⟨0, 0, 0, 0, 0⟩) (by rw [hk]; exact hEF) (els_one (w := w8) hNF rfl (by simp [Value.oneCell'])) (V8.kept aF V8.eg V8.kg) (fun k hk => by
            obtain rfl : w8.heap.size = k := by simpa [Value.ownBlock] using hk
            exact lE8) V8.kg
          have hhs' : [#[Value.int .i64 y0, .int .i64 y1, .int .i64 y2, .bool y3, .int .i64 y4]] = x.heads.map HeadV.cells := hhs.symm
          rw [hhs'] at VF
          go_meet
          case rel => exact ⟨_, q2, VF, fun e => absurd e (by omega), fun _ => ⟨hq2, by omega⟩⟩
        · have x6 := accept_yes V6.prs htb _ (hb6.trans (by simp [h1])) (by omega)
          have hhp : headsPs x.heads = symP [32] 60 :: (sepPs headPs [] x.heads ++ [symP [] 62]) := by unfold headsPs; rw [if_neg h1]
          have hpp := hx.hp hk
          have h10 := hx.h10
          have hho := hx.hok
          obtain ⟨gx, gr, hge⟩ : ∃ g r, x.heads = g :: r := by
            cases hh : x.heads with
            | nil => rw [hh] at hpp; cases hpp
            | cons g r => exact ⟨g, r, rfl⟩
          rw [hhp, hge] at hB hp2
          rw [hge] at h10 hho
          have hB2 : At toks (p1 + 1) (sepPs headPs [] (gx :: gr) ++ [symP [] 62]) := hB.left.rest
          have hq2 := hB.right
          simp only [List.length_append, List.length_cons, List.length_nil] at hp2 hq2 h10
          go_wp2_with (go_at_call 47; (with_reducible refine x6.mono ?_))
          intro rr w7; first | (intro he1 hS7 a7; subst he1) | rintro ⟨rfl, hS7, a7⟩
          have V7 := V6.away a7 hS7
          have xs := several_heads V7.prs gx gr [] hho hB2 (by omega) (by omega) V7.tab V7.y7
          have HH := shut (And.intro hge (And.intro hq2 (And.intro hp2 hk)))
          clear x6 V6 hS7 a7 hge hq2 hp2 hk hB hbp hhp hB2 h10 hho hpp h1
          go_wp2_with (go_at_call 51; (with_reducible refine xs.mono ?_))
          rintro rr w8 ⟨hv, rfl, hel, hown, hS8, a8⟩
          obtain ⟨ha, hc, hhv⟩ := hel.is
          generalize ((gx :: gr).map HeadV.cells).length = hn at hhv
          subst hhv
          have V8 := V7.away a8 hS8
          have lE := (Array.getElem?_eq_some_iff.1 V7.hE).1
          obtain ⟨c2, c3, c4, c5, c6, c10, fz⟩ := V8.cells
          have f2 := fz 2
          have f5 := fz 5
          have V9 := (V8.put 2 (.int .i64 1) (kd' := 1) (lg' := 0) (dt' := 0) (hv' := (.slice none 0 0)) (gv' := .slice ga gn gc) (lv' := (.slice none 0 0)) (A' := ⟨0, 0, 0, 0, 0⟩) rfl V8.eh V8.eg V8.kh V8.kg)
          have hk1 := HH.out.2.2.2
          have hel9 := V8.kept ((Away.refl [Y, E] w8).setCell (p := ⟨E, 2, none⟩) (.inl (by simp)) (.int .i64 1)) hel (fun k hk => Nat.lt_of_lt_of_le lE (hown k hk))
          have V10 := V9.put 5 (.slice ha hn hc) (kd' := x.kind) (lg' := 0) (dt' := 0) (hv' := .slice ha hn hc) (gv' := .slice ga gn gc) (lv' := (.slice none 0 0)) (A' := ⟨0, 0, 0, 0, 0⟩) (by rw [hk1]; rfl) hel9 V9.eg (fun k hk => Nat.lt_of_lt_of_le lE (hown k hk)) V9.kg
          obtain ⟨hge, hq2, hp2, hk⟩ := HH.out
          rw [← hge] at V10
          have HH2 := shut (And.intro hge (And.intro hq2 (And.intro hp2 hk)))
          clear V7 V8 V9 xs hS8 a8 c3 c4 c6 c10 fz hel hown hel9 hge hq2 hp2 hk hk1
          go_wp2
          go_meet
          case rel =>
            obtain ⟨hge, hq2, hp2, hk⟩ := HH2.out
            refine ⟨_, _, V10, fun e => absurd e (by omega), fun _ => ⟨?_, ?_⟩⟩
            · rw [hge]; rw [show p1 + 1 + (sepPs headPs [] (gx :: gr)).length + 1 = p1 + ((sepPs headPs [] (gx :: gr)).length + (0 + 1) + 1) by omega]; exact hq2
            · rw [hge]; omega
      · -- a rest
        have hz : x.heads.map HeadV.cells = [] := by rw [List.eq_nil_of_length_eq_zero (hkn (by omega))]; rfl
        rw [hk] at hb3 hb4 hb5 hb6
        have hbp : bodyPs x = wordP [32] [114] :: (symP [] 58 :: valPs [] x.lg x.dt) := by unfold bodyPs; simp [hk]
        rw [hbp] at hB hp2
        have hq2 : At toks (p1 + 1) (symP [] 58 :: valPs [] x.lg x.dt) := hB.rest
        have x3 := accept_no V3.prs htb _ (hb3.trans (by decide))
        go_wp2_with (go_at_call 47; (with_reducible refine x3.mono ?_))
        intro rr w4; first | (intro he1 b4; subst he1) | rintro ⟨rfl, b4⟩
        have V4 := V3.step b4
        have x4 := accept_yes V4.prs htb _ (hb4.trans (by decide)) (by omega)
        clear x3 V3 b4
        go_wp2_with (go_at_call 47; (with_reducible refine x4.mono ?_))
        intro rr w5; first | (intro he1 hS5 a5; subst he1) | rintro ⟨rfl, hS5, a5⟩
        have V5 := V4.away a5 hS5
        obtain ⟨c2, c3, c4, c5, c6, c10, fz⟩ := V5.cells
        have f2 := fz 2
        have V6 := V5.put 2 (.int .i64 2) (kd' := x.kind) (by rw [hk]; rfl) V5.eh V5.eg V5.kh V5.kg
        rw [← hz] at V6
        clear V4 V5 x4 hS5 a5 fz c3 c4 c5 c6 c10
        go_wp2
        go_meet
        case rel => exact ⟨_, p1 + 1, V6, fun e => absurd e (by omega), fun _ => ⟨hq2, by rw [hp2]; simp only [List.length_cons]; omega⟩⟩
      · -- a measure's rest
        have hz : x.heads.map HeadV.cells = [] := by rw [List.eq_nil_of_length_eq_zero (hkn (by omega))]; rfl
        rw [hk] at hb3 hb4 hb5 hb6
        have hbp : bodyPs x = [wordP [32] [82]] := by unfold bodyPs; simp [hk]
        rw [hbp] at hp2
        have x3 := accept_yes V3.prs htb _ (hb3.trans (by decide)) (by omega)
        go_wp2_with (go_at_call 47; (with_reducible refine x3.mono ?_))
        intro rr w5; first | (intro he1 hS5 a5; subst he1) | rintro ⟨rfl, hS5, a5⟩
        have V5 := V3.away a5 hS5
        obtain ⟨c2, c3, c4, c5, c6, c10, fz⟩ := V5.cells
        have f2 := fz 2
        have V6 := V5.put 2 (.int .i64 3) (kd' := x.kind) (by rw [hk]; rfl) V5.eh V5.eg V5.kh V5.kg
        rw [← hz] at V6
        clear V3 V5 x3 hS5 a5 fz c3 c4 c5 c6 c10
        go_wp2
        go_meet
        case rel => exact ⟨_, p1 + 1, V6, fun _ => by rw [hp2]; rfl, fun e => absurd hk e⟩
      · -- a skip
        have hz : x.heads.map HeadV.cells = [] := by rw [List.eq_nil_of_length_eq_zero (hkn (by omega))]; rfl
        rw [hk] at hb3 hb4 hb5 hb6
        have hbp : bodyPs x = wordP [32] [115] :: (symP [] 58 :: valPs [] x.lg x.dt) := by unfold bodyPs; simp [hk]
        rw [hbp] at hB hp2
        have hq2 : At toks (p1 + 1) (symP [] 58 :: valPs [] x.lg x.dt) := hB.rest
        have x3 := accept_no V3.prs htb _ (hb3.trans (by decide))
        go_wp2_with (go_at_call 47; (with_reducible refine x3.mono ?_))
        intro rr w4; first | (intro he1 b4; subst he1) | rintro ⟨rfl, b4⟩
        have V4 := V3.step b4
        have x4 := accept_no V4.prs htb _ (hb4.trans (by decide))
        clear x3 V3 b4
        go_wp2_with (go_at_call 47; (with_reducible refine x4.mono ?_))
        intro rr w4b; first | (intro he1 b4; subst he1) | rintro ⟨rfl, b4⟩
        have V4b := V4.step b4
        have x5 := accept_yes V4b.prs htb _ (hb5.trans (by decide)) (by omega)
        clear x4 V4 b4
        go_wp2_with (go_at_call 47; (with_reducible refine x5.mono ?_))
        intro rr w5; first | (intro he1 hS5 a5; subst he1) | rintro ⟨rfl, hS5, a5⟩
        have V5 := V4b.away a5 hS5
        obtain ⟨c2, c3, c4, c5, c6, c10, fz⟩ := V5.cells
        have f2 := fz 2
        have V6 := V5.put 2 (.int .i64 4) (kd' := x.kind) (by rw [hk]; rfl) V5.eh V5.eg V5.kh V5.kg
        rw [← hz] at V6
        clear V4b V5 x5 hS5 a5 fz c3 c4 c5 c6 c10
        go_wp2
        go_meet
        case rel => exact ⟨_, p1 + 1, V6, fun e => absurd e (by omega), fun _ => ⟨hq2, by rw [hp2]; simp only [List.length_cons]; omega⟩⟩
    case rest =>
      obtain ⟨hv, q2, V4, hq3, hqv⟩ := hcut
      clear V3
      obtain ⟨ha, hc, hhv⟩ := V4.eh.is
      generalize hhn : ((x.heads.map HeadV.cells)).length = hn at hhv
      clear hhn
      subst hhv
      have c2 := V4.cells.1
      go_upto_if 56 with (fail)
      clear c2
      go_cut [] from 4 (fun wc => EvS b w.heap.size E Y M tv toks p2 line col ls ln es clk x.kind x.lg x.dt (.slice ha hn hc) (.slice ga gn gc) (.slice none 0 0) ⟨0, 0, 0, 0, 0⟩ (x.heads.map HeadV.cells) (x.graces.map GraceV.cells) w wc)
      case first =>
        by_cases hk3 : x.kind = 3
        · have hz := hx.val3 hk3
          have hq := hq3 hk3
          have hb : (x.kind != 3) = false := by simp [hk3]
          have V5 : EvS b w.heap.size E Y M tv toks p2 line col ls ln es clk x.kind x.lg x.dt (.slice ha hn hc) (.slice ga gn gc) (.slice none 0 0) ⟨0, 0, 0, 0, 0⟩ (x.heads.map HeadV.cells) (x.graces.map GraceV.cells) w wc := by rw [hz.1, hz.2, ← hq]; exact V4
          rw [hb]
          clear hb hz hq V4 hqv hq3
          go_wp2
          go_meet
          case rel => exact V5
        · obtain ⟨hA5, hq5⟩ := hqv hk3
          have hb : (x.kind != 3) = true := by simp [hk3]
          obtain ⟨t1, ht1, hi1⟩ := hA5.first
          obtain ⟨hta, ha1, -⟩ := HT.out
          have x5 := expect_yes V4.prs ht1 ⟨#[58]⟩ ((isTok_of hi1 [58]).trans (by decide)) (by omega)
          rw [hb]
          clear hb hqv hq3
          go_wp2_with (go_at_call 48; (with_reducible refine x5.mono ?_))
          intro rr w5; first | (intro he1 hS5 a5; subst he1) | rintro ⟨rfl, hS5, a5⟩
          have V5 := V4.away a5 hS5
          have x6 := value_at V5.prs (by omega) hx.value hA5.rest (by rw [hq5]; exact hta) ha1 V5.tab
          rw [hq5] at x6
          clear x5 V4 hS5 a5 hA5 hq5 hi1 ht1 ha1 hta
          go_wp2_with (go_at_call 53; (with_reducible refine x6.mono ?_))
          intro rr w6; first | (intro he1 hS6 a6; subst he1) | rintro ⟨rfl, hS6, a6⟩
          have V6 := V5.away a6 hS6
          obtain ⟨c2, c3, c4, c5, c6, c10, fz⟩ := V6.cells
          have f3 := fz 3
          have f4 := fz 4
          have V7 := (V6.put 3 (.int .i64 x.lg) (kd' := x.kind) (lg' := x.lg) (dt' := 0) (hv' := .slice ha hn hc) (gv' := .slice ga gn gc) (lv' := (.slice none 0 0)) (A' := ⟨0, 0, 0, 0, 0⟩) rfl V6.eh V6.eg V6.kh V6.kg)
          have V8 := V7.put 4 (.int .i64 x.dt) (kd' := x.kind) (lg' := x.lg) (dt' := x.dt) (hv' := .slice ha hn hc) (gv' := .slice ga gn gc) (lv' := (.slice none 0 0)) (A' := ⟨0, 0, 0, 0, 0⟩) rfl V7.eh V7.eg V7.kh V7.kg
          clear V5 V6 V7 x6 hS6 a6 c2 c5 c6 c10 fz
          go_wp2
          go_meet
          case rel => exact V8
      case rest =>
        have V5 := hcut
        clear V4 hcut hq3 hqv
        obtain ⟨hta, -, ha2, -⟩ := HT.out
        obtain ⟨bw, hbw⟩ : ∃ c : Bool, c = decide (wordsB x.ar x.orn x.dy x.stem x.beam ≠ []) := ⟨_, rfl⟩
        rw [← hbw] at ha2
        have x7 := accept_gen V5.prs hta _ ha2 (q := if bw = true then p2 + 1 else p2) rfl (by omega)
        have HW := shut hbw
        clear hbw ha2 hta
        go_upto_if 67 with (go_at_call 47; (with_reducible refine x7.mono ?_); rintro rr w6 ⟨rfl, hS6, a6⟩)
        have V6 := V5.away a6 hS6
        clear V5 x7 hS6 a6
        go_cut [] from 4 (fun wc => EvS b w.heap.size E Y M tv toks p3 line col ls ln es clk x.kind x.lg x.dt (.slice ha hn hc) (.slice ga gn gc) (.slice none 0 0) ⟨x.ar, x.orn, x.dy, x.stem, x.beam⟩ (x.heads.map HeadV.cells) (x.graces.map GraceV.cells) w wc)
        case first =>
          have hbw := HW.out
          obtain ⟨hfo, hoL, hoA, h22⟩ := ev_fold hx
          have hwi := words_idx hx
          cases bw with
          | false =>
            have hw : wordsB x.ar x.orn x.dy x.stem x.beam = [] := by simpa using hbw.symm
            have hi : idxs x.ar x.orn x.dy x.stem x.beam = [] := by rw [hwi] at hw; simpa using hw
            rw [hi] at hfo
            have hp3 : p3 = p2 := by rw [HP.out.2.2.2.1, hw]; rfl
            have V7 : EvS b w.heap.size E Y M tv toks p3 line col ls ln es clk x.kind x.lg x.dt (.slice ha hn hc) (.slice ga gn gc) (.slice none 0 0) ⟨x.ar, x.orn, x.dy, x.stem, x.beam⟩ (x.heads.map HeadV.cells) (x.graces.map GraceV.cells) w w6 := by rw [← hfo, hp3]; simpa using V6
            clear V6 hbw hw hi hfo hoL hoA h22 hwi hp3
            go_wp2
            go_meet
            case rel => exact V7
          | true =>
            have hw : wordsB x.ar x.orn x.dy x.stem x.beam ≠ [] := by simpa using hbw.symm
            simp only [if_true] at V6
            obtain ⟨i, r, hir⟩ : ∃ i r, idxs x.ar x.orn x.dy x.stem x.beam = i :: r := by
              cases hh : idxs x.ar x.orn x.dy x.stem x.beam with
              | nil => rw [hh] at hwi; exact absurd hwi hw
              | cons i r => exact ⟨i, r, rfl⟩
            have hA7 := HP.out.2.2.2.2.2.2.1.left
            have hl7 := HP.out.2.2.2.1
            have hr5 := congrArg List.length hwi
            have hw9 := wordsB_len x.ar x.orn x.dy x.stem x.beam
            unfold attrPs at hA7 hl7
            rw [if_neg hw] at hA7 hl7
            rw [hwi, hir, sep_attr] at hA7 hl7
            rw [hir] at hfo hoL hoA h22 hr5
            have hA8 := hA7.rest
            simp only [List.length_cons, List.length_append, List.length_nil, sepW_len, List.length_map] at hl7 hr5
            have x8 := attributes_at V6.prs V6.hE i r hA8 h22 hoL hoA (by omega) (by rw [List.length_cons]; omega)
            rw [hfo, show p2 + 1 + (i :: r).length + 1 = p3 by rw [List.length_cons]; omega] at x8
            clear hbw hfo hoL hoA h22 hwi hw hir hA7 hA8 hl7 hr5 hw9
            go_wp2_with (go_at_call 54; (with_reducible refine x8.mono ?_))
            rintro rr w7 ⟨rfl, hS7, hE7, a7⟩
            have V7 := V6.other a7 hS7 hE7 V6.eh V6.eg V6.kh V6.kg
            clear V6 x8 hS7 hE7 a7
            go_wp2
            go_meet
            case rel => exact V7
        case rest =>
          have V7 := hcut
          clear V6 hcut
          have x9 := lyrics_at V7.prs x.lyr (fun y hy => (hx.lok y hy).2) HP.out.2.2.2.2.2.2.2 (by have := hx.l4; omega) (by have := HP.out.2.2.2.2.1; omega)
          rw [← HP.out.2.2.2.2.1] at x9
          go_wp2_with (go_at_call 55; (with_reducible refine x9.mono ?_))
          rintro rr w8 ⟨lv, rfl, hel, hown, hS8, a8⟩
          obtain ⟨la, lc, hlv⟩ := hel.is
          generalize (x.lyr.map SyllV.cells).length = ln9 at hlv
          subst hlv
          have V8 := V7.away a8 hS8
          have lE := (Array.getElem?_eq_some_iff.1 V7.hE).1
          obtain ⟨c2, c3, c4, c5, c6, c10, fz⟩ := V8.cells
          have f10 := fz 10
          have V9 := V8.put 10 (.slice la ln9 lc) (kd' := x.kind) (lg' := x.lg) (dt' := x.dt) (hv' := .slice ha hn hc) (gv' := .slice ga gn gc) (lv' := .slice la ln9 lc) (A' := ⟨x.ar, x.orn, x.dy, x.stem, x.beam⟩) rfl V8.eh V8.eg V8.kh V8.kg
          have hkl : ∀ k, (Value.slice la ln9 lc).ownBlock = some k → E < k := fun k hk => Nat.lt_of_lt_of_le lE (hown k hk)
          have hel9 : Els (w8.setCell ⟨E, 10, none⟩ (.slice la ln9 lc)) 2 (.slice la ln9 lc) (x.lyr.map SyllV.cells) := hel.frame fun k hk => Below.heap_setCell w8 ⟨E, 10, none⟩ (.slice la ln9 lc) k (by have := hkl k hk; show k ≠ E; omega)
          clear V7 V8 x9 hS8 a8 c2 c3 c4 c5 c6 fz hel hown
          generalize hW9 : w8.setCell ⟨E, 10, none⟩ (.slice la ln9 lc) = W9 at V9 hel9
          obtain ⟨g0, g1, g2, g3, g4, g5, g6, g7, g8, g9, g10, g11, g12⟩ := box13 V9.hE
          obtain ⟨z0, z1, z2, z3, z4, z5, z6, z7, z8, z9, z10, z11, z12⟩ := box13 V9.hR
          have y0 := Lib.frozen_of_heap V9.hR 0
          have y1 := Lib.frozen_of_heap V9.hR 1
          have y2 := Lib.frozen_of_heap V9.hR 2
          have y3 := Lib.frozen_of_heap V9.hR 3
          have y4 := Lib.frozen_of_heap V9.hR 4
          have y5 := Lib.frozen_of_heap V9.hR 5
          have y6 := Lib.frozen_of_heap V9.hR 6
          have y7 := Lib.frozen_of_heap V9.hR 7
          have y8 := Lib.frozen_of_heap V9.hR 8
          have y9 := Lib.frozen_of_heap V9.hR 9
          have y10 := Lib.frozen_of_heap V9.hR 10
          have y11 := Lib.frozen_of_heap V9.hR 11
          have y12 := Lib.frozen_of_heap V9.hR 12
          have nRE : E ≠ w.heap.size := by have := V9.ne; omega
          have fR := fill13_self V9.hR (.int .i64 0) (.int .i64 0) (.int .i64 x.kind) (.int .i64 x.lg) (.int .i64 x.dt) (.slice ha hn hc) (.slice ga gn gc) (.int .i64 x.ar) (.int .i64 x.orn) (.int .i64 x.dy) (.slice la ln9 lc) (.int .i64 x.stem) (.int .i64 x.beam)
          have fA := fill13_away V9.aw V9.bR (.int .i64 0) (.int .i64 0) (.int .i64 x.kind) (.int .i64 x.lg) (.int .i64 x.dt) (.slice ha hn hc) (.slice ga gn gc) (.int .i64 x.ar) (.int .i64 x.orn) (.int .i64 x.dy) (.slice la ln9 lc) (.int .i64 x.stem) (.int .i64 x.beam)
          have fP := V9.prs.fill13 V9.hR (.int .i64 0) (.int .i64 0) (.int .i64 x.kind) (.int .i64 x.lg) (.int .i64 x.dt) (.slice ha hn hc) (.slice ga gn gc) (.int .i64 x.ar) (.int .i64 x.orn) (.int .i64 x.dy) (.slice la ln9 lc) (.int .i64 x.stem) (.int .i64 x.beam)
          have fO := fill13_other W9 w.heap.size (.int .i64 0) (.int .i64 0) (.int .i64 x.kind) (.int .i64 x.lg) (.int .i64 x.dt) (.slice ha hn hc) (.slice ga gn gc) (.int .i64 x.ar) (.int .i64 x.orn) (.int .i64 x.dy) (.slice la ln9 lc) (.int .i64 x.stem) (.int .i64 x.beam)
          have eh9 := V9.eh.frame fun k hk => fO k (by have := V9.kh k hk; have := V9.ne; omega)
          have eg9 := V9.eg.frame fun k hk => fO k (by have := V9.kg k hk; have := V9.ne; omega)
          have el9 := hel9.frame fun k hk => fO k (by have := hkl k hk; have := V9.ne; omega)
          have hk9 : ∀ k, (Value.slice ha hn hc).ownBlock = some k ∨ (Value.slice ga gn gc).ownBlock = some k ∨ (Value.slice la ln9 lc).ownBlock = some k → w.heap.size < k := fun k hk => by
            have := V9.ne
            rcases hk with hk | hk | hk
            · have := V9.kh k hk; omega
            · have := V9.kg k hk; omega
            · have := hkl k hk; omega
          clear V9 hel9 hkl fO lE
          simp only [fill13] at fR fA fP eh9 eg9 el9
          go_wp2
          generalize (((((((((((((W9.setCell ⟨w.heap.size, 0, none⟩ (.int .i64 0)).setCell ⟨w.heap.size, 1, none⟩ (.int .i64 0)).setCell ⟨w.heap.size, 2, none⟩ (.int .i64 x.kind)).setCell ⟨w.heap.size, 3, none⟩ (.int .i64 x.lg)).setCell ⟨w.heap.size, 4, none⟩ (.int .i64 x.dt)).setCell ⟨w.heap.size, 5, none⟩ (.slice ha hn hc)).setCell ⟨w.heap.size, 6, none⟩ (.slice ga gn gc)).setCell ⟨w.heap.size, 7, none⟩ (.int .i64 x.ar)).setCell ⟨w.heap.size, 8, none⟩ (.int .i64 x.orn)).setCell ⟨w.heap.size, 9, none⟩ (.int .i64 x.dy)).setCell ⟨w.heap.size, 10, none⟩ (.slice la ln9 lc)).setCell ⟨w.heap.size, 11, none⟩ (.int .i64 x.stem)).setCell ⟨w.heap.size, 12, none⟩ (.int .i64 x.beam)) = WF at fR fA fP eh9 eg9 el9 ⊢
          refine bodyPost_ret (results_cell_row rfl _ _ w.heap.size 30 _ (0, 0) _ rfl fR Tryz.underlying30 rfl Tryz.sizeEvent) rfl ?_
          exact ⟨_, _, _, rfl, eh9, eg9, el9, fP, fA, hk9⟩
end
end Go.Proofs.YtholnnabakaliaaGreatDoor
