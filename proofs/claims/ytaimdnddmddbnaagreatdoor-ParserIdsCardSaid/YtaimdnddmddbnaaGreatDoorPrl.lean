/-
  A part of the proof that the law ParserIds (chapter 19) returns true for every site, number and count: walks of the program's functions, and runs of them in the kernel by the own evaluator.
-/
import Derived.Test.YtaimdnddmddbnaaGreatDoorPrj
namespace Go.Proofs.YtaimdnddmddbnaaGreatDoor
open Go.RowKit

section
variable {Y M : Nat} {tv : Value} {toks : List Tok} {pos : Nat} {line col : Int} {ls ln : Int} {clk : Nat} {w : World}

/-- How part ends. -/
def PartEnd (Y M : Nat) (tv : Value) (toks : List Tok) (pos : Nat) (line col S N : Int) (n clk : Nat) (name : ByteArray) (w : World) (r : Ending) (w' : World) : Prop :=
  Away [Y, M] w w' ∧
  ((N + n ≤ 1073741824 ∧ ∃ sv, r = .returned (.agg #[.int .i64 S, .int .i64 N, .string name, .int .i64 0, .int .i64 0, sv]) ∧ w'.ownsRow w.heap.size 42 3 sv n (staffCells S N n) ∧
      Prs Y M tv toks (pos + 5 + 2 * n) line col 0 false S (N + n) (entry S (N + n) clk) (clk + 1) w') ∨
   (1073741824 < N + n ∧ IsPart r ∧ ∃ (i : Nat) (tb : Tok) (pos' : Nat), i < n ∧ toks[pos + 5 + 2 * i + 1]? = some tb ∧ Prs Y M tv toks pos' 1 tb.col 9 false S (N + i) (entry S (N + i) clk) (clk + 1) w'))

set_option maxHeartbeats 16000000 in
set_option maxRecDepth 100000 in
theorem part_walk (h : Prs Y M tv toks pos line col 0 false ls ln #[] clk w) {t0 t1 t2 t3 t4 t5 : Tok} (ht0 : toks[pos]? = some t0) (ht1 : toks[pos + 1]? = some t1) (ht2 : toks[pos + 2]? = some t2) (ht3 : toks[pos + 3]? = some t3) (ht4 : toks[pos + 4]? = some t4)
    (k0 : IsTok t0 atS = true) (k1 : t1.kind = 2) (k2 : IsTok t2 dotS = true) (k3 : t3.kind = 2) (k4 : t4.kind = 3) (hs0 : 0 ≤ t1.value) (hs1 : t1.value ≤ 99) (hn0 : 1 ≤ t3.value) (hn1 : t3.value ≤ 1073741824)
    (n : Nat) (hpos : pos + 2 * n ≤ 100000) (ht5 : toks[pos + 5]? = some t5) (k5 : IsTok t5 transS = false)
    (hst : ∀ i, i < n → ∃ ts tb, toks[pos + 5 + 2 * i]? = some ts ∧ IsTok ts staffS = true ∧ toks[pos + 5 + 2 * i + 1]? = some tb ∧ IsTok tb atS = false ∧ tb.kind = 1 ∧ tb.text = bassS)
    (hend : ∃ te, toks[pos + 5 + 2 * n]? = some te ∧ IsTok te staffS = false) :
    Calls Tryz.prog 18 #[.pointer (some ⟨Y, 0, none⟩)] w (PartEnd Y M tv toks pos line col t1.value t3.value n clk t4.bytes w) := by
  have hobj : ∀ w', Below w.heap.size w w' → Calls Tryz.prog 22 #[.pointer (some ⟨Y, 0, none⟩)] w' fun r w'' => r = .returned (.agg #[.int .i64 t1.value, .int .i64 t3.value]) ∧ Prs Y M tv toks (pos + 4) line col 0 false t1.value t3.value (entry t1.value t3.value clk) (clk + 1) w'' ∧ Away [Y, M] w' w'' :=
    fun w' b => object_at (h.step b) ht0 ht1 ht2 ht3 k0 k1 k2 k3 (by omega) hs0 hs1 hn0 hn1 (upd_none t1.value clk) (by omega)
  have hstr : ∀ w', Prs Y M tv toks (pos + 4) line col 0 false t1.value t3.value (entry t1.value t3.value clk) (clk + 1) w' → Calls Tryz.prog 14 #[.pointer (some ⟨Y, 0, none⟩)] w' fun r w'' => r = .returned (.string t4.bytes) ∧ Prs Y M tv toks (pos + 4 + 1) line col 0 false t1.value t3.value (entry t1.value t3.value clk) (clk + 1) w'' ∧ Away [Y] w' w'' :=
    fun w' h' => str_ok h' ht4 k4 (by omega)
  obtain ⟨S, hSe⟩ : ∃ S, t1.value = S := ⟨_, rfl⟩
  obtain ⟨N, hNe⟩ : ∃ N, t3.value = N := ⟨_, rfl⟩
  obtain ⟨name, hne⟩ : ∃ name, t4.bytes = name := ⟨_, rfl⟩
  rw [hSe, hNe] at hobj
  rw [hSe, hNe, hne] at hstr
  rw [hSe, hNe, hne]
  rw [hSe] at hs0 hs1
  rw [hNe] at hn0 hn1
  clear hSe hNe hne ht0 ht1 ht2 ht3 ht4 k0 k1 k2 k3 k4
  have lY := h.lt
  have lM := h.ltM
  go_enter Tryz.func18, Tryz.ntmps18
  go_wp2
  have hR0 := heap_alloc_new w (.cells #[.int .i64 0, .int .i64 0, .string ByteArray.empty, .int .i64 0, .int .i64 0, .slice none 0 0] 40)
  have b0 := (Below.refl w.heap.size w).alloc (Nat.le_refl _) (.cells #[.int .i64 0, .int .i64 0, .string ByteArray.empty, .int .i64 0, .int .i64 0, .slice none 0 0] 40)
  have hX1 : (((w.alloc zPart).drew).alloc zPart).heap[w.heap.size + 1]? = some zPart := by
    have := heap_alloc_new ((w.alloc zPart).drew) zPart
    simpa using this
  have hR0Y : w.heap.size ∉ [Y, M] := by simp; omega
  have hR0Y1 : w.heap.size ∉ [Y] := by simp; omega
  have hX1Y1 : w.heap.size + 1 ∉ [Y] := by simp; omega
  have hX1Y : w.heap.size + 1 ∉ [Y, M] := by simp; omega
  have hmem : ∀ w' : World, Away [Y, M] (((w.alloc zPart).drew).alloc zPart) w' → w'.heap[w.heap.size + 1]? = some zPart := fun w' ha => ha.heap hX1 hX1Y
  have hmem2 : ∀ w1 w' : World, Y < w1.heap.size → Away [Y] (w1.alloc zPart) w' → w'.heap[w1.heap.size]? = some zPart := fun w1 w' hy hb => hb.heap (heap_alloc_new w1 _) (by simp; omega)
  go_cut [3] from 4 (fun s3 wc => ∃ X, s3 = .pointer (some ⟨X, 0, none⟩) ∧ w.heap.size < X ∧ wc.heap[X]? = some (.cells #[.int .i64 S, .int .i64 N, .string name, .int .i64 0, .int .i64 0, .slice none 0 0] 40 (0, 0)) ∧
      wc.heap[w.heap.size]? = some (.cells #[.int .i64 0, .int .i64 0, .string ByteArray.empty, .int .i64 0, .int .i64 0, .slice none 0 0] 40 (0, 0)) ∧ Prs Y M tv toks (pos + 5) line col 0 false S N (entry S N clk) (clk + 1) wc ∧ Away [Y, M] w wc)
  case first =>
    go_region_held3 (fun _ => True) (trivial) (first
      | (go_at_call 22; refine (hobj _ (by first | exact b0.drew | exact b0.drew.alloc (by simp) _)).mono ?_; rintro r w1 ⟨rfl, hS, ha⟩; try have hx1 := hmem w1 ha)
      | (go_at_call 14; refine (hstr _ (by first | exact hS | exact hS.step ((Below.refl _ _).alloc (Nat.le_refl _) _))).mono ?_; rintro r w2 ⟨rfl, hS2, b2⟩; (first | (have hx := b2.heap hx1 hX1Y1; obtain ⟨⟨q0, q1, q2, q3, q4, q5⟩, r0, r1, r2, r3, r4, r5⟩ := zPart_cells hx) | (have hx := hmem2 _ _ hS.lt b2; obtain ⟨⟨q0, q1, q2, q3, q4, q5⟩, r0, r1, r2, r3, r4, r5⟩ := zPart_cells hx) | skip)))
    · go_wp2
      go_meet
      case rel =>
        have aw := ((Away.of_below (bs := [Y, M]) b0.drew).trans ha).trans (b2.more (by simp))
        have hRw := b2.heap (ha.heap hR0 hR0Y) hR0Y1
        have hl := (Array.getElem?_eq_some_iff.1 hRw).1
        exact ⟨w2.heap.size, rfl, hl, heap_alloc_new w2 _, (Lib.alloc_old w2 _ _ hl).trans hRw, hS2.step ((Below.refl _ _).alloc (Nat.le_refl _) _), aw.alloc _⟩
    · go_wp2
      go_meet
      case rel =>
        have aw := (((Away.of_below (bs := [Y, M]) b0.drew).trans ha).alloc zPart).trans (b2.more (by simp))
        have hR1 := ha.heap hR0 hR0Y
        have hl := (Array.getElem?_eq_some_iff.1 hR1).1
        have hRw := b2.heap ((Lib.alloc_old w1 zPart _ hl).trans hR1) hR0Y1
        exact ⟨w1.heap.size, rfl, hl, fill6_self _ _ _ _ _ _ hx, (fill6_other w2 w1.heap.size _ _ _ _ _ _ _ (by omega)).trans hRw, hS2.fill6 _ _ _ _ _ _ hx (by decide) (by decide), fill6_away aw (by omega) _ _ _ _ _ _⟩
    · go_wp2
      go_meet
      case rel =>
        have aw := ((Away.of_below (bs := [Y, M]) (b0.drew.alloc (by simp) zPart)).trans ha).trans (b2.more (by simp))
        have hR1 := ha.heap ((Lib.alloc_old (w.alloc zPart).drew zPart w.heap.size (by simp)).trans hR0) hR0Y
        have hRw := b2.heap hR1 hR0Y1
        exact ⟨w.heap.size + 1, rfl, by omega, fill6_self _ _ _ _ _ _ hx, (fill6_other w2 (w.heap.size + 1) _ _ _ _ _ _ _ (by omega)).trans hRw, hS2.fill6 _ _ _ _ _ _ hx (by decide) (by decide), fill6_away aw (by omega) _ _ _ _ _ _⟩
  case rest =>
    obtain ⟨X, rfl, hRX, hX, hR, hS, aw⟩ := hcut
    have hXlt := (Array.getElem?_eq_some_iff.1 hX).1
    have hXY : X ≠ Y := by omega
    have hXM : X ≠ M := by omega
    have p0 : PartAt w.heap.size w.heap.size X Y M S N name (.slice none 0 0) 0 [] w wc := ⟨hX, hR, World.ownsRow_nil _ _ _ _, aw, rfl, Nat.le_refl _, by omega, by omega, hXY, hXM, by omega, by omega⟩
    have x1 := accept_no hS ht5 transS k5
    clear hX hR aw hobj hstr hR0 b0 hX1 hX1Y hX1Y1 hmem hmem2 hXlt
    go_wp2_with (go_at_call 15; refine x1.mono ?_)
    intro r w3; first | (intro he3 b3; subst he3) | rintro ⟨rfl, b3⟩
    have p3 := p0.step hS b3
    have hS3 := hS.step b3
    clear x1 p0 hS b3
    go_wp2
    go_loopg [28] (n + 1) (fun g v wr => StaffSt w.heap.size w.heap.size X Y M tv toks (pos + 5) line col S N n clk name w g wr)
    case atStart => exact .on 0 _ (Nat.zero_le _) (by simpa using hn1) (by omega) p3 (by simpa using hS3)
    case round =>
      clear p3 hS3
      obtain ⟨i0, hi0, hz0, hz1, hz2⟩ := info_parts Tryz.infoStaff
      cases hrel with
      | failed i tb sv xs pos' j hi hN htb p hS =>
        obtain ⟨ao, cp, rfl⟩ := p.svIs
        have x1 := accept_err hS (by decide) staffS
        go_wp2_with (go_at_call 15; refine x1.mono ?_)
        intro r w4; first | (intro he4 b4; subst he4) | rintro ⟨rfl, b4⟩
        have p4' := p.step hS b4
        have hS4 := hS.step b4
        clear x1 p hS b4
        obtain ⟨⟨q0, q1, q2, q3, q4, q5⟩, r0, r1, r2, r3, r4, r5⟩ := zPart_cells p4'.hR
        have p0 : w4.cell? ⟨X, 0, none⟩ = some (.int .i64 S) := by rw [Lib.cell_of_heap p4'.hX]; rfl
        have p1 : w4.cell? ⟨X, 1, none⟩ = some (.int .i64 N) := by rw [Lib.cell_of_heap p4'.hX]; rfl
        have p2 : w4.cell? ⟨X, 2, none⟩ = some (.string name) := by rw [Lib.cell_of_heap p4'.hX]; rfl
        have p3 : w4.cell? ⟨X, 3, none⟩ = some (.int .i64 0) := by rw [Lib.cell_of_heap p4'.hX]; rfl
        have p4 : w4.cell? ⟨X, 4, none⟩ = some (.int .i64 0) := by rw [Lib.cell_of_heap p4'.hX]; rfl
        have p5 : w4.cell? ⟨X, 5, none⟩ = some (.slice ao j cp) := by rw [Lib.cell_of_heap p4'.hX]; rfl
        have hfin := hS4.fill6 (.int .i64 S) (.int .i64 N) (.string name) (.int .i64 0) (.int .i64 0) (.slice ao j cp) p4'.hR (by decide) (by decide)
        have awf := fill6_away p4'.aw (Nat.le_refl _) (.int .i64 S) (.int .i64 N) (.string name) (.int .i64 0) (.int .i64 0) (.slice ao j cp)
        have hRf := fill6_self (.int .i64 S) (.int .i64 N) (.string name) (.int .i64 0) (.int .i64 0) (.slice ao j cp) p4'.hR
        have hRne : (Value.slice ao j cp).ownBlock ≠ some w.heap.size := own_ne p4'.own p4'.hR (by unfold zPart; intro cs fr hc; injection hc with _ h2 _; exact absurd h2 (by decide))
        have ownf := own_step p4'.own fun k hk => fill6_other w4 w.heap.size (.int .i64 S) (.int .i64 N) (.string name) (.int .i64 0) (.int .i64 0) (.slice ao j cp) k (fun e => hRne (by rw [hk, e]))
        clear p4' hS4
        go_wp2
        refine bodyPost_ret (results_cell_row rfl _ _ w.heap.size 40 _ (0, 0) _ rfl hRf Tryz.underlying40 rfl Tryz.sizePart) rfl ?_
        exact ⟨awf, .inr ⟨by omega, ⟨_, _, _, _, _, _, rfl⟩, i, tb, pos', hi, htb, hfin⟩⟩
      | on i sv hi hN hg p hS =>
        obtain ⟨ao, cp, rfl⟩ := p.svIs
        have hil := p.own
        by_cases hlt : i < n
        · obtain ⟨ts, tb, hts, ks, htb, ka, kb, kx⟩ := hst i hlt
          have x1 := accept_yes hS hts staffS ks (by omega)
          go_wp2_with (go_at_call 15; refine x1.mono ?_)
          intro r w4; first | (intro he4 hS4 b4; subst he4) | rintro ⟨rfl, hS4, b4⟩
          have p4 := p.away1 hS b4
          clear x1 p hS b4 hil
          have p5 := p4.step hS4 (Below.refl _ w4).drew
          have hS5 := hS4.step (Below.refl _ w4).drew
          go_wp2
          by_cases hmax : N + i = 1073741824
          · have hS5m : Prs Y M tv toks (pos + 5 + 2 * i + 1) line col 0 false S 1073741824 (entry S (N + i) clk) (clk + 1) w4.drew := by rw [← hmax]; exact hS5
            have hob := object_limit hS5m htb ka (upd_one S (N + i) clk (clk + 1)) (by omega)
            clear hS5m
            have hf2 := fun w6 (ha : Away [Y, M] w4.drew w6) => p5.away hS5 ha
            have d5 := p4.c5
            clear p5 hS5 p4 hS4
            go_region_law ((first
              | (go_simp; go_at_call 22; refine hob.mono ?_; rintro r w5 ⟨rfl, hS5, ha5⟩; have p5 := hf2 _ ha5; have d5 := p5.c5)
              | (go_simp; go_at_call 31; refine (clef_err hS5 (by decide)).mono ?_; rintro r w6 ⟨rfl, b6⟩; have hS6 := hS5.step b6; have p6 := p5.step hS5 b6; have own6 := p6.own; have sz6 := p6.aw.size; have d5 := p6.c5; have lx6 := (Array.getElem?_eq_some_iff.1 p6.hX).1; have nx6 := World.new_ne w6 _ d5)
              | (refine step_append_lies _ (by rfl) _ _ _ (by rfl) w.heap.size 42 i0 _ 3 24 Tryz.underlying38 hi0 hz0 hz1 hz2 rfl (by omega) (.slice ao i cp) i (staffCells S N i) (by rfl) (World.ownsRow.alloc own6 _) ⟨w6.heap.size, 0, none⟩ 1 1 [.int .i64 S, .int .i64 1073741824, .int .i64 0] (by rfl) (by rfl) (World.news_of_block (cs := #[.int .i64 S, .int .i64 1073741824, .int .i64 0]) (t := 42) (fr := (0, 0)) (heap_alloc_new _ _)) (by simp [Value.oneCell']) (by omega) (by simp only [maxLen]; omega) (by omega) (by simp; omega) (w6.heap.size + 1) (by simp) ?_; intro gg cap w7 hown1 hgrow hat hgl; obtain ⟨p7, hS7, hX7⟩ := p6.grown hS6 hgrow hown1; have d5 := Lib.cell_of_heap hX7 5; have g5 := Lib.frozen_of_heap hX7 5; simp only [List.getElem?_toArray, List.getElem?_cons_succ, List.getElem?_cons_zero] at d5)))
            all_goals go_wp2
            all_goals go_roundg 0
            all_goals first
              | omega
              | exact .failed i tb _ _ _ (i + 1) hlt hmax htb p7 (by rw [hmax]; exact hS7)
          · have hob := object_next hS5 htb ka hmax (by omega) hN (upd_one S (N + i) clk (clk + 1)) (by omega)
            have e1 : N + (i : Int) + 1 = N + ((i + 1 : Nat) : Int) := by omega
            rw [e1] at hob
            have hf2 := fun w6 (ha : Away [Y, M] w4.drew w6) => p5.away hS5 ha
            have d5 := p4.c5
            clear p5 hS5 p4 hS4
            go_region_law ((first
              | (go_simp; go_at_call 22; refine hob.mono ?_; rintro r w5 ⟨rfl, hS5, ha5⟩; have p5 := hf2 _ ha5; have d5 := p5.c5)
              | (go_simp; go_at_call 31; refine (clef_ok hS5 htb kb kx (by omega)).mono ?_; rintro r w6 ⟨rfl, hS6, ha6⟩; have p6 := p5.away1 hS5 ha6; have own6 := p6.own; have sz6 := p6.aw.size; have d5 := p6.c5; have lx6 := (Array.getElem?_eq_some_iff.1 p6.hX).1; have nx6 := World.new_ne w6 _ d5)
              | (refine step_append_lies _ (by rfl) _ _ _ (by rfl) w.heap.size 42 i0 _ 3 24 Tryz.underlying38 hi0 hz0 hz1 hz2 rfl (by omega) (.slice ao i cp) i (staffCells S N i) (by rfl) (World.ownsRow.alloc own6 _) ⟨w6.heap.size, 0, none⟩ 1 1 [.int .i64 S, .int .i64 (N + (i + 1 : Nat)), .int .i64 2] (by rfl) (by rfl) (World.news_of_block (cs := #[.int .i64 S, .int .i64 (N + (i + 1 : Nat)), .int .i64 2]) (t := 42) (fr := (0, 0)) (heap_alloc_new _ _)) (by simp [Value.oneCell']) (by omega) (by simp only [maxLen]; omega) (by omega) (by simp; omega) (w6.heap.size + 1) (by simp) ?_; intro gg cap w7 hown1 hgrow hat hgl; obtain ⟨p7, hS7, hX7⟩ := p6.grown hS6 hgrow hown1; have d5 := Lib.cell_of_heap hX7 5; have g5 := Lib.frozen_of_heap hX7 5; simp only [List.getElem?_toArray, List.getElem?_cons_succ, List.getElem?_cons_zero] at d5)))
            all_goals go_wp2
            all_goals go_roundg (n - i)
            all_goals first
              | exact hg
              | exact .on (i + 1) _ hlt (by omega) (by omega) (by rw [staffCells_succ]; exact p7) (by rw [show pos + 5 + 2 * (i + 1) = pos + 5 + 2 * i + 1 + 1 by omega]; exact hS7)
        · obtain rfl : i = n := by omega
          obtain ⟨te, hte, ke⟩ := hend
          have x1 := accept_no hS hte staffS ke
          go_wp2_with (go_at_call 15; refine x1.mono ?_)
          intro r w4; first | (intro he4 b4; subst he4) | rintro ⟨rfl, b4⟩
          have p4' := p.step hS b4
          have hS4 := hS.step b4
          clear x1 p hS b4 hil
          obtain ⟨⟨q0, q1, q2, q3, q4, q5⟩, r0, r1, r2, r3, r4, r5⟩ := zPart_cells p4'.hR
          have p0 : w4.cell? ⟨X, 0, none⟩ = some (.int .i64 S) := by rw [Lib.cell_of_heap p4'.hX]; rfl
          have p1 : w4.cell? ⟨X, 1, none⟩ = some (.int .i64 N) := by rw [Lib.cell_of_heap p4'.hX]; rfl
          have p2 : w4.cell? ⟨X, 2, none⟩ = some (.string name) := by rw [Lib.cell_of_heap p4'.hX]; rfl
          have p3 : w4.cell? ⟨X, 3, none⟩ = some (.int .i64 0) := by rw [Lib.cell_of_heap p4'.hX]; rfl
          have p4 : w4.cell? ⟨X, 4, none⟩ = some (.int .i64 0) := by rw [Lib.cell_of_heap p4'.hX]; rfl
          have p5 : w4.cell? ⟨X, 5, none⟩ = some (.slice ao i cp) := by rw [Lib.cell_of_heap p4'.hX]; rfl
          have hfin := hS4.fill6 (.int .i64 S) (.int .i64 N) (.string name) (.int .i64 0) (.int .i64 0) (.slice ao i cp) p4'.hR (by decide) (by decide)
          have awf := fill6_away p4'.aw (Nat.le_refl _) (.int .i64 S) (.int .i64 N) (.string name) (.int .i64 0) (.int .i64 0) (.slice ao i cp)
          have hRf := fill6_self (.int .i64 S) (.int .i64 N) (.string name) (.int .i64 0) (.int .i64 0) (.slice ao i cp) p4'.hR
          have hRne : (Value.slice ao i cp).ownBlock ≠ some w.heap.size := own_ne p4'.own p4'.hR (by unfold zPart; intro cs fr hc; injection hc with _ h2 _; exact absurd h2 (by decide))
          have ownf := own_step p4'.own fun k hk => fill6_other w4 w.heap.size (.int .i64 S) (.int .i64 N) (.string name) (.int .i64 0) (.int .i64 0) (.slice ao i cp) k (fun e => hRne (by rw [hk, e]))
          clear p4' hS4
          go_wp2
          refine bodyPost_ret (results_cell_row rfl _ _ w.heap.size 40 _ (0, 0) _ rfl hRf Tryz.underlying40 rfl Tryz.sizePart) rfl ?_
          exact ⟨awf, .inl ⟨hN, (.slice ao i cp), rfl, ownf, hfin⟩⟩
end
end Go.Proofs.YtaimdnddmddbnaaGreatDoor
