/-
  A part of the proof that the law ParserSheets (chapter 19) returns true for every sheet: walks of the program's functions, and runs of them in the kernel by the own evaluator.
-/
import Derived.Test.YtjnkppneilmpbaaGreatDoorMea
import Derived.Deep.Cut
namespace Go.Proofs.YtjnkppneilmpbaaGreatDoor
open Go.RowKit

section
variable {Y M : Nat} {tv : Value} {toks : List Tok} {pos k N : Nat} {line col k0 : Int} {w : World}

set_option maxHeartbeats 16000000 in
set_option maxRecDepth 100000 in
theorem measure_walk {kl : Nat} {k1 : Int} (hI : IdAt toks pos k N) (hpos : pos ≤ 900000) (hN : N ≤ 90000) (hK : KeyAt toks (pos + k) k0 kl k1) (i0 : Int) (ao0 : Option Addr) (n0 c0 : Nat) {ns : List (Option UInt8)} (hn : ns.length ≤ 10000)
    {tb t0 t : Tok} {pos' : Nat} (htb : toks[pos + k + kl]? = some tb) (kb : IsTok tb openB = true) (hi : Notes toks (pos + k + kl + 1) (N + 1) ns pos') (ht0 : toks[pos + k + kl + 1]? = some t0) (hc0 : IsTok t0 clefS = false) (ht : toks[pos']? = some t) (kt : IsTok t closeB = true) (kt4 : t.kind = 4) (hpos' : pos' ≤ 900000)
    (h : Prs Y M tv toks pos line col 0 false 0 N (esOf N) (clkOf N) w) :
    Calls Tryz.prog 31 #[.pointer (some ⟨Y, 0, none⟩), .agg (measArr i0 k0 (.slice ao0 n0 c0))] w fun r w' => ∃ m, r = .returned (.agg m) ∧ MeasIs w' N ns k1 m ∧
      Prs Y M tv toks (pos' + 1) line col 0 false 0 (N + 1 + ns.length : Nat) (esOf (N + 1 + ns.length)) (clkOf (N + 1 + ns.length)) w' ∧ Away [Y, M] w w' := by
  have hk4 : k ≤ 4 := by rcases hI with ⟨rfl, _⟩ | ⟨rfl, _⟩ <;> omega
  have hobj := fun w' (b : Below w.heap.size w w') => hI.runs (h.step b) (by omega) (by omega)
  have lY := h.lt
  have lM := h.ltM
  have hbuilt := built_meas ((N : Int) + 1) k0
  have hz1 : (Tryz.prog.info? 56).map (·.size) = some (measArr ((N : Int) + 1) k0 (.slice none 0 0)).size := Tryz.szq56
  have hzs : zMeasArr.size = (measArr ((N : Int) + 1) k0 (.slice none 0 0)).size := rfl
  have hone : (measArr ((N : Int) + 1) k0 (.slice none 0 0)).all (·.oneCell') = true := by simp [measArr, Value.oneCell']
  generalize hm1 : measArr ((N : Int) + 1) k0 (.slice none 0 0) = m1 at hbuilt hz1 hzs hone
  have b0 := ((Below.refl w.heap.size w).alloc (Nat.le_refl _) (.cells (measArr i0 k0 (.slice ao0 n0 c0)) 56)).alloc (by simp) zMeas
  have hB0 : ((w.alloc (.cells (measArr i0 k0 (.slice ao0 n0 c0)) 56)).alloc zMeas).heap[w.heap.size]? = some (.cells (measArr i0 k0 (.slice ao0 n0 c0)) 56 (0, 0)) := alloc_keep _ (alloc_at _ _ rfl)
  have hR0 : ((w.alloc (.cells (measArr i0 k0 (.slice ao0 n0 c0)) 56)).alloc zMeas).heap[w.heap.size + 1]? = some zMeas := alloc_at _ _ (by simp)
  go_enter Tryz.func31, Tryz.ntmps31
  go_wp2
  go_cut [5] from 9 (fun s5 wc => ∃ X, s5 = .pointer (some ⟨X, 0, none⟩) ∧ w.heap.size + 1 < X ∧ wc.heap[X]? = some (.cells m1 56 (0, 0)) ∧ wc.heap[w.heap.size + 1]? = some zMeas ∧ Prs Y M tv toks (pos + k) line col 0 false 0 (N + 1 : Nat) (esOf (N + 1)) (clkOf (N + 1)) wc ∧ Away [Y, M] w wc)
  case first =>
    refine wp_region_noPanic ?_
    refine wp_region_held_drew (S := fun w' => w'.heap[w.heap.size]? = some (.cells (measArr i0 k0 (.slice ao0 n0 c0)) 56 (0, 0)) ∧ w'.heap[w.heap.size + 1]? = some zMeas) (by kernel_rfl) ⟨hB0, hR0⟩ (fun hHeld => ?_)
    refine wpAnyH_take (i := 0) (v := ?va) rfl (by kernel_rfl) (by kernel_rfl) (by kernel_rfl) (fun _ _ _ h => h) (Or.inl ⟨by rfl, ?hya⟩) (by assumption) ?_
    case hya => (intro w hSw; go_simp; with_reducible rfl)
    try simp only [Act.put, List.getElem_toArray, List.getElem_cons_zero, List.setIfInBounds_toArray, List.set_cons_zero, List.set_cons_succ]
    refine wpAnyH_take (i := 2) (v := ?vb) rfl (by kernel_rfl) (by kernel_rfl) (by kernel_rfl) (fun _ _ _ h => h) (Or.inl ⟨by rfl, ?hyb⟩) (by assumption) ?_
    case hyb => (intro w hSw; go_simp; with_reducible rfl)
    try simp only [Act.put, List.getElem_toArray, List.getElem_cons_succ, List.getElem_cons_zero, List.setIfInBounds_toArray, List.set_cons_zero, List.set_cons_succ]
    refine wpAnyH_take (i := 3) rfl (by kernel_rfl) (by kernel_rfl) (by kernel_rfl) (fun _ _ _ h => h) (yieldsIf_load_at (by rfl) 52 _ rfl ⟨w.heap.size, 2, none⟩ rfl metArr _ (fun w h => met_at h) Tryz.underlying52 rfl Tryz.sizeMetre) (by assumption) ?_
    try simp only [Act.put, List.getElem_toArray, List.getElem_cons_succ, List.getElem_cons_zero, List.setIfInBounds_toArray, List.set_cons_zero, List.set_cons_succ]
    refine wpAnyH_take (i := 4) (v := ?vc) rfl (by kernel_rfl) (by kernel_rfl) (by kernel_rfl) (fun _ _ _ h => h) (Or.inl ⟨by rfl, ?hyc⟩) (by assumption) ?_
    case hyc => (intro w hSw; go_simp; with_reducible rfl)
    try simp only [Act.put, List.getElem_toArray, List.getElem_cons_succ, List.getElem_cons_zero, List.setIfInBounds_toArray, List.set_cons_zero, List.set_cons_succ]
    refine wpAnyH_take (i := 5) (v := ?vd) rfl (by kernel_rfl) (by kernel_rfl) (by kernel_rfl) (fun _ _ _ h => h) (Or.inl ⟨by rfl, ?hyd⟩) (by assumption) ?_
    case hyd => (intro w hSw; have c11 := meas_k hSw.1; go_simp; with_reducible rfl)
    try simp only [Act.put, List.getElem_toArray, List.getElem_cons_succ, List.getElem_cons_zero, List.setIfInBounds_toArray, List.set_cons_zero, List.set_cons_succ]
    refine wpAnyH_ready (rs := [1, 7]) (by kernel_rfl) (by simp) ?_
    refine AllReadyH.cons rfl (fun K hK => ?_) (AllReadyH.cons rfl (fun K hK => ?_) AllReadyH.nil)
    · (go_simp; go_at_call 34; refine (hobj _ b0.drew).mono ?_; rintro r w1 ⟨rfl, hS1, ha1⟩)
      have hB1 := ha1.heap (b := w.heap.size) hB0 (by simp; omega)
      have hR1 := ha1.heap (b := w.heap.size + 1) hR0 (by simp; omega)
      refine hK.out _ _ ⟨hB1, hR1⟩ (fun hHeld => ?_)
      clear hK K
      try simp only [Act.put, List.getElem_toArray, List.getElem_cons_succ, List.getElem_cons_zero, List.setIfInBounds_toArray, List.set_cons_zero, List.set_cons_succ]
      refine wpAnyH_take (i := 6) rfl (by kernel_rfl) (by kernel_rfl) (by kernel_rfl) (fun _ _ _ h => h) (yieldsIf_build (by rfl) 56 _ rfl (l := [(0, .agg #[.int .i64 0, .int .i64 ((N : Int) + 1)]), (1, .agg metArr), (3, .int .i64 k0)]) (by simp [Act.eval]) hbuilt) (by assumption) ?_
      try simp only [Act.put, List.getElem_toArray, List.getElem_cons_succ, List.getElem_cons_zero, List.setIfInBounds_toArray, List.set_cons_zero, List.set_cons_succ]
      refine wpAnyH_ready (rs := [7]) (by kernel_rfl) (by simp) ?_
      refine AllReadyH.cons rfl (fun K hK => ?_) AllReadyH.nil
      go_simp
      refine hK.out _ _ ⟨alloc_keep _ hB1, alloc_keep _ hR1⟩ (fun hHeld => ?_)
      clear hK K
      try simp only [Act.put, List.getElem_toArray, List.getElem_cons_succ, List.getElem_cons_zero, List.setIfInBounds_toArray, List.set_cons_zero, List.set_cons_succ]
      refine wpAnyH_ready (rs := [8]) (by kernel_rfl) (by simp) ?_
      refine AllReadyH.cons rfl (fun K hK => ?_) AllReadyH.nil
      refine step_of_wp rfl (wp_store_row 56 _ _ rfl w1.heap.size m1 rfl rfl 56 zMeasArr (heap_alloc_new w1 _) hz1 hzs hone ?_)
      have l1 := (Array.getElem?_eq_some_iff.1 hR1).1
      have hBf := (setRow_other (w1.alloc (.cells zMeasArr 56)) w1.heap.size w.heap.size m1 (by omega)).trans (alloc_keep (.cells zMeasArr 56) hB1)
      have hRf := (setRow_other (w1.alloc (.cells zMeasArr 56)) w1.heap.size (w.heap.size + 1) m1 (by omega)).trans (alloc_keep (.cells zMeasArr 56) hR1)
      refine hK.out _ _ ⟨hBf, hRf⟩ (fun hHeld => ?_)
      clear hK K
      try simp only [Act.put, List.getElem_toArray, List.getElem_cons_succ, List.getElem_cons_zero]
      refine wpAnyH_done (by kernel_rfl) ?_ _
      refine NoPanic.normal ?_
      go_wp2
      go_meet
      case rel => exact ⟨w1.heap.size, rfl, l1, setRow_heap _ _ _ _ _ _ (heap_alloc_new w1 _), hRf, (hS1.step ((Below.refl _ w1).alloc (Nat.le_refl _) (.cells zMeasArr 56))).setRow (heap_alloc_new w1 _) (by decide) (by decide) m1, (((Away.of_below b0.drew).trans ha1).alloc _).setRow (by omega) m1⟩
    · go_simp
      refine hK.out _ _ ⟨alloc_keep _ hB0, alloc_keep _ hR0⟩ (fun hHeld => ?_)
      clear hK K
      try simp only [Act.put, List.getElem_toArray, List.getElem_cons_succ, List.getElem_cons_zero, List.setIfInBounds_toArray, List.set_cons_zero, List.set_cons_succ]
      refine wpAnyH_ready (rs := [1]) (by kernel_rfl) (by simp) ?_
      refine AllReadyH.cons rfl (fun K hK => ?_) AllReadyH.nil
      (go_simp; go_at_call 34; refine (hobj _ (b0.drew.alloc (by simp; omega) (.cells zMeasArr 56))).mono ?_; rintro r w1 ⟨rfl, hS1, ha1⟩)
      have hB1 := ha1.heap (b := w.heap.size) (alloc_keep _ hB0) (by simp; omega)
      have hR1 := ha1.heap (b := w.heap.size + 1) (alloc_keep _ hR0) (by simp; omega)
      have hX1 : w1.heap[w.heap.size + 1 + 1]? = some (.cells zMeasArr 56 (0, 0)) := ha1.heap (alloc_at _ _ (by simp)) (by simp; omega)
      refine hK.out _ _ ⟨hB1, hR1⟩ (fun hHeld => ?_)
      clear hK K
      try simp only [Act.put, List.getElem_toArray, List.getElem_cons_succ, List.getElem_cons_zero, List.setIfInBounds_toArray, List.set_cons_zero, List.set_cons_succ]
      refine wpAnyH_take (i := 6) rfl (by kernel_rfl) (by kernel_rfl) (by kernel_rfl) (fun _ _ _ h => h) (yieldsIf_build (by rfl) 56 _ rfl (l := [(0, .agg #[.int .i64 0, .int .i64 ((N : Int) + 1)]), (1, .agg metArr), (3, .int .i64 k0)]) (by simp [Act.eval]) hbuilt) (by assumption) ?_
      try simp only [Act.put, List.getElem_toArray, List.getElem_cons_succ, List.getElem_cons_zero, List.setIfInBounds_toArray, List.set_cons_zero, List.set_cons_succ]
      refine wpAnyH_ready (rs := [8]) (by kernel_rfl) (by simp) ?_
      refine AllReadyH.cons rfl (fun K hK => ?_) AllReadyH.nil
      refine step_of_wp rfl (wp_store_row 56 _ _ rfl (w.heap.size + 1 + 1) m1 rfl rfl 56 zMeasArr hX1 hz1 hzs hone ?_)
      have hBf := (setRow_other w1 (w.heap.size + 1 + 1) w.heap.size m1 (by omega)).trans hB1
      have hRf := (setRow_other w1 (w.heap.size + 1 + 1) (w.heap.size + 1) m1 (by omega)).trans hR1
      refine hK.out _ _ ⟨hBf, hRf⟩ (fun hHeld => ?_)
      clear hK K
      try simp only [Act.put, List.getElem_toArray, List.getElem_cons_succ, List.getElem_cons_zero]
      refine wpAnyH_done (by kernel_rfl) ?_ _
      refine NoPanic.normal ?_
      go_wp2
      go_meet
      case rel => exact ⟨w.heap.size + 1 + 1, rfl, by omega, setRow_heap _ _ _ _ _ _ hX1, hRf, hS1.setRow hX1 (by decide) (by decide) m1, ((Away.of_below (b0.drew.alloc (by simp; omega) (.cells zMeasArr 56))).trans ha1).setRow (by omega) m1⟩
  case rest =>
    obtain ⟨X, rfl, hRX, hX, hR, hS, aw⟩ := hcut
    have p0 : MAt (w.heap.size + 1) X Y M ((N : Int) + 1) k0 (.slice none 0 0) 0 [] w wc := ⟨by rw [hm1]; exact hX, hR, World.ownsRow_nil _ _ _ _, aw, Nat.le_succ _, hRX, by simp; omega, by simp; omega⟩
    clear hobj hbuilt hz1 hzs hone hm1 b0 hB0 hR0 hX hR aw h
    generalize w.heap.size + 1 = R at p0 hRX
    have xo := options_walk Y X wc
    go_wp2_with (go_at_call 53; refine xo.mono ?_)
    rintro r w3 ⟨O, Bp, Bm, b, rfl, hO, hBp, hBm, b3⟩
    have p3 := p0.step hS b3
    have hS3 := hS.step b3
    clear xo p0 hS b3
    go_wp2
    go_loopg [19] 14 (fun g s19 wr => ∃ (j q : Nat) (kq : Int), j ≤ 14 ∧ g = 14 - j ∧ s19 = .int .i64 (j : Nat) ∧ OptPos (pos + k) kl k0 k1 j q kq ∧ MAt R X Y M ((N : Int) + 1) kq (.slice none 0 0) 0 [] w wr ∧ Prs Y M tv toks q line col 0 false 0 (N + 1 : Nat) (esOf (N + 1)) (clkOf (N + 1)) wr ∧
      wr.heap[O]? = some (optRow Bp Bm b) ∧ wr.heap[Bp]? = some (.cells #[.pointer (some ⟨Y, 0, none⟩)] 76 (0, 0)) ∧ wr.heap[Bm]? = some (.cells #[.pointer (some ⟨X, 0, none⟩)] 149 (0, 0)))
    case atStart => exact ⟨0, _, _, Nat.zero_le _, rfl, rfl, .inl ⟨by omega, rfl, rfl⟩, p3, hS3, hO, hBp, hBm⟩
    case round =>
      obtain ⟨j, q, kq, hj, hg, rfl, hq, p4, hS4, hO4, hBp4, hBm4⟩ := hrel
      clear p3 hS3 hO hBp hBm
      have j0 : (0 : Int) ≤ (j : Int) := by omega
      have m1 : IntKind.i64.wrap ((j : Int) + 1) = (j : Int) + 1 := IntWalk.i64_in _ (by omega)
      by_cases hlt : j < 14
      · have hlt' : (j : Int) < 14 := by omega
        obtain ⟨s, f, hs, h2, hf1, hcl⟩ := opt_at hO4 hlt
        have bz := (Below.refl wr.heap.size wr).alloc (Nat.le_refl _) (.cells #[.string s, f] 151)
        have p5 := p4.step hS4 (bz.drew)
        have hS5 := hS4.step bz.drew
        have hO5 := (bz.drew.block O (Array.getElem?_eq_some_iff.1 hO4).1).trans hO4
        have hBp5 := (bz.drew.block Bp (Array.getElem?_eq_some_iff.1 hBp4).1).trans hBp4
        have hBm5 := (bz.drew.block Bm (Array.getElem?_eq_some_iff.1 hBm4).1).trans hBm4
        have hA5 : (wr.alloc (.cells #[.string s, f] 151)).drew.heap[wr.heap.size]? = some (.cells #[.string s, f] 151 (0, 0)) := heap_alloc_new wr _
        have a0 : (wr.alloc (.cells #[.string s, f] 151)).cell? ⟨wr.heap.size, 0, none⟩ = some (.string s) := by rw [Lib.cell_of_heap (heap_alloc_new wr _)]; rfl
        rcases hK.at hq hs with ⟨hq2, t, ht, hno⟩ | ⟨rfl, rfl, hq2, t0, t1, ht0, e0, ht1, hk1, hv1, hlo, hhi⟩
        · have xa := accept_no hS5 ht s hno
          clear p4 hS4 hO4 hBp4 hBm4 hK
          go_wp2_with (first
            | (refine wpList_load_at rfl 151 _ rfl ⟨O, j * 2, none⟩ rfl #[.string s, f] _ (fun m u hu => by rw [add_off]; exact hcl m u hu) Tryz.underlying151 rfl Tryz.sizeOpt ?_)
            | (refine wpList_store_new (w := wr) rfl 151 _ _ rfl #[.string s, f] _ _ rfl rfl rfl Tryz.sizeOpt rfl (all_two hf1) ?_))
          go_region_held3 (fun w' => w'.cell? ⟨wr.heap.size, 0, none⟩ = some (.string s)) (go_keep) ((go_at_call 27; refine xa.mono ?_; rintro r w6 ⟨rfl, b6⟩; have a6 := (b6.cell (World.block_lt_of_cell? _ _ a0)).trans a0))
          all_goals go_wp2
          all_goals go_roundg (14 - (j + 1))
          all_goals first
            | omega
            | exact ⟨j + 1, q, kq, by omega, rfl, by simp, hq2, p5.step hS5 b6, hS5.step b6, (b6.block O (Array.getElem?_eq_some_iff.1 hO5).1).trans hO5, (b6.block Bp (Array.getElem?_eq_some_iff.1 hBp5).1).trans hBp5, (b6.block Bm (Array.getElem?_eq_some_iff.1 hBm5).1).trans hBm5⟩
        · obtain ⟨rfl, rfl⟩ := h2 rfl
          have xa := accept_yes hS5 ht0 o2 e0 (by omega)
          have lYr := hS4.lt
          clear p4 hS4 hO4 hBp4 hBm4 hK
          go_wp2_with (first
            | (refine wpList_load_at rfl 151 _ rfl ⟨O, 2 * 2, none⟩ rfl #[.string o2, .func (.func 80) #[] #[.pointer (some ⟨Bp, 0, none⟩), .pointer (some ⟨Bm, 0, none⟩)]] _ (fun m u hu => by rw [add_off]; exact hcl m u hu) Tryz.underlying151 rfl Tryz.sizeOpt ?_)
            | (refine wpList_store_new (w := wr) rfl 151 _ _ rfl #[.string o2, .func (.func 80) #[] #[.pointer (some ⟨Bp, 0, none⟩), .pointer (some ⟨Bm, 0, none⟩)]] _ _ rfl rfl rfl Tryz.sizeOpt rfl (all_two rfl) ?_))
          have hYB : Bm ≠ Y := by
            rintro rfl
            rw [hS5.blk] at hBm5
            injection hBm5 with hBm5
            injection hBm5 with _ h2 _
            exact absurd h2 (by decide)
          go_region_held3 (fun w' => w'.cell? ⟨wr.heap.size, 0, none⟩ = some (.string o2)) (go_keep) ((go_at_call 27; refine xa.mono ?_; rintro r w6 ⟨rfl, hS6, b6⟩; have hA6 := b6.heap hA5 (by simp; omega); have a6 : w6.cell? ⟨wr.heap.size, 0, none⟩ = some (.string o2) := by rw [Lib.cell_of_heap hA6]; rfl))
          have a7 : w6.cell? ⟨wr.heap.size, 1, none⟩ = some (.func (.func 80) #[] #[.pointer (some ⟨Bp, 0, none⟩), .pointer (some ⟨Bm, 0, none⟩)]) := by rw [Lib.cell_of_heap hA6]; rfl
          have p6 := p5.away1 hS5 b6
          have nO : ∀ {w' : World} {b : Nat} {cs : Array Value} {T : TypeId} {fr : Nat × Nat}, w'.heap[Y]? = (wr.alloc (.cells #[.string o2, .func (.func 80) #[] #[.pointer (some ⟨Bp, 0, none⟩), .pointer (some ⟨Bm, 0, none⟩)]] 151)).drew.heap[Y]? → w'.heap[b]? = some (.cells cs T fr) → T ≠ 99 → b ≠ Y := by
            rintro w' b cs T fr hY hb hT rfl
            rw [hY, hS5.blk] at hb
            injection hb with hb
            injection hb with _ h2 _
            exact hT h2.symm
          have nO5 : O ≠ Y := nO rfl hO5 (by decide)
          have nBp5 : Bp ≠ Y := nO rfl hBp5 (by decide)
          have nBm5 : Bm ≠ Y := nO rfl hBm5 (by decide)
          clear nO
          have hO6 := b6.heap hO5 (by simpa using nO5)
          have hBp6 := b6.heap hBp5 (by simpa using nBp5)
          have hBm6 := b6.heap hBm5 (by simpa using nBm5)
          have xk := key_run hS6 ht1 hk1 (by simp [IsTok, hk1]) (by omega) (by omega) (by omega) hBp6 hBm6 p6.hX (u := .int .i64 kq) rfl
          rw [hv1] at xk
          clear hS5 hO5 hBp5 hBm5 b6 p5 hA5 a0 hcl hf1
          go_wp2_with (go_at_call 80; refine xk.mono ?_)
          rintro r w7 ⟨rfl, w8, hS8, b8, rfl⟩
          have p8 := p6.away1 hS6 b8
          have hO8 := b8.heap hO6 (by simpa using nO5)
          have hBp8 := b8.heap hBp6 (by simpa using nBp5)
          have hBm8 := b8.heap hBm6 (by simpa using nBm5)
          have sm : Same [151, 76, 149] w8 (w8.setCell ⟨X, 11, none⟩ (.int .i64 k1)) := Same.of_set p8.hX (by decide)
          go_wp2
          go_roundg (14 - (2 + 1))
          case measure => omega
          case rel => exact ⟨3, pos + k + 2, k1, by omega, rfl, by simp, hq2, p8.setKey k1, hS8.elsewhere p8.hX (by decide) (by decide) 11 _, sm _ _ _ _ (by simp) hO8, sm _ _ _ _ (by simp) hBp8, sm _ _ _ _ (by simp) hBm8⟩
      · obtain rfl : j = 14 := by omega
        have hq' : q = pos + k + kl ∧ kq = k1 := by
          rcases hq with ⟨h, _⟩ | ⟨_, h⟩
          · omega
          · exact h
        obtain ⟨rfl, rfl⟩ := hq'
        have hkl : kl ≤ 2 := by rcases hK with ⟨h, _⟩ | ⟨h, _⟩ <;> omega
        clear hO4 hBp4 hBm4 hK hg m1 j0 hq hj
        go_wp2
        go_loopg [] 0 (fun g wq => wq = wr)
        case atStart => rfl
        case round =>
          obtain rfl := hrel
          have xa := accept_no hS4 htb tempoS (isTok_other kb (by decide))
          go_wp2_with (go_at_call 27; refine xa.mono ?_)
          intro r w5; first | (intro he b5; subst he) | rintro ⟨rfl, b5⟩
          have p5 := p4.step hS4 b5
          have hS5 := hS4.step b5
          clear p4 hS4 xa b5
          have xe := expect_yes hS5 htb openB kb (by omega)
          go_wp2_with (go_at_call 25; refine xe.mono ?_)
          intro r w6; first | (intro he hS6 b6; subst he) | rintro ⟨rfl, hS6, b6⟩
          have p6 := p5.away1 hS5 b6
          clear p5 hS5 xe b6
          have p7 := p6.step hS6 (Below.refl _ w6).drew
          have hS7 := hS6.step (Below.refl _ w6).drew
          have d21 := p6.c21
          have lX6 := p6.ltX
          clear p6 hS6
          have hst : VStop t := ⟨by rw [kt4]; decide, isTok_other kt (by decide), isTok_other kt (by decide), isTok_other kt (by decide), isTok_other kt (by decide), isTok_other kt (by decide), isTok_other kt (by decide), isTok_other kt (by decide)⟩
          have xc := cell_walk (by omega) hi ht0 hc0 ht hst (isTok_other kt (by decide)) hS7
          have hf := fun w8 (ha : Away [Y, M] w6.drew w8) => p7.away hS7 ha
          obtain ⟨i1, hi1, hz0, hz1, hz2⟩ := info_parts Tryz.infoCell
          clear p7 hS7
          go_wp2
          go_region_law ((first
            | (go_simp; go_at_call 54; refine xc.mono ?_; rintro r w8 ⟨vs, rfl, hC8, hS8, ha8⟩; have p8 := hf _ ha8; obtain ⟨va, vn, vc, rfl⟩ := hC8.is; have own8 := p8.own; have sz8 := p8.aw.size; have d21 := p8.c21; have lx8 := p8.ltX; have nx8 := World.new_ne w8 _ d21)
            | (refine step_append_lies _ (by rfl) _ _ _ (by rfl) w.heap.size 75 i1 _ 2 48 Tryz.underlying54 hi1 hz0 hz1 hz2 rfl (by omega) (.slice none 0 0) 0 [] (by rfl) (World.ownsRow.alloc own8 _) ⟨w8.heap.size, 0, none⟩ 1 1 [.slice none 0 0, .slice va vn vc] (by rfl) (by rfl) (World.news_of_block (cs := #[.slice none 0 0, .slice va vn vc]) (t := 75) (fr := (0, 0)) (heap_alloc_new _ _)) (by simp [Value.oneCell']) (by omega) (by simp only [maxLen]; omega) (by omega) (by simp; omega) (w8.heap.size + 1) (by simp) ?_; intro gg cap w9 hown1 hgrow hat hgl; obtain ⟨p9, hS9, hC9, hX9⟩ := p8.push hS8 hC8 hgrow hown1; have d21 := measArr_at hX9 21 rfl; have g21 := Lib.frozen_of_heap hX9 21)))
          all_goals
            clear d21 g21 hown1 hgrow hat hgl hX9 hC8 hS8 p8 own8 sz8 lx8 nx8 hf xc ha8 hst
            generalize w9.setCell ⟨X, 21, none⟩ (.slice (some ⟨gg, 0, none⟩) (0 + 1) cap) = w10 at p9 hS9 hC9 ⊢
            go_wp2
            go_loopg [] 0 (fun g wq => wq = w10)
            case atStart => rfl
            case round =>
              obtain rfl := hrel
              have xs := accept_no hS9 ht slashS (isTok_other kt (by decide))
              go_wp2_with (go_at_call 27; refine xs.mono ?_)
              intro r w11; first | (intro he b11; subst he) | rintro ⟨rfl, b11⟩
              have p11 := p9.step hS9 b11
              have hS11 := hS9.step b11
              have hC11 := hC9.same (Same.of_below b11)
              clear p9 hS9 hC9 xs b11
              have xe := expect_yes hS11 ht closeB kt (by omega)
              go_wp2_with (go_at_call 25; refine xe.mono ?_)
              intro r w12; first | (intro he hS12 b12; subst he) | rintro ⟨rfl, hS12, b12⟩
              have p12 := p11.away1 hS11 b12
              have hC12 := hC11.same (Same.of_away hS11 (b12.more (by simp)) (by decide))
              clear p11 hS11 hC11 xe b12
              have hz1 : (Tryz.prog.info? 56).map (·.size) = some (measArr ((N : Int) + 1) kq (.slice (some ⟨gg, 0, none⟩) (0 + 1) cap)).size := Tryz.szq56
              have hX12 := p12.hX
              have hR12 := p12.hR
              have hone := (meas_form ((N : Int) + 1) kq (.slice (some ⟨gg, 0, none⟩) (0 + 1) cap) rfl).2
              have hnR := p12.neR
              have hfin : MeasIs (w12.setRow R (measArr ((N : Int) + 1) kq (.slice (some ⟨gg, 0, none⟩) (0 + 1) cap))) N ns kq (measArr ((N : Int) + 1) kq (.slice (some ⟨gg, 0, none⟩) (0 + 1) cap)) :=
                ⟨_, _, rfl, own_step (p12.own.mono (Nat.zero_le _)) fun j hj => setRow_other _ _ _ _ (fun e => hnR (by rw [hj, e])), hC12.same (Same.of_setRow hR12 (by decide) _)⟩
              have hSf := hS12.setRow hR12 (by decide) (by decide) (measArr ((N : Int) + 1) kq (.slice (some ⟨gg, 0, none⟩) (0 + 1) cap))
              have awf := p12.aw.setRow p12.lR (measArr ((N : Int) + 1) kq (.slice (some ⟨gg, 0, none⟩) (0 + 1) cap))
              have hsz : zMeasArr.size = (measArr ((N : Int) + 1) kq (.slice (some ⟨gg, 0, none⟩) (0 + 1) cap)).size := rfl
              clear p12 hS12 hC12 hnR
              generalize measArr ((N : Int) + 1) kq (.slice (some ⟨gg, 0, none⟩) (0 + 1) cap) = m at hz1 hX12 hone hfin hSf awf hsz
              have hRf := setRow_heap w12 R zMeasArr m 56 (0, 0) hR12
              go_wp2_with (first
                | (refine wpList_load_row rfl 56 _ rfl X rfl 56 m (0, 0) _ hX12 Tryz.underlying56 rfl hz1 ?_)
                | (refine wpList_store_row rfl 56 _ _ rfl R m rfl rfl 56 zMeasArr hR12 hz1 hsz hone ?_))
              refine bodyPost_ret (results_cell_row rfl _ _ R 56 m (0, 0) _ rfl hRf Tryz.underlying56 rfl hz1) rfl ?_
              exact ⟨m, rfl, hfin, hSf, awf⟩
end
end Go.Proofs.YtjnkppneilmpbaaGreatDoor
