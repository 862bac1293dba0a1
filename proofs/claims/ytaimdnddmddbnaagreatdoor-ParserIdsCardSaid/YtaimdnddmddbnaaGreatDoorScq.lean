/-
  A part of the proof that the law ParserIds (chapter 19) returns true for every site, number and count: walks of the program's functions, and runs of them in the kernel by the own evaluator.
-/
import Derived.Test.YtaimdnddmddbnaaGreatDoorScp
namespace Go.Proofs.YtaimdnddmddbnaaGreatDoor
open Go.RowKit

/-- A score is returned, whatever it holds. -/
def IsScore (r : Ending) : Prop := ∃ title ap np cp al nl cl, r = .returned (.agg #[.string title, .bool false, .slice ap np cp, .slice none 0 0, .slice none 0 0, .slice al nl cl])

section
variable {Y M : Nat} {tv : Value} {toks : List Tok} {pos : Nat} {line col e : Int} {free : Bool} {ls ln : Int} {es : Array MapEntry} {clk : Nat} {w : World} {t : Tok}

set_option maxHeartbeats 32000000 in
set_option maxRecDepth 100000 in
theorem score_bad (h : Prs Y M tv toks 0 line col 0 false ls ln #[] 0 w) {t0 t1 t2 : Tok} (ht0 : toks[0]? = some t0) (k0 : IsTok t0 scoreS = true) (ht1 : toks[1]? = some t1) (k1 : t1.kind = 3) (ht2 : toks[2]? = some t2)
    (k2w : IsTok t2 writtenS = false) (k2l : IsTok t2 lastS = false) (k2p : IsTok t2 partS = true) (G : Int → Int → Int → Prop)
    (hpart : ∀ w', Prs Y M tv toks 3 line col 0 false ls ln #[] 0 w' → Calls Tryz.prog 18 #[.pointer (some ⟨Y, 0, none⟩)] w' fun r w'' => Away [Y, M] w' w'' ∧ IsPart r ∧
      ∃ pos' line' col' e' ls' ln' a v, e' ≠ 0 ∧ G line' col' e' ∧ Prs Y M tv toks pos' line' col' e' false ls' ln' (entry a v 0) 1 w'') :
    Calls Tryz.prog 10 #[.pointer (some ⟨Y, 0, none⟩)] w fun r w' => Away [Y, M] w w' ∧ IsScore r ∧ ∃ pos' line' col' e' ls' ln' a v, e' ≠ 0 ∧ G line' col' e' ∧ Prs Y M tv toks pos' line' col' e' false ls' ln' (entry a v 0) 1 w' := by
  have lY := h.lt
  have lM := h.ltM
  have hb0 := ((Below.refl w.heap.size w).alloc (Nat.le_refl _) zScore).alloc (by simp) zScore
  have hS0 := h.step hb0
  have P0 : ScAt w.heap.size w.heap.size (w.heap.size + 1) Y M ByteArray.empty (.slice none 0 0) 0 [] (.slice none 0 0) 0 [] (.slice none 0 0) 0 [] w ((w.alloc zScore).alloc zScore) := by
    refine ⟨?_, (Lib.alloc_old _ _ _ (by simp)).trans (heap_alloc_new w _), World.ownsRow_nil _ _ _ _, World.ownsRow_nil _ _ _ _, World.ownsRow_nil _ _ _ _, Away.of_below hb0, rfl, Nat.le_refl _, by omega, by omega, by omega, by omega, by omega, by omega⟩
    have := heap_alloc_new (w.alloc zScore) zScore
    simpa [zScore] using this
  have x1 := expect_yes hS0 ht0 scoreS k0 (by omega)
  go_enter Tryz.func10, Tryz.ntmps10
  go_wp2_with (go_at_call 13; refine x1.mono ?_)
  intro r w1; first | (intro he hS1 b1; subst he) | rintro ⟨rfl, hS1, b1⟩
  have P1 := P0.away1 hS0 b1
  generalize hXe : w.heap.size + 1 = X at P1 ⊢
  clear P0 hS0 hb0 x1 b1 h
  have x2 := str_ok hS1 ht1 k1 (by omega)
  go_wp2_with (go_at_call 14; refine x2.mono ?_)
  intro r w2; first | (intro he hS2 b2; subst he) | rintro ⟨rfl, hS2, b2⟩
  have P2 := P1.away1 hS1 b2
  clear P1 hS1 b2 x2
  generalize t1.bytes = title at *
  have c0 := P2.c0
  have f0 := P2.f 0
  have hS2' := hS2.elsewhere P2.hX (by decide) (by decide) 0 (.string title)
  have P2' := P2.setTitle title
  have x3 := accept_no hS2' ht2 writtenS k2w
  go_wp2_with (go_at_call 15; refine x3.mono ?_)
  intro r w3; first | (intro he b3; subst he) | rintro ⟨rfl, b3⟩
  have hS3 := hS2'.step b3
  have P3 := P2'.step hS2' b3
  clear P2 P2' hS2 hS2' x3 b3 c0 f0
  have c1 := P3.c1
  have f1 := P3.f 1
  have hS3' := hS3.elsewhere P3.hX (by decide) (by decide) 1 (.bool false)
  have P3' := P3.setWritten
  have x4 := accept_no hS3' ht2 lastS k2l
  go_wp2_with (go_at_call 15; refine x4.mono ?_)
  intro r w4; first | (intro he b4; subst he) | rintro ⟨rfl, b4⟩
  have hS4 := hS3'.step b4
  have P4 := P3'.step hS3' b4
  clear P3 P3' hS3 hS3' x4 b4 c1 f1
  go_wp2
  obtain ⟨i0, hi0, hz0, hz1, hz2⟩ := info_parts Tryz.infoPart
  go_loopg [51] 1 (fun g v wr => (g = 1 ∧ wr = w4) ∨ (g = 0 ∧ ∃ pv ps pos' line' col' e' ls' ln' a v, ScAt w.heap.size w.heap.size X Y M title pv 1 ps (.slice none 0 0) 0 [] (.slice none 0 0) 0 [] w wr ∧ e' ≠ 0 ∧ G line' col' e' ∧ Prs Y M tv toks pos' line' col' e' false ls' ln' (entry a v 0) 1 wr))
  case atStart => exact .inl ⟨rfl, rfl⟩
  case round =>
    rcases hrel with ⟨rfl, rfl⟩ | ⟨rfl, pv, ps, pos', line', col', e', ls', ln', a, v, P5, he, hGe, hS5⟩
    · have x5 := accept_yes hS4 ht2 partS k2p (by omega)
      go_wp2_with (go_at_call 15; refine x5.mono ?_)
      intro r w5; first | (intro he hS5 b5; subst he) | rintro ⟨rfl, hS5, b5⟩
      have P5 := P4.away1 hS4 b5
      clear P4 hS4 x5 b5
      go_wp2
      have hP5 := hpart _ (hS5.step (Below.refl _ w5).drew)
      have hS5d := hS5.step (Below.refl _ w5).drew
      have hst6 : ∀ w6 : World, Away [Y, M] w5.drew w6 → ScAt w.heap.size w.heap.size X Y M title (.slice none 0 0) 0 [] (.slice none 0 0) 0 [] (.slice none 0 0) 0 [] w w6 := fun w6 ha => (P5.step hS5 (Below.refl _ w5).drew).away hS5d ha
      have hww := P5.aw.size
      have d2 := P5.c2
      go_region_law ((first
        | (go_simp; go_at_call 18; refine hP5.mono ?_; rintro r w6 ⟨ha6, ⟨A1, B1, nm, ao, kk, cp, rfl⟩, pos', line', col', e', ls', ln', a, v, he, hGe, hS6⟩; have P6 := hst6 _ ha6; have parts6 := P6.parts; have sz6 := P6.aw.size; have d2 := P6.c2; have lx6 := P6.ltX; have nx6 := World.new_ne w6 _ d2)
        | (refine step_append_lies _ (by rfl) _ _ _ (by rfl) w.heap.size 40 i0 _ 6 72 Tryz.underlying24 hi0 hz0 hz1 hz2 rfl (by omega) (.slice none 0 0) 0 [] (by rfl) (World.ownsRow.alloc parts6 _) ⟨w6.heap.size, 0, none⟩ 1 1 [.int .i64 A1, .int .i64 B1, .string nm, .int .i64 0, .int .i64 0, .slice ao kk cp] (by rfl) (by rfl) (World.news_of_block (cs := #[.int .i64 A1, .int .i64 B1, .string nm, .int .i64 0, .int .i64 0, .slice ao kk cp]) (t := 40) (fr := (0, 0)) (heap_alloc_new _ _)) (by simp [Value.oneCell']) (by omega) (by simp only [maxLen]; omega) (by omega) (by simp; omega) (w6.heap.size + 1) (by simp) ?_; intro gg cap w7 hown1 hgrow hat hgl; obtain ⟨P7, hS7, hX7⟩ := P6.addPart hS6 hgrow hown1; have d2 := Lib.cell_of_heap hX7 2; have g2 := Lib.frozen_of_heap hX7 2; simp only [List.getElem?_toArray, List.getElem?_cons_succ, List.getElem?_cons_zero] at d2)))
      all_goals (as_aux_lemma =>
        go_wp2
        go_roundg 0
        all_goals first
          | exact Nat.zero_lt_one
          | exact .inr ⟨rfl, _, _, _, _, _, _, _, _, _, _, P7, he, hGe, hS7⟩)
    · have x6 := accept_err hS5 he partS
      go_wp2_with (go_at_call 15; refine x6.mono ?_)
      intro r w6; first | (intro he b6; subst he) | rintro ⟨rfl, b6⟩
      have P6 := P5.step hS5 b6
      have hS6 := hS5.step b6
      clear P5 hS5 x6 b6 hpart
      go_upto_region 12 with fail
      refine wp_region_lit (meas_ops rfl rfl rfl rfl rfl rfl rfl rfl rfl rfl rfl rfl (Nat.le_of_ble_eq_true rfl) ?_)
      intro v1 v2 o
      generalize hT : w6.heap.size = T
      have hS7 := hS6.step ((Below.refl _ w6).alloc (Nat.le_refl _) o)
      have P7 := P6.step hS6 ((Below.refl _ w6).alloc (Nat.le_refl _) o)
      generalize w6.alloc o = w7 at hS7 P7 ⊢
      clear P6 hS6 hT
      simp only [Act.put, List.setIfInBounds_toArray, List.set_cons_succ, List.set_cons_zero]
      go_wp2
      go_loopg [64] 0 (fun g v wr => wr = w7)
      case atStart => rfl
      case round =>
        obtain rfl := hrel
        have x7 := accept_err hS7 he measureS
        go_wp2_with (go_at_call 15; refine x7.mono ?_)
        intro r w8; first | (intro he b8; subst he) | rintro ⟨rfl, b8⟩
        have P8 := P7.step hS7 b8
        have hS8 := hS7.step b8
        clear P7 hS7 x7 b8
        go_wp2
        go_loopg [74] 0 (fun g v wr => wr = w8)
        case atStart => rfl
        case round =>
          obtain rfl := hrel
          have kd := kinds_walk wr.drew
          have bk := (Below.refl _ wr).drew.alloc (Nat.le_refl _) (.map (kEs 7) 7)
          have hS9 := hS8.step bk
          have P9 := P8.step hS8 bk
          have hQ9 := heap_alloc_new wr.drew (.map (kEs 7) 7)
          have pk := peek_err hS9 he
          have hfd := field1_run (.int .i64 (-1)) ByteArray.empty (.int .i64 0) (.string ByteArray.empty) (.int .i64 0) (.int .i64 0) (.bool false)
          have hlk : ∀ w' : World, Below (wr.drew.alloc (.map (kEs 7) 7)).heap.size (wr.drew.alloc (.map (kEs 7) 7)) w' → (Instr.lookup 92 (.map (some wr.heap.size)) (.string ByteArray.empty) true).run Tryz.prog w' = .ok (.tuple #[.int .i64 0, .bool false]) w' := fun w' b => look_str_no ((b.block _ (Array.getElem?_eq_some_iff.1 hQ9).1).trans hQ9) ByteArray.empty rfl
          go_wp2
          go_region_held3 (fun _ => True) (trivial) (first
            | (go_at_call 20; refine kd.mono ?_; rintro r wk ⟨rfl, rfl⟩)
            | (go_at_call 21; refine pk.mono ?_; rintro r w10 ⟨rfl, b10⟩; have hl10 := hlk _ b10))
          have P10 := P9.step hS9 b10
          have hS10 := hS9.step b10
          clear P8 hS8 P9 hS9 kd bk hQ9 pk hfd hlk b10 hl10
          have pk2 := peek_err hS10 he
          have hfd0 := field0_run (-1) (.string ByteArray.empty) (.int .i64 0) (.string ByteArray.empty) (.int .i64 0) (.int .i64 0) (.bool false)
          go_wp2_with (go_at_call 21; refine pk2.mono ?_)
          intro r w11; first | (intro he b11; subst he) | rintro ⟨rfl, b11⟩
          have P11 := P10.step hS10 b11
          have hS11 := hS10.step b11
          clear P10 hS10 pk2 b11
          have en := end_err hS11 he
          go_wp2_with (go_at_call 23; refine en.mono ?_)
          intro r w12; first | (intro he b12; subst he) | rintro ⟨rfl, b12⟩
          have P12 := P11.step hS11 b12
          have hS12 := hS11.step b12
          clear P11 hS11 en b12 hfd0
          have e8 := hS12.c8
          have ky := keys_walk M w12
          have bB := (Below.refl w12.heap.size w12).alloc (Nat.le_refl _) (.cells #[.map (some M)] 78)
          have hBx := heap_alloc_new w12 (.cells #[.map (some M)] 78)
          have hSb := hS12.step bB
          have Pb := P12.step hS12 bB
          have st := sorted_walk a v w12.heap.size M (by have := hS12.ltM; omega) (w12.alloc (.cells #[.map (some M)] 78)) hBx hSb.map
          go_wp2_with (first
            | (go_at_call 25; refine ky.mono ?_; rintro r w' ⟨rfl, rfl⟩)
            | (go_at_call 24; refine st.mono ?_))
          rintro r w13 ⟨⟨G, off, cap, rfl, hG⟩, b13⟩
          have P13 := Pb.step hSb b13
          have hS13 := hSb.step b13
          clear P12 hS12 ky bB hBx hSb Pb st b13 e8
          obtain ⟨j0, hj0, hy0, hy1, hy2⟩ := info_parts Tryz.infoId
          go_wp2
          go_loopg [138] 1 (fun g vv wr => (g = 1 ∧ vv = .int .i64 0 ∧ wr = w13) ∨ (g = 0 ∧ vv = .int .i64 1 ∧ ∃ al cl, ScAt w.heap.size w.heap.size X Y M title pv 1 ps (.slice al 1 cl) 1 [.int .i64 a, .int .i64 v] (.slice none 0 0) 0 [] w wr ∧ Prs Y M tv toks pos' line' col' e' false ls' ln' (entry a v 0) 1 wr))
          case atStart => exact .inl ⟨rfl, rfl, rfl⟩
          case round =>
            rcases hrel with ⟨rfl, rfl, rfl⟩ | ⟨rfl, rfl, al, cl, P14, hS14⟩
            · have P13d := P13.step hS13 (Below.refl _ wr).drew
              have hS13d := hS13.step (Below.refl _ wr).drew
              have hlk2 := look_one (k := a) (b := v) hS13d.map
              have last13 := P13.last
              have sz13 := P13.aw.size
              have d5 := P13.c5
              have d8 := hS13.c8
              have lx := P13.ltX
              have ly := hS13.lt
              have nx := World.new_ne wr _ d5
              have ny := World.new_ne wr _ d8
              go_wp2
              go_region_law ((refine step_append_lies _ (by rfl) _ _ _ (by rfl) w.heap.size 35 j0 _ 2 16 Tryz.underlying27 hj0 hy0 hy1 hy2 rfl (by omega) (.slice none 0 0) 0 [] (by rfl) (World.ownsRow.alloc (w := wr.drew) last13 _) ⟨wr.heap.size, 0, none⟩ 1 1 [.int .i64 a, .int .i64 v] (by rfl) (by rfl) (World.news_of_block (cs := #[.int .i64 a, .int .i64 v]) (t := 35) (fr := (0, 0)) (heap_alloc_new _ _)) (by simp [Value.oneCell']) (by omega) (by simp only [maxLen]; omega) (by omega) (by simp; omega) (wr.heap.size + 1) (by simp) ?_; intro gg cap2 w14 hown1 hgrow hat hgl; obtain ⟨P14, hS14, hX14⟩ := P13d.addLast hS13d hgrow hown1; have d5' := Lib.cell_of_heap hX14 5; have g5' := Lib.frozen_of_heap hX14 5; simp only [List.getElem?_toArray, List.getElem?_cons_succ, List.getElem?_cons_zero] at d5'))
              all_goals (as_aux_lemma =>
                go_wp2
                go_roundg 0
                all_goals first
                  | exact Nat.zero_lt_one
                  | exact .inr ⟨rfl, rfl, _, _, P14, hS14⟩)
            · have q0 := P14.c0
              have q1 := P14.c1
              have q2 := P14.c2
              have q3 := P14.c3
              have q4 := P14.c4
              have q5 := P14.c5
              have hRz : wr.heap[w.heap.size]? = some (.cells #[.string ByteArray.empty, .bool false, .slice none 0 0, .slice none 0 0, .slice none 0 0, .slice none 0 0] 29 (0, 0)) := P14.hR
              have z0 : wr.cell? ⟨w.heap.size, 0, none⟩ = some (.string ByteArray.empty) := by rw [Lib.cell_of_heap hRz]; rfl
              have z1 : wr.cell? ⟨w.heap.size, 1, none⟩ = some (.bool false) := by rw [Lib.cell_of_heap hRz]; rfl
              have z2 : wr.cell? ⟨w.heap.size, 2, none⟩ = some (.slice none 0 0) := by rw [Lib.cell_of_heap hRz]; rfl
              have z3 : wr.cell? ⟨w.heap.size, 3, none⟩ = some (.slice none 0 0) := by rw [Lib.cell_of_heap hRz]; rfl
              have z4 : wr.cell? ⟨w.heap.size, 4, none⟩ = some (.slice none 0 0) := by rw [Lib.cell_of_heap hRz]; rfl
              have z5 : wr.cell? ⟨w.heap.size, 5, none⟩ = some (.slice none 0 0) := by rw [Lib.cell_of_heap hRz]; rfl
              have y0 : wr.frozen? ⟨w.heap.size, 0, none⟩ = false := Lib.frozen_of_heap hRz 0
              have y1 : wr.frozen? ⟨w.heap.size, 1, none⟩ = false := Lib.frozen_of_heap hRz 1
              have y2 : wr.frozen? ⟨w.heap.size, 2, none⟩ = false := Lib.frozen_of_heap hRz 2
              have y3 : wr.frozen? ⟨w.heap.size, 3, none⟩ = false := Lib.frozen_of_heap hRz 3
              have y4 : wr.frozen? ⟨w.heap.size, 4, none⟩ = false := Lib.frozen_of_heap hRz 4
              have y5 : wr.frozen? ⟨w.heap.size, 5, none⟩ = false := Lib.frozen_of_heap hRz 5
              obtain ⟨ap, cpp, rfl⟩ : ∃ ap c, pv = .slice ap 1 c := by
                rcases P14.parts.2 with ⟨_, h0⟩ | ⟨g, cap, cur, hv, _⟩
                · cases h0
                · exact ⟨_, _, hv⟩
              have hfin := hS14.fill6 (.string title) (.bool false) (.slice ap 1 cpp) (.slice none 0 0) (.slice none 0 0) (.slice al 1 cl) hRz (by decide) (by decide)
              have awf := fill6_away P14.aw (Nat.le_refl _) (.string title) (.bool false) (.slice ap 1 cpp) (.slice none 0 0) (.slice none 0 0) (.slice al 1 cl)
              have hRf := fill6_self (.string title) (.bool false) (.slice ap 1 cpp) (.slice none 0 0) (.slice none 0 0) (.slice al 1 cl) hRz
              clear P14 hS14 hRz
              go_wp2
              refine bodyPost_ret (results_cell_row rfl _ _ w.heap.size 29 _ (0, 0) _ rfl hRf Tryz.underlying29 rfl Tryz.sizeScore) rfl ?_
              exact ⟨awf, ⟨_, _, _, _, _, _, _, rfl⟩, _, _, _, _, _, _, _, _, he, hGe, hfin⟩
end
end Go.Proofs.YtaimdnddmddbnaaGreatDoor
