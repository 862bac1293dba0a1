/-
  A part of the proof that the law ParserIds (chapter 19) returns true for every site, number and count: walks of the program's functions, and runs of them in the kernel by the own evaluator.
-/
import Derived.Test.YtaimdnddmddbnaaGreatDoorScr
import Derived.Deep.Cut
import Derived.Test.YtaimdnddmddbnaaGreatDoorPrj
namespace Go.Proofs.YtaimdnddmddbnaaGreatDoor
open Go.RowKit

def scoreS : ByteArray := ⟨#[115, 99, 111, 114, 101]⟩
def writtenS : ByteArray := ⟨#[119, 114, 105, 116, 116, 101, 110]⟩
def lastS : ByteArray := ⟨#[108, 97, 115, 116]⟩
def partS : ByteArray := ⟨#[112, 97, 114, 116]⟩
def measureS : ByteArray := ⟨#[109, 101, 97, 115, 117, 114, 101]⟩

theorem field0_run (a0 : Int) (a1 a2 a3 a4 a5 a6 : Value) (w : World) : (Instr.field 95 (.agg #[.int .i64 a0, a1, a2, a3, a4, a5, a6]) 0).run Tryz.prog w = .ok (.int .i64 a0) w := by
  simp [Instr.field, run_underlying Tryz.underlying95, Result.andThen, asAgg, part, isAgg, run_underlying Tryz.underlying3, Sem.run_bind]
theorem field1_run (a0 : Value) (a1 : ByteArray) (a2 a3 a4 a5 a6 : Value) (w : World) : (Instr.field 95 (.agg #[a0, .string a1, a2, a3, a4, a5, a6]) 1).run Tryz.prog w = .ok (.string a1) w := by
  simp [Instr.field, run_underlying Tryz.underlying95, Result.andThen, asAgg, part, isAgg, run_underlying Tryz.underlying9, Sem.run_bind]

/-- How score ends, where all goes well. -/
def ScoreEnd (Y M : Nat) (tv : Value) (toks : List Tok) (line col S N : Int) (n : Nat) (name title : ByteArray) (w : World) (r : Ending) (w' : World) : Prop :=
  Away [Y, M] w w' ∧ ∃ pv sv lv, r = .returned (.agg #[.string title, .bool false, pv, .slice none 0 0, .slice none 0 0, lv]) ∧
    w'.ownsRow w.heap.size 40 6 pv 1 [.int .i64 S, .int .i64 N, .string name, .int .i64 0, .int .i64 0, sv] ∧ w'.ownsRow w.heap.size 42 3 sv n (staffCells S N n) ∧ w'.ownsRow w.heap.size 35 2 lv 1 [.int .i64 S, .int .i64 (N + n)] ∧
    ∃ pos, Prs Y M tv toks pos line col 0 false S (N + n) (entry S (N + n) 0) 1 w'

section
variable {Y M : Nat} {tv : Value} {toks : List Tok} {pos : Nat} {line col e : Int} {free : Bool} {ls ln : Int} {es : Array MapEntry} {clk : Nat} {w : World} {t : Tok}

theorem _root_.Go.World.ownsRow.lower {w : World} {B B' : Nat} {e : TypeId} {size : Nat} {v : Value} {n : Nat} {xs : List Value} (h : w.ownsRow B' e size v n xs) (hB : B ≤ B') : w.ownsRow B e size v n xs := by
  refine ⟨h.1, ?_⟩
  rcases h.2 with hn | ⟨g, cap, cur, rfl, hg, rest⟩
  · exact .inl hn
  · exact .inr ⟨g, cap, cur, rfl, Nat.le_trans hB hg, rest⟩

theorem ScAt.withStaves {B0 R X Y M : Nat} {title : ByteArray} {pv : Value} {np : Nat} {ps : List Value} {lv : Value} {nl : Nat} {xl : List Value} {sv sv' : Value} {ns ns' : Nat} {ss ss' : List Value} {w0 w : World} (p : ScAt B0 R X Y M title pv np ps lv nl xl sv ns ss w0 w) (h : w.ownsRow B0 42 3 sv' ns' ss') : ScAt B0 R X Y M title pv np ps lv nl xl sv' ns' ss' w0 w :=
  { p with staves := h }

set_option maxHeartbeats 4000000 in
set_option maxRecDepth 100000 in
theorem end_ok (h : Prs Y M tv toks pos line col 0 free ls ln es clk w) (ht : toks[pos]? = some t) (hk : t.kind = 0) :
    Calls Tryz.prog 23 #[.pointer (some ⟨Y, 0, none⟩)] w fun r w' => r = .returned (.tuple #[]) ∧ Below w.heap.size w w' := by
  have hp := peek_ok h ht
  clear h ht
  rw [hk] at hp
  have hfd := field0_run 0 (.string t.text) (.int .i64 t.value) (.string t.bytes) (.int .i64 1) (.int .i64 t.col) (.bool t.joined)
  go_enter Tryz.func23, Tryz.ntmps23
  go_wp2_with (go_at_call 21; refine hp.mono ?_)
  intro r w1; first | (intro he b1; subst he) | rintro ⟨rfl, b1⟩
  go_wp2
  go_end0
  exact ⟨rfl, b1⟩

set_option maxHeartbeats 4000000 in
set_option maxRecDepth 100000 in
theorem end_err (h : Prs Y M tv toks pos line col e free ls ln es clk w) (he : e ≠ 0) :
    Calls Tryz.prog 23 #[.pointer (some ⟨Y, 0, none⟩)] w fun r w' => r = .returned (.tuple #[]) ∧ Below w.heap.size w w' := by
  have hp := peek_err h he
  have hf := fun w' (b : Below w.heap.size w w') => fail_err (h.step b) he 13
  have hfd := field0_run (-1) (.string ByteArray.empty) (.int .i64 0) (.string ByteArray.empty) (.int .i64 0) (.int .i64 0) (.bool false)
  clear h
  go_enter Tryz.func23, Tryz.ntmps23
  go_wp2_with (go_at_call 21; refine hp.mono ?_)
  intro r w1; first | (intro he b1; subst he) | rintro ⟨rfl, b1⟩
  have hf1 := hf _ b1
  go_wp2_with (go_at_call 28; refine hf1.mono ?_)
  intro r w2; first | (intro he b2; subst he) | rintro ⟨rfl, b2⟩
  go_wp2
  go_end0
  exact ⟨rfl, b1.trans (b2.mono b1.size)⟩

set_option maxHeartbeats 32000000 in
set_option maxRecDepth 100000 in
theorem score_ok (h : Prs Y M tv toks 0 line col 0 false ls ln #[] 0 w) {t0 t1 t2 te : Tok} (ht0 : toks[0]? = some t0) (k0 : IsTok t0 scoreS = true) (ht1 : toks[1]? = some t1) (k1 : t1.kind = 3) (ht2 : toks[2]? = some t2)
    (k2w : IsTok t2 writtenS = false) (k2l : IsTok t2 lastS = false) (k2p : IsTok t2 partS = true)
    (n : Nat) (S N : Int) (name : ByteArray) (_hn : n ≤ 1000)
    (hpart : ∀ w', Prs Y M tv toks 3 line col 0 false ls ln #[] 0 w' → Calls Tryz.prog 18 #[.pointer (some ⟨Y, 0, none⟩)] w' fun r w'' => Away [Y, M] w' w'' ∧ ∃ ao cp, r = .returned (.agg #[.int .i64 S, .int .i64 N, .string name, .int .i64 0, .int .i64 0, .slice ao n cp]) ∧ w''.ownsRow w'.heap.size 42 3 (.slice ao n cp) n (staffCells S N n) ∧
      Prs Y M tv toks (8 + 2 * n) line col 0 false S (N + n) (entry S (N + n) 0) 1 w'')
    (hte : toks[8 + 2 * n]? = some te) (ke : te.kind = 0) (kx : te.text = ByteArray.empty) :
    Calls Tryz.prog 10 #[.pointer (some ⟨Y, 0, none⟩)] w (ScoreEnd Y M tv toks line col S N n name t1.bytes w) := by
  have lY := h.lt
  have lM := h.ltM
  have hb0 := ((Below.refl w.heap.size w).alloc (Nat.le_refl _) zScore).alloc (by simp) zScore
  have hS0 := h.step hb0
  have P0 : ScAt w.heap.size w.heap.size (w.heap.size + 1) Y M ByteArray.empty (.slice none 0 0) 0 [] (.slice none 0 0) 0 [] (.slice none 0 0) 0 [] w ((w.alloc zScore).alloc zScore) := by
    refine ⟨?_, (Lib.alloc_old _ _ _ (by simp)).trans (heap_alloc_new w _), World.ownsRow_nil _ _ _ _, World.ownsRow_nil _ _ _ _, World.ownsRow_nil _ _ _ _, Away.of_below hb0, rfl, Nat.le_refl _, by omega, by omega, by omega, by omega, by omega, by omega⟩
    have := heap_alloc_new (w.alloc zScore) zScore
    simpa [zScore] using this
  have x1 := expect_yes hS0 ht0 scoreS k0 (by omega)
  go_enter Tryz.func10, Tryz.ntmps10
  go_wp2_with (go_at_call 13; refine x1.mono ?_)
  intro r w1; first | (intro he hS1 b1; subst he) | rintro ⟨rfl, hS1, b1⟩
  have P1 := P0.away1 hS0 b1
  generalize hXe : w.heap.size + 1 = X at P1 ⊢
  clear P0 hS0 hb0 x1 b1 h
  have x2 := str_ok hS1 ht1 k1 (by omega)
  go_wp2_with (go_at_call 14; refine x2.mono ?_)
  intro r w2; first | (intro he hS2 b2; subst he) | rintro ⟨rfl, hS2, b2⟩
  have P2 := P1.away1 hS1 b2
  clear P1 hS1 b2 x2
  generalize t1.bytes = title at *
  have c0 := P2.c0
  have f0 := P2.f 0
  have hS2' := hS2.elsewhere P2.hX (by decide) (by decide) 0 (.string title)
  have P2' := P2.setTitle title
  have x3 := accept_no hS2' ht2 writtenS k2w
  go_wp2_with (go_at_call 15; refine x3.mono ?_)
  intro r w3; first | (intro he b3; subst he) | rintro ⟨rfl, b3⟩
  have hS3 := hS2'.step b3
  have P3 := P2'.step hS2' b3
  clear P2 P2' hS2 hS2' x3 b3 c0 f0
  have c1 := P3.c1
  have f1 := P3.f 1
  have hS3' := hS3.elsewhere P3.hX (by decide) (by decide) 1 (.bool false)
  have P3' := P3.setWritten
  have x4 := accept_no hS3' ht2 lastS k2l
  go_wp2_with (go_at_call 15; refine x4.mono ?_)
  intro r w4; first | (intro he b4; subst he) | rintro ⟨rfl, b4⟩
  have hS4 := hS3'.step b4
  have P4 := P3'.step hS3' b4
  clear P3 P3' hS3 hS3' x4 b4 c1 f1
  go_wp2
  have hE : ∀ (tx : ByteArray), te.kind = 0 → IsTok te tx = false := fun tx hk => by simp [IsTok, hk]
  obtain ⟨i0, hi0, hz0, hz1, hz2⟩ := info_parts Tryz.infoPart
  go_loopg [51] 1 (fun g v wr => (g = 1 ∧ wr = w4) ∨ (g = 0 ∧ ∃ pv ao cp, ScAt w.heap.size w.heap.size X Y M title pv 1 [.int .i64 S, .int .i64 N, .string name, .int .i64 0, .int .i64 0, .slice ao n cp] (.slice none 0 0) 0 [] (.slice ao n cp) n (staffCells S N n) w wr ∧ Prs Y M tv toks (8 + 2 * n) line col 0 false S (N + n) (entry S (N + n) 0) 1 wr))
  case atStart => exact .inl ⟨rfl, rfl⟩
  case round =>
    rcases hrel with ⟨rfl, rfl⟩ | ⟨rfl, pv, ao, cp, P5, hS5⟩
    · have x5 := accept_yes hS4 ht2 partS k2p (by omega)
      go_wp2_with (go_at_call 15; refine x5.mono ?_)
      intro r w5; first | (intro he hS5 b5; subst he) | rintro ⟨rfl, hS5, b5⟩
      have P5 := P4.away1 hS4 b5
      clear P4 hS4 x5 b5
      go_wp2
      have hP5 := hpart _ (hS5.step (Below.refl _ w5).drew)
      have hS5d := hS5.step (Below.refl _ w5).drew
      have hst6 : ∀ w6 : World, Away [Y, M] w5.drew w6 → ScAt w.heap.size w.heap.size X Y M title (.slice none 0 0) 0 [] (.slice none 0 0) 0 [] (.slice none 0 0) 0 [] w w6 := fun w6 ha => (P5.step hS5 (Below.refl _ w5).drew).away hS5d ha
      have hww := P5.aw.size
      have d2 := P5.c2
      go_region_law ((first
        | (go_simp; go_at_call 18; refine hP5.mono ?_; rintro r w6 ⟨ha6, ao, cp, rfl, hst, hS6⟩; have P6a := hst6 _ ha6; have P6 := P6a.withStaves (hst.lower hww); have parts6 := P6.parts; have sz6 := P6.aw.size; have d2 := P6.c2; have lx6 := P6.ltX; have nx6 := World.new_ne w6 _ d2)
        | (refine step_append_lies _ (by rfl) _ _ _ (by rfl) w.heap.size 40 i0 _ 6 72 Tryz.underlying24 hi0 hz0 hz1 hz2 rfl (by omega) (.slice none 0 0) 0 [] (by rfl) (World.ownsRow.alloc parts6 _) ⟨w6.heap.size, 0, none⟩ 1 1 [.int .i64 S, .int .i64 N, .string name, .int .i64 0, .int .i64 0, .slice ao n cp] (by rfl) (by rfl) (World.news_of_block (cs := #[.int .i64 S, .int .i64 N, .string name, .int .i64 0, .int .i64 0, .slice ao n cp]) (t := 40) (fr := (0, 0)) (heap_alloc_new _ _)) (by simp [Value.oneCell']) (by omega) (by simp only [maxLen]; omega) (by omega) (by simp; omega) (w6.heap.size + 1) (by simp) ?_; intro gg cap w7 hown1 hgrow hat hgl; obtain ⟨P7, hS7, hX7⟩ := P6.addPart hS6 hgrow hown1; have d2 := Lib.cell_of_heap hX7 2; have g2 := Lib.frozen_of_heap hX7 2; simp only [List.getElem?_toArray, List.getElem?_cons_succ, List.getElem?_cons_zero] at d2)))
      all_goals (as_aux_lemma =>
        go_wp2
        go_roundg 0
        all_goals first
          | exact Nat.zero_lt_one
          | exact .inr ⟨rfl, _, ao, cp, P7, hS7⟩)
    · have x6 := accept_no hS5 hte partS (hE _ ke)
      go_wp2_with (go_at_call 15; refine x6.mono ?_)
      intro r w6; first | (intro he b6; subst he) | rintro ⟨rfl, b6⟩
      have P6 := P5.step hS5 b6
      have hS6 := hS5.step b6
      clear P5 hS5 x6 b6 hpart
      go_upto_region 12 with fail
      refine wp_region_lit (meas_ops rfl rfl rfl rfl rfl rfl rfl rfl rfl rfl rfl rfl (Nat.le_of_ble_eq_true rfl) ?_)
      intro v1 v2 o
      generalize hT : w6.heap.size = T
      have hS7 := hS6.step ((Below.refl _ w6).alloc (Nat.le_refl _) o)
      have P7 := P6.step hS6 ((Below.refl _ w6).alloc (Nat.le_refl _) o)
      generalize w6.alloc o = w7 at hS7 P7 ⊢
      clear P6 hS6 hT
      simp only [Act.put, List.setIfInBounds_toArray, List.set_cons_succ, List.set_cons_zero]
      go_wp2
      go_loopg [64] 0 (fun g v wr => wr = w7)
      case atStart => rfl
      case round =>
        obtain rfl := hrel
        have x7 := accept_no hS7 hte measureS (hE _ ke)
        go_wp2_with (go_at_call 15; refine x7.mono ?_)
        intro r w8; first | (intro he b8; subst he) | rintro ⟨rfl, b8⟩
        have P8 := P7.step hS7 b8
        have hS8 := hS7.step b8
        clear P7 hS7 x7 b8
        go_wp2
        go_loopg [74] 0 (fun g v wr => wr = w8)
        case atStart => rfl
        case round =>
          obtain rfl := hrel
          have kd := kinds_walk wr.drew
          have bk := (Below.refl _ wr).drew.alloc (Nat.le_refl _) (.map (kEs 7) 7)
          have hS9 := hS8.step bk
          have P9 := P8.step hS8 bk
          have hQ9 := heap_alloc_new wr.drew (.map (kEs 7) 7)
          have pk := peek_ok hS9 hte
          rw [ke, kx] at pk
          have hfd := field1_run (.int .i64 0) ByteArray.empty (.int .i64 te.value) (.string te.bytes) (.int .i64 1) (.int .i64 te.col) (.bool te.joined)
          have hlk : ∀ w' : World, Below (wr.drew.alloc (.map (kEs 7) 7)).heap.size (wr.drew.alloc (.map (kEs 7) 7)) w' → (Instr.lookup 92 (.map (some wr.heap.size)) (.string ByteArray.empty) true).run Tryz.prog w' = .ok (.tuple #[.int .i64 0, .bool false]) w' := fun w' b => look_str_no ((b.block _ (Array.getElem?_eq_some_iff.1 hQ9).1).trans hQ9) ByteArray.empty rfl
          go_wp2
          go_region_held3 (fun _ => True) (trivial) (first
            | (go_at_call 20; refine kd.mono ?_; rintro r wk ⟨rfl, rfl⟩)
            | (go_at_call 21; refine pk.mono ?_; rintro r w10 ⟨rfl, b10⟩; have hl10 := hlk _ b10))
          have P10 := P9.step hS9 b10
          have hS10 := hS9.step b10
          clear P8 hS8 P9 hS9 kd bk hQ9 pk hfd hlk b10 hl10
          have pk2 := peek_ok hS10 hte
          rw [ke, kx] at pk2
          have hfd0 := field0_run 0 (.string ByteArray.empty) (.int .i64 te.value) (.string te.bytes) (.int .i64 1) (.int .i64 te.col) (.bool te.joined)
          go_wp2_with (go_at_call 21; refine pk2.mono ?_)
          intro r w11; first | (intro he b11; subst he) | rintro ⟨rfl, b11⟩
          have P11 := P10.step hS10 b11
          have hS11 := hS10.step b11
          clear P10 hS10 pk2 b11
          have en := end_ok hS11 hte ke
          go_wp2_with (go_at_call 23; refine en.mono ?_)
          intro r w12; first | (intro he b12; subst he) | rintro ⟨rfl, b12⟩
          have P12 := P11.step hS11 b12
          have hS12 := hS11.step b12
          clear P11 hS11 en b12 hfd0
          have e8 := hS12.c8
          have ky := keys_walk M w12
          have bB := (Below.refl w12.heap.size w12).alloc (Nat.le_refl _) (.cells #[.map (some M)] 78)
          have hBx := heap_alloc_new w12 (.cells #[.map (some M)] 78)
          have hSb := hS12.step bB
          have Pb := P12.step hS12 bB
          have st := sorted_walk S (N + n) w12.heap.size M (by have := hS12.ltM; omega) (w12.alloc (.cells #[.map (some M)] 78)) hBx hSb.map
          go_wp2_with (first
            | (go_at_call 25; refine ky.mono ?_; rintro r w' ⟨rfl, rfl⟩)
            | (go_at_call 24; refine st.mono ?_))
          rintro r w13 ⟨⟨G, off, cap, rfl, hG⟩, b13⟩
          have P13 := Pb.step hSb b13
          have hS13 := hSb.step b13
          clear P12 hS12 ky bB hBx hSb Pb st b13 e8
          obtain ⟨j0, hj0, hy0, hy1, hy2⟩ := info_parts Tryz.infoId
          go_wp2
          go_loopg [138] 1 (fun g v wr => (g = 1 ∧ v = .int .i64 0 ∧ wr = w13) ∨ (g = 0 ∧ v = .int .i64 1 ∧ ∃ al cl, ScAt w.heap.size w.heap.size X Y M title pv 1 [.int .i64 S, .int .i64 N, .string name, .int .i64 0, .int .i64 0, .slice ao n cp] (.slice al 1 cl) 1 [.int .i64 S, .int .i64 (N + n)] (.slice ao n cp) n (staffCells S N n) w wr ∧ Prs Y M tv toks (8 + 2 * n) line col 0 false S (N + n) (entry S (N + n) 0) 1 wr))
          case atStart => exact .inl ⟨rfl, rfl, rfl⟩
          case round =>
            rcases hrel with ⟨rfl, rfl, rfl⟩ | ⟨rfl, rfl, al, cl, P14, hS14⟩
            · have P13d := P13.step hS13 (Below.refl _ wr).drew
              have hS13d := hS13.step (Below.refl _ wr).drew
              have hlk2 := look_one (k := S) (b := N + n) hS13d.map
              have last13 := P13.last
              have sz13 := P13.aw.size
              have d5 := P13.c5
              have d8 := hS13.c8
              have lx := P13.ltX
              have ly := hS13.lt
              have nx := World.new_ne wr _ d5
              have ny := World.new_ne wr _ d8
              go_wp2
              go_region_law ((refine step_append_lies _ (by rfl) _ _ _ (by rfl) w.heap.size 35 j0 _ 2 16 Tryz.underlying27 hj0 hy0 hy1 hy2 rfl (by omega) (.slice none 0 0) 0 [] (by rfl) (World.ownsRow.alloc (w := wr.drew) last13 _) ⟨wr.heap.size, 0, none⟩ 1 1 [.int .i64 S, .int .i64 (N + n)] (by rfl) (by rfl) (World.news_of_block (cs := #[.int .i64 S, .int .i64 (N + n)]) (t := 35) (fr := (0, 0)) (heap_alloc_new _ _)) (by simp [Value.oneCell']) (by omega) (by simp only [maxLen]; omega) (by omega) (by simp; omega) (wr.heap.size + 1) (by simp) ?_; intro gg cap2 w14 hown1 hgrow hat hgl; obtain ⟨P14, hS14, hX14⟩ := P13d.addLast hS13d hgrow hown1; have d5' := Lib.cell_of_heap hX14 5; have g5' := Lib.frozen_of_heap hX14 5; simp only [List.getElem?_toArray, List.getElem?_cons_succ, List.getElem?_cons_zero] at d5'))
              all_goals (as_aux_lemma =>
                go_wp2
                go_roundg 0
                all_goals first
                  | exact Nat.zero_lt_one
                  | exact .inr ⟨rfl, rfl, _, _, P14, hS14⟩)
            · have q0 := P14.c0
              have q1 := P14.c1
              have q2 := P14.c2
              have q3 := P14.c3
              have q4 := P14.c4
              have q5 := P14.c5
              have hRz : wr.heap[w.heap.size]? = some (.cells #[.string ByteArray.empty, .bool false, .slice none 0 0, .slice none 0 0, .slice none 0 0, .slice none 0 0] 29 (0, 0)) := P14.hR
              have z0 : wr.cell? ⟨w.heap.size, 0, none⟩ = some (.string ByteArray.empty) := by rw [Lib.cell_of_heap hRz]; rfl
              have z1 : wr.cell? ⟨w.heap.size, 1, none⟩ = some (.bool false) := by rw [Lib.cell_of_heap hRz]; rfl
              have z2 : wr.cell? ⟨w.heap.size, 2, none⟩ = some (.slice none 0 0) := by rw [Lib.cell_of_heap hRz]; rfl
              have z3 : wr.cell? ⟨w.heap.size, 3, none⟩ = some (.slice none 0 0) := by rw [Lib.cell_of_heap hRz]; rfl
              have z4 : wr.cell? ⟨w.heap.size, 4, none⟩ = some (.slice none 0 0) := by rw [Lib.cell_of_heap hRz]; rfl
              have z5 : wr.cell? ⟨w.heap.size, 5, none⟩ = some (.slice none 0 0) := by rw [Lib.cell_of_heap hRz]; rfl
              have y0 : wr.frozen? ⟨w.heap.size, 0, none⟩ = false := Lib.frozen_of_heap hRz 0
              have y1 : wr.frozen? ⟨w.heap.size, 1, none⟩ = false := Lib.frozen_of_heap hRz 1
              have y2 : wr.frozen? ⟨w.heap.size, 2, none⟩ = false := Lib.frozen_of_heap hRz 2
              have y3 : wr.frozen? ⟨w.heap.size, 3, none⟩ = false := Lib.frozen_of_heap hRz 3
              have y4 : wr.frozen? ⟨w.heap.size, 4, none⟩ = false := Lib.frozen_of_heap hRz 4
              have y5 : wr.frozen? ⟨w.heap.size, 5, none⟩ = false := Lib.frozen_of_heap hRz 5
              obtain ⟨ap, cpp, rfl⟩ : ∃ ap c, pv = .slice ap 1 c := by
                rcases P14.parts.2 with ⟨_, h0⟩ | ⟨g, cap, cur, hv, _⟩
                · cases h0
                · exact ⟨_, _, hv⟩
              have hfin := hS14.fill6 (.string title) (.bool false) (.slice ap 1 cpp) (.slice none 0 0) (.slice none 0 0) (.slice al 1 cl) hRz (by decide) (by decide)
              have awf := fill6_away P14.aw (Nat.le_refl _) (.string title) (.bool false) (.slice ap 1 cpp) (.slice none 0 0) (.slice none 0 0) (.slice al 1 cl)
              have hRf := fill6_self (.string title) (.bool false) (.slice ap 1 cpp) (.slice none 0 0) (.slice none 0 0) (.slice al 1 cl) hRz
              have keepR : ∀ {T size k : Nat} {v : Value} {xs : List Value}, wr.ownsRow w.heap.size T size v k xs → T ≠ 29 → (fill6 wr w.heap.size (.string title) (.bool false) (.slice ap 1 cpp) (.slice none 0 0) (.slice none 0 0) (.slice al 1 cl)).ownsRow w.heap.size T size v k xs := fun {T size k v xs} hown hT =>
                own_step hown fun j hj => fill6_other wr w.heap.size _ _ _ _ _ _ j (fun e => own_ne hown hRz (by intro cs fr hc; injection hc with _ h2 _; exact hT h2.symm) (by rw [hj, e]))
              have f1 := keepR P14.parts (by decide)
              have f2 := keepR P14.staves (by decide)
              have f3 := keepR P14.last (by decide)
              clear keepR P14 hS14 hRz
              go_wp2
              refine bodyPost_ret (results_cell_row rfl _ _ w.heap.size 29 _ (0, 0) _ rfl hRf Tryz.underlying29 rfl Tryz.sizeScore) rfl ?_
              exact ⟨awf, _, _, _, rfl, f1, f2, f3, _, hfin⟩
end
end Go.Proofs.YtaimdnddmddbnaaGreatDoor
