/-
  A part of the proof that the law ParserSheets (chapter 19) returns true for every sheet: walks of the program's functions, and runs of them in the kernel by the own evaluator.
-/
import Derived.Test.YtjnkppneilmpbaaGreatDoorMeo
import Derived.Test.YtjnkppneilmpbaaGreatDoorSrt
import Derived.Test.YtjnkppneilmpbaaGreatDoorSho
import Derived.Great.Walk
import Derived.Deep.Cut
namespace Go.Proofs.YtjnkppneilmpbaaGreatDoor
open Go.RowKit

def scoreS : ByteArray := ⟨#[115, 99, 111, 114, 101]⟩
def writtenS : ByteArray := ⟨#[119, 114, 105, 116, 116, 101, 110]⟩
def lastS : ByteArray := ⟨#[108, 97, 115, 116]⟩
def partS : ByteArray := ⟨#[112, 97, 114, 116]⟩
theorem _root_.Go.World.ownsRow.lower {w : World} {B B' : Nat} {e : TypeId} {size : Nat} {v : Value} {n : Nat} {xs : List Value} (h : w.ownsRow B' e size v n xs) (hB : B ≤ B') : w.ownsRow B e size v n xs := by
  refine ⟨h.1, ?_⟩
  rcases h.2 with hn | ⟨g, cap, cur, rfl, hg, rest⟩
  · exact .inl hn
  · exact .inr ⟨g, cap, cur, rfl, Nat.le_trans hB hg, rest⟩
/-- A slice literal that is told. -/
theorem wpList_slice_l {P : Program} {ops : Array Oper} {rest : List Oper} {o : Oper} {a : Act} {w : World} {Q : Exit → Act → World → Prop} (hg : o.guard = none) (t e : TypeId) (len : Nat) (parts : Array (Nat × Operand)) (ho : o.op = .buildSlice t len parts)
    (N : Nat) (hN : w.heap.size = N) (hu : P.underlying t = some (.slice e)) (cells : Array Value) {l : List (Nat × Value)} (hl : (parts.map fun (i, x) => (i, a.eval x)).toList = l)
    (hf : P.builtSlice e len l = some cells) (h : wpList P ops Q rest (a.put o.dst (.slice (some ⟨N, 0, none⟩) len len)) (w.alloc (.cells cells e))) : wpList P ops Q (o :: rest) a w := by
  subst hl
  exact Great.wpList_buildSliceTo hg t e len parts ho N hN _ rfl hu cells hf h
theorem meas_slice (i k : Int) (ao : Option Addr) (n c : Nat) : Tryz.prog.builtSlice 56 1 [(0, .agg (measArr i k (.slice ao n c)))] = some (measArr i k (.slice ao n c)) := by kernel_rfl

section
variable {Y M : Nat} {tv : Value} {toks : List Tok} {pos : Nat} {line col : Int} {w : World} {t : Tok}

set_option maxHeartbeats 4000000 in
set_option maxRecDepth 100000 in
theorem end_ok {free : Bool} {ls ln : Int} {es : Array MapEntry} {clk : Nat} (h : Prs Y M tv toks pos line col 0 free ls ln es clk w) (ht : toks[pos]? = some t) (hk : t.kind = 0) :
    Calls Tryz.prog 35 #[.pointer (some ⟨Y, 0, none⟩)] w fun r w' => r = .returned (.tuple #[]) ∧ Below w.heap.size w w' := by
  have hp := peek_ok h ht
  clear h ht
  rw [hk] at hp
  have hfd := field0_run 0 (.string t.text) (.int .i64 t.value) (.string t.bytes) (.int .i64 t.line) (.int .i64 t.col) (.bool t.joined)
  go_enter Tryz.func35, Tryz.ntmps35
  go_wp2_with (go_at_call 33; refine hp.mono ?_)
  intro r w1; first | (intro he b1; subst he) | rintro ⟨rfl, b1⟩
  go_wp2
  go_end0
  exact ⟨rfl, b1⟩

set_option maxHeartbeats 32000000 in
set_option maxRecDepth 100000 in
theorem score_ok (h : Prs Y M tv toks 0 line col 0 false 0 0 #[] 0 w) {t0 t1 t2 te : Tok} (ht0 : toks[0]? = some t0) (k0 : IsTok t0 scoreS = true) (ht1 : toks[1]? = some t1) (k1 : t1.kind = 3) (ht2 : toks[2]? = some t2) (k2p : IsTok t2 partS = true)
    {q0 posE : Nat} {l : List (List (Option UInt8) × Int)} (hl : l.length ≤ 1000) (_hq0 : q0 ≤ 900000)
    (hpart : ∀ w', Prs Y M tv toks 3 line col 0 false 0 (0 : Nat) (esOf 0) (clkOf 0) w' → Calls Tryz.prog 30 #[.pointer (some ⟨Y, 0, none⟩)] w' fun r w'' => Away [Y, M] w' w'' ∧ ∃ ao cp, r = .returned (.agg #[.int .i64 0, .int .i64 1, .string ByteArray.empty, .int .i64 0, .int .i64 0, .slice ao 1 cp]) ∧ w''.ownsRow w'.heap.size 44 3 (.slice ao 1 cp) 1 [.int .i64 0, .int .i64 2, .int .i64 1] ∧
      Prs Y M tv toks q0 line col 0 false 0 (2 : Nat) (esOf 2) (clkOf 2) w'')
    {tp : Tok} (htp : toks[q0]? = some tp) (kp : IsTok tp partS = false) (hm : Meass toks q0 2 0 l posE) (hte : toks[posE]? = some te) (ke : te.kind = 0) (kx : te.text = ByteArray.empty) (htot : total 2 l ≤ 100000) :
    Calls Tryz.prog 12 #[.pointer (some ⟨Y, 0, none⟩)] w fun r w' => Away [Y, M] w w' ∧ ∃ v, r = .returned v ∧ ScoreIs w' t1.bytes l v ∧ ∃ (pos : Nat) (es : Array MapEntry) (clk : Nat) (ls ln : Int), Prs Y M tv toks pos line col 0 false ls ln es clk w' := by
  obtain ⟨title, hti⟩ : ∃ title, t1.bytes = title := ⟨_, rfl⟩
  rw [hti]
  have lY := h.lt
  have lM := h.ltM
  have hb0 := ((Below.refl w.heap.size w).alloc (Nat.le_refl _) zScore).alloc (by simp) zScore
  have hS0 := h.step hb0
  have P0 : ScAt w.heap.size (w.heap.size + 1) Y M ByteArray.empty (.slice none 0 0) (.slice none 0 0) (.slice none 0 0) 0 [] [] 0 [] (.slice none 0 0) 0 [] w ((w.alloc zScore).alloc zScore) := by
    refine ⟨?_, (Lib.alloc_old _ _ _ (by simp)).trans (heap_alloc_new w _), World.ownsRow_nil _ _ _ _, World.ownsRow_nil _ _ _ _, ⟨[], World.ownsRow_nil _ _ _ _, trivial⟩, World.ownsRow_nil _ _ _ _, Away.of_below hb0, Nat.le_refl _, Nat.lt_succ_self _, by simp; omega, by simp; omega⟩
    have := heap_alloc_new (w.alloc zScore) zScore
    simpa [zScore] using this
  have x1 := expect_yes hS0 ht0 scoreS k0 (by omega)
  go_enter Tryz.func12, Tryz.ntmps12
  go_wp2_with (go_at_call 25; refine x1.mono ?_)
  intro r w1; first | (intro he hS1 b1; subst he) | rintro ⟨rfl, hS1, b1⟩
  have P1 := P0.away1 hS0 b1
  generalize hXe : w.heap.size + 1 = X at P1 ⊢
  clear P0 hS0 hb0 x1 b1 h
  have x2 := str_ok hS1 ht1 k1 (by omega)
  rw [hti] at x2
  go_wp2_with (go_at_call 26; refine x2.mono ?_)
  intro r w2; first | (intro he hS2 b2; subst he) | rintro ⟨rfl, hS2, b2⟩
  have P2 := P1.away1 hS1 b2
  clear P1 hS1 b2 x2
  clear hti
  have c0 := P2.c0
  have f0 := P2.f 0
  have hS2' := hS2.elsewhere P2.hX (by decide) (by decide) 0 (.string title)
  have P2' := P2.setTitle title
  have x3 := accept_no hS2' ht2 writtenS (isTok_other k2p (by decide))
  go_wp2_with (go_at_call 27; refine x3.mono ?_)
  intro r w3; first | (intro he b3; subst he) | rintro ⟨rfl, b3⟩
  have hS3 := hS2'.step b3
  have P3 := P2'.step b3
  clear P2 P2' hS2 hS2' x3 b3 c0 f0
  have c1 := P3.c1
  have f1 := P3.f 1
  have hS3' := hS3.elsewhere P3.hX (by decide) (by decide) 1 (.bool false)
  have P3' := P3.setWritten
  have x4 := accept_no hS3' ht2 lastS (isTok_other k2p (by decide))
  go_wp2_with (go_at_call 27; refine x4.mono ?_)
  intro r w4; first | (intro he b4; subst he) | rintro ⟨rfl, b4⟩
  have hS4 := hS3'.step b4
  have P4 := P3'.step b4
  clear P3 P3' hS3 hS3' x4 b4 c1 f1
  go_wp2
  have hE : ∀ (tx : ByteArray), te.kind = 0 → IsTok te tx = false := fun tx hk => by simp [IsTok, hk]
  obtain ⟨i0, hi0, hz0, hz1, hz2⟩ := info_parts Tryz.infoPart
  go_loopg [51] 1 (fun g v wr => (g = 1 ∧ wr = w4) ∨ (g = 0 ∧ ∃ pv ao cp, ScAt w.heap.size X Y M title pv (.slice none 0 0) (.slice none 0 0) 1 [.int .i64 0, .int .i64 1, .string ByteArray.empty, .int .i64 0, .int .i64 0, .slice ao 1 cp] [] 0 [] (.slice ao 1 cp) 1 [.int .i64 0, .int .i64 2, .int .i64 1] w wr ∧ Prs Y M tv toks q0 line col 0 false 0 (2 : Nat) (esOf 2) (clkOf 2) wr))
  case atStart => exact .inl ⟨rfl, rfl⟩
  case round =>
    rcases hrel with ⟨rfl, rfl⟩ | ⟨rfl, pv, ao, cp, P5, hS5⟩
    · have x5 := accept_yes hS4 ht2 partS k2p (by omega)
      go_wp2_with (go_at_call 27; refine x5.mono ?_)
      intro r w5; first | (intro he hS5 b5; subst he) | rintro ⟨rfl, hS5, b5⟩
      have P5 := P4.away1 hS4 b5
      clear P4 hS4 x5 b5
      go_wp2
      have hP5 := hpart _ (hS5.step (Below.refl _ w5).drew)
      have hS5d := hS5.step (Below.refl _ w5).drew
      have hst6 : ∀ w6 : World, Away [Y, M] w5.drew w6 → ScAt w.heap.size X Y M title (.slice none 0 0) (.slice none 0 0) (.slice none 0 0) 0 [] [] 0 [] (.slice none 0 0) 0 [] w w6 := fun w6 ha => (P5.step (Below.refl _ w5).drew).away hS5d ha
      have hww := P5.aw.size
      have d2 := P5.c2
      go_region_law ((first
        | (go_simp; go_at_call 30; refine hP5.mono ?_; rintro r w6 ⟨ha6, ao, cp, rfl, hst, hS6⟩; have P6a := hst6 _ ha6; have P6 := P6a.withStaves (hst.lower hww); have parts6 := P6.parts; have sz6 := P6.aw.size; have d2 := P6.c2; have lx6 := P6.ltX; have nx6 := World.new_ne w6 _ d2)
        | (refine step_append_lies _ (by rfl) _ _ _ (by rfl) w.heap.size 49 i0 _ 6 72 Tryz.underlying27 hi0 hz0 hz1 hz2 rfl (by omega) (.slice none 0 0) 0 [] (by rfl) (World.ownsRow.alloc parts6 _) ⟨w6.heap.size, 0, none⟩ 1 1 [.int .i64 0, .int .i64 1, .string ByteArray.empty, .int .i64 0, .int .i64 0, .slice ao 1 cp] (by rfl) (by rfl) (World.news_of_block (cs := #[.int .i64 0, .int .i64 1, .string ByteArray.empty, .int .i64 0, .int .i64 0, .slice ao 1 cp]) (t := 49) (fr := (0, 0)) (heap_alloc_new _ _)) (by simp [Value.oneCell']) (by omega) (by simp only [maxLen]; omega) (by omega) (by simp; omega) (w6.heap.size + 1) (by simp) ?_; intro gg cap w7 hown1 hgrow hat hgl; obtain ⟨P7, hS7, hX7⟩ := P6.addPart hS6 hgrow hown1; have d2 := Lib.cell_of_heap hX7 2; have g2 := Lib.frozen_of_heap hX7 2; simp only [List.getElem?_toArray, List.getElem?_cons_succ, List.getElem?_cons_zero] at d2)))
      all_goals (as_aux_lemma =>
        go_wp2
        go_roundg 0
        all_goals first
          | exact Nat.zero_lt_one
          | exact .inr ⟨rfl, _, ao, cp, P7, hS7⟩)
    · have x6 := accept_no hS5 htp partS kp
      go_wp2_with (go_at_call 27; refine x6.mono ?_)
      intro r w6; first | (intro he b6; subst he) | rintro ⟨rfl, b6⟩
      have P6 := P5.step b6
      have hS6 := hS5.step b6
      clear P5 hS5 x6 b6 hpart P4 hS4
      go_upto_region 12 with fail
      refine wp_region_lit (meas_ops rfl rfl rfl rfl rfl rfl rfl rfl rfl rfl rfl rfl (Nat.le_of_ble_eq_true rfl) ?_)
      intro v1 v2
      have bm := (Below.refl _ w6).alloc (Nat.le_refl _) (.cells measCells 56)
      have hB7 : (w6.alloc (.cells measCells 56)).heap[w6.heap.size]? = some (.cells (measArr 0 0 (.slice none 0 0)) 56 (0, 0)) := heap_alloc_new w6 _
      have hS7 := hS6.step bm
      have P7 := P6.step bm
      have lB6 : w.heap.size ≤ w6.heap.size := P6.aw.size
      have lX6 := P6.ltX
      have lY6 := hS6.lt
      have lM6 := hS6.ltM
      generalize w6.alloc (.cells measCells 56) = w7 at hS7 P7 hB7 ⊢
      clear P6 hS6 bm
      generalize w6.heap.size = Bm at hB7 lB6 lX6 lY6 lM6 ⊢
      simp only [Act.put, List.setIfInBounds_toArray, List.set_cons_succ, List.set_cons_zero]
      go_wp2
      obtain ⟨im, hm0, hy0, hy1, hy2⟩ := info_parts Tryz.infoMeas
      go_loopg [64] (l.length + 1) (fun g v wr => ∃ (a b : List (List (Option UInt8) × Int)) (q : Nat) (kq iq : Int) (mv : Value) (ab : Option Addr) (nb cb : Nat), a ++ b = l ∧ g = b.length + 1 ∧ mv.ownBlock ≠ some Bm ∧ Meass toks q (total 2 a) kq b posE ∧ wr.heap[Bm]? = some (.cells (measArr iq kq (.slice ab nb cb)) 56 (0, 0)) ∧
        ScAt w.heap.size X Y M title pv mv (.slice none 0 0) 1 [.int .i64 0, .int .i64 1, .string ByteArray.empty, .int .i64 0, .int .i64 0, .slice ao 1 cp] a 0 [] (.slice ao 1 cp) 1 [.int .i64 0, .int .i64 2, .int .i64 1] w wr ∧ Prs Y M tv toks q line col 0 false 0 (total 2 a : Nat) (esOf (total 2 a)) (clkOf (total 2 a)) wr)
      case atStart => exact ⟨[], l, q0, 0, 0, _, none, 0, 0, rfl, rfl, by simp [Value.ownBlock], hm, hB7, P7, hS7⟩
      case round =>
        clear hB7 P7 hS7 hm
        obtain ⟨a, b, q, kq, iq, mv, ab, nb, cb, hab, hg, hne, hmq, hB8, P8, hS8⟩ := hrel
        cases hmq with
        | nil =>
          rw [List.append_nil] at hab
          subst hab
          have hT2 := total_le a 2
          have heq : esOf (total 2 a) = entry 0 (total 2 a : Nat) 0 := by unfold esOf; rw [if_neg (by omega)]
          have hck : clkOf (total 2 a) = 1 := by unfold clkOf; rw [if_neg (by omega)]
          rw [heq, hck] at hS8
          clear heq hck
          generalize hTe : total 2 a = T at hS8 hT2
          have x7 := accept_no hS8 hte measureS (hE _ ke)
          go_wp2_with (go_at_call 27; refine x7.mono ?_)
          intro r w9; first | (intro he b9; subst he) | rintro ⟨rfl, b9⟩
          have P9 := P8.step b9
          have hS9 := hS8.step b9
          clear P8 hS8 x7 b9 hB8 hne
          go_wp2
          go_loopg [74] 0 (fun g v wr => wr = w9)
          case atStart => rfl
          case round =>
            obtain rfl := hrel
            have kd := kinds_walk wr.drew
            have bk := (Below.refl _ wr).drew.alloc (Nat.le_refl _) (.map (kEs 7) 7)
            have hS10 := hS9.step bk
            have P10 := P9.step bk
            have hQ := heap_alloc_new wr.drew (.map (kEs 7) 7)
            have pk := peek_ok hS10 hte
            rw [ke, kx] at pk
            have hfd := field1_run (.int .i64 0) ByteArray.empty (.int .i64 te.value) (.string te.bytes) (.int .i64 te.line) (.int .i64 te.col) (.bool te.joined)
            have hlk : ∀ w' : World, Below (wr.drew.alloc (.map (kEs 7) 7)).heap.size (wr.drew.alloc (.map (kEs 7) 7)) w' → (Instr.lookup 108 (.map (some wr.heap.size)) (.string ByteArray.empty) true).run Tryz.prog w' = .ok (.tuple #[.int .i64 0, .bool false]) w' := fun w' b => look_str_no ((b.block _ (Array.getElem?_eq_some_iff.1 hQ).1).trans hQ) ByteArray.empty rfl
            go_wp2
            go_region_held3 (fun _ => True) (trivial) (first
              | (go_at_call 32; refine kd.mono ?_; rintro r wk ⟨rfl, rfl⟩)
              | (go_at_call 33; refine pk.mono ?_; rintro r w11 ⟨rfl, b11⟩; have hl11 := hlk _ b11))
            have P11 := P10.step b11
            have hS11 := hS10.step b11
            clear P9 hS9 P10 hS10 kd bk hQ pk hfd hlk b11 hl11
            have pk2 := peek_ok hS11 hte
            rw [ke, kx] at pk2
            have hfd0 := field0_run 0 (.string ByteArray.empty) (.int .i64 te.value) (.string te.bytes) (.int .i64 te.line) (.int .i64 te.col) (.bool te.joined)
            go_wp2_with (go_at_call 33; refine pk2.mono ?_)
            intro r w12; first | (intro he b12; subst he) | rintro ⟨rfl, b12⟩
            have P12 := P11.step b12
            have hS12 := hS11.step b12
            clear P11 hS11 pk2 b12
            have en := end_ok hS12 hte ke
            go_wp2_with (go_at_call 35; refine en.mono ?_)
            intro r w13; first | (intro he b13; subst he) | rintro ⟨rfl, b13⟩
            have P13 := P12.step b13
            have hS13 := hS12.step b13
            clear P12 hS12 en b13 hfd0
            have e8 := hS13.c8
            have ky := keys_walk M w13
            have bB := (Below.refl w13.heap.size w13).alloc (Nat.le_refl _) (.cells #[.map (some M)] 94)
            have hBx := heap_alloc_new w13 (.cells #[.map (some M)] 94)
            have hSb := hS13.step bB
            have Pb := P13.step bB
            have st := sorted_walk 0 (T : Nat) w13.heap.size M (by have := hS13.ltM; omega) (w13.alloc (.cells #[.map (some M)] 94)) hBx hSb.map
            go_wp2_with (first
              | (go_at_call 37; refine ky.mono ?_; rintro r w' ⟨rfl, rfl⟩)
              | (go_at_call 36; refine st.mono ?_))
            rintro r w14 ⟨⟨G, off, cap, rfl, hG⟩, b14⟩
            have P14 := Pb.step b14
            have hS14 := hSb.step b14
            clear P13 hS13 ky bB hBx hSb Pb st b14 e8
            obtain ⟨j0, hj0, hk0, hk1, hk2⟩ := info_parts Tryz.infoId
            go_wp2
            go_loopg [138] 1 (fun g v wr => (g = 1 ∧ v = .int .i64 0 ∧ wr = w14) ∨ (g = 0 ∧ v = .int .i64 1 ∧ ∃ al cl, ScAt w.heap.size X Y M title pv mv (.slice al 1 cl) 1 [.int .i64 0, .int .i64 1, .string ByteArray.empty, .int .i64 0, .int .i64 0, .slice ao 1 cp] a 1 [.int .i64 0, .int .i64 (T : Nat)] (.slice ao 1 cp) 1 [.int .i64 0, .int .i64 2, .int .i64 1] w wr ∧ Prs Y M tv toks posE line col 0 false 0 (T : Nat) (entry 0 (T : Nat) 0) 1 wr))
            case atStart => exact .inl ⟨rfl, rfl, rfl⟩
            case round =>
              rcases hrel with ⟨rfl, rfl, rfl⟩ | ⟨rfl, rfl, al, cl, P15, hS15⟩
              · have P14d := P14.step (Below.refl _ wr).drew
                have hS14d := hS14.step (Below.refl _ wr).drew
                have hlk2 := look_one (k := 0) (b := (T : Nat)) hS14d.map
                have last14 := P14.last
                have sz14 := P14.aw.size
                have d5 := P14.c5
                have d8 := hS14.c8
                have lx := P14.ltX
                have ly := hS14.lt
                have nx := World.new_ne wr _ d5
                have ny := World.new_ne wr _ d8
                go_wp2
                go_region_law ((refine step_append_lies _ (by rfl) _ _ _ (by rfl) w.heap.size 42 j0 _ 2 16 Tryz.underlying30 hj0 hk0 hk1 hk2 rfl (by omega) (.slice none 0 0) 0 [] (by rfl) (World.ownsRow.alloc (w := wr.drew) last14 _) ⟨wr.heap.size, 0, none⟩ 1 1 [.int .i64 0, .int .i64 (T : Nat)] (by rfl) (by rfl) (World.news_of_block (cs := #[.int .i64 0, .int .i64 (T : Nat)]) (t := 42) (fr := (0, 0)) (heap_alloc_new _ _)) (by simp [Value.oneCell']) (by omega) (by simp only [maxLen]; omega) (by omega) (by simp; omega) (wr.heap.size + 1) (by simp) ?_; intro gg cap2 w15 hown1 hgrow hat hgl; obtain ⟨P15, hS15, hX15⟩ := P14d.addLast hS14d hgrow hown1; have d5' := Lib.cell_of_heap hX15 5; have g5' := Lib.frozen_of_heap hX15 5; simp only [List.getElem?_toArray, List.getElem?_cons_succ, List.getElem?_cons_zero] at d5'))
                all_goals (as_aux_lemma =>
                  go_wp2
                  go_roundg 0
                  all_goals first
                    | exact Nat.zero_lt_one
                    | exact .inr ⟨rfl, rfl, _, _, P15, hS15⟩)
              · have q0 := P15.c0
                have q1 := P15.c1
                have q2 := P15.c2
                have q3 := P15.c3
                have q4 := P15.c4
                have q5 := P15.c5
                have hRz : wr.heap[w.heap.size]? = some (.cells #[.string ByteArray.empty, .bool false, .slice none 0 0, .slice none 0 0, .slice none 0 0, .slice none 0 0] 32 (0, 0)) := P15.hR
                have z0 : wr.cell? ⟨w.heap.size, 0, none⟩ = some (.string ByteArray.empty) := by rw [Lib.cell_of_heap hRz]; rfl
                have z1 : wr.cell? ⟨w.heap.size, 1, none⟩ = some (.bool false) := by rw [Lib.cell_of_heap hRz]; rfl
                have z2 : wr.cell? ⟨w.heap.size, 2, none⟩ = some (.slice none 0 0) := by rw [Lib.cell_of_heap hRz]; rfl
                have z3 : wr.cell? ⟨w.heap.size, 3, none⟩ = some (.slice none 0 0) := by rw [Lib.cell_of_heap hRz]; rfl
                have z4 : wr.cell? ⟨w.heap.size, 4, none⟩ = some (.slice none 0 0) := by rw [Lib.cell_of_heap hRz]; rfl
                have z5 : wr.cell? ⟨w.heap.size, 5, none⟩ = some (.slice none 0 0) := by rw [Lib.cell_of_heap hRz]; rfl
                have y0 : wr.frozen? ⟨w.heap.size, 0, none⟩ = false := Lib.frozen_of_heap hRz 0
                have y1 : wr.frozen? ⟨w.heap.size, 1, none⟩ = false := Lib.frozen_of_heap hRz 1
                have y2 : wr.frozen? ⟨w.heap.size, 2, none⟩ = false := Lib.frozen_of_heap hRz 2
                have y3 : wr.frozen? ⟨w.heap.size, 3, none⟩ = false := Lib.frozen_of_heap hRz 3
                have y4 : wr.frozen? ⟨w.heap.size, 4, none⟩ = false := Lib.frozen_of_heap hRz 4
                have y5 : wr.frozen? ⟨w.heap.size, 5, none⟩ = false := Lib.frozen_of_heap hRz 5
                obtain ⟨rs, hown, hms⟩ := P15.ms
                obtain ⟨mo, mc, rfl⟩ := own_is hown
                obtain ⟨ap, cpp, rfl⟩ := own_is P15.parts
                have hfin := hS15.fill6 (.string title) (.bool false) (.slice ap 1 cpp) (.slice mo a.length mc) (.slice none 0 0) (.slice al 1 cl) hRz (by decide) (by decide)
                have awf := fill6_away P15.aw (Nat.le_refl _) (.string title) (.bool false) (.slice ap 1 cpp) (.slice mo a.length mc) (.slice none 0 0) (.slice al 1 cl)
                have hRf := fill6_self (.string title) (.bool false) (.slice ap 1 cpp) (.slice mo a.length mc) (.slice none 0 0) (.slice al 1 cl) hRz
                have sm : Same [42, 44, 49, 56, 60, 67, 71, 75] wr (fill6 wr w.heap.size (.string title) (.bool false) (.slice ap 1 cpp) (.slice mo a.length mc) (.slice none 0 0) (.slice al 1 cl)) := fun j cs U fr hm h =>
                  (fill6_other wr w.heap.size _ _ _ _ _ _ j (by
                    rintro rfl
                    rw [hRz] at h
                    injection h with h
                    injection h with _ h2 _
                    exact absurd (h2 ▸ hm) (by decide))).trans h
                have hScore : ScoreIs (fill6 wr w.heap.size (.string title) (.bool false) (.slice ap 1 cpp) (.slice mo a.length mc) (.slice none 0 0) (.slice al 1 cl)) title a (.agg #[.string title, .bool false, .slice ap 1 cpp, .slice mo a.length mc, .slice none 0 0, .slice al 1 cl]) :=
                  ⟨_, _, _, _, rs, rfl, (sm.own (by simp) P15.parts).mono (Nat.zero_le _), (sm.own (by simp) P15.staves).mono (Nat.zero_le _), (sm.own (by simp) hown).mono (Nat.zero_le _), hms.same (sm.less (by simp)), by rw [hTe]; exact (sm.own (by simp) P15.last).mono (Nat.zero_le _)⟩
                clear sm hown hms P15 hS15 hRz hTe
                go_wp2
                refine bodyPost_ret (results_cell_row rfl _ _ w.heap.size 32 _ (0, 0) _ rfl hRf Tryz.underlying32 rfl Tryz.sizeScore) rfl ?_
                exact ⟨awf, _, rfl, hScore, _, _, _, _, _, hfin⟩
        | @cons _ k N kl pos' posE k0 k1 ns l' tm tb tc tz htm km hI hpos hN hK hn htb kb hi ht0 hc0 ht kt kt4 hpos' hrest =>
          have x8 := accept_yes hS8 htm measureS km (by omega)
          go_wp2_with (go_at_call 27; refine x8.mono ?_)
          intro r w9; first | (intro he hS9 b9; subst he) | rintro ⟨rfl, hS9, b9⟩
          have P9 := P8.away1 hS8 b9
          have hB9 := b9.heap hB8 (by simp; omega)
          clear P8 hS8 x8 b9 hB8
          have xm := measure_walk hI hpos hN hK iq ab nb cb hn htb kb hi ht0 hc0 ht kt kt4 hpos' hS9
          have hz56 : (Tryz.prog.info? 56).map (·.size) = some (measArr iq kq (.slice ab nb cb)).size := Tryz.szq56
          have hs56 : (measArr iq kq (.slice ab nb cb)).size = 22 := rfl
          generalize measArr iq kq (.slice ab nb cb) = mq at xm hB9 hz56 hs56
          go_wp2_with (first
            | (refine wpList_load_row rfl 56 _ rfl Bm rfl 56 mq (0, 0) _ hB9 Tryz.underlying56 rfl hz56 ?_)
            | (go_at_call 31; refine xm.mono ?_))
          rintro r w10 ⟨m, rfl, hM10, hS10, ha10⟩
          have P10 := P9.away hS9 ha10
          have hB10 := ha10.heap hB9 (by simp; omega)
          clear P9 hS9 hB9 ha10 xm hI hK htb kb hi ht0 hc0 ht kt kt4 htm km
          have hform := hM10.form
          have hzm : (Tryz.prog.info? 56).map (·.size) = some m.size := by rw [hform.1]; exact Tryz.szq56
          have hbs : Tryz.prog.builtSlice 56 1 [(0, .agg m)] = some m := by
            obtain ⟨im1, ao1, n1, c1, rfl⟩ := hM10.shape
            exact meas_slice _ _ _ _ _
          have hsq : mq.size = m.size := by rw [hs56, hform.1]
          have P11 := P10.setB hB10 hne (by omega) m
          have hS11 := hS10.setRow hB10 (by decide) (by decide) m
          have hB11 := setRow_heap w10 Bm mq m 56 (0, 0) hB10
          have hM11 := hM10.same (Same.of_setRow hB10 (by decide) m)
          have hszw : (w10.setRow Bm m).heap.size = w10.heap.size := by simp [World.setRow]
          go_upto_region 15 with (refine wpList_store_row rfl 56 _ _ rfl Bm m rfl rfl 56 mq hB10 hzm hsq hform.2 ?_)
          clear hB10 hS10 P10 hM10 hsq hs56 hz56
          generalize w10.setRow Bm m = w11 at P11 hS11 hB11 hM11 hszw ⊢
          obtain ⟨rs, hown, hms⟩ := P11.ms
          obtain ⟨mo, mc, rfl⟩ := own_is hown
          have d3 := P11.c3
          have lX11 := P11.ltX
          have nx11 := World.new_ne w11 _ d3
          have sz11 := P11.aw.size
          have lB11 := (Array.getElem?_eq_some_iff.1 hB11).1
          have hla : a.length + (1 + l'.length) = l.length := by rw [← hab]; simp; omega
          go_wp2_with (first
            | (refine wpList_load_row rfl 56 _ rfl Bm rfl 56 m (0, 0) _ hB11 Tryz.underlying56 rfl hzm ?_)
            | (refine wpList_slice_l rfl 28 56 1 _ rfl w11.heap.size rfl Tryz.underlying28 m (l := [(0, .agg m)]) (by simp [Act.eval, Act.put]) hbs ?_)
            | (at_builtin; refine wpList_append_lies _ rfl _ _ 28 rfl w.heap.size 56 im _ 22 216 Tryz.underlying28 hm0 hy0 hy1 hy2 rfl (by omega) (.slice mo a.length mc) a.length (rs.flatMap (·.toList)) rfl (hown.alloc _) ⟨w11.heap.size, 0, none⟩ 1 1 m.toList rfl (by rw [Array.length_toList, hform.1]) (World.news_of_block (heap_alloc_new _ _)) (by intro u hu; exact Array.all_eq_true'.1 hform.2 u (by simpa using hu)) (by omega) (by unfold maxLen; omega) (by omega) (by simp; omega) (w11.heap.size + 1) (by simp) ?_; intro gg cap w12 hown1 hgrow hat hgl; obtain ⟨P12, hS12, hX12⟩ := P11.addMeas hS11 hms hM11 hgrow hown hown1; have d3 := Lib.cell_of_heap hX12 3; have g3 := Lib.frozen_of_heap hX12 3; simp only [List.getElem?_toArray, List.getElem?_cons_succ, List.getElem?_cons_zero] at d3))
          have hB12 : w12.heap[Bm]? = some (.cells m 56 (0, 0)) := (hgrow.block Bm (by simp; omega) (fun e => hne e.symm)).trans (alloc_keep _ hB11)
          have hB13 := (Below.heap_setCell w12 ⟨X, 3, none⟩ (.slice (some ⟨gg, 0, none⟩) (a.length + 1) cap) Bm (by show Bm ≠ X; omega)).trans hB12
          have hne' : (Value.slice (some ⟨gg, 0, none⟩) (a.length + 1) cap).ownBlock ≠ some Bm := by
            intro e
            obtain rfl : gg = Bm := by simpa [Value.ownBlock] using e
            rcases hat with h1 | h1
            · exact hne h1
            · omega
          obtain ⟨ix, ax, nx, cx, rfl⟩ := hM11.shape
          go_roundg (l'.length + 1)
          case measure => omega
          case rel => exact ⟨a ++ [(ns, k1)], l', pos' + 1, k1, ix, _, ax, nx, cx, by rw [List.append_assoc]; exact hab, rfl, hne', by rw [total_more]; exact hrest, hB13, P12, by rw [total_more]; exact hS12⟩
end
end Go.Proofs.YtjnkppneilmpbaaGreatDoor
