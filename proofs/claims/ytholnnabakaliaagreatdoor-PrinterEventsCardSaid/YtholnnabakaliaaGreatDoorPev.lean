/-
  A part of the proof that the law PrinterEvents (chapter 20) returns true for every event: walks of the program's functions, and runs of them in the kernel by the own evaluator.
-/
import Derived.Test.YtholnnabakaliaaGreatDoorLxt
import Derived.Test.YtholnnabakaliaaGreatDoorTxp
import Derived.Test.YtholnnabakaliaaGreatDoorEvt
namespace Go.Proofs.YtholnnabakaliaaGreatDoor
open Go.RowKit

theorem bodyL_len {x : EvV} (hx : EvOk x) : (bodyL x).length ≤ 1000 := by
  have hv := valueL_len hx.value
  have hj := joinL_len (l := x.heads.map headL) (m := 7) fun y hy => by
    obtain ⟨h, hm, rfl⟩ := List.mem_map.1 hy
    exact headL_len (hx.hok h hm)
  rw [List.length_map] at hj
  have h10 := hx.h10
  have ht : (headsTextL x.heads).length ≤ 90 := by
    unfold headsTextL
    split
    · omega
    · simp only [List.length_append, List.length_cons, List.length_nil]; omega
  unfold bodyL
  repeat' split
  all_goals simp only [List.length_append, List.length_cons, List.length_nil]
  all_goals omega

set_option maxHeartbeats 8000000 in
set_option maxRecDepth 100000 in
/-- printer.Event of any event: its text, or the error. -/
theorem pevent_walk (site num kd lg dt ar orn dy st be : Int) (ho go lo : Option Addr) (hn hc gn gc ln lc : Nat) (heads : List HeadV) (graces : List GraceV) (lyr : List SyllV) {b : Nat} (w : World) (T : Tabs b w)
    (hH : Holds3 ⟨site, num, kd, lg, dt, heads, graces, ar, orn, dy, lyr, st, be⟩ (.slice ho hn hc) (.slice go gn gc) (.slice lo ln lc) w)
    (s : ByteArray) (e : Int) (he : e = checkE ⟨site, num, kd, lg, dt, heads, graces, ar, orn, dy, lyr, st, be⟩) (hs : s = if e = 0 then mkB (textL ⟨site, num, kd, lg, dt, heads, graces, ar, orn, dy, lyr, st, be⟩) else ⟨#[]⟩) :
    Calls Tryz.prog 5 #[.agg #[.int .i64 site, .int .i64 num, .int .i64 kd, .int .i64 lg, .int .i64 dt, .slice ho hn hc, .slice go gn gc, .int .i64 ar, .int .i64 orn, .int .i64 dy, .slice lo ln lc, .int .i64 st, .int .i64 be]] w fun r w' => r = .returned (.tuple #[.string s, .int .i64 e]) ∧ Below w.heap.size w w' := by
  have b0 := (Below.refl w.heap.size w).alloc (Nat.le_refl _) (.cells #[.int .i64 site, .int .i64 num, .int .i64 kd, .int .i64 lg, .int .i64 dt, .slice ho hn hc, .slice go gn gc, .int .i64 ar, .int .i64 orn, .int .i64 dy, .slice lo ln lc, .int .i64 st, .int .i64 be] 30)
  have hB0 := heap_alloc_new w (.cells #[.int .i64 site, .int .i64 num, .int .i64 kd, .int .i64 lg, .int .i64 dt, .slice ho hn hc, .slice go gn gc, .int .i64 ar, .int .i64 orn, .int .i64 dy, .slice lo ln lc, .int .i64 st, .int .i64 be] 30)
  have hck := fun W (bW : Below w.heap.size w W) => check_walk site num kd lg dt ar orn dy st be ho go lo hn hc gn gc ln lc heads graces lyr W (hH.step bW)
  rw [← he] at hck
  have htx : e = 0 → ∀ W, Below w.heap.size w W → Calls Tryz.prog 11 #[.agg #[.int .i64 site, .int .i64 num, .int .i64 kd, .int .i64 lg, .int .i64 dt, .slice ho hn hc, .slice go gn gc, .int .i64 ar, .int .i64 orn, .int .i64 dy, .slice lo ln lc, .int .i64 st, .int .i64 be]] W fun r w' => r = .returned (.string s) ∧ Below W.heap.size W w' := fun h0 W bW => by
    have hx : EvOk ⟨site, num, kd, lg, dt, heads, graces, ar, orn, dy, lyr, st, be⟩ := EvOk.of (by rw [← he]; exact h0)
    rw [hs, if_pos h0]
    exact ptext_walk site num kd lg dt ar orn dy st be ho go lo hn hc gn gc ln lc heads graces lyr W (T.step bW) (hH.g.step bW) hx.g8 hx.gok (hH.l.step bW) hx.l4 hx.lok hx.ar0 hx.ar1 hx.o0 hx.o4 hx.d0 hx.d9 hx.s0 hx.s2 hx.b0 hx.b2 (bodyL_len hx)
      fun V bV => body_walk site num kd lg dt ar orn dy st be ho go lo hn hc gn gc ln lc heads graces lyr V (T.step (bW.trans (bV.mono bW.size))) (hH.h.step (bW.trans (bV.mono bW.size))) hx.value hx.kd hx.hp hx.h10 hx.hok
  have hs0 : e ≠ 0 → s = ⟨#[]⟩ := fun h0 => by rw [hs, if_neg h0]
  clear he hs hH
  by_cases h0 : e = 0
  · subst h0
    have htx' := htx rfl
    clear htx hs0
    go_enter Tryz.func5, Tryz.ntmps5
    go_wp2_with (go_at_call 6; (with_reducible refine (hck _ b0).mono ?_))
    intro r w2; first | (intro he b2; subst he) | rintro ⟨rfl, b2⟩
    have hB2 := (b2.block w.heap.size (Array.getElem?_eq_some_iff.1 hB0).1).trans hB0
    obtain ⟨k0, k1, k2, k3, k4, k5, k6, k7, k8, k9, k10, k11, k12⟩ := box13 hB2
    have bb2 := b0.trans (b2.mono b0.size)
    have ht := htx' w2 bb2
    clear hck htx' b2 b0
    go_wp2_with (go_at_call 11; (with_reducible refine ht.mono ?_))
    intro r w3; first | (intro he b3; subst he) | rintro ⟨rfl, b3⟩
    go_wp2
    refine bodyPost_ret (results_tmp2 rfl _ _ _) rfl ?_
    exact ⟨rfl, bb2.trans (b3.mono bb2.size)⟩
  · have h9 := hs0 h0
    subst h9
    clear htx hs0
    go_enter Tryz.func5, Tryz.ntmps5
    go_wp2_with (go_at_call 6; (with_reducible refine (hck _ b0).mono ?_))
    intro r w2; first | (intro he b2; subst he) | rintro ⟨rfl, b2⟩
    go_wp2
    refine bodyPost_ret (results_tmp2 rfl _ _ _) rfl ?_
    exact ⟨rfl, b0.trans (b2.mono b0.size)⟩
end Go.Proofs.YtholnnabakaliaaGreatDoor

namespace Go.Proofs.YtholnnabakaliaaGreatDoor
open Go.RowKit

theorem ownLo {w : World} {B B' : Nat} {e : TypeId} {size : Nat} {v : Value} {n : Nat} {xs : List Value} (h : w.ownsRow B' e size v n xs) (hB : B ≤ B') : w.ownsRow B e size v n xs := by
  refine ⟨h.1, ?_⟩
  rcases h.2 with hn | ⟨g, cap, cur, rfl, hg, rest⟩
  · exact .inl hn
  · exact .inr ⟨g, cap, cur, rfl, Nat.le_trans hB hg, rest⟩
theorem results_cell3 {P : Program} {fn : Func} {p t u v : Tmp} {ty : TypeId} (h : fn.results = #[.cell p ty, .tmp t, .tmp u, .tmp v]) (tmps : Array Value) (w : World) (g : Nat) (T : TypeId) (cs : Array Value) (fr : Nat × Nat) (d : TypeDesc)
    (hp : tmps.getD p undef = .pointer (some ⟨g, 0, none⟩)) (hg : w.heap[g]? = some (.cells cs T fr))
    (hu : P.underlying ty = some d) (hd : (match d with | .struct _ | .array _ _ => true | _ => false) = true) (hi : (P.info? ty).map (·.size) = some cs.size) :
    (results fn tmps).run P w = .ok (.tuple #[.agg cs, tmps.getD t undef, tmps.getD u undef, tmps.getD v undef]) w := by
  have hp' : tmps[p]?.getD undef = .pointer (some ⟨g, 0, none⟩) := by simpa using hp
  simp [results, h, hp', asAddr, run_loadVar_row w g T ty cs fr d hg hu hd hi, Result.andThen]

section
variable {Y M : Nat} {tv : Value} {toks : List Tok} {pos : Nat} {line col e : Int} {free : Bool} {ls ln : Int} {es : Array MapEntry} {clk : Nat} {w : World} {t : Tok}

theorem set4_self {w : World} {X : Nat} {cs : Array Value} {T : TypeId} (v0 v2 v3 v4 : Value) (h : w.heap[X]? = some (.cells cs T (0, 0))) :
    ((((w.setCell ⟨X, 0, none⟩ v0).setCell ⟨X, 2, none⟩ v2).setCell ⟨X, 3, none⟩ v3).setCell ⟨X, 4, none⟩ v4).heap[X]? = some (.cells ((((cs.setIfInBounds 0 v0).setIfInBounds 2 v2).setIfInBounds 3 v3).setIfInBounds 4 v4) T (0, 0)) :=
  Lib.heap_setCell_same (i := 4) (Lib.heap_setCell_same (i := 3) (Lib.heap_setCell_same (i := 2) (Lib.heap_setCell_same (i := 0) h v0) v2) v3) v4
theorem set4_other (w : World) (X : Nat) (v0 v2 v3 v4 : Value) (k : Nat) (hk : k ≠ X) : ((((w.setCell ⟨X, 0, none⟩ v0).setCell ⟨X, 2, none⟩ v2).setCell ⟨X, 3, none⟩ v3).setCell ⟨X, 4, none⟩ v4).heap[k]? = w.heap[k]? := by
  rw [Below.heap_setCell _ ⟨X, 4, none⟩ _ k hk, Below.heap_setCell _ ⟨X, 3, none⟩ _ k hk, Below.heap_setCell _ ⟨X, 2, none⟩ _ k hk, Below.heap_setCell _ ⟨X, 0, none⟩ _ k hk]

set_option maxHeartbeats 8000000 in
set_option maxRecDepth 100000 in
theorem open_ok {s : ByteArray} (hx : Lx (linesOf s s.size) s 0 0 toks none) (hsz : s.size ≤ 1048576) (hn : toks.length ≤ 262143) (w : World) :
    Calls Tryz.prog 21 #[.string s, .bool true] w fun r w' => r = .returned (.pointer (some ⟨w.heap.size + 1, 0, none⟩)) ∧ Below w.heap.size w w' ∧ ∃ tv, Prs (w.heap.size + 1) w.heap.size tv toks 0 0 0 0 true 0 0 #[] 0 w' := by
  have hmk : (Instr.makeMap 80 none).run Tryz.prog w = .ok (.map (some w.heap.size)) (w.alloc (.map #[] 0)) := by
    simp [Instr.makeMap, newObj, Sem.run]
  have b0 := ((Below.refl w.heap.size w).alloc (Nat.le_refl _) (.map #[] 0)).alloc (by simp) (.cells #[.slice none 0 0, .int .i64 0, .int .i64 0, .int .i64 0, .int .i64 0, .bool true, .int .i64 0, .int .i64 0, .map (some w.heap.size)] 85)
  have hM0 : ((w.alloc (.map #[] 0)).alloc (.cells #[.slice none 0 0, .int .i64 0, .int .i64 0, .int .i64 0, .int .i64 0, .bool true, .int .i64 0, .int .i64 0, .map (some w.heap.size)] 85)).heap[w.heap.size]? = some (.map #[] 0) := (Lib.alloc_old _ _ _ (by simp)).trans (heap_alloc_new w _)
  have hY0 : ((w.alloc (.map #[] 0)).alloc (.cells #[.slice none 0 0, .int .i64 0, .int .i64 0, .int .i64 0, .int .i64 0, .bool true, .int .i64 0, .int .i64 0, .map (some w.heap.size)] 85)).heap[w.heap.size + 1]? = some (.cells #[.slice none 0 0, .int .i64 0, .int .i64 0, .int .i64 0, .int .i64 0, .bool true, .int .i64 0, .int .i64 0, .map (some w.heap.size)] 85 (0, 0)) := by
    have := heap_alloc_new (w.alloc (.map #[] 0)) (.cells #[.slice none 0 0, .int .i64 0, .int .i64 0, .int .i64 0, .int .i64 0, .bool true, .int .i64 0, .int .i64 0, .map (some w.heap.size)] 85)
    simpa using this
  have sc := lexScan hx hsz (fun b h => by cases h) hn ((w.alloc (.map #[] 0)).alloc (.cells #[.slice none 0 0, .int .i64 0, .int .i64 0, .int .i64 0, .int .i64 0, .bool true, .int .i64 0, .int .i64 0, .map (some w.heap.size)] 85))
  go_enter Tryz.func21, Tryz.ntmps21
  go_wp2_with (go_at_call 45; refine sc.mono ?_)
  rintro r w1 ⟨b1, hcase⟩
  have hM1 := (b1.block _ (Array.getElem?_eq_some_iff.1 hM0).1).trans hM0
  have hY1 := (b1.block _ (Array.getElem?_eq_some_iff.1 hY0).1).trans hY0
  have bel := b0.trans (b1.mono (by simp; omega))
  generalize hMe : w.heap.size = M at hM1 hY1 bel ⊢
  clear b0 hM0 hY0 sc hmk
  have d0 : w1.cell? ⟨M + 1, 0, none⟩ = some (.slice none 0 0) := by rw [Lib.cell_of_heap hY1]; rfl
  have d2 : w1.cell? ⟨M + 1, 2, none⟩ = some (.int .i64 0) := by rw [Lib.cell_of_heap hY1]; rfl
  have d3 : w1.cell? ⟨M + 1, 3, none⟩ = some (.int .i64 0) := by rw [Lib.cell_of_heap hY1]; rfl
  have d4 : w1.cell? ⟨M + 1, 4, none⟩ = some (.int .i64 0) := by rw [Lib.cell_of_heap hY1]; rfl
  have f0 := Lib.frozen_of_heap hY1 0
  have f2 := Lib.frozen_of_heap hY1 2
  have f3 := Lib.frozen_of_heap hY1 3
  have f4 := Lib.frozen_of_heap hY1 4
  rcases hcase with ⟨-, lv, rfl, hown⟩ | ⟨b, l, c, hb, -⟩
  · obtain ⟨ao, cp, rfl⟩ := own_is hown
    go_wp2
    go_ret
    rw [hMe]
    refine ⟨rfl, (((bel.setCell (p := ⟨M + 1, 0, none⟩) (by show M ≤ M + 1; omega) _).setCell (p := ⟨M + 1, 2, none⟩) (by show M ≤ M + 1; omega) _).setCell (p := ⟨M + 1, 3, none⟩) (by show M ≤ M + 1; omega) _).setCell (p := ⟨M + 1, 4, none⟩) (by show M ≤ M + 1; omega) _, .slice ao toks.length cp, ?_, ?_, fun _ => ?_⟩
    · exact set4_self _ _ _ _ hY1
    · exact (set4_other w1 (M + 1) _ _ _ _ M (by omega)).trans hM1
    · have hne : (Value.slice ao toks.length cp).ownBlock ≠ some (M + 1) := own_ne hown hY1 (by intro cs fr hc; injection hc with _ h2 _; exact absurd h2 (by decide))
      exact own_step (ownLo hown (Nat.zero_le _)) fun k hk => set4_other w1 (M + 1) _ _ _ _ k (fun e => hne (by rw [hk, e]))
  · cases hb

set_option maxHeartbeats 4000000 in
set_option maxRecDepth 100000 in
theorem end_ok (h : Prs Y M tv toks pos line col 0 free ls ln es clk w) (ht : toks[pos]? = some t) (hk : t.kind = 0) :
    Calls Tryz.prog 23 #[.pointer (some ⟨Y, 0, none⟩)] w fun r w' => r = .returned (.tuple #[]) ∧ Below w.heap.size w w' := by
  have hp := peek_ok h ht
  clear h ht
  rw [hk] at hp
  have hfd := field0_run 0 (.string t.text) (.int .i64 t.value) (.string t.bytes) (.int .i64 t.line) (.int .i64 t.col) (.bool t.joined)
  go_enter Tryz.func23, Tryz.ntmps23
  go_wp2_with (go_at_call 56; refine hp.mono ?_)
  intro r w1; first | (intro he b1; subst he) | rintro ⟨rfl, b1⟩
  go_wp2
  go_end0
  exact ⟨rfl, b1⟩

set_option maxHeartbeats 8000000 in
set_option maxRecDepth 100000 in
theorem result_ok (h : Prs Y M tv toks pos line col 0 free ls ln es clk w) (v0 v1 v2 v3 v4 v7 v8 v9 v11 v12 : Int) (a1 a2 a3 : Option Addr) (n1 n2 n3 c1 c2 c3 : Nat) :
    Calls Tryz.prog 24 #[.pointer (some ⟨Y, 0, none⟩), .agg #[.int .i64 v0, .int .i64 v1, .int .i64 v2, .int .i64 v3, .int .i64 v4, .slice a1 n1 c1, .slice a2 n2 c2, .int .i64 v7, .int .i64 v8, .int .i64 v9, .slice a3 n3 c3, .int .i64 v11, .int .i64 v12]] w fun r w' =>
      r = .returned (.tuple #[.agg #[.int .i64 v0, .int .i64 v1, .int .i64 v2, .int .i64 v3, .int .i64 v4, .slice a1 n1 c1, .slice a2 n2 c2, .int .i64 v7, .int .i64 v8, .int .i64 v9, .slice a3 n3 c3, .int .i64 v11, .int .i64 v12], .int .i64 0, .int .i64 0, .int .i64 0]) ∧ Below w.heap.size w w' := by
  have c4 := h.c4
  have n4' := World.new_ne w _ c4
  have l4 := World.block_lt_of_cell? w _ c4
  simp only at l4
  clear h
  go_enter Tryz.func24, Tryz.ntmps24
  go_wp2
  refine bodyPost_ret (results_cell3 rfl _ _ (w.heap.size + 1) 30 _ (0, 0) _ rfl (heap_alloc2_new w _ _) Tryz.underlying30 rfl Tryz.sizeEvent) rfl ?_
  exact ⟨rfl, ((Below.refl _ w).alloc (Nat.le_refl _) _).alloc (by simp) _⟩
end

theorem Piece.Ok.body_pos {p : Piece} {rest : List UInt8} (h : p.Ok rest) : 0 < p.body.length := by
  rcases h.2 with ⟨-, -, -, ⟨c, t, hb, -⟩, -⟩ | ⟨-, -, -, hb, -⟩ | ⟨-, -, hb, -⟩ | ⟨-, -, -, c, hb, -⟩
  · rw [hb]; simp
  · exact List.length_pos_iff.2 hb
  · rw [hb]; simp [quoteL]
  · rw [hb]; simp
theorem good_len {rest : List UInt8} : ∀ {ps : List Piece}, GoodP rest ps → ps.length ≤ (flat ps).length
  | [], _ => Nat.zero_le _
  | p :: ps, h => by
    have h1 := h.1.body_pos
    have h2 := good_len h.2
    rw [flat_cons, List.length_append, List.length_append, List.length_cons]
    omega
theorem textL_len {x : EvV} (hx : EvOk x) : (textL x).length ≤ 20000 := by
  have hb := bodyL_len hx
  have hp : ∀ y ∈ partsL x, y.length ≤ 2000 := by
    intro y hy
    unfold partsL at hy
    simp only [List.mem_append] at hy
    rcases hy with ((h | h) | h) | h
    · have := gpart_len hx.g8 hx.gok y h; omega
    · obtain rfl := List.mem_singleton.1 h; omega
    · have := wpart_len (wordsB_len x.ar x.orn x.dy x.stem x.beam) wordsB_small y h; omega
    · obtain ⟨z, hz, rfl⟩ := List.mem_map.1 h
      exact syllL_len z (hx.lok z hz).1
  have hj := joinL_len hp
  have hl : (partsL x).length ≤ 8 := by
    have := hx.l4
    unfold partsL
    simp only [List.length_append, List.length_map, List.length_cons, List.length_nil]
    split <;> split <;> simp <;> omega
  have := Nat.mul_le_mul_right 2001 hl
  unfold textL
  omega
theorem ev_first {x : EvV} (hx : EvOk x) : ∃ p ps, evPs x = p :: ps ∧ p.bl = [32] := by
  unfold evPs gracesPs
  split
  · unfold bodyPs
    rcases hx.kd with hk | hk | hk | hk
    · simp only [hk, Int.reduceEq, if_false, List.nil_append]
      unfold headsPs
      split
      · rename_i h1
        obtain ⟨y, hy⟩ := List.length_eq_one_iff.1 h1
        rw [hy]
        exact ⟨wordP [32] (wordOfP y.p), _, rfl, rfl⟩
      · exact ⟨symP [32] 60, _, rfl, rfl⟩
    · simp only [hk, Int.reduceEq, if_false, if_true, List.nil_append]
      exact ⟨wordP [32] [114], _, rfl, rfl⟩
    · simp only [hk, if_true, List.nil_append]
      exact ⟨wordP [32] [82], _, rfl, rfl⟩
    · simp only [hk, Int.reduceEq, if_false, if_true, List.nil_append]
      exact ⟨wordP [32] [115], _, rfl, rfl⟩
  · exact ⟨wordP [32] [103, 114, 97, 99, 101], _, rfl, rfl⟩
/-- The tokens of an event's text. -/
theorem ev_toks {x : EvV} (hx : EvOk x) (ls : List Int) : ∃ toks, Lx ls (mkB (textL x)) 0 0 toks none ∧ toks.length ≤ 262143 ∧ (evPs x).length + 1 ≤ 1000000 ∧ At toks 0 (evPs x ++ [endP []]) := by
  obtain ⟨p, ps, hp, hb⟩ := ev_first hx
  have hf := flat_ev hx
  have hg := good_ev hx
  have hl := good_len hg
  rw [hf, List.length_cons] at hl
  have ht := textL_len hx
  rw [hp] at hf hg hl ⊢
  rw [flat_cons, hb] at hf
  have hft : p.body ++ flat ps = textL x := by
    have := hf
    simpa using this
  have hlx := lx_toks ls (mkB (textL x)) ⟨p.kind, [], p.body, p.value, p.bytes⟩ ps [] (by rw [flat_cons]; show (textL x) = _; rw [← hft]; simp) ⟨⟨blk_nil, hg.1.2⟩, hg.2⟩ (by intro c hc; cases hc)
  obtain ⟨toks, h1, h2, ⟨t, ht0, k1, k2, k3, k4, k5⟩, h4⟩ := hlx
  rw [List.length_cons] at hl
  refine ⟨toks, h1, by omega, by rw [List.length_cons]; omega, fun i q hq => ?_⟩
  rw [Nat.zero_add]
  cases i with
  | zero =>
    obtain rfl : p = q := by simpa using hq
    exact ⟨t, ht0, k1, k2, k3, by rw [k5, hb]; rfl, k4⟩
  | succ i => exact h4 i q (by simpa using hq)
end Go.Proofs.YtholnnabakaliaaGreatDoor

namespace Go.Proofs.YtholnnabakaliaaGreatDoor
open Go.RowKit

theorem below_of_away {B Y : Nat} {a w w' : World} (h : Below B a w) (k : Away [Y] w w') (hY : B ≤ Y) (hB : B ≤ w.heap.size) : Below B a w' :=
  ⟨k.os.trans h.os, k.tape.trans h.tape, k.output.trans h.output, Nat.le_trans h.size k.size, fun i hi => (k.block i (Nat.lt_of_lt_of_le hi hB) (by simp; omega)).trans (h.block i hi)⟩
theorem fill13_below' {B : Nat} {a w : World} {X : Nat} (h : Below B a w) (hX : B ≤ X) (v0 v1 v2 v3 v4 v5 v6 v7 v8 v9 v10 v11 v12 : Value) : Below B a (fill13 w X v0 v1 v2 v3 v4 v5 v6 v7 v8 v9 v10 v11 v12) := fill13_below h hX v0 v1 v2 v3 v4 v5 v6 v7 v8 v9 v10 v11 v12

set_option maxHeartbeats 32000000 in
set_option maxRecDepth 100000 in
theorem pev_parses {x : EvV} (hx : EvOk x) {b : Nat} (w : World) (T : Tabs b w) :
    Calls Tryz.prog 7 #[.string (mkB (textL x))] w fun r w' => ∃ hv gv lv, r = .returned (.tuple #[.agg (evC x.kind x.lg x.dt hv gv ⟨x.ar, x.orn, x.dy, x.stem, x.beam⟩ lv), .int .i64 0, .int .i64 0, .int .i64 0]) ∧ Els w' 5 hv (x.heads.map HeadV.cells) ∧ Els w' 5 gv (x.graces.map GraceV.cells) ∧ Els w' 2 lv (x.lyr.map SyllV.cells) ∧ Below w.heap.size w w' ∧ ∀ k, hv.ownBlock = some k ∨ gv.ownBlock = some k ∨ lv.ownBlock = some k → w.heap.size ≤ k := by
  obtain ⟨toks, hlx, hn2, hl, hA⟩ := ev_toks hx (linesOf (mkB (textL x)) (mkB (textL x)).size)
  have hsz : (mkB (textL x)).size ≤ 1048576 := by rw [mkB_size]; have := textL_len hx; omega
  have l6 := (Array.getElem?_eq_some_iff.1 T.t6).1
  have b0 := (Below.refl w.heap.size w).alloc (Nat.le_refl _) (.cells #[.int .i64 0, .int .i64 0, .int .i64 0, .int .i64 0, .int .i64 0, .slice none 0 0, .slice none 0 0, .int .i64 0, .int .i64 0, .int .i64 0, .slice none 0 0, .int .i64 0, .int .i64 0] 30)
  have hR0 := heap_alloc_new w (.cells #[.int .i64 0, .int .i64 0, .int .i64 0, .int .i64 0, .int .i64 0, .slice none 0 0, .slice none 0 0, .int .i64 0, .int .i64 0, .int .i64 0, .slice none 0 0, .int .i64 0, .int .i64 0] 30)
  have xo := open_ok hlx hsz hn2 (w.alloc (.cells #[.int .i64 0, .int .i64 0, .int .i64 0, .int .i64 0, .int .i64 0, .slice none 0 0, .slice none 0 0, .int .i64 0, .int .i64 0, .int .i64 0, .slice none 0 0, .int .i64 0, .int .i64 0] 30))
  have esz : (w.alloc (.cells #[.int .i64 0, .int .i64 0, .int .i64 0, .int .i64 0, .int .i64 0, .slice none 0 0, .slice none 0 0, .int .i64 0, .int .i64 0, .int .i64 0, .slice none 0 0, .int .i64 0, .int .i64 0] 30)).heap.size = w.heap.size + 1 := by simp
  rw [esz] at xo
  generalize mkB (textL x) = s at xo
  clear hlx hsz hn2
  go_enter Tryz.func7, Tryz.ntmps7
  go_wp2_with (go_at_call 21; refine xo.mono ?_)
  rintro r w1 ⟨rfl, b1, tv, hS⟩
  have hR1 := (b1.block w.heap.size (by omega)).trans hR0
  have bel1 := b0.trans (b1.mono (by omega))
  have xe := event_at hS hx hA (by omega) (T.step bel1) (by omega)
  have lY := hS.lt
  have lt1 : w.heap.size < w.heap.size + 1 + 1 := by omega
  generalize w.heap.size + 1 + 1 = Y at xe lt1 lY hS ⊢
  generalize w.heap.size + 1 = M at xe hS
  clear xo b0 hR0 b1 esz hS
  go_wp2_with (go_at_call 22; (with_reducible refine xe.mono ?_))
  rintro r w2 ⟨hv, gv, lv, rfl, eh, eg, el, hS2, a2, hk⟩
  obtain ⟨ha, hc, hhv⟩ := eh.is
  generalize (x.heads.map HeadV.cells).length = hn at hhv
  subst hhv
  obtain ⟨ga, gc, hgv⟩ := eg.is
  generalize (x.graces.map GraceV.cells).length = gn at hgv
  subst hgv
  obtain ⟨la, lc, hlv⟩ := el.is
  generalize (x.lyr.map SyllV.cells).length = ln at hlv
  subst hlv
  have hR2 := a2.heap hR1 (by simp; omega)
  have bel2 := below_of_away bel1 a2 (by omega) (by have := (Array.getElem?_eq_some_iff.1 hR1).1; omega)
  have lw1 := (Array.getElem?_eq_some_iff.1 hR1).1
  have hk2 : ∀ k, (Value.slice ha hn hc).ownBlock = some k ∨ (Value.slice ga gn gc).ownBlock = some k ∨ (Value.slice la ln lc).ownBlock = some k → k ≠ w.heap.size := fun k h => by have := hk k h; omega
  have hk3 : ∀ k, (Value.slice ha hn hc).ownBlock = some k ∨ (Value.slice ga gn gc).ownBlock = some k ∨ (Value.slice la ln lc).ownBlock = some k → w.heap.size ≤ k := fun k h => by have := hk k h; omega
  simp only [evC]
  clear xe hR1 bel1 a2 hk
  have y0 := Lib.frozen_of_heap hR2 0
  have y1 := Lib.frozen_of_heap hR2 1
  have y2 := Lib.frozen_of_heap hR2 2
  have y3 := Lib.frozen_of_heap hR2 3
  have y4 := Lib.frozen_of_heap hR2 4
  have y5 := Lib.frozen_of_heap hR2 5
  have y6 := Lib.frozen_of_heap hR2 6
  have y7 := Lib.frozen_of_heap hR2 7
  have y8 := Lib.frozen_of_heap hR2 8
  have y9 := Lib.frozen_of_heap hR2 9
  have y10 := Lib.frozen_of_heap hR2 10
  have y11 := Lib.frozen_of_heap hR2 11
  have y12 := Lib.frozen_of_heap hR2 12
  obtain ⟨z0, z1, z2, z3, z4, z5, z6, z7, z8, z9, z10, z11, z12⟩ := box13 hR2
  have fR := fill13_self hR2 (.int .i64 0) (.int .i64 0) (.int .i64 x.kind) (.int .i64 x.lg) (.int .i64 x.dt) (.slice ha hn hc) (.slice ga gn gc) (.int .i64 x.ar) (.int .i64 x.orn) (.int .i64 x.dy) (.slice la ln lc) (.int .i64 x.stem) (.int .i64 x.beam)
  have fP := hS2.fill13 hR2 (.int .i64 0) (.int .i64 0) (.int .i64 x.kind) (.int .i64 x.lg) (.int .i64 x.dt) (.slice ha hn hc) (.slice ga gn gc) (.int .i64 x.ar) (.int .i64 x.orn) (.int .i64 x.dy) (.slice la ln lc) (.int .i64 x.stem) (.int .i64 x.beam)
  have fB := fill13_below' bel2 (Nat.le_refl _) (.int .i64 0) (.int .i64 0) (.int .i64 x.kind) (.int .i64 x.lg) (.int .i64 x.dt) (.slice ha hn hc) (.slice ga gn gc) (.int .i64 x.ar) (.int .i64 x.orn) (.int .i64 x.dy) (.slice la ln lc) (.int .i64 x.stem) (.int .i64 x.beam)
  have fO := fill13_other w2 w.heap.size (.int .i64 0) (.int .i64 0) (.int .i64 x.kind) (.int .i64 x.lg) (.int .i64 x.dt) (.slice ha hn hc) (.slice ga gn gc) (.int .i64 x.ar) (.int .i64 x.orn) (.int .i64 x.dy) (.slice la ln lc) (.int .i64 x.stem) (.int .i64 x.beam)
  have eh3 := eh.frame fun k h => fO k (hk2 k (.inl h))
  have eg3 := eg.frame fun k h => fO k (hk2 k (.inr (.inl h)))
  have el3 := el.frame fun k h => fO k (hk2 k (.inr (.inr h)))
  clear fO eh eg el hS2 bel2
  simp only [fill13] at fR fP fB eh3 eg3 el3
  generalize hW3 : (((((((((((((w2.setCell ⟨w.heap.size, 0, none⟩ (.int .i64 0)).setCell ⟨w.heap.size, 1, none⟩ (.int .i64 0)).setCell ⟨w.heap.size, 2, none⟩ (.int .i64 x.kind)).setCell ⟨w.heap.size, 3, none⟩ (.int .i64 x.lg)).setCell ⟨w.heap.size, 4, none⟩ (.int .i64 x.dt)).setCell ⟨w.heap.size, 5, none⟩ (.slice ha hn hc)).setCell ⟨w.heap.size, 6, none⟩ (.slice ga gn gc)).setCell ⟨w.heap.size, 7, none⟩ (.int .i64 x.ar)).setCell ⟨w.heap.size, 8, none⟩ (.int .i64 x.orn)).setCell ⟨w.heap.size, 9, none⟩ (.int .i64 x.dy)).setCell ⟨w.heap.size, 10, none⟩ (.slice la ln lc)).setCell ⟨w.heap.size, 11, none⟩ (.int .i64 x.stem)).setCell ⟨w.heap.size, 12, none⟩ (.int .i64 x.beam)) = w3 at fR fP fB eh3 eg3 el3
  obtain ⟨te, hte, hie⟩ := At.first (p := endP []) (r := []) (At.right hA)
  rw [Nat.zero_add] at hte fP
  have x4 := end_ok fP hte hie.1
  clear hte hie hA hl
  go_wp2_with (go_at_call 23; (with_reducible refine x4.mono ?_))
  intro r w4; first | (intro he4 b4; subst he4) | rintro ⟨rfl, b4⟩
  have fR4 := (b4.block _ (Array.getElem?_eq_some_iff.1 fR).1).trans fR
  have fP4 := fP.step b4
  have fB4 := fB.trans (b4.mono fB.size)
  have eh4 := eh3.step b4
  have eg4 := eg3.step b4
  have el4 := el3.step b4
  clear z0 z1 z2 z3 z4 z5 z6 z7 z8 z9 z10 z11 z12
  obtain ⟨z0, z1, z2, z3, z4, z5, z6, z7, z8, z9, z10, z11, z12⟩ := box13 fR4
  have x5 := result_ok fP4 0 0 x.kind x.lg x.dt x.ar x.orn x.dy x.stem x.beam ha ga la hn gn ln hc gc lc
  clear x4 fR fP fB eh3 eg3 el3 b4 y0 y1 y2 y3 y4 y5 y6 y7 y8 y9 y10 y11 y12 hW3 hR2
  go_wp2_with (go_at_call 24; (with_reducible refine x5.mono ?_))
  intro r w5; first | (intro he5 b5; subst he5) | rintro ⟨rfl, b5⟩
  have fR5 := (b5.block _ (Array.getElem?_eq_some_iff.1 fR4).1).trans fR4
  have fB5 := fB4.trans (b5.mono fB4.size)
  have eh5 := eh4.step b5
  have eg5 := eg4.step b5
  have el5 := el4.step b5
  clear x5 fR4 fP4 fB4 eh4 eg4 el4 b5 z0 z1 z2 z3 z4 z5 z6 z7 z8 z9 z10 z11 z12
  have y0 := Lib.frozen_of_heap fR5 0
  have y1 := Lib.frozen_of_heap fR5 1
  have y2 := Lib.frozen_of_heap fR5 2
  have y3 := Lib.frozen_of_heap fR5 3
  have y4 := Lib.frozen_of_heap fR5 4
  have y5 := Lib.frozen_of_heap fR5 5
  have y6 := Lib.frozen_of_heap fR5 6
  have y7 := Lib.frozen_of_heap fR5 7
  have y8 := Lib.frozen_of_heap fR5 8
  have y9 := Lib.frozen_of_heap fR5 9
  have y10 := Lib.frozen_of_heap fR5 10
  have y11 := Lib.frozen_of_heap fR5 11
  have y12 := Lib.frozen_of_heap fR5 12
  obtain ⟨z0, z1, z2, z3, z4, z5, z6, z7, z8, z9, z10, z11, z12⟩ := box13 fR5
  have fR := fill13_self fR5 (.int .i64 0) (.int .i64 0) (.int .i64 x.kind) (.int .i64 x.lg) (.int .i64 x.dt) (.slice ha hn hc) (.slice ga gn gc) (.int .i64 x.ar) (.int .i64 x.orn) (.int .i64 x.dy) (.slice la ln lc) (.int .i64 x.stem) (.int .i64 x.beam)
  have fB := fill13_below' fB5 (Nat.le_refl _) (.int .i64 0) (.int .i64 0) (.int .i64 x.kind) (.int .i64 x.lg) (.int .i64 x.dt) (.slice ha hn hc) (.slice ga gn gc) (.int .i64 x.ar) (.int .i64 x.orn) (.int .i64 x.dy) (.slice la ln lc) (.int .i64 x.stem) (.int .i64 x.beam)
  have fO := fill13_other w5 w.heap.size (.int .i64 0) (.int .i64 0) (.int .i64 x.kind) (.int .i64 x.lg) (.int .i64 x.dt) (.slice ha hn hc) (.slice ga gn gc) (.int .i64 x.ar) (.int .i64 x.orn) (.int .i64 x.dy) (.slice la ln lc) (.int .i64 x.stem) (.int .i64 x.beam)
  have eh3 := eh5.frame fun k h => fO k (hk2 k (.inl h))
  have eg3 := eg5.frame fun k h => fO k (hk2 k (.inr (.inl h)))
  have el3 := el5.frame fun k h => fO k (hk2 k (.inr (.inr h)))
  clear fO eh5 eg5 el5 fB5
  simp only [fill13] at fR fB eh3 eg3 el3
  go_wp2
  generalize (((((((((((((w5.setCell ⟨w.heap.size, 0, none⟩ (.int .i64 0)).setCell ⟨w.heap.size, 1, none⟩ (.int .i64 0)).setCell ⟨w.heap.size, 2, none⟩ (.int .i64 x.kind)).setCell ⟨w.heap.size, 3, none⟩ (.int .i64 x.lg)).setCell ⟨w.heap.size, 4, none⟩ (.int .i64 x.dt)).setCell ⟨w.heap.size, 5, none⟩ (.slice ha hn hc)).setCell ⟨w.heap.size, 6, none⟩ (.slice ga gn gc)).setCell ⟨w.heap.size, 7, none⟩ (.int .i64 x.ar)).setCell ⟨w.heap.size, 8, none⟩ (.int .i64 x.orn)).setCell ⟨w.heap.size, 9, none⟩ (.int .i64 x.dy)).setCell ⟨w.heap.size, 10, none⟩ (.slice la ln lc)).setCell ⟨w.heap.size, 11, none⟩ (.int .i64 x.stem)).setCell ⟨w.heap.size, 12, none⟩ (.int .i64 x.beam)) = WF at fR fB eh3 eg3 el3 ⊢
  exact bodyPost_ret (results_cell3 rfl _ _ w.heap.size 30 _ (0, 0) _ rfl fR Tryz.underlying30 rfl Tryz.sizeEvent) rfl ⟨_, _, _, rfl, eh3, eg3, el3, fB, hk3⟩
end Go.Proofs.YtholnnabakaliaaGreatDoor

namespace Go.Proofs.YtholnnabakaliaaGreatDoor
open Go.RowKit

set_option maxHeartbeats 8000000 in
set_option maxRecDepth 100000 in
theorem equal_walk (kd lg dt ar orn dy st be : Int) (ho go lo ho' go' lo' : Option Addr) (hn hc gn gc ln lc hn' hc' gn' gc' ln' lc' : Nat) (heads : List HeadV) (graces : List GraceV) (lyr : List SyllV) (w : World) (n1 : heads.length ≤ 1000000) (n2 : graces.length ≤ 1000000) (n3 : lyr.length ≤ 1000000)
    (h1 : Els w 5 (.slice ho hn hc) (heads.map HeadV.cells)) (h2 : Els w 5 (.slice go gn gc) (graces.map GraceV.cells)) (h3 : Els w 2 (.slice lo ln lc) (lyr.map SyllV.cells))
    (h1' : Els w 5 (.slice ho' hn' hc') (heads.map HeadV.cells)) (h2' : Els w 5 (.slice go' gn' gc') (graces.map GraceV.cells)) (h3' : Els w 2 (.slice lo' ln' lc') (lyr.map SyllV.cells)) :
    Calls Tryz.prog 9 #[.agg #[.int .i64 0, .int .i64 0, .int .i64 kd, .int .i64 lg, .int .i64 dt, .slice ho hn hc, .slice go gn gc, .int .i64 ar, .int .i64 orn, .int .i64 dy, .slice lo ln lc, .int .i64 st, .int .i64 be],
      .agg #[.int .i64 0, .int .i64 0, .int .i64 kd, .int .i64 lg, .int .i64 dt, .slice ho' hn' hc', .slice go' gn' gc', .int .i64 ar, .int .i64 orn, .int .i64 dy, .slice lo' ln' lc', .int .i64 st, .int .i64 be]] w fun e w' => e = .returned (.bool true) ∧ Below w.heap.size w w' := by
  have hs := fun W (bW : Below w.heap.size w W) => same_gen 0 0 kd lg dt ar orn dy st be 0 0 kd lg dt ar orn dy st be ho go lo ho' go' lo' hn hc gn gc ln lc hn' hc' gn' gc' ln' lc' true true true W
    (fun w' b => eqs37 _ _ heads w' n1 ((h1.step bW).step b) ((h1'.step bW).step b)) (fun w' b => eqs38 _ _ graces w' n2 ((h2.step bW).step b) ((h2'.step bW).step b)) (fun w' b => eqs39 _ _ lyr w' n3 ((h3.step bW).step b) ((h3'.step bW).step b))
  have b1 := (Below.refl w.heap.size w).alloc (Nat.le_refl _) (.cells #[.int .i64 0, .int .i64 0, .int .i64 kd, .int .i64 lg, .int .i64 dt, .slice ho hn hc, .slice go gn gc, .int .i64 ar, .int .i64 orn, .int .i64 dy, .slice lo ln lc, .int .i64 st, .int .i64 be] 30)
  have b2 := b1.alloc b1.size (.cells #[.int .i64 0, .int .i64 0, .int .i64 kd, .int .i64 lg, .int .i64 dt, .slice ho' hn' hc', .slice go' gn' gc', .int .i64 ar, .int .i64 orn, .int .i64 dy, .slice lo' ln' lc', .int .i64 st, .int .i64 be] 30)
  have hs2 := hs _ b2
  simp only [decide_true, Bool.and_true] at hs2
  clear hs h1 h2 h3 h1' h2' h3'
  go_enter Tryz.func9, Tryz.ntmps9
  go_wp2_with (go_at_call 15; (with_reducible refine hs2.mono ?_))
  intro e w3; first | (intro he b3; subst he) | rintro ⟨rfl, b3⟩
  go_wp2
  go_ret
  exact ⟨rfl, b2.trans (b3.mono b2.size)⟩
end Go.Proofs.YtholnnabakaliaaGreatDoor
