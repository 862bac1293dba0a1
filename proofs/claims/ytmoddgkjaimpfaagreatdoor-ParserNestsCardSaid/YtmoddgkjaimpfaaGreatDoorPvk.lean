/-
  A part of the proof that the law ParserNests (chapter 19) returns true for every depth and every list of notes: walks of the program's functions, and runs of them in the kernel by the own evaluator.
-/
import Derived.Test.YtmoddgkjaimpfaaGreatDoorPvj
namespace Go.Proofs.YtmoddgkjaimpfaaGreatDoor
open Go.RowKit

theorem results_cell3 {P : Program} {fn : Func} {p t u v : Tmp} {ty : TypeId} (h : fn.results = #[.cell p ty, .tmp t, .tmp u, .tmp v]) (tmps : Array Value) (w : World) (g : Nat) (T : TypeId) (cs : Array Value) (fr : Nat × Nat) (d : TypeDesc)
    (hp : tmps.getD p undef = .pointer (some ⟨g, 0, none⟩)) (hg : w.heap[g]? = some (.cells cs T fr))
    (hu : P.underlying ty = some d) (hd : (match d with | .struct _ | .array _ _ => true | _ => false) = true) (hi : (P.info? ty).map (·.size) = some cs.size) :
    (results fn tmps).run P w = .ok (.tuple #[.agg cs, tmps.getD t undef, tmps.getD u undef, tmps.getD v undef]) w := by
  have hp' : tmps[p]?.getD undef = .pointer (some ⟨g, 0, none⟩) := by simpa using hp
  simp [results, h, hp', asAddr, run_loadVar_row w g T ty cs fr d hg hu hd hi, Result.andThen]

theorem Tryz.sizeVoice : (Tryz.prog.info? 28).map (·.size) = some 2 := by kernel_rfl

theorem _root_.Go.World.ownsRow.lower {w : World} {B B' : Nat} {e : TypeId} {size : Nat} {v : Value} {n : Nat} {xs : List Value} (h : w.ownsRow B' e size v n xs) (hB : B ≤ B') : w.ownsRow B e size v n xs := by
  refine ⟨h.1, ?_⟩
  rcases h.2 with hn | ⟨g, cap, cur, rfl, hg, rest⟩
  · exact .inl hn
  · exact .inr ⟨g, cap, cur, rfl, Nat.le_trans hB hg, rest⟩

section
variable {Y M : Nat} {tv : Value} {toks : List Tok} {pos : Nat} {line col e : Int} {free : Bool} {ls ln : Int} {es : Array MapEntry} {clk : Nat} {w : World} {t : Tok}

theorem set4_self {w : World} {X : Nat} {cs : Array Value} {T : TypeId} (v0 v2 v3 v4 : Value) (h : w.heap[X]? = some (.cells cs T (0, 0))) :
    ((((w.setCell ⟨X, 0, none⟩ v0).setCell ⟨X, 2, none⟩ v2).setCell ⟨X, 3, none⟩ v3).setCell ⟨X, 4, none⟩ v4).heap[X]? = some (.cells ((((cs.setIfInBounds 0 v0).setIfInBounds 2 v2).setIfInBounds 3 v3).setIfInBounds 4 v4) T (0, 0)) :=
  Lib.heap_setCell_same (i := 4) (Lib.heap_setCell_same (i := 3) (Lib.heap_setCell_same (i := 2) (Lib.heap_setCell_same (i := 0) h v0) v2) v3) v4
theorem set4_other (w : World) (X : Nat) (v0 v2 v3 v4 : Value) (k : Nat) (hk : k ≠ X) : ((((w.setCell ⟨X, 0, none⟩ v0).setCell ⟨X, 2, none⟩ v2).setCell ⟨X, 3, none⟩ v3).setCell ⟨X, 4, none⟩ v4).heap[k]? = w.heap[k]? := by
  rw [Below.heap_setCell _ ⟨X, 4, none⟩ _ k hk, Below.heap_setCell _ ⟨X, 3, none⟩ _ k hk, Below.heap_setCell _ ⟨X, 2, none⟩ _ k hk, Below.heap_setCell _ ⟨X, 0, none⟩ _ k hk]

set_option maxHeartbeats 8000000 in
set_option maxRecDepth 100000 in
theorem open_ok {s : ByteArray} (hx : Lx s 0 0 toks none) (hsz : s.size ≤ 1048576) (hnl : ∀ k (h : k < s.size), ¬ ((s[k].toNat : Nat) : Int) = 10) (hn : toks.length ≤ 262143) (w : World) :
    Calls Tryz.prog 6 #[.string s, .bool true] w fun r w' => r = .returned (.pointer (some ⟨w.heap.size + 1, 0, none⟩)) ∧ Below w.heap.size w w' ∧ ∃ tv, Prs (w.heap.size + 1) w.heap.size tv toks 0 0 0 0 true 0 0 #[] 0 w' := by
  have hmk : (Instr.makeMap 72 none).run Tryz.prog w = .ok (.map (some w.heap.size)) (w.alloc (.map #[] 0)) := by
    simp [Instr.makeMap, newObj, Sem.run]
  have b0 := ((Below.refl w.heap.size w).alloc (Nat.le_refl _) (.map #[] 0)).alloc (by simp) (.cells #[.slice none 0 0, .int .i64 0, .int .i64 0, .int .i64 0, .int .i64 0, .bool true, .int .i64 0, .int .i64 0, .map (some w.heap.size)] 77)
  have hM0 : ((w.alloc (.map #[] 0)).alloc (.cells #[.slice none 0 0, .int .i64 0, .int .i64 0, .int .i64 0, .int .i64 0, .bool true, .int .i64 0, .int .i64 0, .map (some w.heap.size)] 77)).heap[w.heap.size]? = some (.map #[] 0) := (Lib.alloc_old _ _ _ (by simp)).trans (heap_alloc_new w _)
  have hY0 : ((w.alloc (.map #[] 0)).alloc (.cells #[.slice none 0 0, .int .i64 0, .int .i64 0, .int .i64 0, .int .i64 0, .bool true, .int .i64 0, .int .i64 0, .map (some w.heap.size)] 77)).heap[w.heap.size + 1]? = some (.cells #[.slice none 0 0, .int .i64 0, .int .i64 0, .int .i64 0, .int .i64 0, .bool true, .int .i64 0, .int .i64 0, .map (some w.heap.size)] 77 (0, 0)) := by
    have := heap_alloc_new (w.alloc (.map #[] 0)) (.cells #[.slice none 0 0, .int .i64 0, .int .i64 0, .int .i64 0, .int .i64 0, .bool true, .int .i64 0, .int .i64 0, .map (some w.heap.size)] 77)
    simpa using this
  have sc := lexScan hx hsz hnl (fun b h => by cases h) hn ((w.alloc (.map #[] 0)).alloc (.cells #[.slice none 0 0, .int .i64 0, .int .i64 0, .int .i64 0, .int .i64 0, .bool true, .int .i64 0, .int .i64 0, .map (some w.heap.size)] 77))
  go_enter Tryz.func6, Tryz.ntmps6
  go_wp2_with (go_at_call 12; refine sc.mono ?_)
  rintro r w1 ⟨b1, hcase⟩
  have hM1 := (b1.block _ (Array.getElem?_eq_some_iff.1 hM0).1).trans hM0
  have hY1 := (b1.block _ (Array.getElem?_eq_some_iff.1 hY0).1).trans hY0
  have bel := b0.trans (b1.mono (by simp; omega))
  generalize hMe : w.heap.size = M at hM1 hY1 bel ⊢
  clear b0 hM0 hY0 sc hmk
  have d0 : w1.cell? ⟨M + 1, 0, none⟩ = some (.slice none 0 0) := by rw [Lib.cell_of_heap hY1]; rfl
  have d2 : w1.cell? ⟨M + 1, 2, none⟩ = some (.int .i64 0) := by rw [Lib.cell_of_heap hY1]; rfl
  have d3 : w1.cell? ⟨M + 1, 3, none⟩ = some (.int .i64 0) := by rw [Lib.cell_of_heap hY1]; rfl
  have d4 : w1.cell? ⟨M + 1, 4, none⟩ = some (.int .i64 0) := by rw [Lib.cell_of_heap hY1]; rfl
  have f0 := Lib.frozen_of_heap hY1 0
  have f2 := Lib.frozen_of_heap hY1 2
  have f3 := Lib.frozen_of_heap hY1 3
  have f4 := Lib.frozen_of_heap hY1 4
  rcases hcase with ⟨-, lv, rfl, hown⟩ | ⟨b, hb, -⟩
  · obtain ⟨ao, cp, rfl⟩ : ∃ ao c, lv = .slice ao toks.length c := by
      rcases hown.2 with ⟨hv, h0⟩ | ⟨g, cap, cur, hv, _⟩
      · exact ⟨none, 0, by rw [hv, h0]⟩
      · exact ⟨_, _, hv⟩
    go_wp2
    go_ret
    rw [hMe]
    refine ⟨rfl, (((bel.setCell (p := ⟨M + 1, 0, none⟩) (by show M ≤ M + 1; omega) _).setCell (p := ⟨M + 1, 2, none⟩) (by show M ≤ M + 1; omega) _).setCell (p := ⟨M + 1, 3, none⟩) (by show M ≤ M + 1; omega) _).setCell (p := ⟨M + 1, 4, none⟩) (by show M ≤ M + 1; omega) _, .slice ao toks.length cp, ?_, ?_, fun _ => ?_⟩
    · exact set4_self _ _ _ _ hY1
    · exact (set4_other w1 (M + 1) _ _ _ _ M (by omega)).trans hM1
    · have hne : (Value.slice ao toks.length cp).ownBlock ≠ some (M + 1) := own_ne hown hY1 (by intro cs fr hc; injection hc with _ h2 _; exact absurd h2 (by decide))
      exact own_step (hown.lower (Nat.zero_le _)) fun k hk => set4_other w1 (M + 1) _ _ _ _ k (fun e => hne (by rw [hk, e]))
  · cases hb

set_option maxHeartbeats 4000000 in
set_option maxRecDepth 100000 in
theorem end_ok (h : Prs Y M tv toks pos line col 0 free ls ln es clk w) (ht : toks[pos]? = some t) (hk : t.kind = 0) :
    Calls Tryz.prog 8 #[.pointer (some ⟨Y, 0, none⟩)] w fun r w' => r = .returned (.tuple #[]) ∧ Below w.heap.size w w' := by
  have hp := peek_ok h ht
  clear h ht
  rw [hk] at hp
  have hfd := field0_run 0 (.string t.text) (.int .i64 t.value) (.string t.bytes) (.int .i64 1) (.int .i64 t.col) (.bool t.joined)
  go_enter Tryz.func8, Tryz.ntmps8
  go_wp2_with (go_at_call 18; refine hp.mono ?_)
  intro r w1; first | (intro he b1; subst he) | rintro ⟨rfl, b1⟩
  go_wp2
  go_end0
  exact ⟨rfl, b1⟩

set_option maxHeartbeats 8000000 in
set_option maxRecDepth 100000 in
theorem result_ok (h : Prs Y M tv toks pos line col 0 free ls ln es clk w) (a1 a2 : Option Addr) (n1 n2 c1 c2 : Nat) :
    Calls Tryz.prog 9 #[.pointer (some ⟨Y, 0, none⟩), .agg #[.slice a1 n1 c1, .slice a2 n2 c2]] w fun r w' =>
      r = .returned (.tuple #[.agg #[.slice a1 n1 c1, .slice a2 n2 c2], .int .i64 0, .int .i64 0, .int .i64 0]) ∧ Below w.heap.size w w' := by
  have c4 := h.c4
  have n4' := World.new_ne w _ c4
  have l4 := World.block_lt_of_cell? w _ c4
  simp only at l4
  clear h
  go_enter Tryz.func9, Tryz.ntmps9
  go_wp2
  refine bodyPost_ret (results_cell3 rfl _ _ (w.heap.size + 1) 28 _ (0, 0) _ rfl (heap_alloc2_new w _ _) Tryz.underlying28 rfl Tryz.sizeVoice) rfl ?_
  exact ⟨rfl, ((Below.refl _ w).alloc (Nat.le_refl _) _).alloc (by simp) _⟩

set_option maxHeartbeats 16000000 in
set_option maxRecDepth 100000 in
/-- Voice of a text whose tokens are n items. -/
theorem voice_top {s : ByteArray} (hx : Lx s 0 0 toks none) (hsz : s.size ≤ 1048576) (hnl : ∀ k (h : k < s.size), ¬ ((s[k].toNat : Nat) : Int) = 10) (hn : toks.length ≤ 262143)
    {n p a : Nat} {ts : List (Int × Int)} (hn1 : n ≤ 100000) (hi : Items toks n 0 0 [] p a ts) (ht : toks[p]? = some t) (hk : t.kind = 0) (hs : VStop t) (w : World) :
    Calls Tryz.prog 4 #[.string s] w fun r w' => Below w.heap.size w w' ∧ ∃ ao c tu, r = .returned (.tuple #[.agg #[.slice ao a c, tu], .int .i64 0, .int .i64 0, .int .i64 0]) ∧ w'.ownsRow 0 25 4 tu ts.length (tupCells ts) := by
  have b0 := (Below.refl w.heap.size w).alloc (Nat.le_refl _) (.cells #[.slice none 0 0, .slice none 0 0] 28)
  have hV0 := heap_alloc_new w (.cells #[.slice none 0 0, .slice none 0 0] 28)
  have xo := open_ok hx hsz hnl hn (w.alloc (.cells #[.slice none 0 0, .slice none 0 0] 28))
  have esz : (w.alloc (.cells #[.slice none 0 0, .slice none 0 0] 28)).heap.size = w.heap.size + 1 := by simp
  rw [esz] at xo
  go_enter Tryz.func4, Tryz.ntmps4
  go_wp2_with (go_at_call 6; refine xo.mono ?_)
  rintro r w1 ⟨rfl, b1, tv, hS⟩
  have hV1 := (b1.block w.heap.size (by omega)).trans hV0
  have bel1 := b0.trans (b1.mono (Nat.le_succ _))
  have V1 : VS w.heap.size (w.heap.size + 1 + 1) (w.heap.size + 1) tv toks 0 0 0 0 0 #[] 0 (.slice none 0 0) (.slice none 0 0) 0 [] w1 := ⟨hV1, ⟨[], World.ownsRow_nil _ _ _ _⟩, World.ownsRow_nil _ _ _ _, hS⟩
  clear xo hx hS hV0 b0 b1 esz hV1
  have xv := voice_walk 0 (Nat.zero_le _) hn1 hi ht hs V1
  rw [show ((0 : Nat) : Int) = 0 from rfl] at xv
  go_wp2_with (go_at_call 7; refine xv.mono ?_)
  rintro r w2 ⟨rfl, ev, tu, V2, aw2, -, -⟩
  have bel2 : Below w.heap.size w w2 := by
    refine ⟨aw2.os.trans bel1.os, aw2.tape.trans bel1.tape, aw2.output.trans bel1.output, Nat.le_trans bel1.size aw2.size, fun k hk => (aw2.block k (Nat.lt_of_lt_of_le hk bel1.size) ?_).trans (bel1.block k hk)⟩
    rw [mem_vb]
    rintro (h | h | h | h)
    · omega
    · omega
    · cases h
    · cases h
  clear xv V1 aw2 bel1 hi
  have xe := end_ok V2.prs ht hk
  go_wp2_with (go_at_call 8; refine xe.mono ?_)
  intro r w3; first | (intro he b3; subst he) | rintro ⟨rfl, b3⟩
  have V3 := V2.step b3
  have bel3 := bel2.trans (b3.mono bel2.size)
  clear xe V2 b3 bel2
  obtain ⟨ao, c, rfl⟩ := V3.evIs
  obtain ⟨to1, tc, rfl⟩ := V3.tuIs
  have xr := result_ok V3.prs ao to1 a ts.length c tc
  have y0 := V3.c0
  have y1 := V3.c1
  go_wp2_with (go_at_call 9; refine xr.mono ?_)
  intro r w4; first | (intro he b4; subst he) | rintro ⟨rfl, b4⟩
  have V4 := V3.step b4
  have bel4 := bel3.trans (b4.mono bel3.size)
  clear xr V3 b4 bel3 y0 y1
  have z0 := V4.c0
  have z1 := V4.c1
  have g0 := V4.f 0
  have g1 := V4.f 1
  go_wp2
  have hf := set2_self (.slice ao a c) (.slice to1 ts.length tc) V4.hV
  have bf := (bel4.setCell (p := ⟨w.heap.size, 0, none⟩) (Nat.le_refl _) (.slice ao a c)).setCell (p := ⟨w.heap.size, 1, none⟩) (Nat.le_refl _) (.slice to1 ts.length tc)
  have hn0 := V4.tuV
  have ho := own_step V4.tus fun k hk => (Below.heap_setCell (w4.setCell ⟨w.heap.size, 0, none⟩ (.slice ao a c)) ⟨w.heap.size, 1, none⟩ (.slice to1 ts.length tc) k (fun e => hn0 (by rw [hk, e]))).trans (Below.heap_setCell w4 ⟨w.heap.size, 0, none⟩ (.slice ao a c) k (fun e => hn0 (by rw [hk, e])))
  clear V4
  generalize (w4.setCell ⟨w.heap.size, 0, none⟩ (.slice ao a c)).setCell ⟨w.heap.size, 1, none⟩ (.slice to1 ts.length tc) = wf at hf bf ho ⊢
  simp only [List.setIfInBounds_toArray, List.set_cons_succ, List.set_cons_zero] at hf
  exact bodyPost_ret (results_cell3 rfl _ _ w.heap.size 28 _ (0, 0) _ rfl hf Tryz.underlying28 rfl Tryz.sizeVoice) rfl ⟨bf, ao, c, _, rfl, ho⟩
end
end Go.Proofs.YtmoddgkjaimpfaaGreatDoor
