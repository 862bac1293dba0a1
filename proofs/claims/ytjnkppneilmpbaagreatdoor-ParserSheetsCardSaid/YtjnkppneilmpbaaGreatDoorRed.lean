/-
  A part of the proof that the law ParserSheets (chapter 19) returns true for every sheet: walks of the program's functions, and runs of them in the kernel by the own evaluator.
-/
import Derived.Test.YtjnkppneilmpbaaGreatDoorScw
import Derived.Test.YtjnkppneilmpbaaGreatDoorLxj
namespace Go.Proofs.YtjnkppneilmpbaaGreatDoor
open Go.RowKit

theorem results_cell3 {P : Program} {fn : Func} {p t u v : Tmp} {ty : TypeId} (h : fn.results = #[.cell p ty, .tmp t, .tmp u, .tmp v]) (tmps : Array Value) (w : World) (g : Nat) (T : TypeId) (cs : Array Value) (fr : Nat × Nat) (d : TypeDesc)
    (hp : tmps.getD p undef = .pointer (some ⟨g, 0, none⟩)) (hg : w.heap[g]? = some (.cells cs T fr))
    (hu : P.underlying ty = some d) (hd : (match d with | .struct _ | .array _ _ => true | _ => false) = true) (hi : (P.info? ty).map (·.size) = some cs.size) :
    (results fn tmps).run P w = .ok (.tuple #[.agg cs, tmps.getD t undef, tmps.getD u undef, tmps.getD v undef]) w := by
  have hp' : tmps[p]?.getD undef = .pointer (some ⟨g, 0, none⟩) := by simpa using hp
  simp [results, h, hp', asAddr, run_loadVar_row w g T ty cs fr d hg hu hd hi, Result.andThen]

section
variable {Y M : Nat} {tv : Value} {toks : List Tok} {pos : Nat} {line col e : Int} {free : Bool} {ls ln : Int} {es : Array MapEntry} {clk : Nat} {w : World} {t : Tok}

theorem set4_self {w : World} {X : Nat} {cs : Array Value} {T : TypeId} (v0 v2 v3 v4 : Value) (h : w.heap[X]? = some (.cells cs T (0, 0))) :
    ((((w.setCell ⟨X, 0, none⟩ v0).setCell ⟨X, 2, none⟩ v2).setCell ⟨X, 3, none⟩ v3).setCell ⟨X, 4, none⟩ v4).heap[X]? = some (.cells ((((cs.setIfInBounds 0 v0).setIfInBounds 2 v2).setIfInBounds 3 v3).setIfInBounds 4 v4) T (0, 0)) :=
  Lib.heap_setCell_same (i := 4) (Lib.heap_setCell_same (i := 3) (Lib.heap_setCell_same (i := 2) (Lib.heap_setCell_same (i := 0) h v0) v2) v3) v4
theorem set4_other (w : World) (X : Nat) (v0 v2 v3 v4 : Value) (k : Nat) (hk : k ≠ X) : ((((w.setCell ⟨X, 0, none⟩ v0).setCell ⟨X, 2, none⟩ v2).setCell ⟨X, 3, none⟩ v3).setCell ⟨X, 4, none⟩ v4).heap[k]? = w.heap[k]? := by
  rw [Below.heap_setCell _ ⟨X, 4, none⟩ _ k hk, Below.heap_setCell _ ⟨X, 3, none⟩ _ k hk, Below.heap_setCell _ ⟨X, 2, none⟩ _ k hk, Below.heap_setCell _ ⟨X, 0, none⟩ _ k hk]

/-- What open leaves. -/
def Opened (toks : List Tok) (w : World) (r : Ending) (w' : World) : Prop :=
  r = .returned (.pointer (some ⟨w.heap.size + 1, 0, none⟩)) ∧ Below w.heap.size w w' ∧ ∃ tv, Prs (w.heap.size + 1) w.heap.size tv toks 0 0 0 0 false 0 0 #[] 0 w'

set_option maxHeartbeats 8000000 in
set_option maxRecDepth 100000 in
theorem open_walk {s : ByteArray} (hx : Lx (linesOf s s.size) s 0 0 toks none) (hsz : s.size ≤ 1048576) (hn : toks.length ≤ 262143) (w : World) :
    Calls Tryz.prog 10 #[.string s, .bool false] w (Opened toks w) := by
  have hmk : (Instr.makeMap 94 none).run Tryz.prog w = .ok (.map (some w.heap.size)) (w.alloc (.map #[] 0)) := by
    simp [Instr.makeMap, newObj, Sem.run]
  have b0 := ((Below.refl w.heap.size w).alloc (Nat.le_refl _) (.map #[] 0)).alloc (by simp) (.cells #[.slice none 0 0, .int .i64 0, .int .i64 0, .int .i64 0, .int .i64 0, .bool false, .int .i64 0, .int .i64 0, .map (some w.heap.size)] 99)
  have hM0 : ((w.alloc (.map #[] 0)).alloc (.cells #[.slice none 0 0, .int .i64 0, .int .i64 0, .int .i64 0, .int .i64 0, .bool false, .int .i64 0, .int .i64 0, .map (some w.heap.size)] 99)).heap[w.heap.size]? = some (.map #[] 0) := (Lib.alloc_old _ _ _ (by simp)).trans (heap_alloc_new w _)
  have hY0 : ((w.alloc (.map #[] 0)).alloc (.cells #[.slice none 0 0, .int .i64 0, .int .i64 0, .int .i64 0, .int .i64 0, .bool false, .int .i64 0, .int .i64 0, .map (some w.heap.size)] 99)).heap[w.heap.size + 1]? = some (.cells #[.slice none 0 0, .int .i64 0, .int .i64 0, .int .i64 0, .int .i64 0, .bool false, .int .i64 0, .int .i64 0, .map (some w.heap.size)] 99 (0, 0)) := by
    have := heap_alloc_new (w.alloc (.map #[] 0)) (.cells #[.slice none 0 0, .int .i64 0, .int .i64 0, .int .i64 0, .int .i64 0, .bool false, .int .i64 0, .int .i64 0, .map (some w.heap.size)] 99)
    simpa using this
  have sc := lexScan hx hsz (by intro b e; cases e) hn ((w.alloc (.map #[] 0)).alloc (.cells #[.slice none 0 0, .int .i64 0, .int .i64 0, .int .i64 0, .int .i64 0, .bool false, .int .i64 0, .int .i64 0, .map (some w.heap.size)] 99))
  go_enter Tryz.func10, Tryz.ntmps10
  go_wp2_with (go_at_call 24; refine sc.mono ?_)
  rintro r w1 ⟨b1, hcase⟩
  have hM1 := (b1.block _ (Array.getElem?_eq_some_iff.1 hM0).1).trans hM0
  have hY1 := (b1.block _ (Array.getElem?_eq_some_iff.1 hY0).1).trans hY0
  have bel := b0.trans (b1.mono (by simp; omega))
  generalize hMe : w.heap.size = M at hM1 hY1 bel ⊢
  clear b0 hM0 hY0 sc hmk
  have d0 : w1.cell? ⟨M + 1, 0, none⟩ = some (.slice none 0 0) := by rw [Lib.cell_of_heap hY1]; rfl
  have d2 : w1.cell? ⟨M + 1, 2, none⟩ = some (.int .i64 0) := by rw [Lib.cell_of_heap hY1]; rfl
  have d3 : w1.cell? ⟨M + 1, 3, none⟩ = some (.int .i64 0) := by rw [Lib.cell_of_heap hY1]; rfl
  have d4 : w1.cell? ⟨M + 1, 4, none⟩ = some (.int .i64 0) := by rw [Lib.cell_of_heap hY1]; rfl
  have f0 := Lib.frozen_of_heap hY1 0
  have f2 := Lib.frozen_of_heap hY1 2
  have f3 := Lib.frozen_of_heap hY1 3
  have f4 := Lib.frozen_of_heap hY1 4
  rcases hcase with ⟨-, lv, rfl, hown⟩ | ⟨_, _, _, hb, -⟩
  · obtain ⟨ao, cp, rfl⟩ : ∃ ao c, lv = .slice ao toks.length c := by
      rcases hown.2 with ⟨hv, h0⟩ | ⟨g, cap, cur, hv, _⟩
      · exact ⟨none, 0, by rw [hv, h0]⟩
      · exact ⟨_, _, hv⟩
    go_wp2
    go_ret
    rw [Opened, hMe]
    refine ⟨rfl, (((bel.setCell (p := ⟨M + 1, 0, none⟩) (by show M ≤ M + 1; omega) _).setCell (p := ⟨M + 1, 2, none⟩) (by show M ≤ M + 1; omega) _).setCell (p := ⟨M + 1, 3, none⟩) (by show M ≤ M + 1; omega) _).setCell (p := ⟨M + 1, 4, none⟩) (by show M ≤ M + 1; omega) _, .slice ao toks.length cp, ?_, ?_, fun _ => ?_⟩
    · exact set4_self _ _ _ _ hY1
    · exact (set4_other w1 (M + 1) _ _ _ _ M (by omega)).trans hM1
    · have hne : (Value.slice ao toks.length cp).ownBlock ≠ some (M + 1) := own_ne hown hY1 (by intro cs fr hc; injection hc with _ h2 _; exact absurd h2 (by decide))
      exact own_step (hown.lower (Nat.zero_le _)) fun k hk => set4_other w1 (M + 1) _ _ _ _ k (fun e => hne (by rw [hk, e]))
  · cases hb

/-- What result needs of the parser. -/
structure ErrAt (Y : Nat) (line col e : Int) (w : World) : Prop where
  c2 : w.cell? ⟨Y, 2, none⟩ = some (.int .i64 line)
  c3 : w.cell? ⟨Y, 3, none⟩ = some (.int .i64 col)
  c4 : w.cell? ⟨Y, 4, none⟩ = some (.int .i64 e)

set_option maxHeartbeats 8000000 in
set_option maxRecDepth 100000 in
theorem result_ok (h : ErrAt Y line col 0 w) (title : ByteArray) (a1 a2 a3 a4 : Option Addr) (n1 n2 n3 n4 c1 c2 c3 c4 : Nat) :
    Calls Tryz.prog 11 #[.pointer (some ⟨Y, 0, none⟩), .agg #[.string title, .bool false, .slice a1 n1 c1, .slice a2 n2 c2, .slice a3 n3 c3, .slice a4 n4 c4]] w fun r w' =>
      r = .returned (.tuple #[.agg #[.string title, .bool false, .slice a1 n1 c1, .slice a2 n2 c2, .slice a3 n3 c3, .slice a4 n4 c4], .int .i64 0, .int .i64 0, .int .i64 0]) ∧ Below w.heap.size w w' := by
  have c4 := h.c4
  have n4' := World.new_ne w _ c4
  have l4 := World.block_lt_of_cell? w _ c4
  simp only at l4
  clear h
  go_enter Tryz.func11, Tryz.ntmps11
  go_wp2
  refine bodyPost_ret (results_cell3 rfl _ _ (w.heap.size + 1) 32 _ (0, 0) _ rfl (heap_alloc2_new w _ _) Tryz.underlying32 rfl Tryz.sizeScore) rfl ?_
  exact ⟨rfl, ((Below.refl _ w).alloc (Nat.le_refl _) _).alloc (by simp) _⟩

theorem set6_self {w : World} {X : Nat} {cs : Array Value} {T : TypeId} (v0 v1 v2 v3 v4 v5 : Value) (h : w.heap[X]? = some (.cells cs T (0, 0))) :
    ((((((w.setCell ⟨X, 0, none⟩ v0).setCell ⟨X, 1, none⟩ v1).setCell ⟨X, 2, none⟩ v2).setCell ⟨X, 3, none⟩ v3).setCell ⟨X, 4, none⟩ v4).setCell ⟨X, 5, none⟩ v5).heap[X]? = some (.cells ((((((cs.setIfInBounds 0 v0).setIfInBounds 1 v1).setIfInBounds 2 v2).setIfInBounds 3 v3).setIfInBounds 4 v4).setIfInBounds 5 v5) T (0, 0)) :=
  Lib.heap_setCell_same (i := 5) (Lib.heap_setCell_same (i := 4) (Lib.heap_setCell_same (i := 3) (Lib.heap_setCell_same (i := 2) (Lib.heap_setCell_same (i := 1) (Lib.heap_setCell_same (i := 0) h v0) v1) v2) v3) v4) v5

theorem set6_other (w : World) (X : Nat) (v0 v1 v2 v3 v4 v5 : Value) (k : Nat) (hk : k ≠ X) : ((((((w.setCell ⟨X, 0, none⟩ v0).setCell ⟨X, 1, none⟩ v1).setCell ⟨X, 2, none⟩ v2).setCell ⟨X, 3, none⟩ v3).setCell ⟨X, 4, none⟩ v4).setCell ⟨X, 5, none⟩ v5).heap[k]? = w.heap[k]? := by
  rw [Below.heap_setCell _ ⟨X, 5, none⟩ _ k hk, Below.heap_setCell _ ⟨X, 4, none⟩ _ k hk, Below.heap_setCell _ ⟨X, 3, none⟩ _ k hk, Below.heap_setCell _ ⟨X, 2, none⟩ _ k hk, Below.heap_setCell _ ⟨X, 1, none⟩ _ k hk, Below.heap_setCell _ ⟨X, 0, none⟩ _ k hk]

set_option maxHeartbeats 8000000 in
set_option maxRecDepth 100000 in
theorem read_walk {s : ByteArray} {title : ByteArray} {l : List (List (Option UInt8) × Int)} (hx : Lx (linesOf s s.size) s 0 0 toks none) (hsz : s.size ≤ 1048576) (hn : toks.length ≤ 262143)
    (hscore : ∀ (Y M : Nat) (tv : Value) (w : World), Prs Y M tv toks 0 0 0 0 false 0 0 #[] 0 w → Calls Tryz.prog 12 #[.pointer (some ⟨Y, 0, none⟩)] w fun r w' => Away [Y, M] w w' ∧ ∃ v, r = .returned v ∧ ScoreIs w' title l v ∧ ∃ (pos : Nat) (es : Array MapEntry) (clk : Nat) (ls ln : Int), Prs Y M tv toks pos 0 0 0 false ls ln es clk w') (w : World) :
    Calls Tryz.prog 6 #[.string s] w fun r w' => Below w.heap.size w w' ∧ ∃ v, r = .returned (.tuple #[v, .int .i64 0, .int .i64 0, .int .i64 0]) ∧ ScoreIs w' title l v := by
  have ho := open_walk hx hsz hn (w.alloc (.cells #[.string ⟨#[]⟩, .bool false, .slice none 0 0, .slice none 0 0, .slice none 0 0, .slice none 0 0] 32))
  have hb0 := heap_alloc_new w (.cells #[.string ⟨#[]⟩, .bool false, .slice none 0 0, .slice none 0 0, .slice none 0 0, .slice none 0 0] 32)
  have bel0 := (Below.refl w.heap.size w).alloc (Nat.le_refl _) (.cells #[.string ⟨#[]⟩, .bool false, .slice none 0 0, .slice none 0 0, .slice none 0 0, .slice none 0 0] 32)
  go_enter Tryz.func6, Tryz.ntmps6
  go_wp2_with (go_at_call 10; refine ho.mono ?_)
  clear ho
  rintro r w1 ⟨rfl, b1, tv, hS1⟩
  have esz : (w.alloc (.cells #[.string ⟨#[]⟩, .bool false, .slice none 0 0, .slice none 0 0, .slice none 0 0, .slice none 0 0] 32)).heap.size = w.heap.size + 1 := by simp
  rw [esz] at b1 hS1 ⊢
  have hb1 := (b1.block w.heap.size (by omega)).trans hb0
  have bel1 := bel0.trans (b1.mono (Nat.le_succ _))
  have sz1 : w.heap.size + 1 ≤ w1.heap.size := by have := b1.size; simpa using this
  have hs1 := hscore _ _ _ _ hS1
  clear hb0 bel0 b1 hscore hS1
  clear esz
  go_wp2_with (go_at_call 12; refine hs1.mono ?_)
  clear hs1
  rintro r w2 ⟨ha2, v, rfl, hv, pos2, es2, clk2, ls2, ln2, hS2⟩
  have hb2 := ha2.heap hb1 (by simp; omega)
  have bel2 : Below w.heap.size w w2 := ⟨ha2.os.trans bel1.os, ha2.tape.trans bel1.tape, ha2.output.trans bel1.output, Nat.le_trans bel1.size ha2.size, fun k hk => (ha2.block k (by omega) (by simp; omega)).trans (bel1.block k hk)⟩
  clear hb1 bel1 ha2 sz1
  have hE : ErrAt (w.heap.size + 1 + 1) 0 0 0 w2 := ⟨by rw [Lib.cell_of_heap hS2.blk]; rfl, by rw [Lib.cell_of_heap hS2.blk]; rfl, by rw [Lib.cell_of_heap hS2.blk]; rfl⟩
  obtain ⟨pv, mv, lv, sv, rs, rfl, h1, h2, h3, h4, h5⟩ := hv
  obtain ⟨a1, c1, rfl⟩ := own_is h1
  obtain ⟨a2, c2, rfl⟩ := own_is h3
  obtain ⟨a4, c4, rfl⟩ := own_is h5
  have hr := result_ok hE title a1 a2 none a4 1 l.length 0 1 c1 c2 0 c4
  have hv2 : ScoreIs w2 title l (.agg #[.string title, .bool false, .slice a1 1 c1, .slice a2 l.length c2, .slice none 0 0, .slice a4 1 c4]) := ⟨_, _, _, sv, rs, rfl, h1, h2, h3, h4, h5⟩
  clear h1 h2 h3 h4 h5 hE hS2
  go_wp2_with (go_at_call 11; refine hr.mono ?_)
  clear hr
  rintro r w3 ⟨rfl, b3⟩
  have l2 := (Array.getElem?_eq_some_iff.1 hb2).1
  have hb3 := (b3.block w.heap.size l2).trans hb2
  have bel3 := bel2.trans (b3.mono (Nat.le_of_lt l2))
  have hv3 := hv2.step b3
  clear b3 hb2 bel2 hv2 l2
  have u0 : w3.cell? ⟨w.heap.size, 0, none⟩ = some (.string ⟨#[]⟩) := by rw [Lib.cell_of_heap hb3]; rfl
  have v0 := Lib.frozen_of_heap hb3 0
  have u1 : w3.cell? ⟨w.heap.size, 1, none⟩ = some (.bool false) := by rw [Lib.cell_of_heap hb3]; rfl
  have v1 := Lib.frozen_of_heap hb3 1
  have u2 : w3.cell? ⟨w.heap.size, 2, none⟩ = some (.slice none 0 0) := by rw [Lib.cell_of_heap hb3]; rfl
  have v2 := Lib.frozen_of_heap hb3 2
  have u3 : w3.cell? ⟨w.heap.size, 3, none⟩ = some (.slice none 0 0) := by rw [Lib.cell_of_heap hb3]; rfl
  have v3 := Lib.frozen_of_heap hb3 3
  have u4 : w3.cell? ⟨w.heap.size, 4, none⟩ = some (.slice none 0 0) := by rw [Lib.cell_of_heap hb3]; rfl
  have v4 := Lib.frozen_of_heap hb3 4
  have u5 : w3.cell? ⟨w.heap.size, 5, none⟩ = some (.slice none 0 0) := by rw [Lib.cell_of_heap hb3]; rfl
  have v5 := Lib.frozen_of_heap hb3 5
  go_wp2
  have h6 := set6_self (.string title) (.bool false) (.slice a1 1 c1) (.slice a2 l.length c2) (.slice none 0 0) (.slice a4 1 c4) hb3
  have bel6 := ((((((bel3.setCell (p := ⟨w.heap.size, 0, none⟩) (Nat.le_refl _) (.string title)).setCell (p := ⟨w.heap.size, 1, none⟩) (Nat.le_refl _) (.bool false)).setCell (p := ⟨w.heap.size, 2, none⟩) (Nat.le_refl _) (.slice a1 1 c1)).setCell (p := ⟨w.heap.size, 3, none⟩) (Nat.le_refl _) (.slice a2 l.length c2)).setCell (p := ⟨w.heap.size, 4, none⟩) (Nat.le_refl _) (.slice none 0 0)).setCell (p := ⟨w.heap.size, 5, none⟩) (Nat.le_refl _) (.slice a4 1 c4))
  have oth := set6_other w3 w.heap.size (.string title) (.bool false) (.slice a1 1 c1) (.slice a2 l.length c2) (.slice none 0 0) (.slice a4 1 c4)
  have hsz : ((((((w3.setCell ⟨w.heap.size, 0, none⟩ (.string title)).setCell ⟨w.heap.size, 1, none⟩ (.bool false)).setCell ⟨w.heap.size, 2, none⟩ (.slice a1 1 c1)).setCell ⟨w.heap.size, 3, none⟩ (.slice a2 l.length c2)).setCell ⟨w.heap.size, 4, none⟩ (.slice none 0 0)).setCell ⟨w.heap.size, 5, none⟩ (.slice a4 1 c4)).heap.size = w3.heap.size := by simp [World.setCell]
  generalize ((((((w3.setCell ⟨w.heap.size, 0, none⟩ (.string title)).setCell ⟨w.heap.size, 1, none⟩ (.bool false)).setCell ⟨w.heap.size, 2, none⟩ (.slice a1 1 c1)).setCell ⟨w.heap.size, 3, none⟩ (.slice a2 l.length c2)).setCell ⟨w.heap.size, 4, none⟩ (.slice none 0 0)).setCell ⟨w.heap.size, 5, none⟩ (.slice a4 1 c4)) = W6 at h6 bel6 oth hsz ⊢
  simp only [List.setIfInBounds_toArray, List.set_cons_succ, List.set_cons_zero] at h6
  have sm : Same [42, 44, 49, 56, 60, 67, 71, 75] w3 W6 := fun j cs U fr hm h =>
    (oth j (by
      rintro rfl
      rw [hb3] at h
      injection h with h
      injection h with _ h2 _
      exact absurd (h2 ▸ hm) (by decide))).trans h
  have hv6 : ScoreIs W6 title l (.agg #[.string title, .bool false, .slice a1 1 c1, .slice a2 l.length c2, .slice none 0 0, .slice a4 1 c4]) := by
    obtain ⟨_, _, _, sv, rs, e, h1, h2, h3, h4, h5⟩ := hv3
    exact ⟨_, _, _, sv, rs, e, sm.own (by simp) h1, sm.own (by simp) h2, sm.own (by simp) h3, h4.same (sm.less (by simp)), sm.own (by simp) h5⟩
  exact bodyPost_ret (results_cell3 rfl _ _ w.heap.size 32 _ (0, 0) _ rfl h6 Tryz.underlying32 rfl Tryz.sizeScore) rfl ⟨bel6, _, rfl, hv6⟩
end
end Go.Proofs.YtjnkppneilmpbaaGreatDoor

namespace Go.Proofs.YtjnkppneilmpbaaGreatDoor
open Go.RowKit
open Go.Lib (decDigits)

def wordP (bl body : List UInt8) : Piece := ⟨1, bl, body, 0, []⟩
def numP (bl body : List UInt8) (v : Int) : Piece := ⟨2, bl, body, v, []⟩
def symP (bl : List UInt8) (c : UInt8) : Piece := ⟨4, bl, [c], 0, []⟩
def strP (bl bytes : List UInt8) : Piece := ⟨3, bl, quoteL bytes, 0, bytes⟩

def idP (ids : Bool) (n : Nat) : List Piece := if ids then [symP [32] 64, numP [] [48] 0, symP [] 46, numP [] (decDigits n) n] else []
def noteP (y : UInt8) : List Piece := (if y.toNat % 2 = 0 then wordP [32] [stepC y, 52] else wordP [32] [114]) :: symP [] 58 :: numP [] [52] 4 :: []
def notesP (ids : Bool) : Nat → List UInt8 → List Piece
  | _, [] => []
  | n, y :: l => idP ids (n + 1) ++ noteP y ++ notesP ids (n + 1) l
def keyP (p k : UInt8) : List Piece := if k = p then [] else [wordP [32] [107, 101, 121], numP [32] (decDigits k.toNat) k.toNat]
def measW : Piece := wordP [10] [109, 101, 97, 115, 117, 114, 101]
def measuresP (ids : Bool) : Nat → UInt8 → List (List UInt8 × UInt8) → List Piece
  | _, _, [] => []
  | n, p, m :: l => measW :: (idP ids (n + 1) ++ (keyP p m.2 ++ symP [32] 123 :: (notesP ids (n + 1) m.1 ++ symP [32] 125 :: measuresP ids (n + 1 + m.1.length) m.2 l)))
def scoreW : Piece := wordP [] [115, 99, 111, 114, 101]
def partW : Piece := wordP [32] [112, 97, 114, 116]
def staffW : Piece := wordP [32] [115, 116, 97, 102, 102]
def trebW : Piece := wordP [32] [116, 114, 101, 98, 108, 101]
/-- The pieces behind the first. -/
def tailP (ids : Bool) (title : List UInt8) (l : List (List UInt8 × UInt8)) : List Piece :=
  strP [32] title :: partW :: (idP ids 1 ++ strP [32] [] :: staffW :: (idP ids 2 ++ trebW :: measuresP ids 2 0 l))

theorem flat_append (a b : List Piece) : flat (a ++ b) = flat a ++ flat b := by simp [flat]
theorem flat_cons (p : Piece) (b : List Piece) : flat (p :: b) = p.bl ++ p.body ++ flat b := by simp [flat]
theorem flat_nil : flat [] = [] := rfl
theorem flat_id (ids : Bool) (n : Nat) (r : List UInt8) : flat (idP ids n) ++ 32 :: r = 32 :: (idL ids n ++ r) := by
  unfold idP idL
  split
  · simp [flat, symP, numP]
  · simp [flat]
theorem flat_note (y : UInt8) : flat (noteP y) = 32 :: noteL y := by
  unfold noteP noteL
  split <;> simp [flat, symP, numP, wordP]
theorem flat_notes (ids : Bool) : ∀ (l : List UInt8) (n : Nat), flat (notesP ids n l) = notesL ids n l
  | [], _ => rfl
  | y :: l, n => by
    rw [notesP, flat_append, flat_append, flat_note, flat_notes ids l, List.append_assoc, List.cons_append, flat_id]
    simp [notesL]
theorem flat_key (p k : UInt8) (r : List UInt8) : flat (keyP p k) ++ 32 :: r = 32 :: (keyL p k ++ r) := by
  unfold keyP keyL
  split
  · simp [flat]
  · simp [flat, numP, wordP]
theorem flat_measures (ids : Bool) : ∀ (l : List (List UInt8 × UInt8)) (n : Nat) (p : UInt8), flat (measuresP ids n p l) ++ [10] = 10 :: measuresL ids n p l
  | [], _, _ => rfl
  | m :: l, n, p => by
    have ih := flat_measures ids l (n + 1 + m.1.length) m.2
    rw [measuresP, flat_cons, flat_append, flat_append, flat_cons, flat_append, flat_cons, flat_notes]
    show [10] ++ [109, 101, 97, 115, 117, 114, 101] ++ (flat (idP ids (n + 1)) ++ (flat (keyP p m.2) ++ (32 :: ([123] ++ (notesL ids (n + 1) m.1 ++ ([32] ++ [125] ++ flat (measuresP ids (n + 1 + m.1.length) m.2 l))))))) ++ [10] = _
    rw [flat_key, flat_id]
    simp only [List.append_assoc, List.cons_append, List.nil_append, ih]
    simp [measuresL, measT]
theorem flat_text (ids : Bool) (title : List UInt8) (l : List (List UInt8 × UInt8)) : flat (scoreW :: tailP ids title l) ++ [10] = textL ids title l := by
  have ih := flat_measures ids l 2 0
  rw [flat_cons, tailP, flat_cons, flat_cons, flat_append, flat_cons, flat_cons, flat_append, flat_cons]
  show [] ++ [115, 99, 111, 114, 101] ++ ([32] ++ quoteL title ++ ([32] ++ [112, 97, 114, 116] ++ (flat (idP ids 1) ++ (32 :: ([34, 34] ++ ([32] ++ [115, 116, 97, 102, 102] ++ (flat (idP ids 2) ++ (32 :: ([116, 114, 101, 98, 108, 101] ++ flat (measuresP ids 2 0 l)))))))))) ++ [10] = _
  rw [flat_id, flat_id]
  simp only [List.append_assoc, List.cons_append, List.nil_append, ih]
  simp [textL, headL, scoreT, partT, staffT, trebleT]

/-! ### The lexer takes them -/
/-- A blank comes first. -/
def Sp (l : List UInt8) : Prop := ∃ c r, l = c :: r ∧ (c = 32 ∨ c = 10)
theorem Sp.digit {l : List UInt8} (h : Sp l) : Ends isDigit l := by
  obtain ⟨c, r, rfl, hc⟩ := h
  intro x r' e
  injection e with e1 _
  subst e1
  rcases hc with rfl | rfl <;> decide
theorem Sp.word {l : List UInt8} (h : Sp l) : Ends isInWord l := by
  obtain ⟨c, r, rfl, hc⟩ := h
  intro x r' e
  injection e with e1 _
  subst e1
  rcases hc with rfl | rfl <;> decide
theorem sp32 (r : List UInt8) : Sp (32 :: r) := ⟨_, _, rfl, .inl rfl⟩
theorem sp10 (r : List UInt8) : Sp (10 :: r) := ⟨_, _, rfl, .inr rfl⟩
theorem ends_c {q : Nat → Bool} {c : UInt8} (h : q c.toNat = false) (r : List UInt8) : Ends q (c :: r) := by
  intro x r' e
  injection e with e1 _
  subst e1
  exact h
theorem good_append (rest : List UInt8) : ∀ (ps qs : List Piece), GoodP (flat qs ++ rest) ps → GoodP rest qs → GoodP rest (ps ++ qs)
  | [], _, _, h => h
  | p :: ps, qs, h, h' => ⟨by show p.Ok (flat (ps ++ qs) ++ rest); rw [flat_append, List.append_assoc]; exact h.1, good_append rest ps qs h.2 h'⟩

theorem bl_ok {bl : List UInt8} (h : bl = [] ∨ bl = [32] ∨ bl = [10]) : ∀ x ∈ bl, isBlank x.toNat = true := by
  intro x hx
  rcases h with rfl | rfl | rfl
  · exact absurd hx List.not_mem_nil
  · obtain rfl := List.mem_singleton.1 hx; decide
  · obtain rfl := List.mem_singleton.1 hx; decide
def wordOk (body : List UInt8) : Bool := match body with
  | [] => false
  | c :: t => isLetter c.toNat && (c :: t).all (fun x => isInWord x.toNat) && decide ((c :: t).length ≤ 64)
theorem wordP_ok {bl body rest : List UInt8} (hb : bl = [] ∨ bl = [32] ∨ bl = [10]) (h : wordOk body = true) (hr : Ends isInWord rest) : (wordP bl body).Ok rest := by
  refine ⟨bl_ok hb, .inl ⟨rfl, rfl, rfl, ?_, ?_, ?_, hr⟩⟩
  · cases body with
    | nil => cases h
    | cons c t =>
      simp only [wordOk, Bool.and_eq_true] at h
      exact ⟨c, t, rfl, h.1.1⟩
  · cases body with
    | nil => cases h
    | cons c t =>
      simp only [wordOk, Bool.and_eq_true] at h
      exact fun x hx => List.all_eq_true.1 h.1.2 x hx
  · cases body with
    | nil => cases h
    | cons c t =>
      simp only [wordOk, Bool.and_eq_true, decide_eq_true_eq] at h
      exact h.2
theorem symP_ok {bl rest : List UInt8} {c : UInt8} (hb : bl = [] ∨ bl = [32] ∨ bl = [10]) (h : (!isLetter c.toNat && !isDigit c.toNat && decide (c.toNat ≠ 34) && decide (0 ≤ Lib.indexByte symbols c) && !isBlank c.toNat) = true) : (symP bl c).Ok rest := by
  simp only [Bool.and_eq_true, Bool.not_eq_true', decide_eq_true_eq] at h
  exact ⟨bl_ok hb, .inr (.inr (.inr ⟨rfl, rfl, rfl, c, rfl, h.1.1.1.1, h.1.1.1.2, h.1.1.2, h.1.2, h.2⟩))⟩
theorem numP_ok {bl rest : List UInt8} (n : Nat) (hb : bl = [] ∨ bl = [32] ∨ bl = [10]) (hn : n < 1000000000000000) (hr : Ends isDigit rest) : (numP bl (decDigits n) n).Ok rest :=
  ⟨bl_ok hb, .inr (.inl ⟨rfl, rfl, dec_atoi n, dec_ne n, dec_digit n, dec_le 14 n (by omega), hr⟩)⟩
theorem dec_0 : decDigits 0 = [48] := Lib.decDigits_one (by decide)
theorem dec_4 : decDigits 4 = [52] := Lib.decDigits_one (by decide)
theorem str_ok' {rest bytes : List UInt8} (h : bytes.length ≤ 4096) : (strP [32] bytes).Ok rest := ⟨bl_ok (.inr (.inl rfl)), .inr (.inr (.inl ⟨rfl, rfl, rfl, h⟩))⟩

theorem id_good (ids : Bool) (n : Nat) (hn : n < 1000000000000000) {rest : List UInt8} (hr : Sp rest) : GoodP rest (idP ids n) := by
  unfold idP
  split
  · refine ⟨symP_ok (.inr (.inl rfl)) (by decide), ?_, symP_ok (.inl rfl) (by decide), numP_ok n (.inl rfl) hn hr.digit, trivial⟩
    have := numP_ok (bl := []) (rest := 46 :: (decDigits n ++ rest)) 0 (.inl rfl) (by omega) (ends_c (by decide) _)
    rw [dec_0] at this
    simpa [flat, symP, numP] using this
  · trivial
theorem id_sp (ids : Bool) (n : Nat) {rest : List UInt8} (hr : Sp rest) : Sp (flat (idP ids n) ++ rest) := by
  unfold idP
  split
  · exact ⟨32, _, rfl, .inl rfl⟩
  · exact hr
theorem step_letter (y : UInt8) : wordOk [stepC y, 52] = true := by
  unfold stepC
  split <;> decide
theorem note_good (y : UInt8) {rest : List UInt8} (hr : Sp rest) : GoodP rest (noteP y) := by
  unfold noteP
  refine ⟨?_, symP_ok (.inl rfl) (by decide), ?_, trivial⟩
  · split
    · exact wordP_ok (.inr (.inl rfl)) (step_letter y) (ends_c (by decide) _)
    · exact wordP_ok (.inr (.inl rfl)) (by decide) (ends_c (by decide) _)
  · have := numP_ok (bl := []) (rest := rest) 4 (.inl rfl) (by omega) hr.digit
    rw [dec_4] at this
    exact this
theorem note_sp (y : UInt8) {rest : List UInt8} : Sp (flat (noteP y) ++ rest) := by rw [flat_note]; exact sp32 _
theorem notes_sp (ids : Bool) : ∀ (l : List UInt8) (n : Nat) {rest : List UInt8}, Sp rest → Sp (flat (notesP ids n l) ++ rest)
  | [], _, _, h => h
  | y :: l, n, rest, h => by
    rw [notesP, flat_append, flat_append, List.append_assoc, List.append_assoc]
    exact id_sp ids _ (note_sp y)
theorem notes_good (ids : Bool) : ∀ (l : List UInt8) (n : Nat) {rest : List UInt8}, n + l.length < 1000000 → Sp rest → GoodP rest (notesP ids n l)
  | [], _, _, _, _ => trivial
  | y :: l, n, rest, hn, h => by
    simp only [List.length_cons] at hn
    have hs := notes_sp ids l (n + 1) h
    exact good_append rest _ _ (good_append _ _ _ (id_good ids (n + 1) (by omega) (note_sp y)) (note_good y hs)) (notes_good ids l (n + 1) (by omega) h)
theorem key_sp (p k : UInt8) {rest : List UInt8} (hr : Sp rest) : Sp (flat (keyP p k) ++ rest) := by
  unfold keyP
  split
  · exact hr
  · exact ⟨32, _, rfl, .inl rfl⟩
theorem key_good (p k : UInt8) {rest : List UInt8} (hr : Sp rest) : GoodP rest (keyP p k) := by
  unfold keyP
  split
  · trivial
  · exact ⟨wordP_ok (.inr (.inl rfl)) (by decide) (ends_c (c := 32) (by decide) _), numP_ok _ (.inr (.inl rfl)) (by have := k.toNat_lt; omega) hr.digit, trivial⟩
theorem measures_sp (ids : Bool) (n : Nat) (p : UInt8) : ∀ (l : List (List UInt8 × UInt8)), Sp (flat (measuresP ids n p l) ++ [10])
  | [] => sp10 _
  | _ :: _ => ⟨10, _, rfl, .inr rfl⟩
theorem measures_good (ids : Bool) : ∀ (l : List (List UInt8 × UInt8)) (n : Nat) (p : UInt8), n + objs l < 1000000 → GoodP [10] (measuresP ids n p l)
  | [], _, _, _ => trivial
  | m :: l, n, p, h => by
    simp only [objs] at h
    have h1 := measures_good ids l (n + 1 + m.1.length) m.2 (by omega)
    have s1 : Sp (flat (symP [32] 125 :: measuresP ids (n + 1 + m.1.length) m.2 l) ++ [10]) := ⟨32, _, rfl, .inl rfl⟩
    have g1 : GoodP [10] (symP [32] 125 :: measuresP ids (n + 1 + m.1.length) m.2 l) := ⟨symP_ok (.inr (.inl rfl)) (by decide), h1⟩
    have g2 := good_append [10] _ _ (notes_good ids m.1 (n + 1) (by omega) s1) g1
    have g3 : GoodP [10] (symP [32] 123 :: (notesP ids (n + 1) m.1 ++ symP [32] 125 :: measuresP ids (n + 1 + m.1.length) m.2 l)) := ⟨symP_ok (.inr (.inl rfl)) (by decide), g2⟩
    have s3 : Sp (flat (symP [32] 123 :: (notesP ids (n + 1) m.1 ++ symP [32] 125 :: measuresP ids (n + 1 + m.1.length) m.2 l)) ++ [10]) := ⟨32, _, rfl, .inl rfl⟩
    have g4 := good_append [10] _ _ (key_good p m.2 s3) g3
    have s4 := key_sp p m.2 s3
    rw [← List.append_assoc, ← flat_append] at s4
    have g5 := good_append [10] _ _ (id_good ids (n + 1) (by omega) s4) g4
    have s5 := id_sp ids (n + 1) s4
    rw [← List.append_assoc, ← flat_append] at s5
    exact ⟨wordP_ok (.inr (.inr rfl)) (by decide) s5.word, g5⟩
theorem text_good (ids : Bool) (title : List UInt8) (l : List (List UInt8 × UInt8)) (ht : title.length ≤ 4096) (hl : objs l < 100000) : GoodP [10] (scoreW :: tailP ids title l) := by
  have h1 := measures_good ids l 2 0 (by omega)
  have s1 := measures_sp ids 2 0 l
  have g2 : GoodP [10] (trebW :: measuresP ids 2 0 l) := ⟨wordP_ok (.inr (.inl rfl)) (by decide) s1.word, h1⟩
  have s2 : Sp (flat (trebW :: measuresP ids 2 0 l) ++ [10]) := ⟨32, _, rfl, .inl rfl⟩
  have g3 := good_append [10] _ _ (id_good ids 2 (by omega) s2) g2
  have s3 := id_sp ids 2 s2
  rw [← List.append_assoc, ← flat_append] at s3
  have g4 : GoodP [10] (strP [32] [] :: staffW :: (idP ids 2 ++ trebW :: measuresP ids 2 0 l)) := ⟨str_ok' (by simp), wordP_ok (.inr (.inl rfl)) (by decide) s3.word, g3⟩
  have s4 : Sp (flat (strP [32] [] :: staffW :: (idP ids 2 ++ trebW :: measuresP ids 2 0 l)) ++ [10]) := ⟨32, _, rfl, .inl rfl⟩
  have g5 := good_append [10] _ _ (id_good ids 1 (by omega) s4) g4
  have s5 := id_sp ids 1 s4
  rw [← List.append_assoc, ← flat_append] at s5
  exact ⟨wordP_ok (.inl rfl) (by decide) (ends_c (c := 32) (by decide) _), str_ok' ht, wordP_ok (.inr (.inl rfl)) (by decide) s5.word, g5⟩
end Go.Proofs.YtjnkppneilmpbaaGreatDoor
