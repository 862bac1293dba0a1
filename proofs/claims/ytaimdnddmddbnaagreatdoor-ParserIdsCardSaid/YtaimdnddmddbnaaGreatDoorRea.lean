/-
  A part of the proof that the law ParserIds (chapter 19) returns true for every site, number and count: walks of the program's functions, and runs of them in the kernel by the own evaluator.
-/
import Derived.Test.YtaimdnddmddbnaaGreatDoorScq
import Derived.Test.YtaimdnddmddbnaaGreatDoorSrt
namespace Go.Proofs.YtaimdnddmddbnaaGreatDoor
open Go.RowKit

theorem results_cell3 {P : Program} {fn : Func} {p t u v : Tmp} {ty : TypeId} (h : fn.results = #[.cell p ty, .tmp t, .tmp u, .tmp v]) (tmps : Array Value) (w : World) (g : Nat) (T : TypeId) (cs : Array Value) (fr : Nat × Nat) (d : TypeDesc)
    (hp : tmps.getD p undef = .pointer (some ⟨g, 0, none⟩)) (hg : w.heap[g]? = some (.cells cs T fr))
    (hu : P.underlying ty = some d) (hd : (match d with | .struct _ | .array _ _ => true | _ => false) = true) (hi : (P.info? ty).map (·.size) = some cs.size) :
    (results fn tmps).run P w = .ok (.tuple #[.agg cs, tmps.getD t undef, tmps.getD u undef, tmps.getD v undef]) w := by
  have hp' : tmps[p]?.getD undef = .pointer (some ⟨g, 0, none⟩) := by simpa using hp
  simp [results, h, hp', asAddr, run_loadVar_row w g T ty cs fr d hg hu hd hi, Result.andThen]

section
variable {Y M : Nat} {tv : Value} {toks : List Tok} {pos : Nat} {line col e : Int} {free : Bool} {ls ln : Int} {es : Array MapEntry} {clk : Nat} {w : World} {t : Tok} {out : Option Nat}

theorem set4_self {w : World} {X : Nat} {cs : Array Value} {T : TypeId} (v0 v2 v3 v4 : Value) (h : w.heap[X]? = some (.cells cs T (0, 0))) :
    ((((w.setCell ⟨X, 0, none⟩ v0).setCell ⟨X, 2, none⟩ v2).setCell ⟨X, 3, none⟩ v3).setCell ⟨X, 4, none⟩ v4).heap[X]? = some (.cells ((((cs.setIfInBounds 0 v0).setIfInBounds 2 v2).setIfInBounds 3 v3).setIfInBounds 4 v4) T (0, 0)) :=
  Lib.heap_setCell_same (i := 4) (Lib.heap_setCell_same (i := 3) (Lib.heap_setCell_same (i := 2) (Lib.heap_setCell_same (i := 0) h v0) v2) v3) v4
theorem set4_other (w : World) (X : Nat) (v0 v2 v3 v4 : Value) (k : Nat) (hk : k ≠ X) : ((((w.setCell ⟨X, 0, none⟩ v0).setCell ⟨X, 2, none⟩ v2).setCell ⟨X, 3, none⟩ v3).setCell ⟨X, 4, none⟩ v4).heap[k]? = w.heap[k]? := by
  rw [Below.heap_setCell _ ⟨X, 4, none⟩ _ k hk, Below.heap_setCell _ ⟨X, 3, none⟩ _ k hk, Below.heap_setCell _ ⟨X, 2, none⟩ _ k hk, Below.heap_setCell _ ⟨X, 0, none⟩ _ k hk]

/-- What open leaves. -/
def Opened (toks : List Tok) (out : Option Nat) (w : World) (r : Ending) (w' : World) : Prop :=
  r = .returned (.pointer (some ⟨w.heap.size + 1, 0, none⟩)) ∧ Below w.heap.size w w' ∧
  ((out = none ∧ ∃ tv, Prs (w.heap.size + 1) w.heap.size tv toks 0 0 0 0 false 0 0 #[] 0 w') ∨
   (∃ b : Nat, out = some b ∧ w'.heap[w.heap.size + 1]? = some (.cells (lexCells w.heap.size ((b : Int) + 1)) 83 (0, 0)) ∧ w'.heap[w.heap.size]? = some (.map #[] 0)))

set_option maxHeartbeats 8000000 in
set_option maxRecDepth 100000 in
theorem open_walk {s : ByteArray} (hx : Lx s 0 0 toks out) (hsz : s.size ≤ 1048576) (hnl : ∀ k (h : k < s.size), ¬ ((s[k].toNat : Nat) : Int) = 10) (hlong : ∀ b, out = some b → b ≤ 1048576) (hn : toks.length ≤ 262143) (w : World) :
    Calls Tryz.prog 8 #[.string s, .bool false] w (Opened toks out w) := by
  have hmk : (Instr.makeMap 78 none).run Tryz.prog w = .ok (.map (some w.heap.size)) (w.alloc (.map #[] 0)) := by
    simp [Instr.makeMap, newObj, Sem.run]
  have b0 := ((Below.refl w.heap.size w).alloc (Nat.le_refl _) (.map #[] 0)).alloc (by simp) (.cells #[.slice none 0 0, .int .i64 0, .int .i64 0, .int .i64 0, .int .i64 0, .bool false, .int .i64 0, .int .i64 0, .map (some w.heap.size)] 83)
  have hM0 : ((w.alloc (.map #[] 0)).alloc (.cells #[.slice none 0 0, .int .i64 0, .int .i64 0, .int .i64 0, .int .i64 0, .bool false, .int .i64 0, .int .i64 0, .map (some w.heap.size)] 83)).heap[w.heap.size]? = some (.map #[] 0) := (Lib.alloc_old _ _ _ (by simp)).trans (heap_alloc_new w _)
  have hY0 : ((w.alloc (.map #[] 0)).alloc (.cells #[.slice none 0 0, .int .i64 0, .int .i64 0, .int .i64 0, .int .i64 0, .bool false, .int .i64 0, .int .i64 0, .map (some w.heap.size)] 83)).heap[w.heap.size + 1]? = some (.cells #[.slice none 0 0, .int .i64 0, .int .i64 0, .int .i64 0, .int .i64 0, .bool false, .int .i64 0, .int .i64 0, .map (some w.heap.size)] 83 (0, 0)) := by
    have := heap_alloc_new (w.alloc (.map #[] 0)) (.cells #[.slice none 0 0, .int .i64 0, .int .i64 0, .int .i64 0, .int .i64 0, .bool false, .int .i64 0, .int .i64 0, .map (some w.heap.size)] 83)
    simpa using this
  have sc := lexScan hx hsz hnl hlong hn ((w.alloc (.map #[] 0)).alloc (.cells #[.slice none 0 0, .int .i64 0, .int .i64 0, .int .i64 0, .int .i64 0, .bool false, .int .i64 0, .int .i64 0, .map (some w.heap.size)] 83))
  go_enter Tryz.func8, Tryz.ntmps8
  go_wp2_with (go_at_call 12; refine sc.mono ?_)
  rintro r w1 ⟨b1, hcase⟩
  have hM1 := (b1.block _ (Array.getElem?_eq_some_iff.1 hM0).1).trans hM0
  have hY1 := (b1.block _ (Array.getElem?_eq_some_iff.1 hY0).1).trans hY0
  have bel := b0.trans (b1.mono (by simp; omega))
  generalize hMe : w.heap.size = M at hM1 hY1 bel ⊢
  clear b0 hM0 hY0 sc hmk
  have d0 : w1.cell? ⟨M + 1, 0, none⟩ = some (.slice none 0 0) := by rw [Lib.cell_of_heap hY1]; rfl
  have d2 : w1.cell? ⟨M + 1, 2, none⟩ = some (.int .i64 0) := by rw [Lib.cell_of_heap hY1]; rfl
  have d3 : w1.cell? ⟨M + 1, 3, none⟩ = some (.int .i64 0) := by rw [Lib.cell_of_heap hY1]; rfl
  have d4 : w1.cell? ⟨M + 1, 4, none⟩ = some (.int .i64 0) := by rw [Lib.cell_of_heap hY1]; rfl
  have f0 := Lib.frozen_of_heap hY1 0
  have f2 := Lib.frozen_of_heap hY1 2
  have f3 := Lib.frozen_of_heap hY1 3
  have f4 := Lib.frozen_of_heap hY1 4
  rcases hcase with ⟨rfl, lv, rfl, hown⟩ | ⟨b, rfl, rfl⟩
  · obtain ⟨ao, cp, rfl⟩ : ∃ ao c, lv = .slice ao toks.length c := by
      rcases hown.2 with ⟨hv, h0⟩ | ⟨g, cap, cur, hv, _⟩
      · exact ⟨none, 0, by rw [hv, h0]⟩
      · exact ⟨_, _, hv⟩
    go_wp2
    go_ret
    rw [Opened, hMe]
    refine ⟨rfl, (((bel.setCell (p := ⟨M + 1, 0, none⟩) (by show M ≤ M + 1; omega) _).setCell (p := ⟨M + 1, 2, none⟩) (by show M ≤ M + 1; omega) _).setCell (p := ⟨M + 1, 3, none⟩) (by show M ≤ M + 1; omega) _).setCell (p := ⟨M + 1, 4, none⟩) (by show M ≤ M + 1; omega) _, .inl ⟨rfl, .slice ao toks.length cp, ?_, ?_, fun _ => ?_⟩⟩
    · exact set4_self _ _ _ _ hY1
    · exact (set4_other w1 (M + 1) _ _ _ _ M (by omega)).trans hM1
    · have hne : (Value.slice ao toks.length cp).ownBlock ≠ some (M + 1) := own_ne hown hY1 (by intro cs fr hc; injection hc with _ h2 _; exact absurd h2 (by decide))
      exact own_step (hown.lower (Nat.zero_le _)) fun k hk => set4_other w1 (M + 1) _ _ _ _ k (fun e => hne (by rw [hk, e]))
  · go_wp2
    go_ret
    rw [Opened, hMe]
    refine ⟨rfl, (((bel.setCell (p := ⟨M + 1, 0, none⟩) (by show M ≤ M + 1; omega) _).setCell (p := ⟨M + 1, 2, none⟩) (by show M ≤ M + 1; omega) _).setCell (p := ⟨M + 1, 3, none⟩) (by show M ≤ M + 1; omega) _).setCell (p := ⟨M + 1, 4, none⟩) (by show M ≤ M + 1; omega) _, .inr ⟨b, rfl, ?_, ?_⟩⟩
    · exact set4_self _ _ _ _ hY1
    · exact (set4_other w1 (M + 1) _ _ _ _ M (by omega)).trans hM1

/-- What result needs of the parser. -/
structure ErrAt (Y : Nat) (line col e : Int) (w : World) : Prop where
  c2 : w.cell? ⟨Y, 2, none⟩ = some (.int .i64 line)
  c3 : w.cell? ⟨Y, 3, none⟩ = some (.int .i64 col)
  c4 : w.cell? ⟨Y, 4, none⟩ = some (.int .i64 e)

set_option maxHeartbeats 8000000 in
set_option maxRecDepth 100000 in
theorem result_ok (h : ErrAt Y line col 0 w) (title : ByteArray) (a1 a2 a3 a4 : Option Addr) (n1 n2 n3 n4 c1 c2 c3 c4 : Nat) :
    Calls Tryz.prog 9 #[.pointer (some ⟨Y, 0, none⟩), .agg #[.string title, .bool false, .slice a1 n1 c1, .slice a2 n2 c2, .slice a3 n3 c3, .slice a4 n4 c4]] w fun r w' =>
      r = .returned (.tuple #[.agg #[.string title, .bool false, .slice a1 n1 c1, .slice a2 n2 c2, .slice a3 n3 c3, .slice a4 n4 c4], .int .i64 0, .int .i64 0, .int .i64 0]) ∧ Below w.heap.size w w' := by
  have c4 := h.c4
  have n4' := World.new_ne w _ c4
  have l4 := World.block_lt_of_cell? w _ c4
  simp only at l4
  clear h
  go_enter Tryz.func9, Tryz.ntmps9
  go_wp2
  refine bodyPost_ret (results_cell3 rfl _ _ (w.heap.size + 1) 29 _ (0, 0) _ rfl (heap_alloc2_new w _ _) Tryz.underlying29 rfl Tryz.sizeScore) rfl ?_
  exact ⟨rfl, ((Below.refl _ w).alloc (Nat.le_refl _) _).alloc (by simp) _⟩

theorem set6_self {w : World} {X : Nat} {cs : Array Value} {T : TypeId} (v0 v1 v2 v3 v4 v5 : Value) (h : w.heap[X]? = some (.cells cs T (0, 0))) :
    ((((((w.setCell ⟨X, 0, none⟩ v0).setCell ⟨X, 1, none⟩ v1).setCell ⟨X, 2, none⟩ v2).setCell ⟨X, 3, none⟩ v3).setCell ⟨X, 4, none⟩ v4).setCell ⟨X, 5, none⟩ v5).heap[X]? = some (.cells ((((((cs.setIfInBounds 0 v0).setIfInBounds 1 v1).setIfInBounds 2 v2).setIfInBounds 3 v3).setIfInBounds 4 v4).setIfInBounds 5 v5) T (0, 0)) :=
  Lib.heap_setCell_same (i := 5) (Lib.heap_setCell_same (i := 4) (Lib.heap_setCell_same (i := 3) (Lib.heap_setCell_same (i := 2) (Lib.heap_setCell_same (i := 1) (Lib.heap_setCell_same (i := 0) h v0) v1) v2) v3) v4) v5

theorem alloc3_facts (w : World) (a b c : Obj) :
    (((w.alloc a).alloc b).alloc c).heap[w.heap.size + 1 + 1]? = some c ∧ (((w.alloc a).alloc b).alloc c).heap[w.heap.size + 1]? = some b ∧ Below w.heap.size w (((w.alloc a).alloc b).alloc c) := by
  have e : ((w.alloc a).alloc b).heap.size = w.heap.size + 1 + 1 := by simp
  have h1 := heap_alloc_new ((w.alloc a).alloc b) c
  rw [e] at h1
  have h2 := (Lib.alloc_old ((w.alloc a).alloc b) c (w.heap.size + 1) (by omega)).trans (heap_alloc2_new w a b)
  exact ⟨h1, h2, (((Below.refl _ w).alloc (Nat.le_refl _) _).alloc (by simp) _).alloc (by omega) _⟩

set_option maxHeartbeats 8000000 in
set_option maxRecDepth 100000 in
theorem result_err (h : ErrAt Y line col e w) (he : e ≠ 0) (title : ByteArray) (a1 a2 a3 a4 : Option Addr) (n1 n2 n3 n4 c1 c2 c3 c4 : Nat) :
    Calls Tryz.prog 9 #[.pointer (some ⟨Y, 0, none⟩), .agg #[.string title, .bool false, .slice a1 n1 c1, .slice a2 n2 c2, .slice a3 n3 c3, .slice a4 n4 c4]] w fun r w' =>
      r = .returned (.tuple #[noScore, .int .i64 line, .int .i64 col, .int .i64 e]) ∧ Below w.heap.size w w' := by
  have d2 := h.c2
  have d3 := h.c3
  have d4 := h.c4
  have n4' := World.new_ne w _ d4
  have l4 := World.block_lt_of_cell? w _ d4
  simp only at l4
  clear h
  have m1 : Y ≠ w.heap.size + 1 := by omega
  have m2 : Y ≠ w.heap.size + 1 + 1 := by omega
  have m3 : Y ≠ w.heap.size := by omega
  go_enter Tryz.func9, Tryz.ntmps9
  go_wp2
  obtain ⟨hc, hb, bel⟩ := alloc3_facts w (.cells #[.string title, .bool false, .slice a1 n1 c1, .slice a2 n2 c2, .slice a3 n3 c3, .slice a4 n4 c4] 29) (.cells #[.string ⟨#[]⟩, .bool false, .slice none 0 0, .slice none 0 0, .slice none 0 0, .slice none 0 0] 29) (.cells #[.string ⟨#[]⟩, .bool false, .slice none 0 0, .slice none 0 0, .slice none 0 0, .slice none 0 0] 29)
  have d2' := (bel.cell l4).trans d2
  have d3' := (bel.cell l4).trans d3
  have d4' := (bel.cell l4).trans d4
  generalize hW : (((w.alloc (.cells #[.string title, .bool false, .slice a1 n1 c1, .slice a2 n2 c2, .slice a3 n3 c3, .slice a4 n4 c4] 29)).alloc (.cells #[.string ⟨#[]⟩, .bool false, .slice none 0 0, .slice none 0 0, .slice none 0 0, .slice none 0 0] 29)).alloc (.cells #[.string ⟨#[]⟩, .bool false, .slice none 0 0, .slice none 0 0, .slice none 0 0, .slice none 0 0] 29)) = W at hc hb bel d2' d3' d4' ⊢
  clear hW d2 d3 d4
  have hGne : w.heap.size + 1 + 1 ≠ w.heap.size + 1 := by omega
  generalize w.heap.size + 1 + 1 = G at hc m2 hGne ⊢
  have e0 : W.cell? ⟨G, 0, none⟩ = some (.string ⟨#[]⟩) := by rw [Lib.cell_of_heap hc]; rfl
  have e1 : W.cell? ⟨G, 1, none⟩ = some (.bool false) := by rw [Lib.cell_of_heap hc]; rfl
  have e2 : W.cell? ⟨G, 2, none⟩ = some (.slice none 0 0) := by rw [Lib.cell_of_heap hc]; rfl
  have e3 : W.cell? ⟨G, 3, none⟩ = some (.slice none 0 0) := by rw [Lib.cell_of_heap hc]; rfl
  have e4 : W.cell? ⟨G, 4, none⟩ = some (.slice none 0 0) := by rw [Lib.cell_of_heap hc]; rfl
  have e5 : W.cell? ⟨G, 5, none⟩ = some (.slice none 0 0) := by rw [Lib.cell_of_heap hc]; rfl
  have mG : G ≠ w.heap.size + 1 := hGne
  have mG' := mG.symm
  have m1' := m1.symm
  have u0 : W.cell? ⟨w.heap.size + 1, 0, none⟩ = some (.string ⟨#[]⟩) := by rw [Lib.cell_of_heap hb]; rfl
  have v0 := Lib.frozen_of_heap hb 0
  have u1 : W.cell? ⟨w.heap.size + 1, 1, none⟩ = some (.bool false) := by rw [Lib.cell_of_heap hb]; rfl
  have v1 := Lib.frozen_of_heap hb 1
  have u2 : W.cell? ⟨w.heap.size + 1, 2, none⟩ = some (.slice none 0 0) := by rw [Lib.cell_of_heap hb]; rfl
  have v2 := Lib.frozen_of_heap hb 2
  have u3 : W.cell? ⟨w.heap.size + 1, 3, none⟩ = some (.slice none 0 0) := by rw [Lib.cell_of_heap hb]; rfl
  have v3 := Lib.frozen_of_heap hb 3
  have u4 : W.cell? ⟨w.heap.size + 1, 4, none⟩ = some (.slice none 0 0) := by rw [Lib.cell_of_heap hb]; rfl
  have v4 := Lib.frozen_of_heap hb 4
  have u5 : W.cell? ⟨w.heap.size + 1, 5, none⟩ = some (.slice none 0 0) := by rw [Lib.cell_of_heap hb]; rfl
  have v5 := Lib.frozen_of_heap hb 5
  go_region_held3 (fun w' => w'.cell? ⟨Y, 2, none⟩ = some (.int .i64 line) ∧ w'.cell? ⟨Y, 3, none⟩ = some (.int .i64 col) ∧ w'.cell? ⟨Y, 4, none⟩ = some (.int .i64 e) ∧ w'.cell? ⟨G, 0, none⟩ = some (.string ⟨#[]⟩) ∧ w'.cell? ⟨G, 1, none⟩ = some (.bool false) ∧ w'.cell? ⟨G, 2, none⟩ = some (.slice none 0 0) ∧ w'.cell? ⟨G, 3, none⟩ = some (.slice none 0 0) ∧ w'.cell? ⟨G, 4, none⟩ = some (.slice none 0 0) ∧ w'.cell? ⟨G, 5, none⟩ = some (.slice none 0 0)) (go_keep) (fail)
  go_wp2
  have h6 := set6_self (.string ⟨#[]⟩) (.bool false) (.slice none 0 0) (.slice none 0 0) (.slice none 0 0) (.slice none 0 0) hb
  have bel6 := ((((((bel.setCell (p := ⟨w.heap.size + 1, 0, none⟩) (Nat.le_succ _) (.string ⟨#[]⟩)).setCell (p := ⟨w.heap.size + 1, 1, none⟩) (Nat.le_succ _) (.bool false)).setCell (p := ⟨w.heap.size + 1, 2, none⟩) (Nat.le_succ _) (.slice none 0 0)).setCell (p := ⟨w.heap.size + 1, 3, none⟩) (Nat.le_succ _) (.slice none 0 0)).setCell (p := ⟨w.heap.size + 1, 4, none⟩) (Nat.le_succ _) (.slice none 0 0)).setCell (p := ⟨w.heap.size + 1, 5, none⟩) (Nat.le_succ _) (.slice none 0 0))
  generalize ((((((W.setCell ⟨w.heap.size + 1, 0, none⟩ (.string ⟨#[]⟩)).setCell ⟨w.heap.size + 1, 1, none⟩ (.bool false)).setCell ⟨w.heap.size + 1, 2, none⟩ (.slice none 0 0)).setCell ⟨w.heap.size + 1, 3, none⟩ (.slice none 0 0)).setCell ⟨w.heap.size + 1, 4, none⟩ (.slice none 0 0)).setCell ⟨w.heap.size + 1, 5, none⟩ (.slice none 0 0)) = W6 at h6 bel6 ⊢
  simp only [List.setIfInBounds_toArray, List.set_cons_succ, List.set_cons_zero] at h6
  have h7 : W6.drew.heap[w.heap.size + 1]? = _ := h6
  have bel7 : Below w.heap.size w W6.drew := bel6.drew
  generalize W6.drew = W7 at h7 bel7 ⊢
  exact bodyPost_ret (results_cell3 rfl _ _ (w.heap.size + 1) 29 _ (0, 0) _ rfl h7 Tryz.underlying29 rfl Tryz.sizeScore) rfl ⟨rfl, bel7⟩
end
end Go.Proofs.YtaimdnddmddbnaaGreatDoor

namespace Go.Proofs.YtaimdnddmddbnaaGreatDoor
open Go.RowKit

/-- A score's six cells. -/
structure Sx where
  title : ByteArray
  a1 : Option Addr
  n1 : Nat
  c1 : Nat
  a2 : Option Addr
  n2 : Nat
  c2 : Nat
  a3 : Option Addr
  n3 : Nat
  c3 : Nat
  a4 : Option Addr
  n4 : Nat
  c4 : Nat
def Sx.val (x : Sx) : Value := .agg #[.string x.title, .bool false, .slice x.a1 x.n1 x.c1, .slice x.a2 x.n2 x.c2, .slice x.a3 x.n3 x.c3, .slice x.a4 x.n4 x.c4]
def noSx : Sx := ⟨ByteArray.empty, none, 0, 0, none, 0, 0, none, 0, 0, none, 0, 0⟩

section
variable {Y M : Nat} {tv : Value} {toks : List Tok} {pos : Nat} {line col e : Int} {free : Bool} {ls ln : Int} {es : Array MapEntry} {clk : Nat} {w : World} {t : Tok} {out : Option Nat}

theorem result_any (h : ErrAt Y line col e w) (x : Sx) :
    Calls Tryz.prog 9 #[.pointer (some ⟨Y, 0, none⟩), x.val] w fun r w' =>
      (∃ (x' : Sx) (line' col' : Int), r = .returned (.tuple #[x'.val, .int .i64 line', .int .i64 col', .int .i64 e]) ∧ ((e = 0 ∧ x' = x ∧ line' = 0 ∧ col' = 0) ∨ (e ≠ 0 ∧ x' = noSx ∧ line' = line ∧ col' = col))) ∧ Below w.heap.size w w' := by
  by_cases he : e = 0
  · subst he
    refine (result_ok h x.title x.a1 x.a2 x.a3 x.a4 x.n1 x.n2 x.n3 x.n4 x.c1 x.c2 x.c3 x.c4).mono ?_
    rintro r w' ⟨rfl, b⟩
    exact ⟨⟨x, 0, 0, rfl, .inl ⟨rfl, rfl, rfl, rfl⟩⟩, b⟩
  · refine (result_err h he x.title x.a1 x.a2 x.a3 x.a4 x.n1 x.n2 x.n3 x.n4 x.c1 x.c2 x.c3 x.c4).mono ?_
    rintro r w' ⟨rfl, b⟩
    exact ⟨⟨noSx, line, col, rfl, .inr ⟨he, rfl, rfl, rfl⟩⟩, b⟩

theorem set6_other (w : World) (X : Nat) (v0 v1 v2 v3 v4 v5 : Value) (k : Nat) (hk : k ≠ X) : ((((((w.setCell ⟨X, 0, none⟩ v0).setCell ⟨X, 1, none⟩ v1).setCell ⟨X, 2, none⟩ v2).setCell ⟨X, 3, none⟩ v3).setCell ⟨X, 4, none⟩ v4).setCell ⟨X, 5, none⟩ v5).heap[k]? = w.heap[k]? := by
  rw [Below.heap_setCell _ ⟨X, 5, none⟩ _ k hk, Below.heap_setCell _ ⟨X, 4, none⟩ _ k hk, Below.heap_setCell _ ⟨X, 3, none⟩ _ k hk, Below.heap_setCell _ ⟨X, 2, none⟩ _ k hk, Below.heap_setCell _ ⟨X, 1, none⟩ _ k hk, Below.heap_setCell _ ⟨X, 0, none⟩ _ k hk]

/-- How Read ends. R holds of the world behind score. -/
def ReadEnd (R : Sx → Int → Int → Int → World → Prop) (w : World) (r : Ending) (w' : World) : Prop :=
  Below w.heap.size w w' ∧ ∃ (x x' : Sx) (line col line' col' e : Int) (w2 : World), r = .returned (.tuple #[x'.val, .int .i64 line', .int .i64 col', .int .i64 e]) ∧
    ((e = 0 ∧ x' = x ∧ line' = 0 ∧ col' = 0) ∨ (e ≠ 0 ∧ x' = noSx ∧ line' = line ∧ col' = col)) ∧ R x line col e w2 ∧ w2.heap.size ≤ w'.heap.size ∧ ∀ k, k < w2.heap.size → k ≠ w.heap.size → w'.heap[k]? = w2.heap[k]?

set_option maxHeartbeats 8000000 in
set_option maxRecDepth 100000 in
theorem read_gen {s : ByteArray} (R : Sx → Int → Int → Int → World → Prop)
    (hopen : ∀ w0, Calls Tryz.prog 8 #[.string s, .bool false] w0 (Opened toks out w0))
    (hscore : ∀ w0 r w1, Opened toks out w0 r w1 → w.heap.size + 1 = w0.heap.size → Calls Tryz.prog 10 #[.pointer (some ⟨w0.heap.size + 1, 0, none⟩)] w1 fun r w2 => Below w0.heap.size w1 w2 ∧ ∃ (x : Sx) (line col e : Int), r = .returned x.val ∧ ErrAt (w0.heap.size + 1) line col e w2 ∧ R x line col e w2) :
    Calls Tryz.prog 6 #[.string s] w (ReadEnd R w) := by
  have ho := hopen (w.alloc (.cells #[.string ⟨#[]⟩, .bool false, .slice none 0 0, .slice none 0 0, .slice none 0 0, .slice none 0 0] 29))
  have hs := fun r w1 h => hscore (w.alloc (.cells #[.string ⟨#[]⟩, .bool false, .slice none 0 0, .slice none 0 0, .slice none 0 0, .slice none 0 0] 29)) r w1 h (by simp)
  have hb0 := heap_alloc_new w (.cells #[.string ⟨#[]⟩, .bool false, .slice none 0 0, .slice none 0 0, .slice none 0 0, .slice none 0 0] 29)
  have bel0 := (Below.refl w.heap.size w).alloc (Nat.le_refl _) (.cells #[.string ⟨#[]⟩, .bool false, .slice none 0 0, .slice none 0 0, .slice none 0 0, .slice none 0 0] 29)
  go_enter Tryz.func6, Tryz.ntmps6
  go_wp2_with (go_at_call 8; refine ho.mono ?_)
  clear ho hopen hscore
  rintro r w1 hO
  have hs1 := hs _ _ hO
  obtain ⟨rfl, b1, -⟩ := hO
  have esz : (w.alloc (.cells #[.string ⟨#[]⟩, .bool false, .slice none 0 0, .slice none 0 0, .slice none 0 0, .slice none 0 0] 29)).heap.size = w.heap.size + 1 := by simp
  rw [esz] at b1 hs1 ⊢
  have hb1 := (b1.block w.heap.size (by omega)).trans hb0
  have bel1 := bel0.trans (b1.mono (Nat.le_succ _))
  clear hs hb0 bel0 b1
  clear esz
  go_wp2_with (go_at_call 10; refine hs1.mono ?_)
  clear hs1
  rintro r w2 ⟨b2, x, line, col, e, rfl, hE, hR⟩
  have hb2 := (b2.block w.heap.size (by omega)).trans hb1
  have bel2 := bel1.trans (b2.mono (Nat.le_succ _))
  clear hb1 bel1 b2
  have hr := result_any hE x
  go_wp2_with (go_at_call 9; refine hr.mono ?_)
  clear hr hE
  rintro r w3 ⟨⟨x', line', col', rfl, hcase⟩, b3⟩
  have l2 := (Array.getElem?_eq_some_iff.1 hb2).1
  have hb3 := (b3.block w.heap.size l2).trans hb2
  have bel3 := bel2.trans (b3.mono (Nat.le_of_lt l2))
  have k3 : ∀ k, k < w2.heap.size → w3.heap[k]? = w2.heap[k]? := fun k hk => b3.block k hk
  have z3 := b3.size
  clear b3 hb2 bel2
  obtain ⟨title, a1, n1, c1, a2, n2, c2, a3, n3, c3, a4, n4, c4⟩ := x'
  simp only [Sx.val]
  have u0 : w3.cell? ⟨w.heap.size, 0, none⟩ = some (.string ⟨#[]⟩) := by rw [Lib.cell_of_heap hb3]; rfl
  have v0 := Lib.frozen_of_heap hb3 0
  have u1 : w3.cell? ⟨w.heap.size, 1, none⟩ = some (.bool false) := by rw [Lib.cell_of_heap hb3]; rfl
  have v1 := Lib.frozen_of_heap hb3 1
  have u2 : w3.cell? ⟨w.heap.size, 2, none⟩ = some (.slice none 0 0) := by rw [Lib.cell_of_heap hb3]; rfl
  have v2 := Lib.frozen_of_heap hb3 2
  have u3 : w3.cell? ⟨w.heap.size, 3, none⟩ = some (.slice none 0 0) := by rw [Lib.cell_of_heap hb3]; rfl
  have v3 := Lib.frozen_of_heap hb3 3
  have u4 : w3.cell? ⟨w.heap.size, 4, none⟩ = some (.slice none 0 0) := by rw [Lib.cell_of_heap hb3]; rfl
  have v4 := Lib.frozen_of_heap hb3 4
  have u5 : w3.cell? ⟨w.heap.size, 5, none⟩ = some (.slice none 0 0) := by rw [Lib.cell_of_heap hb3]; rfl
  have v5 := Lib.frozen_of_heap hb3 5
  go_wp2
  have h6 := set6_self (.string title) (.bool false) (.slice a1 n1 c1) (.slice a2 n2 c2) (.slice a3 n3 c3) (.slice a4 n4 c4) hb3
  have bel6 := ((((((bel3.setCell (p := ⟨w.heap.size, 0, none⟩) (Nat.le_refl _) (.string title)).setCell (p := ⟨w.heap.size, 1, none⟩) (Nat.le_refl _) (.bool false)).setCell (p := ⟨w.heap.size, 2, none⟩) (Nat.le_refl _) (.slice a1 n1 c1)).setCell (p := ⟨w.heap.size, 3, none⟩) (Nat.le_refl _) (.slice a2 n2 c2)).setCell (p := ⟨w.heap.size, 4, none⟩) (Nat.le_refl _) (.slice a3 n3 c3)).setCell (p := ⟨w.heap.size, 5, none⟩) (Nat.le_refl _) (.slice a4 n4 c4))
  have oth := set6_other w3 w.heap.size (.string title) (.bool false) (.slice a1 n1 c1) (.slice a2 n2 c2) (.slice a3 n3 c3) (.slice a4 n4 c4)
  have hsz : ((((((w3.setCell ⟨w.heap.size, 0, none⟩ (.string title)).setCell ⟨w.heap.size, 1, none⟩ (.bool false)).setCell ⟨w.heap.size, 2, none⟩ (.slice a1 n1 c1)).setCell ⟨w.heap.size, 3, none⟩ (.slice a2 n2 c2)).setCell ⟨w.heap.size, 4, none⟩ (.slice a3 n3 c3)).setCell ⟨w.heap.size, 5, none⟩ (.slice a4 n4 c4)).heap.size = w3.heap.size := by simp [World.setCell]
  generalize ((((((w3.setCell ⟨w.heap.size, 0, none⟩ (.string title)).setCell ⟨w.heap.size, 1, none⟩ (.bool false)).setCell ⟨w.heap.size, 2, none⟩ (.slice a1 n1 c1)).setCell ⟨w.heap.size, 3, none⟩ (.slice a2 n2 c2)).setCell ⟨w.heap.size, 4, none⟩ (.slice a3 n3 c3)).setCell ⟨w.heap.size, 5, none⟩ (.slice a4 n4 c4)) = W6 at h6 bel6 oth hsz ⊢
  simp only [List.setIfInBounds_toArray, List.set_cons_succ, List.set_cons_zero] at h6
  exact bodyPost_ret (results_cell3 rfl _ _ w.heap.size 29 _ (0, 0) _ rfl h6 Tryz.underlying29 rfl Tryz.sizeScore) rfl ⟨bel6, x, ⟨title, a1, n1, c1, a2, n2, c2, a3, n3, c3, a4, n4, c4⟩, line, col, line', col', e, w2, rfl, hcase, hR, by omega, fun k hk hne => (oth k hne).trans (k3 k hk)⟩
end
end Go.Proofs.YtaimdnddmddbnaaGreatDoor
