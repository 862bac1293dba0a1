/- Towards the law ParserVoices, true for every text (no condition): one part of the proof. -/
import Derived.Test.YtgkhemnmcgicnaaGreatDoorG01
import Derived.Test.YtgkhemnmcgicnaaGreatDoorG42
namespace Go.Proofs.YtgkhemnmcgicnaaGreatDoor
set_option maxHeartbeats 8000000
set_option maxRecDepth 100000
open Go.RowKit
theorem UB {ls : List Int} {s : ByteArray} {a n : Nat} {toks : List bD} {out : Option (Nat × Int)} (h : Lx ls s a n toks out) (ha : a <= s.size) : toks.length <= s.size - a + 1 := by
 induction h with
 | fin => simp
 | @word a b c n toks out hu hb hc hw hl h ih =>
  have h2 := ih hw.bs
  have hlt := qS hw hb (by unfold iQ; rw [hc]; rfl)
  have hle := hu.le
  have hbs := hw.bs
  rw [qj]; omega
 | @number a b c n toks out v hu hb hc hw hl hv h ih =>
  have h2 := ih hw.bs
  have hlt := qS hw hb hc
  have hle := hu.le
  have hbs := hw.bs
  rw [qj]; omega
 | @str a b c n toks out bytes hu hb hc hR h ih =>
  obtain ⟨g1, g2⟩ := hR.le c bytes rfl
  have h2 := ih g2
  have hle := hu.le
  rw [qj]; omega
 | @sym a b n toks out hu hb h1 h2 h3 hc h ih =>
  have g2 := ih (by omega)
  have hle := hu.le
  rw [qj]; omega
 | wordLong => exact qn _
 | long => exact qn _
 | strShort => exact qn _
 | strWrong => exact qn _
 | none => exact qn _
def Z2 : bD := ⟨0, ByteArray.empty, 0, ByteArray.empty, 0, 0, false⟩
theorem UC : i6 [Z2] := ⟨by decide, by decide, ⟨rfl, by decide⟩, fun i hi => by simp at hi⟩
theorem Z3 (s : ByteArray) (hs : s.size <= 4000) : ∃ (T : List bD) (st : aU), i6 T /\ ∀ w, Calls Tryz.prog 16 #[.string s] w fun r w' => Below w.heap.size w w' /\
  ∃ ao n c l col e, r = .returned (.tuple #[.slice ao n c, I l, I col, I e]) /\ XD T st 0 l col e /\ (e = 0 -> w'.ownsRow w.heap.size 59 7 (.slice ao n c) T.length (cellsOf T)) /\ (e ≠ 0 -> ao = none) := by
 obtain ⟨toks, out, hx⟩ := YN s (cX s s.size)
 cases out with
 | none =>
  obtain ⟨hg, hl⟩ := WP hx hs (qn _) rfl
  have := hg.len
  refine ⟨toks, .ok 0, hg, fun w => ?_⟩
  refine (QJ hx hs (fun b e h => by cases h) (by have := hg.max; omega) w).mono ?_
  rintro r w' ⟨b, ⟨-, lv, rfl, ho⟩ | ⟨_, _, _, h, _⟩⟩
  ·obtain ⟨ao, c, rfl⟩ := bX ho
   exact ⟨b, ao, _, c, 0, 0, 0, rfl, ⟨rfl, rfl, rfl, rfl, this⟩, fun _ => ho, fun h => absurd rfl h⟩
  ·cases h
 | some q =>
  obtain ⟨b, e⟩ := q
  have hp := TK hx b e rfl
  refine ⟨[Z2], .bad e (rN (cX s s.size) b) (rP (cX s s.size) b), UC, fun w => ?_⟩
  have hn : toks.length <= 262143 := by have := UB hx (qn _); omega
  refine (QJ hx hs (fun b' e' h => by injection h with h; injection h with h1 h2; omega) hn w).mono ?_
  rintro r w' ⟨bl, ⟨h, _⟩ | ⟨b', e', he, h, rfl⟩⟩
  ·cases h
  ·injection h with h
   injection h with h1 h2
   subst h1 h2
   exact ⟨bl, none, 0, 0, _, _, e, rfl, ⟨rfl, he, rfl, rfl, by omega⟩, fun h0 => absurd h0 he, fun _ => rfl⟩
theorem RZ {w : World} {X : Nat} {cs : Array Value} {T : TypeId} (v0 v2 v3 v4 : Value) (h : w.heap[X]? = some (.cells cs T (0, 0))) :
  ((((w.setCell ⟨X, 0, none⟩ v0).setCell ⟨X, 2, none⟩ v2).setCell ⟨X, 3, none⟩ v3).setCell ⟨X, 4, none⟩ v4).heap[X]? = some (.cells ((((cs.setIfInBounds 0 v0).setIfInBounds 2 v2).setIfInBounds 3 v3).setIfInBounds 4 v4) T (0, 0)) :=
 Lib.heap_setCell_same (i := 4) (Lib.heap_setCell_same (i := 3) (Lib.heap_setCell_same (i := 2) (Lib.heap_setCell_same (i := 0) h v0) v2) v3) v4
theorem DB (w : World) (X : Nat) (v0 v2 v3 v4 : Value) (k : Nat) (hk : k ≠ X) : ((((w.setCell ⟨X, 0, none⟩ v0).setCell ⟨X, 2, none⟩ v2).setCell ⟨X, 3, none⟩ v3).setCell ⟨X, 4, none⟩ v4).heap[k]? = w.heap[k]? := by
 rw [qg _ ⟨X, 4, none⟩ _ k hk, qg _ ⟨X, 3, none⟩ _ k hk, qg _ ⟨X, 2, none⟩ _ k hk, qg _ ⟨X, 0, none⟩ _ k hk]
section
variable {T : List bD} {st : aU} {s : ByteArray}
def NX (s : ByteArray) (T : List bD) (st : aU) : Prop := ∀ w, Calls Tryz.prog 16 #[.string s] w fun r w' => Below w.heap.size w w' /\
  ∃ ao n c l col e, r = .returned (.tuple #[.slice ao n c, I l, I col, I e]) /\ XD T st 0 l col e /\ (e = 0 -> w'.ownsRow w.heap.size 59 7 (.slice ao n c) T.length (cellsOf T)) /\ (e ≠ 0 -> ao = none)
theorem YV (hg : i6 T) (hsc : NX s T st) (w : World) :
  Calls Tryz.prog 19 #[.string s, .bool true] w fun r w' => r = .returned (.pointer (some ⟨w.heap.size + 1, 0, none⟩)) /\ Below w.heap.size w w' /\ PS T (w.heap.size + 1) w.heap.size true st w' := by
 have hmk : (Instr.makeMap 129 none).run Tryz.prog w = .ok (.map (some w.heap.size)) (w.alloc (.map #[] 0)) := by
  simp [Instr.makeMap, newObj, Sem.run]
 have b0 := ((qa w.heap.size w).alloc (qb _) (.map #[] 0)).alloc (by simp) (.cells #[.slice none 0 0, I 0, I 0, I 0, I 0, .bool true, I 0, I 0, .map (some w.heap.size)] 133)
 have hM0 : ((w.alloc (.map #[] 0)).alloc (.cells #[.slice none 0 0, I 0, I 0, I 0, I 0, .bool true, I 0, I 0, .map (some w.heap.size)] 133)).heap[w.heap.size]? = some (.map #[] 0) := (Lib.alloc_old _ _ _ (by simp)).trans (qc w _)
 have hY0 : ((w.alloc (.map #[] 0)).alloc (.cells #[.slice none 0 0, I 0, I 0, I 0, I 0, .bool true, I 0, I 0, .map (some w.heap.size)] 133)).heap[w.heap.size + 1]? = some (.cells #[.slice none 0 0, I 0, I 0, I 0, I 0, .bool true, I 0, I 0, .map (some w.heap.size)] 133 (0, 0)) := by
  have := qc (w.alloc (.map #[] 0)) (.cells #[.slice none 0 0, I 0, I 0, I 0, I 0, .bool true, I 0, I 0, .map (some w.heap.size)] 133)
  simpa using this
 have sc := hsc ((w.alloc (.map #[] 0)).alloc (.cells #[.slice none 0 0, I 0, I 0, I 0, I 0, .bool true, I 0, I 0, .map (some w.heap.size)] 133))
 go_enter Tryz.func19, Tryz.ntmps19
 go_wp2_with (go_at_call 16; refine sc.mono ?_)
 rintro r w1 ⟨b1, ao, n, c, l, col, e, rfl, hst, hrow, hnone⟩
 have hM1 := (b1.block _ (qd.1 hM0).1).trans hM0
 have hY1 := (b1.block _ (qd.1 hY0).1).trans hY0
 have bel := b0.trans (b1.mono (by simp; omega))
 generalize hMe : w.heap.size = M at hM1 hY1 bel |-
 have hrow' := fun he => wY (B := 0) (hrow he) (qn _)
 clear b0 hM0 hY0 sc hmk hrow
 have d0 : w1.cell? ⟨M + 1, 0, none⟩ = some (.slice none 0 0) := by rw [Lib.cell_of_heap hY1]; rfl
 have d2 : w1.cell? ⟨M + 1, 2, none⟩ = some (I 0) := by rw [Lib.cell_of_heap hY1]; rfl
 have d3 : w1.cell? ⟨M + 1, 3, none⟩ = some (I 0) := by rw [Lib.cell_of_heap hY1]; rfl
 have d4 : w1.cell? ⟨M + 1, 4, none⟩ = some (I 0) := by rw [Lib.cell_of_heap hY1]; rfl
 have f0 := Lib.frozen_of_heap hY1 0
 have f2 := Lib.frozen_of_heap hY1 2
 have f3 := Lib.frozen_of_heap hY1 3
 have f4 := Lib.frozen_of_heap hY1 4
 have HS := aQ (And.intro hst (And.intro hrow' hnone))
 clear hst hrow' hnone
 go_wp2
 go_ret
 obtain ⟨hst, hrow', hnone⟩ := HS.out
 rw [hMe]
 refine ⟨rfl, (((bel.setCell (p := ⟨M + 1, 0, none⟩) (by show M <= M + 1; omega) _).setCell (p := ⟨M + 1, 2, none⟩) (by show M <= M + 1; omega) _).setCell (p := ⟨M + 1, 3, none⟩) (by show M <= M + 1; omega) _).setCell (p := ⟨M + 1, 4, none⟩) (by show M <= M + 1; omega) _, hg, .slice ao n c, 0, l, col, e, 0, 0, #[], 0, ⟨RZ _ _ _ _ hY1, (DB w1 (M + 1) _ _ _ _ M (by omega)).trans hM1, fun he => ?_⟩, fun e he => by simp at he, hst⟩
 have hown := hrow' he
 exact aC hown fun k hk => DB w1 (M + 1) _ _ _ _ k (fun e => dF hown hY1 (by intro cs fr hc; injection hc with _ h2 _; exact absurd h2 (by decide)) (by rw [hk, e]))
theorem W4 (hg : i6 T) (hsc : NX s T st) (w : World) :
  Calls Tryz.prog 8 #[.string s, .bool true] w fun r w' => ∃ X lv, r = .returned (.pointer (some ⟨X, 0, none⟩)) /\ w.heap.size <= X /\ Below w.heap.size w w' /\ MS T X true lv (.slice none 0 0) st w' := by
 have sc := hsc w
 go_enter Tryz.func8, Tryz.ntmps8
 go_wp2_with (go_at_call 16; refine sc.mono ?_)
 rintro r w1 ⟨b1, ao, n, c, l, col, e, rfl, hst, hrow, hnone⟩
 have hN := qc w1 (.cells #[.slice ao n c, I 0, .bool true, I 0, I 0, .slice none 0 0, I e, I l, I col] 42)
 have b2 := b1.alloc b1.size (.cells #[.slice ao n c, I 0, .bool true, I 0, I 0, .slice none 0 0, I e, I l, I col] 42)
 have bz := b1.size
 have hlv : ∀ g, (Value.slice ao n c).ownBlock = some g -> g < w1.heap.size := fun g hg => by
  by_cases he : e = 0
  ·exact ((hrow he).lt g hg).2
  ·rw [hnone he] at hg; cases hg
 have HS := aQ (And.intro hst (And.intro (fun he => wY (B := 0) (hrow he) (qn _)) hlv))
 clear hst hrow hnone hlv sc
 go_wp2
 go_ret
 obtain ⟨hst, hrow', hlv⟩ := HS.out
 refine ⟨w1.heap.size, .slice ao n c, rfl, bz, b2, hg, 0, 0, 0, 0, [], e, l, col, ⟨hN, fun he => (hrow' he).alloc _, qqe _ _ _ _, fun g hg' => by have := hlv g hg'; simp; omega⟩, hst, by omega, fun _ => qb _⟩
end
section
variable {T : List bD} {Y M X : Nat} {free : Bool} {lv iv : Value} {st : aU} {w : World}
theorem LT (h : (aW T st).kind = 0) : JA T st = st := if_pos h
theorem QM (h : (aW T st).kind ≠ 0) : JA T st = bF T 13 st := if_neg h
theorem YW (h : PS T Y M free st w) : Calls Tryz.prog 21 #[.pointer (some ⟨Y, 0, none⟩)] w fun r w' => r = .returned (.tuple #[]) /\ PS T Y M free (JA T st) w' /\ aB [Y, M] w w' := by
 have hp := pA h
 have hst := fun w' (b : Below w.heap.size w w') => h.step b
 by_cases hk : (aW T st).kind = 0
 ·rw [LT hk]
  generalize aW T st = t at hk hp
  obtain ⟨kd, text, v, bt, lin, cl, j⟩ := t
  simp only [fK] at hk hp
  subst hk
  have hfd := pN 0 v lin cl text bt j
  clear h
  go_enter Tryz.func21, Tryz.ntmps21
  go_wp2_with (go_at_call 62; refine hp.mono ?_)
  intro r w1; first | (intro he b1; subst he) | rintro ⟨rfl, b1⟩
  have hS := hst _ b1
  clear hst
  go_wp2
  go_end0
  exact ⟨rfl, hS, aB.of_below b1⟩
 ·rw [QM hk]
  have hfl := fun w' (b : Below w.heap.size w w') => kV (h.step b) 13 (by decide)
  generalize bF T 13 st = s9 at hfl |-
  generalize aW T st = t at hk hp
  obtain ⟨kd, text, v, bt, lin, cl, j⟩ := t
  simp only [fK] at hk hp
  have hfd := pN kd v lin cl text bt j
  have hkb : (kd != 0) = true := by simp [hk]
  clear h hst
  go_enter Tryz.func21, Tryz.ntmps21
  go_wp2_with (go_at_call 62; refine hp.mono ?_)
  intro r w1; first | (intro he b1; subst he) | rintro ⟨rfl, b1⟩
  have hf1 := hfl _ b1
  clear hfl
  go_wp2_with (go_at_call 63; refine hf1.mono ?_)
  intro r w3; first | (intro he hS b3; subst he) | rintro ⟨rfl, hS, b3⟩
  go_wp2
  go_end0
  exact ⟨rfl, hS, (aB.of_below b1).trans b3⟩
theorem YX (h : MS T X free lv iv st w) : Calls Tryz.prog 10 #[.pointer (some ⟨X, 0, none⟩)] w fun r w' => r = .returned (.tuple #[]) /\ MS T X free lv iv (JA T st) w' /\ aB [X] w w' := by
 have hp := pR h
 have hst := fun w' (b : Below w.heap.size w w') => h.step b
 by_cases hk : (aW T st).kind = 0
 ·rw [LT hk]
  generalize aW T st = t at hk hp
  obtain ⟨kd, text, v, bt, lin, cl, j⟩ := t
  simp only [fK] at hk hp
  subst hk
  have hfd := pN 0 v lin cl text bt j
  clear h
  go_enter Tryz.func10, Tryz.ntmps10
  go_wp2_with (go_at_call 31; refine hp.mono ?_)
  intro r w1; first | (intro he b1; subst he) | rintro ⟨rfl, b1⟩
  have hS := hst _ b1
  clear hst
  go_wp2
  go_end0
  exact ⟨rfl, hS, aB.of_below b1⟩
 ·rw [QM hk]
  have hfl := fun w' (b : Below w.heap.size w w') => gP (h.step b) 13 (by decide)
  generalize bF T 13 st = s9 at hfl |-
  generalize aW T st = t at hk hp
  obtain ⟨kd, text, v, bt, lin, cl, j⟩ := t
  simp only [fK] at hk hp
  have hfd := pN kd v lin cl text bt j
  have hkb : (kd != 0) = true := by simp [hk]
  clear h hst
  go_enter Tryz.func10, Tryz.ntmps10
  go_wp2_with (go_at_call 31; refine hp.mono ?_)
  intro r w1; first | (intro he b1; subst he) | rintro ⟨rfl, b1⟩
  have hf1 := hfl _ b1
  clear hfl
  go_wp2_with (go_at_call 32; refine hf1.mono ?_)
  intro r w3; first | (intro he hS b3; subst he) | rintro ⟨rfl, hS, b3⟩
  go_wp2
  go_end0
  exact ⟨rfl, hS, (aB.of_below b1).trans b3⟩
end
theorem lP {P : Program} {fn : Func} {p t u v : Tmp} {ty : TypeId} (h : fn.results = #[.cell p ty, .tmp t, .tmp u, .tmp v]) (tmps : Array Value) (w : World) (g : Nat) (T : TypeId) (cs : Array Value) (fr : Nat × Nat) (d : TypeDesc)
  (hp : tmps.getD p undef = .pointer (some ⟨g, 0, none⟩)) (hg : w.heap[g]? = some (.cells cs T fr))
  (hu : P.underlying ty = some d) (hd : (match d with | .struct _ | .array _ _ => true | _ => false) = true) (hi : (P.info? ty).map (·.size) = some cs.size) :
  (results fn tmps).run P w = .ok (.tuple #[.agg cs, tmps.getD t undef, tmps.getD u undef, tmps.getD v undef]) w := by
 have hp' : tmps[p]?.getD undef = .pointer (some ⟨g, 0, none⟩) := by simpa using hp
 simp [results, h, hp', asAddr, run_loadVar_row w g T ty cs fr d hg hu hd hi, Result.andThen]
def UY (s : ByteArray) : ByteArray := s.extract 0 (min s.size 2000)
theorem UZ (s : ByteArray) : (UY s).size <= 2000 := by unfold UY; rw [ByteArray.size_extract]; omega
theorem U0 (s : ByteArray) (w : World) : Calls Tryz.prog 6 #[.string s] w fun r w' => r = .returned (.string (UY s)) /\ w' = w := by
 have hm : min (s.size : Int) 2000 = ((min s.size 2000 : Nat) : Int) := by omega
 have h0 : (0 : Int) <= ((min s.size 2000 : Nat) : Int) := by omega
 have h1 : ((min s.size 2000 : Nat) : Int) <= (s.size : Int) := by omega
 go_enter Tryz.func6, Tryz.ntmps6
 go_wp2
 go_ret
 exact ⟨rfl, rfl⟩
theorem setRow_other (w : World) (g k : Nat) (cs : Array Value) (h : k ≠ g) : (w.setRow g cs).heap[k]? = w.heap[k]? := by
 unfold World.setRow
 rw [Array.getElem?_modify, if_neg (fun e => h e.symm)]
theorem setRow_heap (w : World) (g : Nat) (cs old : Array Value) (t : TypeId) (hg : w.heap[g]? = some (.cells old t (0, 0))) : (w.setRow g cs).heap[g]? = some (.cells cs t (0, 0)) := by
 unfold World.setRow
 rw [Array.getElem?_modify, if_pos rfl, hg]; rfl
theorem PS.errCells {T : List bD} {Y M : Nat} {free : Bool} {e l c : Int} {w : World} (h : PS T Y M free (.bad e l c) w) : w.cell? ⟨Y, 2, none⟩ = some (I l) /\ w.cell? ⟨Y, 3, none⟩ = some (I c) /\ w.cell? ⟨Y, 4, none⟩ = some (I e) /\ e ≠ 0 := by
 obtain ⟨_, tv, pos, line, col, e', ls, ln, es, clk, h1, h2, h3⟩ := h
 obtain ⟨rfl, he, rfl, rfl, _⟩ := h3
 exact ⟨h1.c2, h1.c3, h1.c4, he⟩
theorem JJ (w : World) (a b c : Obj) :
  (((w.alloc a).alloc b).alloc c).heap[w.heap.size + 1 + 1]? = some c /\ (((w.alloc a).alloc b).alloc c).heap[w.heap.size + 1]? = some b /\ Below w.heap.size w (((w.alloc a).alloc b).alloc c) := by
 have e : ((w.alloc a).alloc b).heap.size = w.heap.size + 1 + 1 := by simp
 have h1 := qc ((w.alloc a).alloc b) c
 rw [e] at h1
 have h2 := (Lib.alloc_old ((w.alloc a).alloc b) c (w.heap.size + 1) (by omega)).trans (heap_alloc2_new w a b)
 exact ⟨h1, h2, (((qa _ w).alloc (qb _) _).alloc (by simp) _).alloc (by omega) _⟩
theorem o7.isM {α : Type} {f : α -> Array Value} {l : List α} {w : World} {s : Nat} {v : Value} (h : o7 w s v (l.map f)) : ∃ ao cap, v = .slice ao l.length cap := by
 obtain ⟨ao, cap, e⟩ := h.is
 exact ⟨ao, cap, by rw [e, List.length_map]⟩
theorem o7.atM {α : Type} {f : α -> Array Value} {l : List α} {w : World} {s : Nat} {ao : Option Addr} {n cap : Nat} (h : o7 w s (.slice ao n cap) (l.map f)) {j : Nat} (hj : j < l.length) :
  ∃ g o, ao = some ⟨g, o, none⟩ /\ ∀ (k : Nat) (u : Value), (f l[j])[k]? = some u -> w.cell? ⟨g, o + j * s + k, none⟩ = some u := by
 obtain ⟨g, o, r, e, hr, _, _, hc⟩ := h.at (j := j) (by simpa using hj)
 refine ⟨g, o, e, fun k u hu => hc k u ?_⟩
 rw [List.getElem?_map, qo hj] at hr
 obtain rfl := qqz hr
 exact hu
theorem ZQ (v v' : Value) (l : List eF) (w : World) (hbig : l.length <= 1000000) (h : o7 w 5 v (l.map eF.cells)) (h' : o7 w 5 v' (l.map eF.cells)) :
  Calls Tryz.prog 73 #[v, v'] w fun e w' => e = .returned (.bool true) /\ Below w.heap.size w w' := by
 obtain ⟨ao, c, rfl⟩ := h.isM
 obtain ⟨ao', c', rfl⟩ := h'.isM
 go_enter Tryz.func73, Tryz.ntmps73
 go_wp2
 go_loopg [13] l.length (fun g s13 wr => ∃ k : Nat, k <= l.length /\ g = l.length - k /\ s13 = I (k : Nat) /\ Below w.heap.size w wr)
 case atStart => exact ⟨0, qn _, rfl, rfl, qa _ _⟩
 case round =>
  obtain ⟨k, hk, hg, rfl, hb⟩ := hrel
  by_cases hlt : k < l.length
  ·have hlt' : (k : Int) < (l.length : Int) := by omega
   have hk0 : (0 : Int) <= (k : Int) := by omega
   obtain ⟨g, oo, rfl, hc⟩ := (h.step hb).atM hlt
   obtain ⟨g', oo', rfl, hc'⟩ := (h'.step hb).atM hlt
   generalize l[k] = x at *
   obtain ⟨⟨a0, a1, a2⟩, a3, a4⟩ := x
   clear h h'
   have x0 : wr.cell? ⟨g, oo + k * 5, none⟩ = some (I a0) := hc 0 _ rfl
   have y0 : wr.cell? ⟨g', oo' + k * 5, none⟩ = some (I a0) := hc' 0 _ rfl
   have x1 : wr.cell? ⟨g, oo + k * 5 + 1, none⟩ = some (I a1) := hc 1 _ rfl
   have y1 : wr.cell? ⟨g', oo' + k * 5 + 1, none⟩ = some (I a1) := hc' 1 _ rfl
   have x2 : wr.cell? ⟨g, oo + k * 5 + 2, none⟩ = some (I a2) := hc 2 _ rfl
   have y2 : wr.cell? ⟨g', oo' + k * 5 + 2, none⟩ = some (I a2) := hc' 2 _ rfl
   have x3 : wr.cell? ⟨g, oo + k * 5 + 3, none⟩ = some (.bool a3) := hc 3 _ rfl
   have y3 : wr.cell? ⟨g', oo' + k * 5 + 3, none⟩ = some (.bool a3) := hc' 3 _ rfl
   have x4 : wr.cell? ⟨g, oo + k * 5 + 4, none⟩ = some (I a4) := hc 4 _ rfl
   have y4 : wr.cell? ⟨g', oo' + k * 5 + 4, none⟩ = some (I a4) := hc' 4 _ rfl
   have m1 : IntKind.i64.wrap ((k : Int) + 1) = (k : Int) + 1 := IntWalk.i64_in _ (by omega)
   clear hc hc'
   go_wp2
   go_region
   all_goals go_wp2
   all_goals go_roundg (l.length - (k + 1))
   all_goals first
    | omega
    | exact ⟨k + 1, by omega, rfl, by simp, hb.drew⟩
  ·have : k = l.length := by omega
   subst this
   go_wp2
   go_ret
   exact ⟨rfl, hb⟩
theorem ZR (v v' : Value) (l : List cY) (w : World) (hbig : l.length <= 1000000) (h : o7 w 5 v (l.map cY.cells)) (h' : o7 w 5 v' (l.map cY.cells)) :
  Calls Tryz.prog 74 #[v, v'] w fun e w' => e = .returned (.bool true) /\ Below w.heap.size w w' := by
 obtain ⟨ao, c, rfl⟩ := h.isM
 obtain ⟨ao', c', rfl⟩ := h'.isM
 go_enter Tryz.func74, Tryz.ntmps74
 go_wp2
 go_loopg [13] l.length (fun g s13 wr => ∃ k : Nat, k <= l.length /\ g = l.length - k /\ s13 = I (k : Nat) /\ Below w.heap.size w wr)
 case atStart => exact ⟨0, qn _, rfl, rfl, qa _ _⟩
 case round =>
  obtain ⟨k, hk, hg, rfl, hb⟩ := hrel
  by_cases hlt : k < l.length
  ·have hlt' : (k : Int) < (l.length : Int) := by omega
   have hk0 : (0 : Int) <= (k : Int) := by omega
   obtain ⟨g, oo, rfl, hc⟩ := (h.step hb).atM hlt
   obtain ⟨g', oo', rfl, hc'⟩ := (h'.step hb).atM hlt
   generalize l[k] = x at *
   obtain ⟨⟨a0, a1, a2⟩, a3, a4⟩ := x
   clear h h'
   have x0 : wr.cell? ⟨g, oo + k * 5, none⟩ = some (I a0) := hc 0 _ rfl
   have y0 : wr.cell? ⟨g', oo' + k * 5, none⟩ = some (I a0) := hc' 0 _ rfl
   have x1 : wr.cell? ⟨g, oo + k * 5 + 1, none⟩ = some (I a1) := hc 1 _ rfl
   have y1 : wr.cell? ⟨g', oo' + k * 5 + 1, none⟩ = some (I a1) := hc' 1 _ rfl
   have x2 : wr.cell? ⟨g, oo + k * 5 + 2, none⟩ = some (I a2) := hc 2 _ rfl
   have y2 : wr.cell? ⟨g', oo' + k * 5 + 2, none⟩ = some (I a2) := hc' 2 _ rfl
   have x3 : wr.cell? ⟨g, oo + k * 5 + 3, none⟩ = some (I a3) := hc 3 _ rfl
   have y3 : wr.cell? ⟨g', oo' + k * 5 + 3, none⟩ = some (I a3) := hc' 3 _ rfl
   have x4 : wr.cell? ⟨g, oo + k * 5 + 4, none⟩ = some (.bool a4) := hc 4 _ rfl
   have y4 : wr.cell? ⟨g', oo' + k * 5 + 4, none⟩ = some (.bool a4) := hc' 4 _ rfl
   have m1 : IntKind.i64.wrap ((k : Int) + 1) = (k : Int) + 1 := IntWalk.i64_in _ (by omega)
   clear hc hc'
   go_wp2
   go_region
   all_goals go_wp2
   all_goals go_roundg (l.length - (k + 1))
   all_goals first
    | omega
    | exact ⟨k + 1, by omega, rfl, by simp, hb.drew⟩
  ·have : k = l.length := by omega
   subst this
   go_wp2
   go_ret
   exact ⟨rfl, hb⟩
theorem ZS (v v' : Value) (l : List cT) (w : World) (hbig : l.length <= 1000000) (h : o7 w 2 v (l.map cT.cells)) (h' : o7 w 2 v' (l.map cT.cells)) :
  Calls Tryz.prog 75 #[v, v'] w fun e w' => e = .returned (.bool true) /\ Below w.heap.size w w' := by
 obtain ⟨ao, c, rfl⟩ := h.isM
 obtain ⟨ao', c', rfl⟩ := h'.isM
 go_enter Tryz.func75, Tryz.ntmps75
 go_wp2
 go_loopg [13] l.length (fun g s13 wr => ∃ k : Nat, k <= l.length /\ g = l.length - k /\ s13 = I (k : Nat) /\ Below w.heap.size w wr)
 case atStart => exact ⟨0, qn _, rfl, rfl, qa _ _⟩
 case round =>
  obtain ⟨k, hk, hg, rfl, hb⟩ := hrel
  by_cases hlt : k < l.length
  ·have hlt' : (k : Int) < (l.length : Int) := by omega
   have hk0 : (0 : Int) <= (k : Int) := by omega
   obtain ⟨g, oo, rfl, hc⟩ := (h.step hb).atM hlt
   obtain ⟨g', oo', rfl, hc'⟩ := (h'.step hb).atM hlt
   generalize l[k] = x at *
   obtain ⟨a0, a1⟩ := x
   clear h h'
   have x0 : wr.cell? ⟨g, oo + k * 2, none⟩ = some (.string a0) := hc 0 _ rfl
   have y0 : wr.cell? ⟨g', oo' + k * 2, none⟩ = some (.string a0) := hc' 0 _ rfl
   have x1 : wr.cell? ⟨g, oo + k * 2 + 1, none⟩ = some (I a1) := hc 1 _ rfl
   have y1 : wr.cell? ⟨g', oo' + k * 2 + 1, none⟩ = some (I a1) := hc' 1 _ rfl
   have m1 : IntKind.i64.wrap ((k : Int) + 1) = (k : Int) + 1 := IntWalk.i64_in _ (by omega)
   clear hc hc'
   go_wp2
   go_region
   all_goals go_wp2
   all_goals go_roundg (l.length - (k + 1))
   all_goals first
    | omega
    | exact ⟨k + 1, by omega, rfl, by simp, hb.drew⟩
  ·have : k = l.length := by omega
   subst this
   go_wp2
   go_ret
   exact ⟨rfl, hb⟩
theorem RE (x : zC) (ho go lo ho' go' lo' : Option Addr) (hc gc lc hc' gc' lc' : Nat) (w : World) (n1 : x.heads.length <= 1000000) (n2 : x.graces.length <= 1000000) (n3 : x.lyr.length <= 1000000)
  (h1 : o7 w 5 (.slice ho x.heads.length hc) (x.heads.map eF.cells)) (h2 : o7 w 5 (.slice go x.graces.length gc) (x.graces.map cY.cells)) (h3 : o7 w 2 (.slice lo x.lyr.length lc) (x.lyr.map cT.cells))
  (h1' : o7 w 5 (.slice ho' x.heads.length hc') (x.heads.map eF.cells)) (h2' : o7 w 5 (.slice go' x.graces.length gc') (x.graces.map cY.cells)) (h3' : o7 w 2 (.slice lo' x.lyr.length lc') (x.lyr.map cT.cells)) :
  Calls Tryz.prog 34 #[.agg (x.cells (.slice ho x.heads.length hc) (.slice go x.graces.length gc) (.slice lo x.lyr.length lc)), .agg (x.cells (.slice ho' x.heads.length hc') (.slice go' x.graces.length gc') (.slice lo' x.lyr.length lc'))] w fun e w' => e = .returned (.bool true) /\ Below w.heap.size w w' := by
 obtain ⟨i0, i1, kd, lg, dt, hs, gs, ar, orn, dy, ys, st, be⟩ := x
 simp only [zC.cells] at *
 have q1 := fun w' (b : Below w.heap.size w w') => ZQ _ _ hs w' n1 (h1.step b) (h1'.step b)
 have q2 := fun w' (b : Below w.heap.size w w') => ZR _ _ gs w' n2 (h2.step b) (h2'.step b)
 have q3 := fun w' (b : Below w.heap.size w w') => ZS _ _ ys w' n3 (h3.step b) (h3'.step b)
 have b0 := (qa w.heap.size w).alloc (qb _) (.cells #[I i0, I i1, I kd, I lg, I dt, .slice ho hs.length hc, .slice go gs.length gc, I ar, I orn, I dy, .slice lo ys.length lc, I st, I be] 31)
 have b00 := b0.alloc b0.size (.cells #[I i0, I i1, I kd, I lg, I dt, .slice ho' hs.length hc', .slice go' gs.length gc', I ar, I orn, I dy, .slice lo' ys.length lc', I st, I be] 31)
 have z0' := (Lib.alloc_old (w.alloc (.cells #[I i0, I i1, I kd, I lg, I dt, .slice ho hs.length hc, .slice go gs.length gc, I ar, I orn, I dy, .slice lo ys.length lc, I st, I be] 31)) (.cells #[I i0, I i1, I kd, I lg, I dt, .slice ho' hs.length hc', .slice go' gs.length gc', I ar, I orn, I dy, .slice lo' ys.length lc', I st, I be] 31) w.heap.size (by simp)).trans (qc w (.cells #[I i0, I i1, I kd, I lg, I dt, .slice ho hs.length hc, .slice go gs.length gc, I ar, I orn, I dy, .slice lo ys.length lc, I st, I be] 31))
 have z1 := heap_alloc2_new w (.cells #[I i0, I i1, I kd, I lg, I dt, .slice ho hs.length hc, .slice go gs.length gc, I ar, I orn, I dy, .slice lo ys.length lc, I st, I be] 31) (.cells #[I i0, I i1, I kd, I lg, I dt, .slice ho' hs.length hc', .slice go' gs.length gc', I ar, I orn, I dy, .slice lo' ys.length lc', I st, I be] 31)
 clear h1 h2 h3 h1' h2' h3' b0
 go_enter Tryz.func34, Tryz.ntmps34
 go_wp2_with (go_at_call 73; refine (q1 _ b00).mono ?_)
 intro e w1; first | (intro he c1; subst he) | rintro ⟨rfl, c1⟩
 have y0 := (c1.block w.heap.size (by simp; omega)).trans z0'
 have y1 := (c1.block (w.heap.size + 1) (by simp)).trans z1
 have bb1 := b00.trans (c1.mono b00.size)
 clear z0' z1 c1 b00 q1
 have u0 : w1.cell? ⟨w.heap.size, 6, none⟩ = some (.slice go gs.length gc) := by rw [Lib.cell_of_heap y0]; rfl
 have u1 : w1.cell? ⟨w.heap.size + 1, 6, none⟩ = some (.slice go' gs.length gc') := by rw [Lib.cell_of_heap y1]; rfl
 go_wp2_with (go_at_call 74; refine (q2 _ bb1).mono ?_)
 intro e w2; first | (intro he c2; subst he) | rintro ⟨rfl, c2⟩
 have x0 := (c2.block w.heap.size (qd.1 y0).1).trans y0
 have x1 := (c2.block (w.heap.size + 1) (qd.1 y1).1).trans y1
 have bb2 := bb1.trans (c2.mono bb1.size)
 have v0 : w2.cell? ⟨w.heap.size, 10, none⟩ = some (.slice lo ys.length lc) := by rw [Lib.cell_of_heap x0]; rfl
 have v1 : w2.cell? ⟨w.heap.size + 1, 10, none⟩ = some (.slice lo' ys.length lc') := by rw [Lib.cell_of_heap x1]; rfl
 clear y0 y1 u0 u1 c2 bb1 q2
 go_wp2_with (go_at_call 75; refine (q3 _ bb2).mono ?_)
 intro e w3; first | (intro he c3; subst he) | rintro ⟨rfl, c3⟩
 go_wp2
 go_ret
 exact ⟨rfl, bb2.trans (c3.mono bb2.size)⟩
theorem NG (x : zC) (ho go lo ho' go' lo' : Option Addr) (hc gc lc hc' gc' lc' : Nat) (w : World) (n1 : x.heads.length <= 1000000) (n2 : x.graces.length <= 1000000) (n3 : x.lyr.length <= 1000000)
  (h1 : o7 w 5 (.slice ho x.heads.length hc) (x.heads.map eF.cells)) (h2 : o7 w 5 (.slice go x.graces.length gc) (x.graces.map cY.cells)) (h3 : o7 w 2 (.slice lo x.lyr.length lc) (x.lyr.map cT.cells))
  (h1' : o7 w 5 (.slice ho' x.heads.length hc') (x.heads.map eF.cells)) (h2' : o7 w 5 (.slice go' x.graces.length gc') (x.graces.map cY.cells)) (h3' : o7 w 2 (.slice lo' x.lyr.length lc') (x.lyr.map cT.cells)) :
  Calls Tryz.prog 12 #[.agg (x.cells (.slice ho x.heads.length hc) (.slice go x.graces.length gc) (.slice lo x.lyr.length lc)), .agg (x.cells (.slice ho' x.heads.length hc') (.slice go' x.graces.length gc') (.slice lo' x.lyr.length lc'))] w fun e w' => e = .returned (.bool true) /\ Below w.heap.size w w' := by
 obtain ⟨i0, i1, kd, lg, dt, hs, gs, ar, orn, dy, ys, st, be⟩ := x
 simp only [zC.cells] at *
 have b0 := (qa w.heap.size w).alloc (qb _) (.cells #[I i0, I i1, I kd, I lg, I dt, .slice ho hs.length hc, .slice go gs.length gc, I ar, I orn, I dy, .slice lo ys.length lc, I st, I be] 31)
 have b00 := b0.alloc b0.size (.cells #[I i0, I i1, I kd, I lg, I dt, .slice ho' hs.length hc', .slice go' gs.length gc', I ar, I orn, I dy, .slice lo' ys.length lc', I st, I be] 31)
 have hs2 := RE ⟨i0, i1, kd, lg, dt, hs, gs, ar, orn, dy, ys, st, be⟩ ho go lo ho' go' lo' hc gc lc hc' gc' lc' _ n1 n2 n3 (h1.step b00) (h2.step b00) (h3.step b00) (h1'.step b00) (h2'.step b00) (h3'.step b00)
 simp only [zC.cells] at hs2
 clear h1 h2 h3 h1' h2' h3' b0
 go_enter Tryz.func12, Tryz.ntmps12
 go_wp2_with (go_at_call 34; (with_reducible refine hs2.mono ?_))
 rintro e w3 ⟨rfl, b3⟩
 go_wp2
 go_ret
 exact ⟨rfl, b00.trans (b3.mono b00.size)⟩
theorem L6 (T : List bD) : ∀ (k : Nat) (s : aU), (j2 T k s).1.length <= k
 | 0, _ => qb _
 | k + 1, s => by
  rw [j2]
  split
  ·have := L6 T k (eH T s).2
   simp only [qj]; omega
  ·exact qn _
theorem L7 {α : Type} (f : aU -> α × aU) (cl : ByteArray) (T : List bD) (s : aU) : (kW T f cl s).1.length <= T.length + 1 := by
 unfold kW
 have := FU (f := f) (cl := cl) (T := T) T.length (f s).2
 simp only [qj]; omega
theorem XN (O : A7) (T : List bD) (q : Int) (s : aU) : (eX O T q s).1.heads.length <= T.length + 1 /\ (eX O T q s).1.graces.length <= T.length + 1 /\ (eX O T q s).1.lyr.length <= T.length + 1 := by
 unfold eX
 refine ⟨?_, ?_, ?_⟩
 ·show (pU O T _).1.2.length <= _
  unfold pU
  repeat' split
  all_goals first
   | exact qn _
   | exact L7 _ _ _ _
   | (show 1 <= T.length + 1; omega)
 ·show (gQ O T q _).1.length <= _
  unfold gQ
  split
  ·exact L7 _ _ _ _
  ·exact qn _
 ·exact qv (L6 T _ _) (Nat.le_succ _)
structure XP (x : zC) (hv gv lv : Value) (w : World) : Prop where
 h : o7 w 5 hv (x.heads.map eF.cells)
 g : o7 w 5 gv (x.graces.map cY.cells)
 l : o7 w 2 lv (x.lyr.map cT.cells)
theorem XP.step {x : zC} {hv gv lv : Value} {w w' : World} (h : XP x hv gv lv w) (b : Below w.heap.size w w') : XP x hv gv lv w' := ⟨h.h.step b, h.g.step b, h.l.step b⟩
theorem hC.els {B : Nat} {x : zC} {hv gv lv : Value} {w : World} (h : hC B hv gv lv x.heads x.graces x.lyr w) : XP x hv gv lv w := by
 refine ⟨o7.of_own (T := 80) (by rw [List.length_map]; exact h.oh) rfl fun r hr => ?_, o7.of_own (T := 77) (by rw [List.length_map]; exact h.og) rfl fun r hr => ?_, o7.of_own (T := 147) (by rw [List.length_map]; exact h.ol) rfl fun r hr => ?_⟩
 all_goals
  obtain ⟨y, _, rfl⟩ := List.mem_map.1 hr
  exact ⟨rfl, by simp [eF.cells, cY.cells, cT.cells, Value.oneCell']⟩
def gV (s s' : aU) : Prop := ∀ p', s' = .ok p' -> ∃ p, s = .ok p /\ p <= p'
def hU (s s' : aU) : Prop := ∀ p', s' = .ok p' -> ∃ p, s = .ok p /\ p < p'
theorem gV.refl (s : aU) : gV s s := fun p h => ⟨p, h, qb _⟩
theorem gV.trans {a b c : aU} (h : gV a b) (k : gV b c) : gV a c := fun p h' => by
 obtain ⟨q, h1, l1⟩ := k p h'
 obtain ⟨r, h2, l2⟩ := h q h1
 exact ⟨r, h2, by omega⟩
theorem hU.back {a b : aU} (h : hU a b) : gV a b := fun p h' => by
 obtain ⟨r, h2, l2⟩ := h p h'
 exact ⟨r, h2, by omega⟩
theorem hU.trans {a b c : aU} (h : hU a b) (k : gV b c) : hU a c := fun p h' => by
 obtain ⟨q, h1, l1⟩ := k p h'
 obtain ⟨r, h2, l2⟩ := h q h1
 exact ⟨r, h2, by omega⟩
theorem gV.transS {a b c : aU} (h : gV a b) (k : hU b c) : hU a c := fun p h' => by
 obtain ⟨q, h1, l1⟩ := k p h'
 obtain ⟨r, h2, l2⟩ := h q h1
 exact ⟨r, h2, by omega⟩
theorem lJ (s : aU) (k : Nat) : gV s (s.next k) := fun p h => by obtain ⟨q, h1, h2⟩ := iZ h; exact ⟨q, h1, by omega⟩
theorem iS (s : aU) : hU s (s.next 1) := fun p h => by obtain ⟨q, h1, h2⟩ := iZ h; exact ⟨q, h1, by omega⟩
theorem gH (T : List bD) (x : ByteArray) (s : aU) : hU s (bE T x s) := fun _ h => JG h
theorem L8 (T : List bD) (x : ByteArray) (s : aU) : gV s (aS T x s) := fun _ h => PD h
theorem m6 (T : List bD) (c : Int) (s : aU) : hU s (bF T c s) := fun p h => absurd h (jG T c s p)
theorem jH (T : List bD) (lo hi : Int) (s : aU) : hU s (bS T lo hi s).2 := fun _ h => DA h
theorem FY (O : A7) (T : List bD) (s : aU) : hU s (bJ O T s).2 := by
 have key : hU s (aS T ⟨#[126]⟩ (aT O T s).2) := hU.trans (b := (aT O T s).2) (fun _ h => qR h) (L8 _ _ _)
 unfold bJ
 simp only
 split
 ·exact key.trans (lJ _ _)
 ·split
  ·exact key.trans (lJ _ _)
  ·exact key
theorem PQ (O : A7) (T : List bD) (q : Int) (s : aU) : hU s (aY O T q s).2 := by
 have key : hU s (bE T ⟨#[58]⟩ (aT O T (aS T ⟨#[47]⟩ s)).2) := (L8 T ⟨#[47]⟩ s).transS (hU.trans (b := (aT O T (aS T ⟨#[47]⟩ s)).2) (fun _ h => qR h) (gH _ _ _).back)
 unfold aY
 simp only
 split
 ·exact key.trans (m6 _ _ _).back
 ·split
  ·exact key.trans (m6 _ _ _).back
  ·exact key.trans (lJ _ _)
theorem FZ {α : Type} {f : aU -> α × aU} {T : List bD} (hf : ∀ s, hU s (f s).2) (cl : ByteArray) : ∀ (k : Nat) (s : aU), gV s (bT T f cl k s).2
 | 0, s => gV.refl s
 | k + 1, s => by
  rw [bT]
  split
  ·exact (hf s).back.trans (FZ hf cl k _)
  ·exact gV.refl s
theorem L9 {α : Type} {f : aU -> α × aU} {T : List bD} (hf : ∀ s, hU s (f s).2) (cl : ByteArray) (s : aU) : hU s (kW T f cl s).2 := by
 unfold kW
 exact ((hf s).trans (FZ hf cl _ _)).trans (gH _ _ _).back
theorem VM (O : A7) (T : List bD) (s : aU) : gV s (gT O T s).2 := by
 unfold gT
 split
 ·split
  ·exact (m6 _ _ _).back
  ·exact lJ _ _
 ·exact (m6 _ _ _).back
theorem VN (O : A7) (T : List bD) (kd : Int) (s : aU) : gV s (H8 O T kd s).2 := by
 unfold H8
 split
 ·exact gV.refl s
 ·exact (gH _ _ _).back.trans (VM O T _)
theorem F0 (T : List bD) (last : Int) (A : A5) (s : aU) : gV s (aJ T last A s).2.2 := fun p h => by
 rw [rT] at h
 simp only at h
 obtain ⟨q, h1, h2⟩ := JP h
 unfold aU.orFail at h1
 split at h1
 ·exact absurd h1 (jG T 13 _ q)
 ·exact ⟨q, h1, by omega⟩
theorem uQ (T : List bD) : ∀ (k : Nat) (last : Int) (A : A5) (s : aU), gV s (dB T k last A s).2
 | 0, _, _, s => gV.refl s
 | k + 1, last, A, s => by
  rw [dB]
  split
  ·exact (F0 T last A s).trans (uQ T k _ _ _)
  ·exact gV.refl s
theorem PR (T : List bD) (s : aU) : gV s (gU T s).2 := by
 unfold gU
 split
 ·unfold FN
  exact (((lJ _ _).trans (F0 T _ _ _)).trans (uQ T _ _ _ _)).trans (gH _ _ _).back
 ·exact gV.refl s
theorem MA (T : List bD) : ∀ (k : Nat) (s : aU), gV s (j2 T k s).2
 | 0, s => gV.refl s
 | k + 1, s => by
  rw [j2]
  split
  ·rename_i hb
   obtain ⟨p, rfl⟩ := DC hb
   refine gV.trans (b := (eH T (.ok p)).2) (fun p' h => ⟨p, rfl, ?_⟩) (MA T k _)
   have := yY hb h
   omega
  ·exact gV.refl s
theorem VP (T : List bD) (s : aU) : gV s (vP T s).2 := by
 unfold vP
 split
 ·exact hU.back fun _ h => xH h
 ·exact gV.refl s
theorem MB (O : A7) (T : List bD) (q : Int) (s : aU) : gV s (gQ O T q s).2 := by
 unfold gQ
 split
 ·exact ((lJ _ _).trans (gH _ _ _).back).trans (L9 (PQ O T q) _ _).back
 ·exact gV.refl s
theorem SD (O : A7) (T : List bD) (s : aU) : hU s (pU O T s).2 := by
 unfold pU
 split
 ·exact iS s
 ·split
  ·exact iS s
  ·split
   ·exact iS s
   ·split
    ·exact (iS s).trans (L9 (FY O T) _ _).back
    ·exact FY O T s
theorem qX (O : A7) (T : List bD) (q : Int) (s : aU) : hU s (eX O T q s).2 := by
 unfold eX
 exact (((((VP T s).trans (MB O T q _)).transS (SD O T _)).trans (VN O T _ _)).trans (PR T _)).trans (MA T _ _)
theorem dZ {T : List bD} {s s' : aU} (h : gV s s') : need T s' <= need T s := by
 cases s' with
 | bad e l c => exact qn _
 | ok p' =>
  obtain ⟨p, rfl, l⟩ := h p' rfl
  unfold need
  simp only
  omega
theorem j5 {T : List bD} {s s' : aU} (h : hU s s') (hn : 0 < need T s) : need T s' < need T s := by
 cases s' with
 | bad e l c => exact hn
 | ok p' =>
  obtain ⟨p, rfl, l⟩ := h p' rfl
  unfold need at hn |-
  simp only at hn |-
  omega
theorem tH {T : List bD} {x : ByteArray} {s : aU} (h : isS T x s = true) : 0 < need T s := by
 cases s with
 | bad e l c => exact absurd h (by simp [isS, pS, aW, dA])
 | ok p =>
  by_cases hp : p < T.length
  ·unfold need; simp only; omega
  ·exact absurd h (by simp [isS, pS, aW, dA, List.getD, List.getElem?_eq_none (by omega : T.length <= p)])
theorem PT {T : List bD} {s : aU} (h : fG T s = true) : 0 < need T s := by
 cases s with
 | bad e l c => exact absurd h (by simp [fG, aW, dA])
 | ok p =>
  by_cases hp : p < T.length
  ·unfold need; simp only; omega
  ·exact absurd h (by simp [fG, aW, dA, List.getD, List.getElem?_eq_none (by omega : T.length <= p)])
theorem tJ {T : List bD} {s : aU} (h : jN T s = true) : 0 < need T s := by
 unfold jN at h
 simp only [Bool.or_eq_true] at h
 rcases h with h | h | h | h | h | h | h
 all_goals first
  | exact tH h
  | exact PT h
theorem j6 (O : A7) (T : List bD) (q : Int) : ∀ (k : Nat) (v : gJ) (least n : Int) (s : aU),
  (bP O T q k v least n s).1.evs.length + need T (bP O T q k v least n s).2 <= v.evs.length + need T s /\
  (bP O T q k v least n s).1.tups.length + need T (bP O T q k v least n s).2 <= v.tups.length + need T s
 | 0, v, least, n, s => ⟨qb _, qb _⟩
 | k + 1, v, least, n, s => by
  rw [bP]
  split
  ·exact ⟨qb _, qb _⟩
  ·split
   ·rename_i hb
    have h0 := tH hb
    have h1 := j5 (T := T) (iS s) h0
    have h2 := dZ (T := T) (jH T 1 32 (s.next 1)).back
    have h3 := dZ (T := T) (gH T ⟨#[58]⟩ (bS T 1 32 (s.next 1)).2).back
    have h4 := dZ (T := T) (jH T 1 32 (bE T ⟨#[58]⟩ (bS T 1 32 (s.next 1)).2)).back
    simp only
    have i1 := j6 O T q k ⟨v.evs, v.tups ++ [⟨v.evs.length, 0, (bS T 1 32 (s.next 1)).1, (bS T 1 32 (bE T ⟨#[58]⟩ (bS T 1 32 (s.next 1)).2)).1⟩]⟩ 1 0 (bS T 1 32 (bE T ⟨#[58]⟩ (bS T 1 32 (s.next 1)).2)).2
    generalize bP O T q k ⟨v.evs, v.tups ++ [⟨v.evs.length, 0, (bS T 1 32 (s.next 1)).1, (bS T 1 32 (bE T ⟨#[58]⟩ (bS T 1 32 (s.next 1)).2)).1⟩]⟩ 1 0 (bS T 1 32 (bE T ⟨#[58]⟩ (bS T 1 32 (s.next 1)).2)).2 = r at i1 |-
    have h5 := dZ (T := T) (gH T ⟨#[41]⟩ r.2).back
    have i2 := j6 O T q k ⟨r.1.evs, r.1.tups.set v.tups.length ⟨v.evs.length, (r.1.evs.length : Int) - v.evs.length, (bS T 1 32 (s.next 1)).1, (bS T 1 32 (bE T ⟨#[58]⟩ (bS T 1 32 (s.next 1)).2)).1⟩⟩ least (n + 1) (bE T ⟨#[41]⟩ r.2)
    simp only [List.length_set, qi, qqt] at i1 i2
    constructor <;> omega
   ·split
    ·rename_i hb
     have h0 := tJ hb
     have h1 := j5 (T := T) (qX O T q s) h0
     have i1 := j6 O T q k ⟨v.evs ++ [(eX O T q s).1], v.tups⟩ least (n + 1) (eX O T q s).2
     simp only [qi, qqt] at i1
     constructor <;> omega
    ·have h1 : need T (if n < least then bF T 13 s else s) <= need T s := by
      split
      ·exact dZ (m6 _ _ _).back
      ·exact qb _
     simp only
     constructor <;> omega
theorem n6 (O : A7) (T : List bD) (q : Int) : ∀ (k : Nat) (v : gJ) (least n : Int) (s : aU) (i : Nat), i < v.tups.length -> (bP O T q k v least n s).1.tups[i]? = v.tups[i]?
 | 0, _, _, _, _, _, _ => rfl
 | k + 1, v, least, n, s, i, hi => by
  rw [bP]
  split
  ·rfl
  ·split
   ·simp only
    rw [n6 O T q k _ least (n + 1) _ i]
    ·simp only
     rw [List.getElem?_set_ne (by omega), n6 O T q k _ 1 0 _ i (by simp only [qi]; omega)]
     exact List.getElem?_append_left hi
    ·simp only [List.length_set]
     have := n6 O T q k ⟨v.evs, v.tups ++ [⟨v.evs.length, 0, (bS T 1 32 (s.next 1)).1, (bS T 1 32 (bE T ⟨#[58]⟩ (bS T 1 32 (s.next 1)).2)).1⟩]⟩ 1 0 (bS T 1 32 (bE T ⟨#[58]⟩ (bS T 1 32 (s.next 1)).2)).2 i (by simp only [qi]; omega)
     refine Decidable.byContradiction fun hn => ?_
     rw [List.getElem?_eq_none (Nat.le_of_not_lt hn)] at this
     simp only at this
     rw [List.getElem?_append_left hi, qo hi] at this
     cases this
   ·split
    ·exact n6 O T q k _ least (n + 1) _ i hi
    ·rfl
theorem MC {O : A7} {T : List bD} {q : Int} {k : Nat} {evs : List zC} {tups : List fZ} {x : fZ} {least n : Int} {s : aU} : (bP O T q k ⟨evs, tups ++ [x]⟩ least n s).1.tups[tups.length]? = some x := by
 rw [n6 O T q k _ least n s tups.length (by simp)]
 simp
end Go.Proofs.YtgkhemnmcgicnaaGreatDoor
