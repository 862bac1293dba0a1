/- Towards the law ParserEvents, true for every text (no condition): one part of the proof. -/
import Derived.Test.YtgkhemnmcgicnaaGreatDoorG01
import Derived.Test.YtgkhemnmcgicnaaGreatDoorG35
namespace Go.Proofs.YtgkhemnmcgicnaaGreatDoor
set_option maxHeartbeats 8000000
set_option maxRecDepth 100000
open Go.RowKit
theorem lx_count {ls : List Int} {s : ByteArray} {a n : Nat} {toks : List Tok} {out : Option (Nat × Int)} (h : Lx ls s a n toks out) (ha : a <= s.size) : toks.length <= s.size - a + 1 := by
 induction h with
 | fin => simp
 | @word a b c n toks out hu hb hc hw hl h ih =>
  have h2 := ih hw.bs
  have hlt := upto_lt hw hb (by unfold isInWord; rw [hc]; rfl)
  have hle := hu.le
  have hbs := hw.bs
  rw [List.length_cons]; omega
 | @number a b c n toks out v hu hb hc hw hl hv h ih =>
  have h2 := ih hw.bs
  have hlt := upto_lt hw hb hc
  have hle := hu.le
  have hbs := hw.bs
  rw [List.length_cons]; omega
 | @str a b c n toks out bytes hu hb hc hR h ih =>
  obtain ⟨g1, g2⟩ := hR.le c bytes rfl
  have h2 := ih g2
  have hle := hu.le
  rw [List.length_cons]; omega
 | @sym a b n toks out hu hb h1 h2 h3 hc h ih =>
  have g2 := ih (by omega)
  have hle := hu.le
  rw [List.length_cons]; omega
 | wordLong => exact Nat.zero_le _
 | long => exact Nat.zero_le _
 | strShort => exact Nat.zero_le _
 | strWrong => exact Nat.zero_le _
 | none => exact Nat.zero_le _
def endT : Tok := ⟨0, ByteArray.empty, 0, ByteArray.empty, 0, 0, false⟩
theorem good_one : GoodT [endT] := ⟨by decide, by decide, ⟨rfl, by decide⟩, fun i hi => by simp at hi⟩
theorem lexed (s : ByteArray) (hs : s.size <= 4000) : ∃ (T : List Tok) (st : Stt), GoodT T /\ ∀ w, Calls Tryz.prog 16 #[.string s] w fun r w' => Below w.heap.size w w' /\
  ∃ ao n c l col e, r = .returned (.tuple #[.slice ao n c, I l, I col, I e]) /\ StIs T st 0 l col e /\ (e = 0 -> w'.ownsRow w.heap.size 59 7 (.slice ao n c) T.length (cellsOf T)) /\ (e ≠ 0 -> ao = none) := by
 obtain ⟨toks, out, hx⟩ := lx_any s (linesOf s s.size)
 cases out with
 | none =>
  obtain ⟨hg, hl⟩ := lx_good hx hs (Nat.zero_le _) rfl
  have := hg.len
  refine ⟨toks, .ok 0, hg, fun w => ?_⟩
  refine (lexScan hx hs (fun b e h => by cases h) (by have := hg.max; omega) w).mono ?_
  rintro r w' ⟨b, ⟨-, lv, rfl, ho⟩ | ⟨_, _, _, h, _⟩⟩
  ·obtain ⟨ao, c, rfl⟩ := own_is ho
   exact ⟨b, ao, _, c, 0, 0, 0, rfl, ⟨rfl, rfl, rfl, rfl, this⟩, fun _ => ho, fun h => absurd rfl h⟩
  ·cases h
 | some q =>
  obtain ⟨b, e⟩ := q
  have hp := lx_place hx b e rfl
  refine ⟨[endT], .bad e (plL (linesOf s s.size) b) (plC (linesOf s s.size) b), good_one, fun w => ?_⟩
  have hn : toks.length <= 262143 := by have := lx_count hx (Nat.zero_le _); omega
  refine (lexScan hx hs (fun b' e' h => by injection h with h; injection h with h1 h2; omega) hn w).mono ?_
  rintro r w' ⟨bl, ⟨h, _⟩ | ⟨b', e', he, h, rfl⟩⟩
  ·cases h
  ·injection h with h
   injection h with h1 h2
   subst h1 h2
   exact ⟨bl, none, 0, 0, _, _, e, rfl, ⟨rfl, he, rfl, rfl, by omega⟩, fun h0 => absurd h0 he, fun _ => rfl⟩
theorem set4_self {w : World} {X : Nat} {cs : Array Value} {T : TypeId} (v0 v2 v3 v4 : Value) (h : w.heap[X]? = some (.cells cs T (0, 0))) :
  ((((w.setCell ⟨X, 0, none⟩ v0).setCell ⟨X, 2, none⟩ v2).setCell ⟨X, 3, none⟩ v3).setCell ⟨X, 4, none⟩ v4).heap[X]? = some (.cells ((((cs.setIfInBounds 0 v0).setIfInBounds 2 v2).setIfInBounds 3 v3).setIfInBounds 4 v4) T (0, 0)) :=
 Lib.heap_setCell_same (i := 4) (Lib.heap_setCell_same (i := 3) (Lib.heap_setCell_same (i := 2) (Lib.heap_setCell_same (i := 0) h v0) v2) v3) v4
theorem set4_other (w : World) (X : Nat) (v0 v2 v3 v4 : Value) (k : Nat) (hk : k ≠ X) : ((((w.setCell ⟨X, 0, none⟩ v0).setCell ⟨X, 2, none⟩ v2).setCell ⟨X, 3, none⟩ v3).setCell ⟨X, 4, none⟩ v4).heap[k]? = w.heap[k]? := by
 rw [Below.heap_setCell _ ⟨X, 4, none⟩ _ k hk, Below.heap_setCell _ ⟨X, 3, none⟩ _ k hk, Below.heap_setCell _ ⟨X, 2, none⟩ _ k hk, Below.heap_setCell _ ⟨X, 0, none⟩ _ k hk]
section
variable {T : List Tok} {st : Stt} {s : ByteArray}
def ScanIs (s : ByteArray) (T : List Tok) (st : Stt) : Prop := ∀ w, Calls Tryz.prog 16 #[.string s] w fun r w' => Below w.heap.size w w' /\
  ∃ ao n c l col e, r = .returned (.tuple #[.slice ao n c, I l, I col, I e]) /\ StIs T st 0 l col e /\ (e = 0 -> w'.ownsRow w.heap.size 59 7 (.slice ao n c) T.length (cellsOf T)) /\ (e ≠ 0 -> ao = none)
theorem open_s (hg : GoodT T) (hsc : ScanIs s T st) (w : World) :
  Calls Tryz.prog 19 #[.string s, .bool true] w fun r w' => r = .returned (.pointer (some ⟨w.heap.size + 1, 0, none⟩)) /\ Below w.heap.size w w' /\ PS T (w.heap.size + 1) w.heap.size true st w' := by
 have hmk : (Instr.makeMap 129 none).run Tryz.prog w = .ok (.map (some w.heap.size)) (w.alloc (.map #[] 0)) := by
  simp [Instr.makeMap, newObj, Sem.run]
 have b0 := ((Below.refl w.heap.size w).alloc (Nat.le_refl _) (.map #[] 0)).alloc (by simp) (.cells #[.slice none 0 0, I 0, I 0, I 0, I 0, .bool true, I 0, I 0, .map (some w.heap.size)] 133)
 have hM0 : ((w.alloc (.map #[] 0)).alloc (.cells #[.slice none 0 0, I 0, I 0, I 0, I 0, .bool true, I 0, I 0, .map (some w.heap.size)] 133)).heap[w.heap.size]? = some (.map #[] 0) := (Lib.alloc_old _ _ _ (by simp)).trans (heap_alloc_new w _)
 have hY0 : ((w.alloc (.map #[] 0)).alloc (.cells #[.slice none 0 0, I 0, I 0, I 0, I 0, .bool true, I 0, I 0, .map (some w.heap.size)] 133)).heap[w.heap.size + 1]? = some (.cells #[.slice none 0 0, I 0, I 0, I 0, I 0, .bool true, I 0, I 0, .map (some w.heap.size)] 133 (0, 0)) := by
  have := heap_alloc_new (w.alloc (.map #[] 0)) (.cells #[.slice none 0 0, I 0, I 0, I 0, I 0, .bool true, I 0, I 0, .map (some w.heap.size)] 133)
  simpa using this
 have sc := hsc ((w.alloc (.map #[] 0)).alloc (.cells #[.slice none 0 0, I 0, I 0, I 0, I 0, .bool true, I 0, I 0, .map (some w.heap.size)] 133))
 go_enter Tryz.func19, Tryz.ntmps19
 go_wp2_with (go_at_call 16; refine sc.mono ?_)
 rintro r w1 ⟨b1, ao, n, c, l, col, e, rfl, hst, hrow, hnone⟩
 have hM1 := (b1.block _ (Array.getElem?_eq_some_iff.1 hM0).1).trans hM0
 have hY1 := (b1.block _ (Array.getElem?_eq_some_iff.1 hY0).1).trans hY0
 have bel := b0.trans (b1.mono (by simp; omega))
 generalize hMe : w.heap.size = M at hM1 hY1 bel ⊢
 have hrow' := fun he => ownLo (B := 0) (hrow he) (Nat.zero_le _)
 clear b0 hM0 hY0 sc hmk hrow
 have d0 : w1.cell? ⟨M + 1, 0, none⟩ = some (.slice none 0 0) := by rw [Lib.cell_of_heap hY1]; rfl
 have d2 : w1.cell? ⟨M + 1, 2, none⟩ = some (I 0) := by rw [Lib.cell_of_heap hY1]; rfl
 have d3 : w1.cell? ⟨M + 1, 3, none⟩ = some (I 0) := by rw [Lib.cell_of_heap hY1]; rfl
 have d4 : w1.cell? ⟨M + 1, 4, none⟩ = some (I 0) := by rw [Lib.cell_of_heap hY1]; rfl
 have f0 := Lib.frozen_of_heap hY1 0
 have f2 := Lib.frozen_of_heap hY1 2
 have f3 := Lib.frozen_of_heap hY1 3
 have f4 := Lib.frozen_of_heap hY1 4
 have HS := shut (And.intro hst (And.intro hrow' hnone))
 clear hst hrow' hnone
 go_wp2
 go_ret
 obtain ⟨hst, hrow', hnone⟩ := HS.out
 rw [hMe]
 refine ⟨rfl, (((bel.setCell (p := ⟨M + 1, 0, none⟩) (by show M <= M + 1; omega) _).setCell (p := ⟨M + 1, 2, none⟩) (by show M <= M + 1; omega) _).setCell (p := ⟨M + 1, 3, none⟩) (by show M <= M + 1; omega) _).setCell (p := ⟨M + 1, 4, none⟩) (by show M <= M + 1; omega) _, hg, .slice ao n c, 0, l, col, e, 0, 0, #[], 0, ⟨set4_self _ _ _ _ hY1, (set4_other w1 (M + 1) _ _ _ _ M (by omega)).trans hM1, fun he => ?_⟩, fun e he => by simp at he, hst⟩
 have hown := hrow' he
 exact own_step hown fun k hk => set4_other w1 (M + 1) _ _ _ _ k (fun e => own_ne hown hY1 (by intro cs fr hc; injection hc with _ h2 _; exact absurd h2 (by decide)) (by rw [hk, e]))
theorem mopen_s (hg : GoodT T) (hsc : ScanIs s T st) (w : World) :
  Calls Tryz.prog 8 #[.string s, .bool true] w fun r w' => ∃ X lv, r = .returned (.pointer (some ⟨X, 0, none⟩)) /\ w.heap.size <= X /\ Below w.heap.size w w' /\ MS T X true lv (.slice none 0 0) st w' := by
 have sc := hsc w
 go_enter Tryz.func8, Tryz.ntmps8
 go_wp2_with (go_at_call 16; refine sc.mono ?_)
 rintro r w1 ⟨b1, ao, n, c, l, col, e, rfl, hst, hrow, hnone⟩
 have hN := heap_alloc_new w1 (.cells #[.slice ao n c, I 0, .bool true, I 0, I 0, .slice none 0 0, I e, I l, I col] 42)
 have b2 := b1.alloc b1.size (.cells #[.slice ao n c, I 0, .bool true, I 0, I 0, .slice none 0 0, I e, I l, I col] 42)
 have bz := b1.size
 have hlv : ∀ g, (Value.slice ao n c).ownBlock = some g -> g < w1.heap.size := fun g hg => by
  by_cases he : e = 0
  ·exact ((hrow he).lt g hg).2
  ·rw [hnone he] at hg; cases hg
 have HS := shut (And.intro hst (And.intro (fun he => ownLo (B := 0) (hrow he) (Nat.zero_le _)) hlv))
 clear hst hrow hnone hlv sc
 go_wp2
 go_ret
 obtain ⟨hst, hrow', hlv⟩ := HS.out
 refine ⟨w1.heap.size, .slice ao n c, rfl, bz, b2, hg, 0, 0, 0, 0, [], e, l, col, ⟨hN, fun he => (hrow' he).alloc _, World.ownsRow_nil _ _ _ _, fun g hg' => by have := hlv g hg'; simp; omega⟩, hst, by omega, fun _ => Nat.le_refl _⟩
end
section
variable {T : List Tok} {Y M X : Nat} {free : Bool} {lv iv : Value} {st : Stt} {w : World}
theorem endF_yes (h : (tokS T st).kind = 0) : endF T st = st := if_pos h
theorem endF_no (h : (tokS T st).kind ≠ 0) : endF T st = failS T 13 st := if_neg h
theorem pend_s (h : PS T Y M free st w) : Calls Tryz.prog 21 #[.pointer (some ⟨Y, 0, none⟩)] w fun r w' => r = .returned (.tuple #[]) /\ PS T Y M free (endF T st) w' /\ Away [Y, M] w w' := by
 have hp := peek_s h
 have hst := fun w' (b : Below w.heap.size w w') => h.step b
 by_cases hk : (tokS T st).kind = 0
 ·rw [endF_yes hk]
  generalize tokS T st = t at hk hp
  obtain ⟨kd, text, v, bt, lin, cl, j⟩ := t
  simp only [tokV] at hk hp
  subst hk
  have hfd := ftok0 0 v lin cl text bt j
  clear h
  go_enter Tryz.func21, Tryz.ntmps21
  go_wp2_with (go_at_call 62; refine hp.mono ?_)
  intro r w1; first | (intro he b1; subst he) | rintro ⟨rfl, b1⟩
  have hS := hst _ b1
  clear hst
  go_wp2
  go_end0
  exact ⟨rfl, hS, Away.of_below b1⟩
 ·rw [endF_no hk]
  have hfl := fun w' (b : Below w.heap.size w w') => fail_s (h.step b) 13 (by decide)
  generalize failS T 13 st = s9 at hfl ⊢
  generalize tokS T st = t at hk hp
  obtain ⟨kd, text, v, bt, lin, cl, j⟩ := t
  simp only [tokV] at hk hp
  have hfd := ftok0 kd v lin cl text bt j
  have hkb : (kd != 0) = true := by simp [hk]
  clear h hst
  go_enter Tryz.func21, Tryz.ntmps21
  go_wp2_with (go_at_call 62; refine hp.mono ?_)
  intro r w1; first | (intro he b1; subst he) | rintro ⟨rfl, b1⟩
  have hf1 := hfl _ b1
  clear hfl
  go_wp2_with (go_at_call 63; refine hf1.mono ?_)
  intro r w3; first | (intro he hS b3; subst he) | rintro ⟨rfl, hS, b3⟩
  go_wp2
  go_end0
  exact ⟨rfl, hS, (Away.of_below b1).trans b3⟩
theorem mend_s (h : MS T X free lv iv st w) : Calls Tryz.prog 10 #[.pointer (some ⟨X, 0, none⟩)] w fun r w' => r = .returned (.tuple #[]) /\ MS T X free lv iv (endF T st) w' /\ Away [X] w w' := by
 have hp := now_s h
 have hst := fun w' (b : Below w.heap.size w w') => h.step b
 by_cases hk : (tokS T st).kind = 0
 ·rw [endF_yes hk]
  generalize tokS T st = t at hk hp
  obtain ⟨kd, text, v, bt, lin, cl, j⟩ := t
  simp only [tokV] at hk hp
  subst hk
  have hfd := ftok0 0 v lin cl text bt j
  clear h
  go_enter Tryz.func10, Tryz.ntmps10
  go_wp2_with (go_at_call 31; refine hp.mono ?_)
  intro r w1; first | (intro he b1; subst he) | rintro ⟨rfl, b1⟩
  have hS := hst _ b1
  clear hst
  go_wp2
  go_end0
  exact ⟨rfl, hS, Away.of_below b1⟩
 ·rw [endF_no hk]
  have hfl := fun w' (b : Below w.heap.size w w') => mfail_s (h.step b) 13 (by decide)
  generalize failS T 13 st = s9 at hfl ⊢
  generalize tokS T st = t at hk hp
  obtain ⟨kd, text, v, bt, lin, cl, j⟩ := t
  simp only [tokV] at hk hp
  have hfd := ftok0 kd v lin cl text bt j
  have hkb : (kd != 0) = true := by simp [hk]
  clear h hst
  go_enter Tryz.func10, Tryz.ntmps10
  go_wp2_with (go_at_call 31; refine hp.mono ?_)
  intro r w1; first | (intro he b1; subst he) | rintro ⟨rfl, b1⟩
  have hf1 := hfl _ b1
  clear hfl
  go_wp2_with (go_at_call 32; refine hf1.mono ?_)
  intro r w3; first | (intro he hS b3; subst he) | rintro ⟨rfl, hS, b3⟩
  go_wp2
  go_end0
  exact ⟨rfl, hS, (Away.of_below b1).trans b3⟩
end
set_option maxHeartbeats 16000000
theorem results_cell3 {P : Program} {fn : Func} {p t u v : Tmp} {ty : TypeId} (h : fn.results = #[.cell p ty, .tmp t, .tmp u, .tmp v]) (tmps : Array Value) (w : World) (g : Nat) (T : TypeId) (cs : Array Value) (fr : Nat × Nat) (d : TypeDesc)
  (hp : tmps.getD p undef = .pointer (some ⟨g, 0, none⟩)) (hg : w.heap[g]? = some (.cells cs T fr))
  (hu : P.underlying ty = some d) (hd : (match d with | .struct _ | .array _ _ => true | _ => false) = true) (hi : (P.info? ty).map (·.size) = some cs.size) :
  (results fn tmps).run P w = .ok (.tuple #[.agg cs, tmps.getD t undef, tmps.getD u undef, tmps.getD v undef]) w := by
 have hp' : tmps[p]?.getD undef = .pointer (some ⟨g, 0, none⟩) := by simpa using hp
 simp [results, h, hp', asAddr, run_loadVar_row w g T ty cs fr d hg hu hd hi, Result.andThen]
def cutB (s : ByteArray) : ByteArray := s.extract 0 (min s.size 2000)
theorem cut_size (s : ByteArray) : (cutB s).size <= 2000 := by unfold cutB; rw [ByteArray.size_extract]; omega
theorem cut_walk (s : ByteArray) (w : World) : Calls Tryz.prog 6 #[.string s] w fun r w' => r = .returned (.string (cutB s)) /\ w' = w := by
 have hm : min (s.size : Int) 2000 = ((min s.size 2000 : Nat) : Int) := by omega
 have h0 : (0 : Int) <= ((min s.size 2000 : Nat) : Int) := by omega
 have h1 : ((min s.size 2000 : Nat) : Int) <= (s.size : Int) := by omega
 go_enter Tryz.func6, Tryz.ntmps6
 go_wp2
 go_ret
 exact ⟨rfl, rfl⟩
theorem presult_ok {T : List Tok} {Y M p : Nat} {free : Bool} {w : World} (h : PS T Y M free (.ok p) w) (x : EvV) (a1 a2 a3 : Option Addr) (n1 n2 n3 c1 c2 c3 : Nat) :
  Calls Tryz.prog 22 #[.pointer (some ⟨Y, 0, none⟩), .agg (x.cells (.slice a1 n1 c1) (.slice a2 n2 c2) (.slice a3 n3 c3))] w fun r w' =>
   r = .returned (.tuple #[.agg (x.cells (.slice a1 n1 c1) (.slice a2 n2 c2) (.slice a3 n3 c3)), I 0, I 0, I 0]) /\ Below w.heap.size w w' := by
 have c4 := h.okCell
 have n4' := World.new_ne w _ c4
 have l4 := World.block_lt_of_cell? w _ c4
 simp only at l4
 clear h
 unfold EvV.cells
 go_enter Tryz.func22, Tryz.ntmps22
 go_wp2
 refine bodyPost_ret (results_cell3 rfl _ _ (w.heap.size + 1) 31 _ (0, 0) _ rfl (heap_alloc2_new w _ _) Tryz.underlying31 rfl Tryz.sizeEvent) rfl ?_
 exact ⟨rfl, ((Below.refl _ w).alloc (Nat.le_refl _) _).alloc (by simp) _⟩
theorem yieldsIf_load_row {P : Program} {ops : Array Oper} {S : World -> Prop} {op : Oper} {a : Act} (hw : Region.wanted op (yielded ops a.tmps) = true) (ty : TypeId) (x : Operand) (ho : op.op = .load ty x)
  (g : Nat) (hx : a.eval x = .pointer (some ⟨g, 0, none⟩)) (cs : Array Value) (t : TypeId) (d : TypeDesc) (hS : ∀ w, S w -> w.heap[g]? = some (.cells cs t (0, 0)))
  (hu : P.underlying ty = some d) (hd : (match d with | .struct _ | .array _ _ => true | _ => false) = true) (hi : (P.info? ty).map (·.size) = some cs.size) : YieldsIf P ops S op (.agg cs) a :=
 .inl ⟨hw, fun w hw' => by
  unfold execOp
  simp only [ho, hx, Instr.loadAt, Instr.sureAddr, Sem.run_bind, Sem.run_pure, Result.andThen_ok, run_loadVar_row w g t ty cs (0, 0) d (hS w hw') hu hd hi]⟩
theorem setRow_other (w : World) (g k : Nat) (cs : Array Value) (h : k ≠ g) : (w.setRow g cs).heap[k]? = w.heap[k]? := by
 unfold World.setRow
 rw [Array.getElem?_modify, if_neg (fun e => h e.symm)]
theorem setRow_heap (w : World) (g : Nat) (cs old : Array Value) (t : TypeId) (hg : w.heap[g]? = some (.cells old t (0, 0))) : (w.setRow g cs).heap[g]? = some (.cells cs t (0, 0)) := by
 unfold World.setRow
 rw [Array.getElem?_modify, if_pos rfl, hg]; rfl
theorem setRow_below {B : Nat} {a w : World} {X : Nat} (h : Below B a w) (hX : B <= X) (cs : Array Value) : Below B a (w.setRow X cs) :=
 ⟨h.os, h.tape, h.output, by unfold World.setRow; simpa using h.size, fun k hk => (setRow_other w X k cs (by omega)).trans (h.block k hk)⟩
theorem step_of_wp {P : Program} {ops : Array Oper} {o : Oper} {a : Act} {w : World} {K : Act -> World -> Prop} {Q : Exit -> Act -> World -> Prop} {E : Prop} (hgd : o.guard = none) (h : Oper.wp P o a w K Q) : if Region.wanted o (yielded ops a.tmps) = true then Oper.wp P o a w K Q else E := by
 rw [if_pos (by simp [Region.wanted, hgd])]
 exact h
def zEv : EvV := ⟨0, 0, 0, 0, 0, [], [], 0, 0, 0, [], 0, 0⟩
theorem PS.errCells {T : List Tok} {Y M : Nat} {free : Bool} {e l c : Int} {w : World} (h : PS T Y M free (.bad e l c) w) : w.cell? ⟨Y, 2, none⟩ = some (I l) /\ w.cell? ⟨Y, 3, none⟩ = some (I c) /\ w.cell? ⟨Y, 4, none⟩ = some (I e) /\ e ≠ 0 := by
 obtain ⟨_, tv, pos, line, col, e', ls, ln, es, clk, h1, h2, h3⟩ := h
 obtain ⟨rfl, he, rfl, rfl, _⟩ := h3
 exact ⟨h1.c2, h1.c3, h1.c4, he⟩
theorem fill13_below {B : Nat} {a w : World} {X : Nat} (v0 v1 v2 v3 v4 v5 v6 v7 v8 v9 v10 v11 v12 : Value) (h : Below B a w) (hX : B <= X) : Below B a (fill13 w X v0 v1 v2 v3 v4 v5 v6 v7 v8 v9 v10 v11 v12) := by
 have s : ∀ {u : World}, Below B a u -> ∀ (i : Nat) (v : Value), Below B a (u.setCell ⟨X, i, none⟩ v) := fun hu i v => hu.setCell (p := ⟨X, i, none⟩) hX v
 exact s (s (s (s (s (s (s (s (s (s (s (s (s h 0 v0) 1 v1) 2 v2) 3 v3) 4 v4) 5 v5) 6 v6) 7 v7) 8 v8) 9 v9) 10 v10) 11 v11) 12 v12
theorem alloc3_facts (w : World) (a b c : Obj) :
  (((w.alloc a).alloc b).alloc c).heap[w.heap.size + 1 + 1]? = some c /\ (((w.alloc a).alloc b).alloc c).heap[w.heap.size + 1]? = some b /\ Below w.heap.size w (((w.alloc a).alloc b).alloc c) := by
 have e : ((w.alloc a).alloc b).heap.size = w.heap.size + 1 + 1 := by simp
 have h1 := heap_alloc_new ((w.alloc a).alloc b) c
 rw [e] at h1
 have h2 := (Lib.alloc_old ((w.alloc a).alloc b) c (w.heap.size + 1) (by omega)).trans (heap_alloc2_new w a b)
 exact ⟨h1, h2, (((Below.refl _ w).alloc (Nat.le_refl _) _).alloc (by simp) _).alloc (by omega) _⟩
theorem presult_bad {T : List Tok} {Y M : Nat} {free : Bool} {e l c : Int} {w : World} (h : PS T Y M free (.bad e l c) w) (x : EvV) (a1 a2 a3 : Option Addr) (n1 n2 n3 c1 c2 c3 : Nat) :
  Calls Tryz.prog 22 #[.pointer (some ⟨Y, 0, none⟩), .agg (x.cells (.slice a1 n1 c1) (.slice a2 n2 c2) (.slice a3 n3 c3))] w fun r w' =>
   r = .returned (.tuple #[.agg (zEv.cells nilV nilV nilV), I l, I c, I e]) /\ Below w.heap.size w w' := by
 obtain ⟨d2, d3, d4, he⟩ := h.errCells
 have n4' := World.new_ne w _ d4
 have l4 := World.block_lt_of_cell? w _ d4
 simp only at l4
 clear h
 unfold EvV.cells
 have m1 : Y ≠ w.heap.size + 1 := by omega
 have m2 : Y ≠ w.heap.size + 1 + 1 := by omega
 have m3 : Y ≠ w.heap.size := by omega
 go_enter Tryz.func22, Tryz.ntmps22
 go_wp2
 obtain ⟨hc, hb, bel⟩ := alloc3_facts w (.cells #[I x.site, I x.num, I x.kind, I x.lg, I x.dt, .slice a1 n1 c1, .slice a2 n2 c2, I x.ar, I x.orn, I x.dy, .slice a3 n3 c3, I x.stem, I x.beam] 31) (.cells #[I 0, I 0, I 0, I 0, I 0, .slice none 0 0, .slice none 0 0, I 0, I 0, I 0, .slice none 0 0, I 0, I 0] 31) (.cells #[I 0, I 0, I 0, I 0, I 0, .slice none 0 0, .slice none 0 0, I 0, I 0, I 0, .slice none 0 0, I 0, I 0] 31)
 have d2' := (bel.cell l4).trans d2
 have d3' := (bel.cell l4).trans d3
 have d4' := (bel.cell l4).trans d4
 generalize hW : (((w.alloc (.cells #[I x.site, I x.num, I x.kind, I x.lg, I x.dt, .slice a1 n1 c1, .slice a2 n2 c2, I x.ar, I x.orn, I x.dy, .slice a3 n3 c3, I x.stem, I x.beam] 31)).alloc (.cells #[I 0, I 0, I 0, I 0, I 0, .slice none 0 0, .slice none 0 0, I 0, I 0, I 0, .slice none 0 0, I 0, I 0] 31)).alloc (.cells #[I 0, I 0, I 0, I 0, I 0, .slice none 0 0, .slice none 0 0, I 0, I 0, I 0, .slice none 0 0, I 0, I 0] 31)) = W at hc hb bel d2' d3' d4' ⊢
 clear hW d2 d3 d4
 have hGne : w.heap.size + 1 + 1 ≠ w.heap.size + 1 := by omega
 generalize w.heap.size + 1 + 1 = G at hc m2 hGne ⊢
 refine wp_region_noPanic ?_
 refine wp_region_held_drew (S := fun w' => w'.heap[G]? = some (.cells #[I 0, I 0, I 0, I 0, I 0, .slice none 0 0, .slice none 0 0, I 0, I 0, I 0, .slice none 0 0, I 0, I 0] 31 (0, 0)) /\ w'.cell? ⟨Y, 2, none⟩ = some (I l) /\ w'.cell? ⟨Y, 3, none⟩ = some (I c) /\ w'.cell? ⟨Y, 4, none⟩ = some (I e)) (by kernel_rfl) ⟨hc, d2', d3', d4'⟩ (fun hHeld => ?_)
 refine wpAnyH_take (i := 0) rfl (by kernel_rfl) (by kernel_rfl) (by kernel_rfl) (fun _ _ _ h => h) (yieldsIf_load_row (by rfl) 31 _ rfl G rfl #[I 0, I 0, I 0, I 0, I 0, .slice none 0 0, .slice none 0 0, I 0, I 0, I 0, .slice none 0 0, I 0, I 0] 31 _ (fun _ h => h.1) Tryz.underlying31 rfl Tryz.sizeEvent) (by assumption) ?_
 try simp only [ap, nm]
 refine tkv 1 ?v1 rfl ?hy1 ?_
 case hy1 => (intro wq hSw; go_simp; try (with_reducible rfl))
 try simp only [ap, nm]
 refine tkv 2 ?v2 rfl ?hy2 ?_
 case hy2 => (intro wq hSw; go_simp; try (with_reducible rfl))
 try simp only [ap, nm]
 refine tkv 3 ?v3 rfl ?hy3 ?_
 case hy3 => (intro wq hSw; go_simp; try (with_reducible rfl))
 try simp only [ap, nm]
 refine tkv 4 ?v4 rfl ?hy4 ?_
 case hy4 => (intro wq hSw; go_simp; try (with_reducible rfl))
 try simp only [ap, nm]
 refine tkv 5 (I l) rfl ?hy5 ?_
 case hy5 => (intro wq hSw; obtain ⟨hSz, hS2, hS3, hS4⟩ := hSw; go_simp; try rfl)
 try simp only [ap, nm]
 refine tkv 6 ?v6 rfl ?hy6 ?_
 case hy6 => (intro wq hSw; go_simp; try (with_reducible rfl))
 try simp only [ap, nm]
 refine tkv 7 ?v7 rfl ?hy7 ?_
 case hy7 => (intro wq hSw; go_simp; try (with_reducible rfl))
 try simp only [ap, nm]
 refine tkv 8 ?v8 rfl ?hy8 ?_
 case hy8 => (intro wq hSw; go_simp; try (with_reducible rfl))
 try simp only [ap, nm]
 refine tkv 9 ?v9 rfl ?hy9 ?_
 case hy9 => (intro wq hSw; go_simp; try (with_reducible rfl))
 try simp only [ap, nm]
 refine tkv 10 (I c) rfl ?hy10 ?_
 case hy10 => (intro wq hSw; obtain ⟨hSz, hS2, hS3, hS4⟩ := hSw; go_simp; try rfl)
 try simp only [ap, nm]
 refine tkv 11 ?v11 rfl ?hy11 ?_
 case hy11 => (intro wq hSw; go_simp; try (with_reducible rfl))
 try simp only [ap, nm]
 refine tkv 12 ?v12 rfl ?hy12 ?_
 case hy12 => (intro wq hSw; go_simp; try (with_reducible rfl))
 try simp only [ap, nm]
 refine tkv 13 ?v13 rfl ?hy13 ?_
 case hy13 => (intro wq hSw; go_simp; try (with_reducible rfl))
 try simp only [ap, nm]
 refine tkv 14 ?v14 rfl ?hy14 ?_
 case hy14 => (intro wq hSw; go_simp; try (with_reducible rfl))
 try simp only [ap, nm]
 refine tkv 15 (I e) rfl ?hy15 ?_
 case hy15 => (intro wq hSw; obtain ⟨hSz, hS2, hS3, hS4⟩ := hSw; go_simp; try rfl)
 try simp only [ap, nm]
 refine rdy 16 rfl (fun K hK => ?_)
 refine step_of_wp rfl (wp_store_row 31 _ _ rfl (w.heap.size + 1) #[I 0, I 0, I 0, I 0, I 0, .slice none 0 0, .slice none 0 0, I 0, I 0, I 0, .slice none 0 0, I 0, I 0] rfl rfl 31 _ hb (by kernel_rfl) rfl (by simp [Value.oneCell']) ?_)
 have o9 : ∀ j, j ≠ w.heap.size + 1 -> (World.setRow W.drew (w.heap.size + 1) #[I 0, I 0, I 0, I 0, I 0, .slice none 0 0, .slice none 0 0, I 0, I 0, I 0, .slice none 0 0, I 0, I 0]).heap[j]? = W.heap[j]? := fun j hj => setRow_other W.drew (w.heap.size + 1) j #[I 0, I 0, I 0, I 0, I 0, .slice none 0 0, .slice none 0 0, I 0, I 0, I 0, .slice none 0 0, I 0, I 0] hj
 have hrf := setRow_heap W.drew (w.heap.size + 1) #[I 0, I 0, I 0, I 0, I 0, .slice none 0 0, .slice none 0 0, I 0, I 0, I 0, .slice none 0 0, I 0, I 0] _ _ hb
 have hbel := setRow_below (X := w.heap.size + 1) bel.drew (by omega) #[I 0, I 0, I 0, I 0, I 0, .slice none 0 0, .slice none 0 0, I 0, I 0, I 0, .slice none 0 0, I 0, I 0]
 have hcell : ∀ j i u, j ≠ w.heap.size + 1 -> W.cell? ⟨j, i, none⟩ = some u -> (World.setRow W.drew (w.heap.size + 1) #[I 0, I 0, I 0, I 0, I 0, .slice none 0 0, .slice none 0 0, I 0, I 0, I 0, .slice none 0 0, I 0, I 0]).cell? ⟨j, i, none⟩ = some u := fun j i u hj hu => by
  rw [<- hu]; unfold World.cell?; rw [o9 j hj]
 refine hK.out _ _ ⟨(o9 G hGne).trans hc, hcell Y 2 _ m1 d2', hcell Y 3 _ m1 d3', hcell Y 4 _ m1 d4'⟩ (fun hHeld => ?_)
 clear hK K
 try simp only [ap, nm]
 refine tkw 17 (I l) rfl ?_
 try simp only [ap, nm]
 refine tkw 18 (I c) rfl ?_
 try simp only [ap, nm]
 refine tkw 19 (I e) rfl ?_
 try simp only [ap, nm]
 refine wpAnyH_done (by kernel_rfl) ?_ _
 refine NoPanic.normal ?_
 go_wp2
 refine bodyPost_ret (results_cell3 rfl _ _ (w.heap.size + 1) 31 _ (0, 0) _ rfl hrf Tryz.underlying31 rfl Tryz.sizeEvent) rfl ?_
 exact ⟨rfl, hbel⟩
end Go.Proofs.YtgkhemnmcgicnaaGreatDoor
