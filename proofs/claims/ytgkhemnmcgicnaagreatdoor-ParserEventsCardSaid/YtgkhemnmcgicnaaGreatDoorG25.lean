/- Towards the law ParserEvents, true for every text (no condition): one part of the proof. -/
import Derived.Test.YtgkhemnmcgicnaaGreatDoorG01
import Derived.Test.YtgkhemnmcgicnaaGreatDoorG24
namespace Go.Proofs.YtgkhemnmcgicnaaGreatDoor
set_option maxHeartbeats 16000000
set_option maxRecDepth 100000
open Go.RowKit
theorem results_cell1 {P : Program} {fn : Func} {p t : Tmp} {ty : TypeId} (h : fn.results = #[.cell p ty, .tmp t]) (tmps : Array Value) (w : World) (g : Nat) (T : TypeId) (cs : Array Value) (fr : Nat × Nat) (d : TypeDesc)
  (hp : tmps.getD p undef = .pointer (some ⟨g, 0, none⟩)) (hg : w.heap[g]? = some (.cells cs T fr))
  (hu : P.underlying ty = some d) (hd : (match d with | .struct _ | .array _ _ => true | _ => false) = true) (hi : (P.info? ty).map (·.size) = some cs.size) :
  (results fn tmps).run P w = .ok (.tuple #[.agg cs, tmps.getD t undef]) w := by
 have hp' : tmps[p]?.getD undef = .pointer (some ⟨g, 0, none⟩) := by simpa using hp
 simp [results, h, hp', asAddr, run_loadVar_row w g T ty cs fr d hg hu hd hi, Result.andThen]
theorem fill2_below {B : Nat} {a w : World} {X : Nat} (h : Below B a w) (hX : B <= X) (u v : Value) : Below B a (fill2 w X u v) :=
 (h.setCell (p := ⟨X, 0, none⟩) hX u).setCell (p := ⟨X, 1, none⟩) hX v
section
variable {T : List Tok} {Y M : Nat} {free : Bool} {w : World}
theorem PS.jump {p q : Nat} (h : PS T Y M free (.ok p) w) (hq : q < T.length) : PS T Y M free (.ok q) (w.setCell ⟨Y, 1, none⟩ (I (q : Nat))) := by
 obtain ⟨g, tv, pos, line, col, e, ls, ln, es, clk, h1, h2, h3⟩ := h
 obtain ⟨rfl, rfl, rfl, rfl, hlt⟩ := h3
 exact ⟨g, tv, q, 0, 0, 0, ls, ln, es, clk, h1.put 1 _ (fun h => h) rfl, h2, rfl, rfl, rfl, rfl, hq⟩
theorem PS.atCell {p : Nat} (h : PS T Y M free (.ok p) w) : w.cell? ⟨Y, 1, none⟩ = some (I p) /\ w.frozen? ⟨Y, 1, none⟩ = false /\ p < T.length := by
 obtain ⟨g, tv, pos, line, col, e, ls, ln, es, clk, h1, h2, h3⟩ := h
 obtain ⟨rfl, rfl, rfl, rfl, hlt⟩ := h3
 exact ⟨h1.c1, h1.fz 1, hlt⟩
end
section
variable {W0 : World} {T : List Tok} {Y M KK : Nat} {free : Bool} {st : Stt} {w : World}
theorem pitch1_s (s : ByteArray) (hs : s.size <= 281474976710656) (g : Glo w) : Calls Tryz.prog 143 #[.string s] w fun r w' => (∃ b, r = .returned (.tuple #[pAgg (pitR s).1, .bool b]) /\ (b = true ↔ (pitR s).2.2 = 0)) /\ Below w.heap.size w w' := by
 have hR := heap_alloc_new w (.cells #[I 0, I 0, I 0] 75)
 have b0 := (Below.refl _ w).alloc (Nat.le_refl _) (.cells #[I 0, I 0, I 0] 75)
 have hc := pitR_is s hs _ (g.stay b0)
 generalize pitR s = pr at hc ⊢
 obtain ⟨pv, pa, pe⟩ := pr
 obtain ⟨vs, va, vo⟩ := pv
 simp only [pAgg] at hc ⊢
 clear g
 by_cases he : pe = 0
 ·subst he
  go_enter Tryz.func143, Tryz.ntmps143
  go_wp2_with (go_at_call 111; refine hc.mono ?_)
  intro r w1; first | (intro he1 b1; subst he1) | rintro ⟨rfl, b1⟩
  have hR1 := (b1.block _ (by first | exact heap_lt hR | simpa using heap_lt hR)).trans hR
  have b01 := b0.trans (b1.mono (by first | exact b0.size | simpa using b0.size))
  have hRl := heap_lt hR1
  have hRn : w.heap.size ≠ w1.heap.size := by omega
  generalize hRR : w.heap.size = R at hR hR1 hRl hRn ⊢
  obtain ⟨q0, q1, q2, f0, f1, f2⟩ := three_cells hR1
  have hR5 := fill3_self (a := I vs) (b := I va) (c := I vo) hR1
  have b5 := fill3_below b01 (Nat.le_of_eq hRR) (I vs) (I va) (I vo)
  have hR6 := (Lib.alloc_old _ (.cells #[I vs, I va, I vo] 75) R (heap_lt hR5)).trans hR5
  have b6 := b5.alloc b5.size (.cells #[I vs, I va, I vo] 75)
  clear hR hR1 hc b01 hR5 b5
  unfold fill3 at hR6 b6
  go_wp2
  exact bodyPost_ret (results_cell1 rfl _ _ R 75 _ (0, 0) _ rfl hR6 Tryz.underlying75 rfl Tryz.sizePitch3) rfl ⟨⟨true, rfl, by simp⟩, b6⟩
 ·go_enter Tryz.func143, Tryz.ntmps143
  go_wp2_with (go_at_call 111; refine hc.mono ?_)
  intro r w1; first | (intro he1 b1; subst he1) | rintro ⟨rfl, b1⟩
  have hR1 := (b1.block _ (by first | exact heap_lt hR | simpa using heap_lt hR)).trans hR
  have b01 := b0.trans (b1.mono (by first | exact b0.size | simpa using b0.size))
  have hRl := heap_lt hR1
  have hRn : w.heap.size ≠ w1.heap.size := by omega
  generalize hRR : w.heap.size = R at hR hR1 hRl hRn ⊢
  obtain ⟨q0, q1, q2, f0, f1, f2⟩ := three_cells hR1
  have hR5 := fill3_self (a := I vs) (b := I va) (c := I vo) hR1
  have b5 := fill3_below b01 (Nat.le_of_eq hRR) (I vs) (I va) (I vo)
  have hR6 := (Lib.alloc_old _ (.cells #[I vs, I va, I vo] 75) R (heap_lt hR5)).trans hR5
  have b6 := b5.alloc b5.size (.cells #[I vs, I va, I vo] 75)
  clear hR hR1 hc b01 hR5 b5
  unfold fill3 at hR6 b6
  go_wp2
  exact bodyPost_ret (results_cell1 rfl _ _ R 75 _ (0, 0) _ rfl hR6 Tryz.underlying75 rfl Tryz.sizePitch3) rfl ⟨⟨false, by first | rfl | simp [he], by simp [he]⟩, b6⟩
theorem compose_pitch (h : PS T Y M free st w) (B : Bas W0 [Y, M] w) (hK : SymRow KK signsS w) {b : Bool} (hb : isPitchS T st = b) :
  Calls Tryz.prog 142 #[.pointer (some ⟨Y, 0, none⟩), .bool b, I 18, .func (.func 143) #[] #[], .bool true, .slice (some ⟨KK, 0, none⟩) 2 2] w fun r w' =>
   r = .returned (pAgg (pitchF theO T st).1) /\ PS T Y M free (pitchF theO T st).2 w' /\ Away [Y, M] w w' := by
 have hYl := h.lt
 have hMl := h.ltM
 have hR := (Lib.alloc_old (w.alloc (.cells #[I 0, I 0, I 0] 75)) (.cells #[I 0, I 0, I 0] 75) w.heap.size (heap_lt (heap_alloc_new w _))).trans (heap_alloc_new w (.cells #[I 0, I 0, I 0] 75))
 have hZ := heap_alloc_new (w.alloc (.cells #[I 0, I 0, I 0] 75)) (.cells #[I 0, I 0, I 0] 75)
 have b0 := ((Below.refl _ w).alloc (Nat.le_refl _) (.cells #[I 0, I 0, I 0] 75)).alloc (by simp) (.cells #[I 0, I 0, I 0] 75)
 have hel := fun (s1 : Stt) (w1 w2 : World) (h1 : PS T Y M free s1 w1) (R : Nat) => h1.else (w' := w2) (R := R) h
 have hRl := heap_lt hR
 rw [World.size_alloc] at hZ
 cases b with
 | false =>
  have e1 : pitchF theO T st = (zP, failS T 13 st) := if_neg (by rw [hb]; decide)
  rw [e1]
  simp only [pAgg, zP]
  have hx2 := fail_s (h.step b0) 13 (by decide)
  generalize failS T 13 st = s1 at hx2 ⊢
  clear e1 hb h
  go_enter Tryz.func142, Tryz.ntmps142
  go_wp2_with (go_at_call 63; refine hx2.mono ?_)
  intro r w2; first | (intro he hS2 a2; subst he) | rintro ⟨rfl, hS2, a2⟩
  have hR2 := a2.at hR (by simp; omega)
  have hZ2 := a2.at hZ (by simp; omega)
  have a02 := (Away.of_below (bs := [Y, M]) b0).trans a2
  generalize hRR : w.heap.size = R at hR hZ hZ2 hR2 hRl ⊢
  obtain ⟨q0, q1, q2, f0, f1, f2⟩ := three_cells hR2
  obtain ⟨z0, z1, z2, zf0, zf1, zf2⟩ := three_cells hZ2
  have hR3 := fill3_self (a := I 0) (b := I 0) (c := I 0) hR2
  have hS3 := hel _ w2 (fill3 w2 R (I 0) (I 0) (I 0)) hS2 R (Nat.le_of_eq hRR) hR2 (by decide) (fun j hj => fill3_other _ _ _ _ _ j hj)
  have a3 := fill3_away a02 (Nat.le_of_eq hRR) (I 0) (I 0) (I 0)
  clear hel hR hR2 hx2 hS2 hZ hZ2
  unfold fill3 at hR3 hS3 a3
  go_wp2
  refine bodyPost_ret (results_cell_row rfl _ _ R 75 _ (0, 0) _ rfl hR3 Tryz.underlying75 rfl Tryz.sizePitch3) rfl ?_
  exact ⟨rfl, hS3, a3⟩
 | true =>
  obtain ⟨p, rfl⟩ := pitch_ok hb
  have g := h.good
  have hpl := h.atCell.2.2
  have hlt := kind1_lt g hpl hb
  have hrl := run_len g true signsS hlt
  have hm := g.max
  have hcs := comp_size g true signsS hlt
  have c2 := fun w' (h : PS T Y M free (.ok p) w') (hk : SymRow KK signsS w') => composed_s h hlt true signsS (by decide) hk
  have c3 := fun w' (b : Bas W0 [Y, M] w') => pitch1_s (w := w') _ hcs b.glo
  have hst := fun w' (b : Below w.heap.size w w') => h.step b
  have hwq : IntKind.i64.wrap ((p : Int) + (((runS T true signsS (.ok p)).length : Int) + 1)) = ((p + ((runS T true signsS (.ok p)).length + 1) : Nat) : Int) := by
   rw [IntWalk.i64_in _ (by omega)]; omega
  have hq : p + ((runS T true signsS (.ok p)).length + 1) < T.length := by omega
  have hBs := fun w' (b : Below w.heap.size w w') => B.step b
  have hKs := fun w' (b : Below w.heap.size w w') => hK.step b
  have epit : pitchF theO T (.ok p) = match theO.pit (compF T true signsS (.ok p)) with
    | none => (zP, failS T 18 (.ok p))
    | some v => (v, .ok (p + ((runS T true signsS (.ok p)).length + 1))) := by unfold pitchF; rw [if_pos hb]; rfl
  rw [epit]
  have hpt := theO_pit (compF T true signsS (.ok p))
  generalize compF T true signsS (.ok p) = cs at c2 c3 hpt ⊢
  generalize (runS T true signsS (.ok p)).length = m at c2 hwq hq ⊢
  generalize pitR cs = pr at c3 hpt
  obtain ⟨pv, pa, pe⟩ := pr
  obtain ⟨vs, va, vo⟩ := pv
  simp only [pAgg] at c3 ⊢
  simp only [signsS, List.length_cons, List.length_nil, Nat.zero_add, Nat.reduceAdd] at c2
  rcases hpt with ⟨ho, hne⟩ | ⟨v, ho, rfl, hpe⟩
  ·have hne' : ¬ pe = 0 := hne
   clear hne
   rw [ho]
   simp only [zP]
   have c4 := fun w' (h : PS T Y M free (.ok p) w') => fail_s h 18 (by decide)
   generalize failS T 18 (.ok p) = s1 at c4 ⊢
   clear ho hb h
   go_enter Tryz.func142, Tryz.ntmps142
   have hx2 := c2 _ (hst _ b0) (hKs _ b0)
   clear c2
   go_wp2_with (go_at_call 144; refine hx2.mono ?_)
   intro r w1; first | (intro he b1; subst he) | rintro ⟨rfl, b1⟩
   have b01 := b0.trans (b1.mono (by first | exact b0.size | simpa using b0.size))
   have hR1 := (b1.block _ (by first | exact heap_lt hR | simpa using heap_lt hR)).trans hR
   have hZ1 := (b1.block _ (by first | exact heap_lt hZ | simpa using heap_lt hZ)).trans hZ
   have hx3 := c3 _ (hBs _ b01)
   clear hx2 c3
   go_wp2_with (go_at_call 143; refine hx3.mono ?_)
   rintro r w3 ⟨⟨bk, rfl, hbk⟩, b3⟩
   have hbf : bk = false := by
    cases bk with
    | false => rfl
    | true => exact absurd (hbk.1 rfl) hne'
   subst hbf
   have b03 := (b01.trans (b3.mono b01.size)).alloc (Nat.le_trans b01.size b3.size) (.cells #[I vs, I va, I vo] 75)
   have bt3 := (Below.refl _ w3).alloc (Nat.le_refl _) (.cells #[I vs, I va, I vo] 75)
   have hR3 := (bt3.block _ (Nat.lt_of_lt_of_le (heap_lt hR1) b3.size)).trans ((b3.block _ (heap_lt hR1)).trans hR1)
   have hZ3 := (bt3.block _ (Nat.lt_of_lt_of_le (heap_lt hZ1) b3.size)).trans ((b3.block _ (heap_lt hZ1)).trans hZ1)
   have hx4 := c4 _ (hst _ b03)
   clear hx3 c4 hbk
   go_wp2_with (go_at_call 63; refine hx4.mono ?_)
   intro r w4; first | (intro he hS4 a4; subst he) | rintro ⟨rfl, hS4, a4⟩
   have hR4 := a4.at hR3 (by simp; omega)
   have hZ4 := a4.at hZ3 (by simp; omega)
   have a04 := (Away.of_below (bs := [Y, M]) b03).trans a4
   generalize hRR : w.heap.size = R at hR hR1 hR3 hR4 hZ hZ1 hZ3 hZ4 hRl ⊢
   obtain ⟨q0, q1, q2, f0, f1, f2⟩ := three_cells hR4
   obtain ⟨z0, z1, z2, zf0, zf1, zf2⟩ := three_cells hZ4
   have hR5 := fill3_self (a := I 0) (b := I 0) (c := I 0) hR4
   have hS5 := hel _ w4 (fill3 w4 R (I 0) (I 0) (I 0)) hS4 R (Nat.le_of_eq hRR) hR4 (by decide) (fun j hj => fill3_other _ _ _ _ _ j hj)
   have a5 := fill3_away a04 (Nat.le_of_eq hRR) (I 0) (I 0) (I 0)
   clear hel hst hR hR1 hR3 hR4 hx4 hS4 hBs hKs hZ hZ1 hZ3 hZ4
   unfold fill3 at hR5 hS5 a5
   go_wp2
   refine bodyPost_ret (results_cell_row rfl _ _ R 75 _ (0, 0) _ rfl hR5 Tryz.underlying75 rfl Tryz.sizePitch3) rfl ?_
   exact ⟨rfl, hS5, a5⟩
  ·rw [ho]
   simp only
   clear ho hb
   generalize hQQ : p + (m + 1) = q at hwq hq ⊢
   go_enter Tryz.func142, Tryz.ntmps142
   have hx2 := c2 _ (hst _ b0) (hKs _ b0)
   clear c2
   go_wp2_with (go_at_call 144; refine hx2.mono ?_)
   intro r w1; first | (intro he b1; subst he) | rintro ⟨rfl, b1⟩
   have b01 := b0.trans (b1.mono (by first | exact b0.size | simpa using b0.size))
   have hR1 := (b1.block _ (by first | exact heap_lt hR | simpa using heap_lt hR)).trans hR
   have hx3 := c3 _ (hBs _ b01)
   clear hx2 c3
   go_wp2_with (go_at_call 143; refine hx3.mono ?_)
   rintro r w3 ⟨⟨bk, rfl, hbk⟩, b3⟩
   obtain rfl : bk = true := hbk.2 hpe
   have b03 := b01.trans (b3.mono b01.size)
   have hR3 := (b3.block _ (heap_lt hR1)).trans hR1
   have hS3 := hst _ b03
   obtain ⟨x1, xf1, _⟩ := hS3.atCell
   have n1 := World.new_ne w3 _ x1
   have l1 := hS3.lt
   have hS4 := hS3.jump hq
   have a4 := (Away.of_below (bs := [Y, M]) b03).setCell (p := ⟨Y, 1, none⟩) (.inl (by simp)) (I (q : Nat))
   have hRX : w.heap.size ≠ Y := by omega
   have hR4 : (w3.setCell ⟨Y, 1, none⟩ (I (q : Nat))).heap[w.heap.size]? = _ := (Below.heap_setCell w3 ⟨Y, 1, none⟩ _ _ hRX).trans hR3
   have hRn : w.heap.size ≠ w3.heap.size := by have := heap_lt hR3; omega
   have hwl := heap_lt hR3
   generalize hRR : w.heap.size = R at hR hR1 hR3 hR4 hRl hRX hRn hwl hZ ⊢
   obtain ⟨q0, q1, q2, f0, f1, f2⟩ := three_cells hR3
   have hR5 := fill3_self (a := I vs) (b := I va) (c := I vo) hR4
   have hS5 := hel _ _ (fill3 (w3.setCell ⟨Y, 1, none⟩ (I (q : Nat))) R (I vs) (I va) (I vo)) hS4 R (Nat.le_of_eq hRR) hR4 (by decide) (fun j hj => fill3_other _ _ _ _ _ j hj)
   have a5 := fill3_away a4 (Nat.le_of_eq hRR) (I vs) (I va) (I vo)
   have hS6 := hS5.step ((Below.refl _ _).alloc (Nat.le_refl _) (.cells #[I vs, I va, I vo] 75))
   have a6 := a5.alloc (.cells #[I vs, I va, I vo] 75)
   have hR6 := (Lib.alloc_old _ (.cells #[I vs, I va, I vo] 75) R (heap_lt hR5)).trans hR5
   clear hel hst hR hR1 hR3 hR4 hS3 hS4 hS5 hBs hKs a4 a5 hR5 h hZ hbk
   unfold fill3 at hR6 hS6 a6
   go_wp2
   refine bodyPost_ret (results_cell_row rfl _ _ R 75 _ (0, 0) _ rfl hR6 Tryz.underlying75 rfl Tryz.sizePitch3) rfl ?_
   exact ⟨rfl, hS6, a6⟩
end
section
variable {W0 : World} {T : List Tok} {Y M KK : Nat} {free : Bool} {st : Stt} {w : World}
theorem value1_s (s : ByteArray) (hs : s.size <= 281474976710656) (g : Glo w) : Calls Tryz.prog 104 #[.string s] w fun r w' => (∃ b, r = .returned (.tuple #[vAgg (valR s).1, .bool b]) /\ (b = true ↔ (valR s).2 = 0)) /\ Below w.heap.size w w' := by
 have hR := heap_alloc_new w (.cells #[I 0, I 0] 26)
 have b0 := (Below.refl _ w).alloc (Nat.le_refl _) (.cells #[I 0, I 0] 26)
 have hc := valR_is s hs _ (g.stay b0)
 generalize valR s = pr at hc ⊢
 obtain ⟨pv, pe⟩ := pr
 obtain ⟨vs, va⟩ := pv
 simp only [vAgg] at hc ⊢
 clear g
 by_cases he : pe = 0
 ·subst he
  go_enter Tryz.func104, Tryz.ntmps104
  go_wp2_with (go_at_call 67; refine hc.mono ?_)
  intro r w1; first | (intro he1 b1; subst he1) | rintro ⟨rfl, b1⟩
  have hR1 := (b1.block _ (by first | exact heap_lt hR | simpa using heap_lt hR)).trans hR
  have b01 := b0.trans (b1.mono (by first | exact b0.size | simpa using b0.size))
  have hRl := heap_lt hR1
  have hRn : w.heap.size ≠ w1.heap.size := by omega
  generalize hRR : w.heap.size = R at hR hR1 hRl hRn ⊢
  obtain ⟨q0, q1, f0, f1⟩ := two_cells hR1
  have hR5 := fill2_self (a := I vs) (b := I va) hR1
  have b5 := fill2_below b01 (Nat.le_of_eq hRR) (I vs) (I va)
  have hR6 := (Lib.alloc_old _ (.cells #[I vs, I va] 26) R (heap_lt hR5)).trans hR5
  have b6 := b5.alloc b5.size (.cells #[I vs, I va] 26)
  clear hR hR1 hc b01 hR5 b5
  unfold fill2 at hR6 b6
  go_wp2
  exact bodyPost_ret (results_cell1 rfl _ _ R 26 _ (0, 0) _ rfl hR6 Tryz.underlying26 rfl Tryz.sizeVal) rfl ⟨⟨true, rfl, by simp⟩, b6⟩
 ·go_enter Tryz.func104, Tryz.ntmps104
  go_wp2_with (go_at_call 67; refine hc.mono ?_)
  intro r w1; first | (intro he1 b1; subst he1) | rintro ⟨rfl, b1⟩
  have hR1 := (b1.block _ (by first | exact heap_lt hR | simpa using heap_lt hR)).trans hR
  have b01 := b0.trans (b1.mono (by first | exact b0.size | simpa using b0.size))
  have hRl := heap_lt hR1
  have hRn : w.heap.size ≠ w1.heap.size := by omega
  generalize hRR : w.heap.size = R at hR hR1 hRl hRn ⊢
  obtain ⟨q0, q1, f0, f1⟩ := two_cells hR1
  have hR5 := fill2_self (a := I vs) (b := I va) hR1
  have b5 := fill2_below b01 (Nat.le_of_eq hRR) (I vs) (I va)
  have hR6 := (Lib.alloc_old _ (.cells #[I vs, I va] 26) R (heap_lt hR5)).trans hR5
  have b6 := b5.alloc b5.size (.cells #[I vs, I va] 26)
  clear hR hR1 hc b01 hR5 b5
  unfold fill2 at hR6 b6
  go_wp2
  exact bodyPost_ret (results_cell1 rfl _ _ R 26 _ (0, 0) _ rfl hR6 Tryz.underlying26 rfl Tryz.sizeVal) rfl ⟨⟨false, by first | rfl | simp [he], by simp [he]⟩, b6⟩
theorem compose_value (h : PS T Y M free st w) (B : Bas W0 [Y, M] w) (hK : SymRow KK dotsS w) {b : Bool} (hb : valueB T st = b) :
  Calls Tryz.prog 103 #[.pointer (some ⟨Y, 0, none⟩), .bool b, I 17, .func (.func 104) #[] #[], .bool false, .slice (some ⟨KK, 0, none⟩) 1 1] w fun r w' =>
   r = .returned (vAgg (valueF theO T st).1) /\ PS T Y M free (valueF theO T st).2 w' /\ Away [Y, M] w w' := by
 have hYl := h.lt
 have hMl := h.ltM
 have hR := (Lib.alloc_old (w.alloc (.cells #[I 0, I 0] 26)) (.cells #[I 0, I 0] 26) w.heap.size (heap_lt (heap_alloc_new w _))).trans (heap_alloc_new w (.cells #[I 0, I 0] 26))
 have hZ := heap_alloc_new (w.alloc (.cells #[I 0, I 0] 26)) (.cells #[I 0, I 0] 26)
 have b0 := ((Below.refl _ w).alloc (Nat.le_refl _) (.cells #[I 0, I 0] 26)).alloc (by simp) (.cells #[I 0, I 0] 26)
 have hel := fun (s1 : Stt) (w1 w2 : World) (h1 : PS T Y M free s1 w1) (R : Nat) => h1.else (w' := w2) (R := R) h
 have hRl := heap_lt hR
 rw [World.size_alloc] at hZ
 cases b with
 | false =>
  have e1 : valueF theO T st = (((0 : Int), (0 : Int)), failS T 13 st) := if_neg (by rw [hb]; decide)
  rw [e1]
  simp only [vAgg]
  have hx2 := fail_s (h.step b0) 13 (by decide)
  generalize failS T 13 st = s1 at hx2 ⊢
  clear e1 hb h
  go_enter Tryz.func103, Tryz.ntmps103
  go_wp2_with (go_at_call 63; refine hx2.mono ?_)
  intro r w2; first | (intro he hS2 a2; subst he) | rintro ⟨rfl, hS2, a2⟩
  have hR2 := a2.at hR (by simp; omega)
  have hZ2 := a2.at hZ (by simp; omega)
  have a02 := (Away.of_below (bs := [Y, M]) b0).trans a2
  generalize hRR : w.heap.size = R at hR hZ hZ2 hR2 hRl ⊢
  obtain ⟨q0, q1, f0, f1⟩ := two_cells hR2
  obtain ⟨z0, z1, zf0, zf1⟩ := two_cells hZ2
  have hR3 := fill2_self (a := I 0) (b := I 0) hR2
  have hS3 := hel _ w2 (fill2 w2 R (I 0) (I 0)) hS2 R (Nat.le_of_eq hRR) hR2 (by decide) (fun j hj => fill2_other _ _ _ _ j hj)
  have a3 := fill2_away a02 (Nat.le_of_eq hRR) (I 0) (I 0)
  clear hel hR hR2 hx2 hS2 hZ hZ2
  unfold fill2 at hR3 hS3 a3
  go_wp2
  refine bodyPost_ret (results_cell_row rfl _ _ R 26 _ (0, 0) _ rfl hR3 Tryz.underlying26 rfl Tryz.sizeVal) rfl ?_
  exact ⟨rfl, hS3, a3⟩
 | true =>
  obtain ⟨p, rfl⟩ := value_ok hb
  have g := h.good
  have hpl := h.atCell.2.2
  have hlt := value_lt g hpl hb
  have hrl := run_len g false dotsS hlt
  have hm := g.max
  have hcs := comp_size g false dotsS hlt
  have c2 := fun w' (h : PS T Y M free (.ok p) w') (hk : SymRow KK dotsS w') => composed_s h hlt false dotsS (by decide) hk
  have c3 := fun w' (b : Bas W0 [Y, M] w') => value1_s (w := w') _ hcs b.glo
  have hst := fun w' (b : Below w.heap.size w w') => h.step b
  have hwq : IntKind.i64.wrap ((p : Int) + (((runS T false dotsS (.ok p)).length : Int) + 1)) = ((p + ((runS T false dotsS (.ok p)).length + 1) : Nat) : Int) := by
   rw [IntWalk.i64_in _ (by omega)]; omega
  have hq : p + ((runS T false dotsS (.ok p)).length + 1) < T.length := by omega
  have hBs := fun w' (b : Below w.heap.size w w') => B.step b
  have hKs := fun w' (b : Below w.heap.size w w') => hK.step b
  have epit : valueF theO T (.ok p) = match theO.val (compF T false dotsS (.ok p)) with
    | none => (((0 : Int), (0 : Int)), failS T 17 (.ok p))
    | some v => (v, .ok (p + ((runS T false dotsS (.ok p)).length + 1))) := by unfold valueF; rw [if_pos hb]; rfl
  rw [epit]
  have hpt := theO_val (compF T false dotsS (.ok p))
  generalize compF T false dotsS (.ok p) = cs at c2 c3 hpt ⊢
  generalize (runS T false dotsS (.ok p)).length = m at c2 hwq hq ⊢
  generalize valR cs = pr at c3 hpt
  obtain ⟨pv, pe⟩ := pr
  obtain ⟨vs, va⟩ := pv
  simp only [vAgg] at c3 ⊢
  simp only [dotsS, List.length_cons, List.length_nil, Nat.zero_add] at c2
  rcases hpt with ⟨ho, hne⟩ | ⟨v, ho, rfl, hpe⟩
  ·have hne' : ¬ pe = 0 := hne
   clear hne
   rw [ho]
   simp only
   have c4 := fun w' (h : PS T Y M free (.ok p) w') => fail_s h 17 (by decide)
   generalize failS T 17 (.ok p) = s1 at c4 ⊢
   clear ho hb h
   go_enter Tryz.func103, Tryz.ntmps103
   have hx2 := c2 _ (hst _ b0) (hKs _ b0)
   clear c2
   go_wp2_with (go_at_call 144; refine hx2.mono ?_)
   intro r w1; first | (intro he b1; subst he) | rintro ⟨rfl, b1⟩
   have b01 := b0.trans (b1.mono (by first | exact b0.size | simpa using b0.size))
   have hR1 := (b1.block _ (by first | exact heap_lt hR | simpa using heap_lt hR)).trans hR
   have hZ1 := (b1.block _ (by first | exact heap_lt hZ | simpa using heap_lt hZ)).trans hZ
   have hx3 := c3 _ (hBs _ b01)
   clear hx2 c3
   go_wp2_with (go_at_call 104; refine hx3.mono ?_)
   rintro r w3 ⟨⟨bk, rfl, hbk⟩, b3⟩
   have hbf : bk = false := by
    cases bk with
    | false => rfl
    | true => exact absurd (hbk.1 rfl) hne'
   subst hbf
   have b03 := (b01.trans (b3.mono b01.size)).alloc (Nat.le_trans b01.size b3.size) (.cells #[I vs, I va] 26)
   have bt3 := (Below.refl _ w3).alloc (Nat.le_refl _) (.cells #[I vs, I va] 26)
   have hR3 := (bt3.block _ (Nat.lt_of_lt_of_le (heap_lt hR1) b3.size)).trans ((b3.block _ (heap_lt hR1)).trans hR1)
   have hZ3 := (bt3.block _ (Nat.lt_of_lt_of_le (heap_lt hZ1) b3.size)).trans ((b3.block _ (heap_lt hZ1)).trans hZ1)
   have hx4 := c4 _ (hst _ b03)
   clear hx3 c4 hbk
   go_wp2_with (go_at_call 63; refine hx4.mono ?_)
   intro r w4; first | (intro he hS4 a4; subst he) | rintro ⟨rfl, hS4, a4⟩
   have hR4 := a4.at hR3 (by simp; omega)
   have hZ4 := a4.at hZ3 (by simp; omega)
   have a04 := (Away.of_below (bs := [Y, M]) b03).trans a4
   generalize hRR : w.heap.size = R at hR hR1 hR3 hR4 hZ hZ1 hZ3 hZ4 hRl ⊢
   obtain ⟨q0, q1, f0, f1⟩ := two_cells hR4
   obtain ⟨z0, z1, zf0, zf1⟩ := two_cells hZ4
   have hR5 := fill2_self (a := I 0) (b := I 0) hR4
   have hS5 := hel _ w4 (fill2 w4 R (I 0) (I 0)) hS4 R (Nat.le_of_eq hRR) hR4 (by decide) (fun j hj => fill2_other _ _ _ _ j hj)
   have a5 := fill2_away a04 (Nat.le_of_eq hRR) (I 0) (I 0)
   clear hel hst hR hR1 hR3 hR4 hx4 hS4 hBs hKs hZ hZ1 hZ3 hZ4
   unfold fill2 at hR5 hS5 a5
   go_wp2
   refine bodyPost_ret (results_cell_row rfl _ _ R 26 _ (0, 0) _ rfl hR5 Tryz.underlying26 rfl Tryz.sizeVal) rfl ?_
   exact ⟨rfl, hS5, a5⟩
  ·rw [ho]
   simp only
   clear ho hb
   generalize hQQ : p + (m + 1) = q at hwq hq ⊢
   go_enter Tryz.func103, Tryz.ntmps103
   have hx2 := c2 _ (hst _ b0) (hKs _ b0)
   clear c2
   go_wp2_with (go_at_call 144; refine hx2.mono ?_)
   intro r w1; first | (intro he b1; subst he) | rintro ⟨rfl, b1⟩
   have b01 := b0.trans (b1.mono (by first | exact b0.size | simpa using b0.size))
   have hR1 := (b1.block _ (by first | exact heap_lt hR | simpa using heap_lt hR)).trans hR
   have hx3 := c3 _ (hBs _ b01)
   clear hx2 c3
   go_wp2_with (go_at_call 104; refine hx3.mono ?_)
   rintro r w3 ⟨⟨bk, rfl, hbk⟩, b3⟩
   obtain rfl : bk = true := hbk.2 hpe
   have b03 := b01.trans (b3.mono b01.size)
   have hR3 := (b3.block _ (heap_lt hR1)).trans hR1
   have hS3 := hst _ b03
   obtain ⟨x1, xf1, _⟩ := hS3.atCell
   have n1 := World.new_ne w3 _ x1
   have l1 := hS3.lt
   have hS4 := hS3.jump hq
   have a4 := (Away.of_below (bs := [Y, M]) b03).setCell (p := ⟨Y, 1, none⟩) (.inl (by simp)) (I (q : Nat))
   have hRX : w.heap.size ≠ Y := by omega
   have hR4 : (w3.setCell ⟨Y, 1, none⟩ (I (q : Nat))).heap[w.heap.size]? = _ := (Below.heap_setCell w3 ⟨Y, 1, none⟩ _ _ hRX).trans hR3
   have hRn : w.heap.size ≠ w3.heap.size := by have := heap_lt hR3; omega
   have hwl := heap_lt hR3
   generalize hRR : w.heap.size = R at hR hR1 hR3 hR4 hRl hRX hRn hwl hZ ⊢
   obtain ⟨q0, q1, f0, f1⟩ := two_cells hR3
   have hR5 := fill2_self (a := I vs) (b := I va) hR4
   have hS5 := hel _ _ (fill2 (w3.setCell ⟨Y, 1, none⟩ (I (q : Nat))) R (I vs) (I va)) hS4 R (Nat.le_of_eq hRR) hR4 (by decide) (fun j hj => fill2_other _ _ _ _ j hj)
   have a5 := fill2_away a4 (Nat.le_of_eq hRR) (I vs) (I va)
   have hS6 := hS5.step ((Below.refl _ _).alloc (Nat.le_refl _) (.cells #[I vs, I va] 26))
   have a6 := a5.alloc (.cells #[I vs, I va] 26)
   have hR6 := (Lib.alloc_old _ (.cells #[I vs, I va] 26) R (heap_lt hR5)).trans hR5
   clear hel hst hR hR1 hR3 hR4 hS3 hS4 hS5 hBs hKs a4 a5 hR5 h hZ hbk
   unfold fill2 at hR6 hS6 a6
   go_wp2
   refine bodyPost_ret (results_cell_row rfl _ _ R 26 _ (0, 0) _ rfl hR6 Tryz.underlying26 rfl Tryz.sizeVal) rfl ?_
   exact ⟨rfl, hS6, a6⟩
end
section
variable {W0 : World} {T : List Tok} {Y M : Nat} {free : Bool} {st : Stt} {w : World}
theorem pitch_s (h : PS T Y M free st w) (B : Bas W0 [Y, M] w) : Calls Tryz.prog 102 #[.pointer (some ⟨Y, 0, none⟩)] w fun r w' => r = .returned (pAgg (pitchF theO T st).1) /\ PS T Y M free (pitchF theO T st).2 w' /\ Away [Y, M] w w' := by
 have hYl := h.lt
 have hMl := h.ltM
 have hR := heap_alloc_new w (.cells #[I 0, I 0, I 0] 75)
 have hRl := heap_lt hR
 have b0 := (Below.refl _ w).alloc (Nat.le_refl _) (.cells #[I 0, I 0, I 0] 75)
 have hx1 := ispitch_s (h.step b0)
 obtain ⟨b, hb⟩ : ∃ b, isPitchS T st = b := ⟨_, rfl⟩
 have c2 := fun w' K (bw : Below w.heap.size w w') (hK : SymRow K signsS w') => compose_pitch (h.step bw) (B.step bw) hK hb
 rw [hb] at hx1
 have hel := fun (s1 : Stt) (w1 w2 : World) (h1 : PS T Y M free s1 w1) (R : Nat) => h1.else (w' := w2) (R := R) h
 generalize pitchF theO T st = q at c2 ⊢
 obtain ⟨⟨vs, va, vo⟩, s1⟩ := q
 simp only [pAgg] at c2 ⊢
 clear h hb
 go_enter Tryz.func102, Tryz.ntmps102
 go_wp2_with (go_at_call 116; refine hx1.mono ?_)
 intro r w1; first | (intro he b1; subst he) | rintro ⟨rfl, b1⟩
 have b01 := b0.trans (b1.mono b0.size)
 have hR1 := (b1.block _ (heap_lt hR)).trans hR
 have bK := b01.alloc b01.size (.cells #[.string ⟨#[35]⟩, .string ⟨#[45]⟩] 9)
 have hK : SymRow w1.heap.size signsS (w1.alloc (.cells #[.string ⟨#[35]⟩, .string ⟨#[45]⟩] 9)) := heap_alloc_new w1 _
 have hR1' := (((Below.refl _ w1).alloc (Nat.le_refl _) (.cells #[.string ⟨#[35]⟩, .string ⟨#[45]⟩] 9)).block _ (heap_lt hR1)).trans hR1
 have hx2 := c2 _ _ bK hK
 clear hx1 c2 hK
 go_wp2_with (go_at_call 142; refine hx2.mono ?_)
 intro r w2; first | (intro he hS2 a2; subst he) | rintro ⟨rfl, hS2, a2⟩
 have hR2 := a2.at hR1' (by simp; omega)
 have a02 := (Away.of_below (bs := [Y, M]) bK).trans a2
 generalize hRR : w.heap.size = R at hR hR1 hR1' hR2 hRl ⊢
 obtain ⟨q0, q1, q2, f0, f1, f2⟩ := three_cells hR2
 have hR3 := fill3_self (a := I vs) (b := I va) (c := I vo) hR2
 have hS3 := hel _ w2 (fill3 w2 R (I vs) (I va) (I vo)) hS2 R (Nat.le_of_eq hRR) hR2 (by decide) (fun j hj => fill3_other _ _ _ _ _ j hj)
 have a3 := fill3_away a02 (Nat.le_of_eq hRR) (I vs) (I va) (I vo)
 clear hel hR hR1 hR1' hR2 hx2 hS2
 unfold fill3 at hR3 hS3 a3
 go_wp2
 refine bodyPost_ret (results_cell_row rfl _ _ R 75 _ (0, 0) _ rfl hR3 Tryz.underlying75 rfl Tryz.sizePitch3) rfl ?_
 exact ⟨rfl, hS3, a3⟩
theorem value_s (h : PS T Y M free st w) (B : Bas W0 [Y, M] w) : Calls Tryz.prog 59 #[.pointer (some ⟨Y, 0, none⟩)] w fun r w' => r = .returned (vAgg (valueF theO T st).1) /\ PS T Y M free (valueF theO T st).2 w' /\ Away [Y, M] w w' := by
 have hYl := h.lt
 have hMl := h.ltM
 have hR := heap_alloc_new w (.cells #[I 0, I 0] 26)
 have hRl := heap_lt hR
 have b0 := (Below.refl _ w).alloc (Nat.le_refl _) (.cells #[I 0, I 0] 26)
 have hx1 := peek_s (h.step b0)
 have hx1b := fun w' (bw : Below w.heap.size w w') => is_s (h.step bw) ⟨#[98]⟩
 obtain ⟨b, hb⟩ : ∃ b, valueB T st = b := ⟨_, rfl⟩
 have c2 := fun w' K (bw : Below w.heap.size w w') (hK : SymRow K dotsS w') => compose_value (h.step bw) (B.step bw) hK hb
 have hel := fun (s1 : Stt) (w1 w2 : World) (h1 : PS T Y M free s1 w1) (R : Nat) => h1.else (w' := w2) (R := R) h
 generalize valueF theO T st = q at c2 ⊢
 obtain ⟨⟨vs, va⟩, s1⟩ := q
 simp only [vAgg] at c2 ⊢
 unfold valueB at hb
 generalize isS T ⟨#[98]⟩ st = bi at hx1b hb
 unfold tokV at hx1
 generalize tokS T st = t at hx1 hb
 obtain ⟨kd, text, v, bt, lin, cl, j⟩ := t
 simp only at hx1 hb
 clear h
 by_cases hk : kd = 2
 ·subst hk
  obtain rfl : b = true := by rw [<- hb]; rfl
  have hfd := ftok0 2 v lin cl text bt j
  clear hb hx1b
  go_enter Tryz.func59, Tryz.ntmps59
  go_wp2_with (go_at_call 62; refine hx1.mono ?_)
  intro r w1; first | (intro he b1; subst he) | rintro ⟨rfl, b1⟩
  have b01 := b0.trans (b1.mono b0.size)
  have hR1 := (b1.block _ (heap_lt hR)).trans hR
  have bK := b01.alloc b01.size (.cells #[.string ⟨#[46]⟩] 9)
  have hK : SymRow w1.heap.size dotsS (w1.alloc (.cells #[.string ⟨#[46]⟩] 9)) := heap_alloc_new w1 _
  have hR1' := (((Below.refl _ w1).alloc (Nat.le_refl _) (.cells #[.string ⟨#[46]⟩] 9)).block _ (heap_lt hR1)).trans hR1
  have hx2 := c2 _ _ bK hK
  clear hx1 c2 hK
  go_wp2_with (go_at_call 103; refine hx2.mono ?_)
  intro r w2; first | (intro he hS2 a2; subst he) | rintro ⟨rfl, hS2, a2⟩
  have hR2 := a2.at hR1' (by simp; omega)
  have a02 := (Away.of_below (bs := [Y, M]) bK).trans a2
  generalize hRR : w.heap.size = R at hR hR1 hR1' hR2 hRl ⊢
  obtain ⟨q0, q1, f0, f1⟩ := two_cells hR2
  have hR3 := fill2_self (a := I vs) (b := I va) hR2
  have hS3 := hel _ w2 (fill2 w2 R (I vs) (I va)) hS2 R (Nat.le_of_eq hRR) hR2 (by decide) (fun j hj => fill2_other _ _ _ _ j hj)
  have a3 := fill2_away a02 (Nat.le_of_eq hRR) (I vs) (I va)
  clear hel hR hR1 hR1' hR2 hx2 hS2
  unfold fill2 at hR3 hS3 a3
  go_wp2
  generalize (w2.setCell ⟨R, 0, none⟩ (I vs)).setCell ⟨R, 1, none⟩ (I va) = w3 at hR3 hS3 a3 ⊢
  refine bodyPost_ret (results_cell_row rfl _ _ R 26 _ (0, 0) _ rfl hR3 Tryz.underlying26 rfl Tryz.sizeVal) rfl ?_
  exact ⟨rfl, hS3, a3⟩
 ·obtain rfl : b = bi := by rw [<- hb]; simp [hk]
  have hkb : (kd == 2) = false := by simp [hk]
  have hfd := ftok0 kd v lin cl text bt j
  clear hb
  go_enter Tryz.func59, Tryz.ntmps59
  go_wp2_with (go_at_call 62; refine hx1.mono ?_)
  intro r w1a; first | (intro he b1a; subst he) | rintro ⟨rfl, b1a⟩
  have b01a := b0.trans (b1a.mono b0.size)
  have hR1a := (b1a.block _ (heap_lt hR)).trans hR
  have hx1c := hx1b _ b01a
  clear hx1b
  go_wp2_with (go_at_call 76; refine hx1c.mono ?_)
  intro r w1; first | (intro he b1; subst he) | rintro ⟨rfl, b1⟩
  have b01 := b01a.trans (b1.mono b01a.size)
  have hR1 := (b1.block _ (heap_lt hR1a)).trans hR1a
  clear hx1c
  have bK := b01.alloc b01.size (.cells #[.string ⟨#[46]⟩] 9)
  have hK : SymRow w1.heap.size dotsS (w1.alloc (.cells #[.string ⟨#[46]⟩] 9)) := heap_alloc_new w1 _
  have hR1' := (((Below.refl _ w1).alloc (Nat.le_refl _) (.cells #[.string ⟨#[46]⟩] 9)).block _ (heap_lt hR1)).trans hR1
  have hx2 := c2 _ _ bK hK
  clear hx1 c2 hK
  go_wp2_with (go_at_call 103; refine hx2.mono ?_)
  intro r w2; first | (intro he hS2 a2; subst he) | rintro ⟨rfl, hS2, a2⟩
  have hR2 := a2.at hR1' (by simp; omega)
  have a02 := (Away.of_below (bs := [Y, M]) bK).trans a2
  generalize hRR : w.heap.size = R at hR hR1 hR1' hR2 hRl ⊢
  obtain ⟨q0, q1, f0, f1⟩ := two_cells hR2
  have hR3 := fill2_self (a := I vs) (b := I va) hR2
  have hS3 := hel _ w2 (fill2 w2 R (I vs) (I va)) hS2 R (Nat.le_of_eq hRR) hR2 (by decide) (fun j hj => fill2_other _ _ _ _ j hj)
  have a3 := fill2_away a02 (Nat.le_of_eq hRR) (I vs) (I va)
  clear hel hR hR1 hR1' hR2 hx2 hS2
  unfold fill2 at hR3 hS3 a3
  go_wp2
  generalize (w2.setCell ⟨R, 0, none⟩ (I vs)).setCell ⟨R, 1, none⟩ (I va) = w3 at hR3 hS3 a3 ⊢
  refine bodyPost_ret (results_cell_row rfl _ _ R 26 _ (0, 0) _ rfl hR3 Tryz.underlying26 rfl Tryz.sizeVal) rfl ?_
  exact ⟨rfl, hS3, a3⟩
end
end Go.Proofs.YtgkhemnmcgicnaaGreatDoor
