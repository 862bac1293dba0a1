/- Towards the law ParserVoices, true for every text (no condition): one part of the proof. -/
import Derived.Test.YtgkhemnmcgicnaaGreatDoorG01
import Derived.Test.YtgkhemnmcgicnaaGreatDoorG24
import Derived.Test.YtgkhemnmcgicnaaGreatDoorG11
namespace Go.Proofs.YtgkhemnmcgicnaaGreatDoor
set_option maxHeartbeats 4000000
set_option maxRecDepth 100000
open Go.RowKit Go.Shelf Go.Dam
attribute [local go_sem] Oper.semAt_some
theorem ML {k : Nat} (hk : k < 40) (w : World) : Calls Tryz.prog 150 #[jC (tL k)] w fun e w' => e = .returned (I 0) /\ Below w.heap.size w w' :=
 j3 (args := [jC (tL k)]) rfl rfl (qqn.1 JT k (List.mem_range.2 hk)) w
theorem QX {d : Nat} (hd : d < 4) (w : World) : Calls Tryz.prog 151 #[.string ⟨#[46]⟩, I (d : Nat)] w fun e w' => e = .returned (.string (uC d)) /\ Below w.heap.size w w' :=
 j3 (args := [.string ⟨#[46]⟩, I (d : Nat)]) rfl rfl (qqn.1 WC d (List.mem_range.2 hd)) w
theorem QY (n : Int) (h0 : 0 <= n) (h1 : n <= 256) (w : World) (g : FR w) : Calls Tryz.prog 147 #[I n] w fun e w' => e = .returned (.string (nW n)) /\ Below w.heap.size w w' := by
 refine (Tryz.strconv_Itoa n (by omega) (by omega) w g.tab).mono ?_
 rintro e w' ⟨rfl, k, os, rfl⟩
 exact ⟨rfl, Lib.below_grow _ _ (qb _) _ _⟩
theorem EP (lg : Int) (d : Nat) (pw : Int) (hd : d < 4) (hl : (lg = 7 /\ pw = 128) \/ (lg = 8 /\ pw = 256)) (k : Nat) (hk : k < 40) (hv : tL k = (lg, (d : Int))) (w : World) (g : FR w) :
  Calls Tryz.prog 113 #[jC (tL k)] w fun e w' => e = .returned (.tuple #[.string (nW pw ++ uC d), I 0]) /\ Below w.heap.size w w' := by
 have hsz : (nW pw).size <= 20 /\ (uC d).size <= 3 := by
  refine ⟨?_, ?_⟩
  ·rcases hl with ⟨-, rfl⟩ | ⟨-, rfl⟩ <;> decide +kernel
  ·unfold uC; simp [ByteArray.size]; omega
 have xc := fun W => ML hk W
 rw [hv] at xc |-
 simp only [jC] at xc |-
 have hadd := pY (nW pw) (uC d) (by omega) (by omega)
 have b0 := (qa w.heap.size w).alloc (qb _) (.cells #[I lg, I (d : Nat)] 26)
 have hB := qc w (.cells #[I lg, I (d : Nat)] 26)
 obtain ⟨k0, k1, -, -⟩ := aZ hB
 go_enter Tryz.func113, Tryz.ntmps113
 go_wp2_with (go_at_call 150; (with_reducible refine (xc _).mono ?_))
 rintro r w1 ⟨rfl, b1⟩
 have hB1 := (b1.block _ (aA hB)).trans hB
 obtain ⟨q0, q1, -, -⟩ := aZ hB1
 have b01 := b0.trans (b1.mono b0.size)
 have xi := QY pw (by omega) (by omega) w1 (g.stay b01)
 clear xc k0 k1 hB b1
 rcases hl with ⟨rfl, rfl⟩ | ⟨rfl, rfl⟩
 all_goals
  go_wp2_with (go_at_call 147; (with_reducible refine xi.mono ?_))
  rintro r w2 ⟨rfl, b2⟩
  have hB2 := (b2.block _ (aA hB1)).trans hB1
  obtain ⟨p0, p1, -, -⟩ := aZ hB2
  have b02 := b01.trans (b2.mono b01.size)
  have xr := QX hd w2
  clear xi q0 q1 hB1 b2
  go_wp2_with (go_at_call 151; (with_reducible refine xr.mono ?_))
  rintro r w3 ⟨rfl, b3⟩
  go_wp2
  refine qf (qqg rfl _ _ _) rfl ?_
  exact ⟨rfl, b02.trans (b3.mono b02.size)⟩
theorem WA (k : Nat) (hk : k < 40) : ∃ t, MN (tL k) t := by
 by_cases h : k < 32
 ·refine ⟨YC k, ?_, fun w _ => j3 (args := [jC (tL k)]) rfl rfl (qqn.1 Q2 k (List.mem_range.2 h)) w⟩
  have : ∀ j < 32, (YC j).size <= 100 := by decide +kernel
  exact this k h
 ·have h4 : k % 4 < 4 := Nat.mod_lt _ (by decide)
  have hv : tL k = (((k / 4 : Nat) : Int) - 1, ((k % 4 : Nat) : Int)) := rfl
  rcases (by omega : k / 4 = 8 \/ k / 4 = 9) with h8 | h8
  ·refine ⟨nW 128 ++ uC (k % 4), ?_, fun w g => EP 7 (k % 4) 128 h4 (.inl ⟨rfl, rfl⟩) k hk (by rw [hv, h8]; rfl) w g⟩
   have : ∀ j < 4, (nW 128 ++ uC j).size <= 100 := by decide +kernel
   exact this _ h4
  ·refine ⟨nW 256 ++ uC (k % 4), ?_, fun w g => EP 8 (k % 4) 256 h4 (.inr ⟨rfl, rfl⟩) k hk (by rw [hv, h8]; rfl) w g⟩
   have : ∀ j < 4, (nW 256 ++ uC j).size <= 100 := by decide +kernel
   exact this _ h4
open Classical in
noncomputable def oA (x : Int × Int) : ByteArray := if h : ∃ t, MN x t then Classical.choose h else ByteArray.empty
theorem SW (k : Nat) (hk : k < 40) : MN (tL k) (oA (tL k)) := by
 have h := WA k hk
 unfold oA
 rw [dif_pos h]
 exact Classical.choose_spec h
def oB (k : Nat) : List (Fin 40) := (List.finRange 40).take k
theorem MM (k : Nat) (h : k < 40) : oB (k + 1) = oB k ++ [⟨k, h⟩] := by
 unfold oB
 rw [List.take_add_one, qo (by simpa using h)]
 simp
theorem QZ (k : Nat) (h : k <= 40) : (oB k).length = k := by unfold oB; simp; omega
theorem EQ {k : Nat} {x : Fin 40} (h : x.1 < k) : x ∈ oB k := by
 unfold oB
 refine List.mem_iff_getElem?.2 ⟨x.1, ?_⟩
 rw [List.getElem?_take_of_lt h, qo (by simp)]
 simp
def WB (k : Fin 40) : Array Value := #[jC (tL k.1)]
theorem Q0 (F : Fence) (n : Nat) (h6 : F.fn 149) (hro : F.round = none) (hn : 1 <= n) (l : Nat) (J Jx : List (Fin 40) -> World -> Prop)
  (hY : ∀ pre x W, J pre W -> pre.length < 40 -> YieldAt F (n - 1) Tryz.prog l (WB x) W fun e W' =>
   (e = .returned (.bool true) /\ J (pre ++ [x]) W' /\ KeepsWalks W W') \/ (e = .returned (.bool false) /\ Jx (pre ++ [x]) W'))
  (W : World) (h0 : J [] W) :
  CallsIn F n Tryz.prog 149 #[.func (.yield l) #[] #[]] W fun e W' => (∃ v, e = .returned v) /\ ((∃ ys, ys = oB 40 /\ J ys W') \/ (∃ pre, (∃ (k : Nat) (h : k < 40), pre = oB k ++ [⟨k, h⟩]) /\ Jx pre W')) := by
 refine callsIn_of_wp Tryz.func149 rfl h6 ?_ hro
 simp only [Tryz.ntmps149, List.size_toArray, qj, qqi, Nat.reduceAdd, Nat.reduceSub, Array.replicate_succ, Array.replicate_zero, List.push_toArray, List.append_toArray, List.nil_append, List.cons_append]
 gi_wp2
 gi_loopw [2] (fun p wr => ∃ a : Nat, a <= 10 /\ p = I ((a : Int) - 1) /\ J (oB (4 * a)) wr) (fun p _ => (9 - intOf p).toNat)
 case atStart => exact ⟨0, by omega, rfl, h0⟩
 case round =>
  obtain ⟨a, ha, rfl, hJ⟩ := hrel
  by_cases h9 : a = 10
  ·subst h9
   gi_wp2
   go_end0
   exact ⟨⟨_, rfl⟩, .inl ⟨_, rfl, hJ⟩⟩
  ·have hle : ((a : Int) - 1 <= 8) := by omega
   gi_wp2
   gi_loopw [8] (fun p wr => ∃ i : Nat, i <= 4 /\ p = I (i : Int) /\ J (oB (4 * a + i)) wr) (fun p _ => (4 - intOf p).toNat)
   case atStart => exact ⟨0, by omega, rfl, hJ⟩
   case round =>
    obtain ⟨i, hi, rfl, hJi⟩ := hrel
    by_cases h4 : i = 4
    ·subst h4
     gi_wp2
     go_roundw
     case rel => exact ⟨a + 1, by omega, by congr 1; omega, by rw [show 4 * (a + 1) = 4 * a + 4 by omega]; exact hJi⟩
     case measure => simp [intOf]; omega
    ·have hlt : (i : Int) < 4 := by omega
     have hx := SX (a := a) (i := i) (by omega)
     obtain ⟨fn, tmps, assign, body, hy, hR⟩ := hY (oB (4 * a + i)) ⟨4 * a + i, by omega⟩ _ hJi (by rw [QZ _ (by omega)]; omega)
     simp only [WB] at hy
     rw [hx] at hy
     simp only [jC] at hy
     gi_wp2
     refine hR.mono ?_
     rintro e W3 (⟨rfl, hJ3, hk3⟩ | ⟨rfl, hJx3⟩)
     ·gi_wp2
      go_roundw
      case rel => exact ⟨i + 1, by omega, by congr 1, by rw [<- Nat.add_assoc, MM _ (by omega)]; exact hJ3⟩
      case measure => simp [intOf]; omega
     ·gi_wp2
      refine qf (results_none rfl _ _ _) rfl ?_
      exact ⟨⟨_, rfl⟩, .inr ⟨_, ⟨4 * a + i, by omega, rfl⟩, hJx3⟩⟩
theorem F7 (F : Fence) (n : Nat) (h6 : F.fn 149) (hro : F.round = none) (hn : 1 <= n) (w : World) :
  SeqStopsK F n Tryz.prog 149 #[] WB KeepsWalks (fun ys => ys = oB 40) (fun pre => ∃ (k : Nat) (h : k < 40), pre = oB k ++ [⟨k, h⟩]) 40 w := fun l J Jx W _ _ _ hY h0 =>
 Q0 F n h6 hro hn l J Jx hY W h0
theorem Q1 (w : World) : Calls Tryz.prog 112 #[] w fun e w' => e = .returned (.func (.func 149) #[] #[]) /\ w' = w := by
 go_enter Tryz.func112, Tryz.ntmps112
 go_wp2
 go_ret
 exact ⟨rfl, rfl⟩
set_option maxHeartbeats 8000000
attribute [local go_sem] Oper.semAt_some
theorem Tryz.sizeVal0 : (Tryz.prog.info? 26).map (·.size) = some 2 := by kernel_rfl
theorem YA {w : World} {k : Nat} {v : Value} (h : w.cell? ⟨k, 0, none⟩ = some v) : (loadVar 32 ⟨k, 0, none⟩).run Tryz.prog w = .ok v w := by
 unfold loadVar
 simp [Result.andThen, go_sem, h]
theorem tK {w : World} {tmps : Array Value} {g k : Nat} {a b v : Value} (hp : tmps.getD 2 undef = .pointer (some ⟨g, 0, none⟩)) (hq : tmps.getD 3 undef = .pointer (some ⟨k, 0, none⟩)) (hg : w.heap[g]? = some (.cells #[a, b] 26 (0, 0))) (hk : w.cell? ⟨k, 0, none⟩ = some v) :
  (results Tryz.f67 tmps).run Tryz.prog w = .ok (.tuple #[.agg #[a, b], v]) w := by
 have hp' : tmps[2]?.getD undef = .pointer (some ⟨g, 0, none⟩) := by simpa using hp
 have hq' : tmps[3]?.getD undef = .pointer (some ⟨k, 0, none⟩) := by simpa using hq
 have h : Tryz.f67.results = #[.cell 2 26, .cell 3 32] := rfl
 simp [results, hp', hq', asAddr, run_loadVar_row w g 26 26 #[a, b] (0, 0) _ hg Tryz.underlying26 rfl Tryz.sizeVal0, Result.andThen, YA hk]
section
variable {w : World} {s : ByteArray}
structure D3 (B : Nat) (s : ByteArray) (a b c : Int) (w : World) : Prop where
 s : Boxed w B 9 (.string s)
 v : w.heap[B + 1]? = some (.cells #[I a, I b] 26 (0, 0))
 e : Boxed w (B + 2) 32 (I c)
theorem SU (w : World) (s : ByteArray) (c : Int) : D3 w.heap.size s 0 0 c (((w.alloc (.cells #[.string s] 9)).alloc (.cells #[I 0, I 0] 26)).alloc (.cells #[I c] 32)) := by
 have e1 : (w.alloc (.cells #[.string s] 9)).heap.size = w.heap.size + 1 := by simp
 have e2 : ((w.alloc (.cells #[.string s] 9)).alloc (.cells #[I 0, I 0] 26)).heap.size = w.heap.size + 2 := by simp
 refine ⟨((Boxed.new w 9 (.string s)).alloc _).alloc _, ?_, ?_⟩
 ·have := qc (w.alloc (.cells #[.string s] 9)) (.cells #[I 0, I 0] 26)
  rw [e1] at this
  exact (Lib.alloc_old _ _ _ (by rw [e2]; omega)).trans this
 ·have := Boxed.new ((w.alloc (.cells #[.string s] 9)).alloc (.cells #[I 0, I 0] 26)) 32 (I c)
  rw [e2] at this
  exact this
theorem D3.facts {B : Nat} {a b c : Int} (h : D3 B s a b c w) : w.cell? ⟨B, 0, none⟩ = some (.string s) /\ w.cell? ⟨B + 1, 0, none⟩ = some (I a) /\ w.cell? ⟨B + 1, 1, none⟩ = some (I b) /\ w.cell? ⟨B + 2, 0, none⟩ = some (I c) /\ w.frozen? ⟨B + 1, 0, none⟩ = false /\ w.frozen? ⟨B + 1, 1, none⟩ = false /\ w.frozen? ⟨B + 2, 0, none⟩ = false := by
 obtain ⟨h1, h2, h3, h4⟩ := aZ h.v
 exact ⟨h.s.cell, h1, h2, h.e.cell, h3, h4, h.e.frozen⟩
theorem D3.put {B : Nat} {a b c : Int} (h : D3 B s a b c w) (a' b' c' : Int) : D3 B s a' b' c' (((w.setCell ⟨B + 1, 0, none⟩ (I a')).setCell ⟨B + 1, 1, none⟩ (I b')).setCell ⟨B + 2, 0, none⟩ (I c')) := by
 have o : ∀ (W : World) (p i : Nat) (v : Value) (k : Nat), k ≠ p -> (W.setCell ⟨p, i, none⟩ v).heap[k]? = W.heap[k]? := fun W p i v k hk => qg W ⟨p, i, none⟩ v k hk
 refine ⟨?_, ?_, ?_⟩
 ·show _ = _
  rw [o _ _ _ _ _ (by omega), o _ _ _ _ _ (by omega), o _ _ _ _ _ (by omega)]; exact h.s
 ·rw [o _ _ _ _ _ (by omega)]
  rw [Lib.heap_setCell_same (i := 1) (Lib.heap_setCell_same (i := 0) h.v (I a')) (I b')]; rfl
 ·show _ = _
  rw [Lib.heap_setCell_same (i := 0) (((o _ _ _ _ _ (by omega)).trans (o _ _ _ _ _ (by omega))).trans (show _ = _ from h.e)) (I c')]; rfl
theorem BH {β : Type} (B k : Nat) (cs : Array Value) (t : TypeId) : OwnFrom B (fun (_ : β) W => W.heap[k]? = some (.cells cs t (0, 0))) := fun _ X Y row hs hg hr =>
 (hg.block k (qd.1 hs).1 (fun e => by
  obtain ⟨_, o, ho, hc⟩ := hr k e.symm
  rw [hs] at ho
  cases ho
  cases hc)).trans hs
theorem SV {β : Type} (A B : Nat) (s : ByteArray) (a b c : Int) : OwnFrom A (fun (_ : β) W => D3 B s a b c W) := fun x X Y row hs hg hr =>
 ⟨BH (β := β) A B _ _ x X Y row hs.s hg hr, BH (β := β) A (B + 1) _ _ x X Y row hs.v hg hr, BH (β := β) A (B + 2) _ _ x X Y row hs.e hg hr⟩
theorem D3.step {B : Nat} {a b c : Int} (h : D3 B s a b c w) {w' : World} (bl : Below w.heap.size w w') : D3 B s a b c w' :=
 ⟨(bl.block _ (qd.1 h.s).1).trans h.s, (bl.block _ (qd.1 h.v).1).trans h.v, (bl.block _ (qd.1 h.e).1).trans h.e⟩
end
theorem EN (s : ByteArray) (c : Int) (hc : (s.size = 0 /\ c = 4) \/ (6 < s.size /\ c = 5)) : JS s ((0, 0), c) := fun w g => by
 have D := SU w s c
 have bb := (((qa w.heap.size w).alloc (qb _) (.cells #[.string s] 9)).alloc (by simp) (.cells #[I 0, I 0] 26)).alloc (by simp; omega) (.cells #[I c] 32)
 have hv := D.v
 have he := D.e.cell
 simp only [jC]
 rcases hc with ⟨h, rfl⟩ | ⟨h, rfl⟩
 ·have hemp : s.toList.isEmpty = true := by
   rw [Go.ByteArray.toList_eq]
   have hl := kF s
   cases e : s.data.toList with
   | nil => rfl
   | cons x r => rw [e] at hl; simp at hl; omega
  clear g h
  go_enter Tryz.func67, Tryz.ntmps67
  go_wp2
  refine qf (tK (k := w.heap.size + 2) rfl rfl hv he) rfl ⟨rfl, bb⟩
 ·have hne := dM (t := s) (by omega)
  have hlen : (6 : Int) < (s.size : Int) := by omega
  clear g
  go_enter Tryz.func67, Tryz.ntmps67
  go_wp2
  refine qf (tK (k := w.heap.size + 2) rfl rfl hv he) rfl ⟨rfl, bb⟩
theorem D3.turned {w : World} {s : ByteArray} {B : Nat} {a b c : Int} (h : D3 B s a b c w) {D0 : Nat} (hD : B + 3 <= D0) (o : Obj) : D3 B s a b c (w.putObj D0 o) :=
 ⟨(World.putObj_heap_other (by omega)).trans h.s, (World.putObj_heap_other (by omega)).trans h.v, (World.putObj_heap_other (by omega)).trans h.e⟩
theorem qZ {B : Nat} {W W' : World} (b : Below W.heap.size W W') : KeepsFrom B W W' := ⟨b.size, fun k _o _ h0 _ => (b.block k (aA h0)).trans h0⟩
theorem xY {W W' : World} (b : Below W.heap.size W W') : KeepsWalks W W' := ⟨b.size, fun k _o h0 _ => (b.block k (aA h0)).trans h0⟩
theorem JR (s : ByteArray) (h0 : s.size ≠ 0) (h6 : s.size <= 6) (r : (Int × Int) × Int) (hr : (∃ k, k < 40 /\ oA (tL k) = s /\ (∀ j < k, oA (tL j) ≠ s) /\ r = (tL k, 0)) \/ ((∀ j < 40, oA (tL j) ≠ s) /\ r = ((0, 0), 13))) : JS s r := fun w g => by
 have hne := dM (t := s) (by omega)
 have hlen : ¬ (6 : Int) < (s.size : Int) := by omega
 have hlen2 : (s.size : Int) <= 6 := by omega
 have D := SU w s 0
 have bb := (((qa w.heap.size w).alloc (qb _) (.cells #[.string s] 9)).alloc (by simp) (.cells #[I 0, I 0] 26)).alloc (by simp; omega) (.cells #[I 0] 32)
 have hsz : (((w.alloc (.cells #[.string s] 9)).alloc (.cells #[I 0, I 0] 26)).alloc (.cells #[I 0] 32)).heap.size = w.heap.size + 3 := by simp
 obtain ⟨v0, ev⟩ := r
 simp only [jC]
 have HR := aQ hr
 clear hr
 refine (callsIn_wide (n := 5)).1 ?_
 refine callsIn_of_wp_marks Tryz.func67 rfl trivial ?_ rfl
 simp only [Tryz.ntmps67, List.size_toArray, qj, qqi, Nat.reduceAdd, Nat.reduceSub, Array.replicate_succ, Array.replicate_zero, List.push_toArray, List.append_toArray, List.nil_append, List.cons_append]
 gi_wp2_with (refine ⟨trivial, ?_⟩; gi_at_call 112; refine (callsIn_wide.2 (Q1 _)).mono ?_; rintro e w' ⟨rfl, rfl⟩)
 obtain ⟨W0, hW0⟩ : ∃ W0, ((w.alloc (.cells #[.string s] 9)).alloc (.cells #[I 0, I 0] 26)).alloc (.cells #[I 0] 32) = W0 := ⟨_, rfl⟩
 rw [hW0] at D bb hsz |-
 clear hW0
 refine wpIn_rangeFunc_ownH rfl (by omega) (gf := 149) (lb := #[]) rfl trivial (enters_of Tryz.func149 (by kernel_rfl) rfl)
  (F7 Fence.wide _ trivial rfl (by omega) W0) walksK_t walksK_b (qa _ _) (fun _ => rfl)
  (fun pre W => (D3 w.heap.size s 0 0 0 W /\ Below w.heap.size w W) /\ ∀ y ∈ pre, oA (tL y.1) ≠ s)
  (fun c pre W => (∃ p x, (c = .ret /\ pre = p ++ [x] /\ (∀ y ∈ p, oA (tL y.1) ≠ s) /\ oA (tL x.1) = s) /\ D3 w.heap.size s (tL x.1).1 (tL x.1).2 0 W) /\ Below w.heap.size w W)
  (OwnFrom.and (OwnFrom.and (SV _ _ _ _ _ _) (ownFrom_below (qb _) (by omega))) (ownFrom_pure _ (fun pre : List (Fin 40) => ∀ y ∈ pre, oA (tL y.1) ≠ s)))
  (fun c => OwnFrom.and (fun pre X Y row hs hg hr => by obtain ⟨p, x, h1, h2⟩ := hs; exact ⟨p, x, h1, SV (β := Unit) _ _ _ _ _ _ () X Y row h2 hg hr⟩) (ownFrom_below (qb _) (by omega)))
  ⟨⟨D, bb⟩, by simp⟩
  (fun x a' W => ∃ Bx, w.heap.size + 2 < Bx /\ W.heap[Bx]? = some (.cells #[I (tL x.1).1, I (tL x.1).2] 26 (0, 0)) /\ a' = { tmps := #[.string s, .pointer (some ⟨w.heap.size, 0, none⟩), .pointer (some ⟨w.heap.size + 1, 0, none⟩), .pointer (some ⟨w.heap.size + 1 + 1, 0, none⟩), .pointer (some ⟨Bx, 0, none⟩), undef, undef, .bool false, .string s, .bool false, undef, .bool false, .string s, I s.size, .bool false, undef, .func (.func 149) #[] #[], .agg #[I (tL x.1).1, I (tL x.1).2], undef, undef, undef, undef, undef, undef, undef, undef, undef, undef], defers := [] })
  (fun x a' _ X Y row hs hg hr => by obtain ⟨Bx, h1, h2, h3⟩ := hs; exact ⟨Bx, h1, BH (β := Unit) _ Bx _ _ () X Y row h2 hg hr, h3⟩)
  ?assign ?body ?done ?stop
 case assign =>
  rintro l pre x W K ⟨⟨hD, hB⟩, hp⟩ hK
  simp only [WB, jC]
  gi_wp2
  exact hK _ _ ((KeepsOthers.alloc _ _).from _) (KeepsOthers.alloc _ _).walks ⟨⟨hD.step ((qa _ W).alloc (qb _) _), hB.alloc hB.size _⟩, hp⟩ ⟨W.heap.size, Boxed.lt hD.e, qc W _, rfl⟩
 case body =>
  rintro l pre x a' W hl ⟨r, hr⟩ ⟨⟨hD, hB⟩, hp⟩ ⟨Bx, hBx, hX, rfl⟩ hlt
  obtain ⟨x0, x1, -, -⟩ := aZ hX
  have xt := (SW x.1 x.2).2 W (g.stay hB)
  simp only [jC] at xt
  have h1' : 1 <= 5 - 1 - 1 := by omega
  gi_wp2_with (refine ⟨trivial, ?_⟩; gi_at_call 113; refine (CallsIn.inRound l (callsIn_wide.2 xt)).mono ?_; rintro e w1 ⟨rfl, b1⟩; have hD1 := hD.step b1; obtain ⟨q1, q2, q3, q4, q5, q6, q7⟩ := hD1.facts; have hX1 := (b1.block _ (aA hX)).trans hX; obtain ⟨y0, y1, -, -⟩ := aZ hX1)
  ·rename_i he
   have he2 : oA (tL x.1) = s := by
    have := eq_of_beq he
    rw [Go.ByteArray.toList_eq, Go.ByteArray.toList_eq] at this
    exact ByteArray.ext (Array.ext' this)
   have hk : KeepsFrom W0.heap.size W w1 := qZ b1
   refine ⟨(hk.trans (((KeepsOthers.setCell _ _ _).trans (KeepsOthers.setCell _ _ _)).from _)).trans ((KeepsOthers.setCell _ _ _).from _), ⟨pre, x, ⟨rfl, rfl, hp, he2⟩, hD1.put _ _ _⟩, (((hB.trans (b1.mono hB.size)).setCell (p := ⟨w.heap.size + 1, 0, none⟩) (by show w.heap.size <= w.heap.size + 1; omega) _).setCell (p := ⟨w.heap.size + 1, 1, none⟩) (by show w.heap.size <= w.heap.size + 1; omega) _).setCell (p := ⟨w.heap.size + 2, 0, none⟩) (by show w.heap.size <= w.heap.size + 2; omega) _⟩
  ·rename_i he
   refine ⟨qZ b1, xY b1, ⟨hD1, hB.trans (b1.mono hB.size)⟩, fun y hy => ?_⟩
   rcases qqb.1 hy with h | h
   ·exact hp y h
   ·obtain rfl := qqw.1 h
    intro e
    rw [e] at he
    simp at he
 case done =>
  rintro D0 xs W hD0 rfl ⟨⟨hD, hB⟩, hp⟩ hK
  obtain ⟨q1, q2, q3, q4, q5, q6, q7⟩ := hD.facts
  have hv : (v0, ev) = ((0, 0), 13) := by
   rcases HR.out with ⟨k', hk', ht', hn', hr'⟩ | ⟨hn', hr'⟩
   ·exact absurd ht' (hp ⟨k', hk'⟩ (EQ (by exact hk')))
   ·exact hr'
  simp only [qz] at hv
  obtain ⟨rfl, rfl⟩ := hv
  have hD2 := hD.put 0 0 13
  have hB2 := ((hB.setCell (p := ⟨w.heap.size + 1, 0, none⟩) (by show w.heap.size <= w.heap.size + 1; omega) (I 0)).setCell (p := ⟨w.heap.size + 1, 1, none⟩) (by show w.heap.size <= w.heap.size + 1; omega) (I 0)).setCell (p := ⟨w.heap.size + 2, 0, none⟩) (by show w.heap.size <= w.heap.size + 2; omega) (I 13)
  have hK2 := ((((KeepsOthers.setCell W ⟨w.heap.size + 1, 0, none⟩ (I 0)).trans (KeepsOthers.setCell _ ⟨w.heap.size + 1, 1, none⟩ (I 0))).trans (KeepsOthers.setCell _ ⟨w.heap.size + 2, 0, none⟩ (I 13)))).same D0 _ hK rfl
  gi_wp2
  refine ⟨by simp, .inl ⟨_, _, rfl, run_takeDeferred hK2, ?_⟩⟩
  have hD3 := hD2.turned (D0 := D0) (by omega) (.deferred none)
  exact ⟨_, tK (k := w.heap.size + 2) rfl rfl hD3.v hD3.e.cell, rfl, hB2.trans (belowK_b (w := w) (qb _) _ D0 _ _ (by omega) hK2 rfl rfl)⟩
 case stop =>
  rintro D0 c pre W hD0 ⟨k, hk, rfl⟩ ⟨⟨p, x, ⟨rfl, hpx, hp, ht⟩, hD⟩, hB⟩ hK
  obtain ⟨rfl, h2⟩ := List.append_inj' hpx rfl
  obtain rfl := (List.cons.inj h2).1
  have hv : (v0, ev) = (tL k, 0) := by
   rcases HR.out with ⟨k', hk', ht', hn', hr'⟩ | ⟨hn', hr'⟩
   ·rw [hr']
    rcases Nat.lt_trichotomy k k' with h | h | h
    ·exact absurd ht (hn' k h)
    ·rw [h]
    ·exact absurd ht' (hp ⟨k', hk'⟩ (EQ h))
   ·exact absurd ht (hn' k hk)
  simp only [qz] at hv
  obtain ⟨rfl, rfl⟩ := hv
  gi_wp2
  refine ⟨by simp, .inl ⟨_, _, rfl, run_takeDeferred hK, ?_⟩⟩
  have hD3 := hD.turned (D0 := D0) (by omega) (.deferred none)
  exact ⟨_, tK (k := w.heap.size + 2) rfl rfl hD3.v hD3.e.cell, rfl, hB.trans (belowK_b (w := w) (qb _) _ D0 _ _ (by omega) hK rfl rfl)⟩
theorem YB (s : ByteArray) (_hs : s.size <= 281474976710656) : ∃ r, JS s r := by
 by_cases h0 : s.size = 0
 ·exact ⟨_, EN s 4 (.inl ⟨h0, rfl⟩)⟩
 by_cases h6 : 6 < s.size
 ·exact ⟨_, EN s 5 (.inr ⟨h6, rfl⟩)⟩
 have key : ∀ n, n <= 40 -> (∃ k, k < n /\ oA (tL k) = s /\ ∀ j < k, oA (tL j) ≠ s) \/ ∀ j < n, oA (tL j) ≠ s := by
  intro n
  induction n with
  | zero => exact fun _ => .inr fun j hj => by omega
  | succ n ih =>
   intro hn
   rcases ih (by omega) with ⟨k, hk, h1, h2⟩ | h
   ·exact .inl ⟨k, by omega, h1, h2⟩
   ·by_cases hs : oA (tL n) = s
    ·exact .inl ⟨n, by omega, hs, h⟩
    ·refine .inr fun j hj => ?_
     rcases Nat.lt_or_ge j n with h' | h'
     ·exact h j h'
     ·obtain rfl : j = n := by omega
      exact hs
 rcases key 40 (qb _) with ⟨k, hk, h1, h2⟩ | h
 ·exact ⟨_, JR s h0 (by omega) _ (.inl ⟨k, hk, h1, h2, rfl⟩)⟩
 ·exact ⟨_, JR s h0 (by omega) _ (.inr ⟨h, rfl⟩)⟩
end Go.Proofs.YtgkhemnmcgicnaaGreatDoor

namespace Go.Proofs.YtgkhemnmcgicnaaGreatDoor
set_option maxHeartbeats 4000000
set_option maxRecDepth 100000
open Go.RowKit
def FQ (s : ByteArray) (r : jT × Int × Int) : Prop := ∀ w, FR w -> Calls Tryz.prog 111 #[.string s] w fun e w' => e = .returned (.tuple #[rK r.1, I r.2.1, I r.2.2]) /\ Below w.heap.size w w'
theorem R0 (s : ByteArray) (h : ¬ 0 < s.size) : FQ s (zP, 0, 4) := fun w g => by
 have hemp : s.toList.isEmpty = true := by
  rw [Go.ByteArray.toList_eq]
  have hl := kF s
  cases e : s.data.toList with
  | nil => rfl
  | cons x r => rw [e] at hl; simp at hl; omega
 have hR := qc w (.cells #[I 0, I 0, I 0] 75)
 have b0 := (qa w.heap.size w).alloc (qb _) (.cells #[I 0, I 0, I 0] 75)
 clear g h
 go_enter Tryz.func111, Tryz.ntmps111
 go_wp2
 exact qf (jF rfl _ _ w.heap.size 75 _ (0, 0) _ rfl hR Tryz.underlying75 rfl Tryz.sizePitch3) rfl ⟨rfl, b0⟩
theorem UD (s : ByteArray) (h : 0 < s.size) (hc : Lib.indexByte mH.data.toList s[0] < 0) : FQ s (zP, 0, 6) := fun w g => by
 have hne := dM h
 have hlen : (0 : Int) < (s.size : Int) := by omega
 have hi := fun w => Tryz.strings_IndexByte mH ((s[0].toNat : Nat) : Int) w
 have e : ((s[0].toNat : Nat) : Int).toNat.toUInt8 = s[0] := by simp
 rw [e] at hi
 generalize Lib.indexByte mH.data.toList s[0] = st at hi hc
 simp only [mH] at hi
 have hR := qc w (.cells #[I 0, I 0, I 0] 75)
 have b0 := (qa w.heap.size w).alloc (qb _) (.cells #[I 0, I 0, I 0] 75)
 clear g e
 go_enter Tryz.func111, Tryz.ntmps111
 go_wp2_with (go_at_call 127; refine (hi _).mono ?_; rintro e w' ⟨rfl, rfl⟩)
 exact qf (jF rfl _ _ w.heap.size 75 _ (0, 0) _ rfl hR Tryz.underlying75 rfl Tryz.sizePitch3) rfl ⟨rfl, b0⟩
open Classical in
theorem YY (s : ByteArray) (hs : s.size <= 281474976710656) : ∃ r, FQ s r := by
 by_cases h : 0 < s.size
 ·by_cases hc : Lib.indexByte mH.data.toList s[0] < 0
  ·exact ⟨_, UD s h hc⟩
  ·have hi := fun w => Tryz.strings_IndexByte mH ((s[0].toNat : Nat) : Int) w
   have e : ((s[0].toNat : Nat) : Int).toNat.toUInt8 = s[0] := by simp
   rw [e] at hi
   have key : ∃ r, r <= 5 /\ (∀ k, k < r -> ¬ EG (s.extract 1 s.size) k) /\ (r < 5 -> EG (s.extract 1 s.size) r) := by
    by_cases h0 : EG (s.extract 1 s.size) 0
    ·exact ⟨0, by omega, fun k hk => by omega, fun _ => h0⟩
    by_cases h1 : EG (s.extract 1 s.size) 1
    ·exact ⟨1, by omega, fun k hk => by obtain rfl : k = 0 := by omega
                                        exact h0, fun _ => h1⟩
    by_cases h2 : EG (s.extract 1 s.size) 2
    ·exact ⟨2, by omega, fun k hk => by rcases (by omega : k = 0 \/ k = 1) with rfl | rfl <;> assumption, fun _ => h2⟩
    by_cases h3 : EG (s.extract 1 s.size) 3
    ·exact ⟨3, by omega, fun k hk => by rcases (by omega : k = 0 \/ k = 1 \/ k = 2) with rfl | rfl | rfl <;> assumption, fun _ => h3⟩
    by_cases h4 : EG (s.extract 1 s.size) 4
    ·exact ⟨4, by omega, fun k hk => by rcases (by omega : k = 0 \/ k = 1 \/ k = 2 \/ k = 3) with rfl | rfl | rfl | rfl <;> assumption, fun _ => h4⟩
    exact ⟨5, by omega, fun k hk => by rcases (by omega : k = 0 \/ k = 1 \/ k = 2 \/ k = 3 \/ k = 4) with rfl | rfl | rfl | rfl | rfl <;> assumption, fun h => by omega⟩
   obtain ⟨r, hr5, hno, hit⟩ := key
   have hst : 0 <= Lib.indexByte mH.data.toList s[0] := by omega
   generalize Lib.indexByte mH.data.toList s[0] = st at hi hst
   have go : ∀ (p : jT) (a e : Int), (if r < 5 then (if oV ⟨st, (r : Int) - 2, nK (s.extract 1 s.size) r⟩ = 0 then p = ⟨st, (r : Int) - 2, nK (s.extract 1 s.size) r⟩ /\ a = 0 /\ e = 0 else p = zP /\ a = 0 /\ e = oV ⟨st, (r : Int) - 2, nK (s.extract 1 s.size) r⟩) else p = zP /\ a = 1 /\ e = 3) -> FQ s (p, a, e) :=
    fun p a e hout w g => N8 s (s.extract 1 s.size) st r hr5 h hs rfl hst hi hno hit p a e hout w g
   by_cases hr : r < 5
   ·by_cases hp : oV ⟨st, (r : Int) - 2, nK (s.extract 1 s.size) r⟩ = 0
    ·exact ⟨(_, _, _), go _ _ _ (by rw [if_pos hr, if_pos hp]; exact ⟨rfl, rfl, rfl⟩)⟩
    ·exact ⟨(_, _, _), go _ _ _ (by rw [if_pos hr, if_neg hp]; exact ⟨rfl, rfl, rfl⟩)⟩
   ·exact ⟨(_, _, _), go _ _ _ (by rw [if_neg hr]; exact ⟨rfl, rfl, rfl⟩)⟩
 ·exact ⟨_, R0 s h⟩
open Classical in
noncomputable def yV (s : ByteArray) : jT × Int × Int := if h : ∃ r, FQ s r then Classical.choose h else (zP, 0, 0)
theorem QN (s : ByteArray) (hs : s.size <= 281474976710656) : FQ s (yV s) := by
 have h := YY s hs
 unfold yV
 rw [dif_pos h]
 exact Classical.choose_spec h
open Classical in
noncomputable def yW (s : ByteArray) : (Int × Int) × Int := if h : ∃ r, JS s r then Classical.choose h else ((0, 0), 0)
theorem QP (s : ByteArray) (hs : s.size <= 281474976710656) : JS s (yW s) := by
 have h := YB s hs
 unfold yW
 rw [dif_pos h]
 exact Classical.choose_spec h
open Classical in
noncomputable def aD : A7 := ⟨fun s => if (yV s).2.2 = 0 then some (yV s).1 else none, fun s => if (yW s).2 = 0 then some (yW s).1 else none⟩
theorem LU (s : ByteArray) : (aD.pit s = none /\ (yV s).2.2 ≠ 0) \/ (∃ p, aD.pit s = some p /\ (yV s).1 = p /\ (yV s).2.2 = 0) := by
 unfold aD
 by_cases h : (yV s).2.2 = 0
 ·exact .inr ⟨_, if_pos h, rfl, h⟩
 ·exact .inl ⟨if_neg h, h⟩
theorem LV (s : ByteArray) : (aD.val s = none /\ (yW s).2 ≠ 0) \/ (∃ p, aD.val s = some p /\ (yW s).1 = p /\ (yW s).2 = 0) := by
 unfold aD
 by_cases h : (yW s).2 = 0
 ·exact .inr ⟨_, if_pos h, rfl, h⟩
 ·exact .inl ⟨if_neg h, h⟩
structure lG (W0 : World) (bs : List Nat) (w : World) : Prop where
 gl : FR W0
 bel : Below W0.heap.size W0 w
 hs : ∀ k ∈ bs, W0.heap.size <= k
theorem lG.glo {W0 w : World} {bs : List Nat} (h : lG W0 bs w) : FR w := h.gl.stay h.bel
theorem lG.away {W0 w w' : World} {bs : List Nat} (h : lG W0 bs w) (a : aB bs w w') : lG W0 bs w' :=
 ⟨h.gl, ⟨a.os.trans h.bel.os, a.tape.trans h.bel.tape, a.output.trans h.bel.output, qv h.bel.size a.size, fun k hk => (a.block k (qk hk h.bel.size) (fun hm => by have := h.hs k hm; omega)).trans (h.bel.block k hk)⟩, h.hs⟩
theorem lG.step {W0 w w' : World} {bs : List Nat} (h : lG W0 bs w) (b : Below w.heap.size w w') : lG W0 bs w' := h.away (aB.of_below b)
theorem FV {α : Type} (p : α -> Bool) : ∀ (l : List α), (∃ x ∈ l, p x = false) -> ∃ x, l[(l.takeWhile p).length]? = some x /\ p x = false
 | [], h => by obtain ⟨x, hx, _⟩ := h; cases hx
 | a :: r, h => by
  cases hp : p a with
  | false => exact ⟨a, by simp [hp], hp⟩
  | true =>
   obtain ⟨x, hx, hf⟩ := h
   have hxr : x ∈ r := by
    rcases qqj.1 hx with rfl | hx
    ·rw [hp] at hf; cases hf
    ·exact hx
   obtain ⟨y, hy, hyf⟩ := FV p r ⟨x, hxr, hf⟩
   refine ⟨y, ?_, hyf⟩
   rw [List.takeWhile_cons, hp]
   simpa using hy
theorem LZ {α : Type} (p : α -> Bool) : ∀ (l : List α) (i : Nat) (x : α), (l.takeWhile p)[i]? = some x -> l[i]? = some x /\ p x = true
 | [], i, x, h => by simp at h
 | a :: r, i, x, h => by
  rw [List.takeWhile_cons] at h
  cases hp : p a with
  | false => rw [hp] at h; simp at h
  | true =>
   rw [hp] at h
   cases i with
   | zero =>
    have : a = x := by simpa using h
    subst this
    exact ⟨rfl, hp⟩
   | succ i => simpa using LZ p r i x (by simpa using h)
theorem tF {T : List bD} (g : i6 T) (nu : Bool) (sy : List ByteArray) {p : Nat} (hp : p + 1 < T.length) :
  (∀ (i : Nat) (x : bD), (gK T nu sy (.ok p))[i]? = some x -> T[p + 1 + i]? = some x /\ Joins nu sy x = true) /\
  ∃ tn, T[p + 1 + (gK T nu sy (.ok p)).length]? = some tn /\ Joins nu sy tn = false := by
 unfold gK
 refine ⟨fun i x h => ?_, ?_⟩
 ·obtain ⟨h1, h2⟩ := LZ _ _ i x h
  rw [List.getElem?_drop] at h1
  exact ⟨h1, h2⟩
 ·have hl := g.last.1
  have hlast : (T.drop (p + 1)).getD (T.length - 1 - (p + 1)) dA = T.getD (T.length - 1) dA := by
   rw [qqm, qqm, List.getElem?_drop, show p + 1 + (T.length - 1 - (p + 1)) = T.length - 1 by omega]
  obtain ⟨x, h1, h2⟩ := FV (Joins nu sy) (T.drop (p + 1)) ⟨T.getD (T.length - 1) dA, by
   rw [<- hlast, qqm, qo (by rw [List.length_drop]; omega)]
   exact List.getElem_mem _, by unfold Joins; rw [hl]; simp⟩
  rw [List.getElem?_drop] at h1
  exact ⟨x, h1, h2⟩
theorem oN {T : List bD} (g : i6 T) (nu : Bool) (sy : List ByteArray) {p : Nat} (hp : p + 1 < T.length) : p + 1 + (gK T nu sy (.ok p)).length < T.length := by
 obtain ⟨_, tn, h, _⟩ := tF g nu sy hp
 exact (qqd.1 h).1
theorem QU {T : List bD} (g : i6 T) (i : Nat) (hi : i < T.length) : (T.getD i dA).text.size <= 4000 := by
 rcases Nat.lt_or_ge (i + 1) T.length with h | h
 ·exact (g.ok i h).sz
 ·rw [show i = T.length - 1 by omega]; exact g.last.2
theorem FW : ∀ (l : List bD) (s : ByteArray), (∀ x ∈ l, x.text.size <= 4000) -> (nT l s).size <= s.size + 4000 * l.length
 | [], s, _ => by simp [nT]
 | t :: r, s, h => by
  have h1 := FW r (s ++ t.text) fun x hx => h x (List.mem_cons_of_mem _ hx)
  have h2 := h t List.mem_cons_self
  rw [nT, qj]
  rw [ByteArray.size_append] at h1
  omega
theorem xP {T : List bD} (g : i6 T) (nu : Bool) (sy : List ByteArray) {p : Nat} (hp : p + 1 < T.length) (k : Nat) : (nT ((gK T nu sy (.ok p)).take k) (T.getD p dA).text).size <= 20000000 := by
 have hl := oN g nu sy hp
 have hm := g.max
 have hs := (tF g nu sy hp).1
 have h1 := FW ((gK T nu sy (.ok p)).take k) (T.getD p dA).text fun x hx => by
  obtain ⟨i, hi, rfl⟩ := List.mem_iff_getElem.1 (List.mem_of_mem_take hx)
  have h2 := (hs i _ (qo hi)).1
  have h3 := (qqd.1 h2).1
  have h4 := QU g _ h3
  rw [qqm, h2] at h4
  exact h4
 have h2 := QU g p (by omega)
 have h3 : ((gK T nu sy (.ok p)).take k).length <= (gK T nu sy (.ok p)).length := by rw [List.length_take]; omega
 omega
section
variable {T : List bD} {Y M K : Nat} {free : Bool} {w : World}
theorem DF {p : Nat} (h : PS T Y M free (.ok p) w) (hp : p + 1 < T.length) (nu : Bool) (sy : List ByteArray) (hsy : sy.length <= 8) (hK : gM K sy w) :
  Calls Tryz.prog 144 #[.pointer (some ⟨Y, 0, none⟩), .bool nu, .slice (some ⟨K, 0, none⟩) sy.length sy.length] w fun r w' => r = .returned (.tuple #[.string (kG T nu sy (.ok p)), I (((gK T nu sy (.ok p)).length : Int) + 1)]) /\ Below w.heap.size w w' := by
 obtain ⟨g, tv, pos, line, col, e, ls, ln, es, clk, h1, h2, h3⟩ := h
 obtain ⟨rfl, rfl, rfl, rfl, hlt⟩ := h3
 have hm := g.max
 have hl := oN g nu sy hp
 obtain ⟨hs, tn, htn, hno⟩ := tF g nu sy hp
 exact DU h1 (getD_some hlt) (by omega) nu sy hsy hK (gK T nu sy (.ok p)) hs (by omega) htn hno (xP g nu sy hp)
end
end Go.Proofs.YtgkhemnmcgicnaaGreatDoor
