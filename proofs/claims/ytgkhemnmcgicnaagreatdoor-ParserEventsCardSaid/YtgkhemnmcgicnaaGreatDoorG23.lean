/- Towards the law ParserEvents, true for every text (no condition): one part of the proof. -/
import Derived.Test.YtgkhemnmcgicnaaGreatDoorG01
import Derived.Test.YtgkhemnmcgicnaaGreatDoorG22
import Derived.Test.YtgkhemnmcgicnaaGreatDoorG12
namespace Go.Proofs.YtgkhemnmcgicnaaGreatDoor
set_option maxHeartbeats 4000000
set_option maxRecDepth 100000
open Go.RowKit Go.Shelf Go.Dam
attribute [local go_sem] Oper.semAt_some
theorem check_high {k : Nat} (hk : k < 40) (w : World) : Calls Tryz.prog 150 #[vAgg (vAt k)] w fun e w' => e = .returned (I 0) /\ Below w.heap.size w w' :=
 runsV_says (args := [vAgg (vAt k)]) rfl rfl (List.all_eq_true.1 high_checks k (List.mem_range.2 hk)) w
theorem repeat_ok {d : Nat} (hd : d < 4) (w : World) : Calls Tryz.prog 151 #[.string ⟨#[46]⟩, I (d : Nat)] w fun e w' => e = .returned (.string (dotsL d)) /\ Below w.heap.size w w' :=
 runsV_says (args := [.string ⟨#[46]⟩, I (d : Nat)]) rfl rfl (List.all_eq_true.1 repeats d (List.mem_range.2 hd)) w
theorem itoa_high (n : Int) (h0 : 0 <= n) (h1 : n <= 256) (w : World) (g : Glo w) : Calls Tryz.prog 147 #[I n] w fun e w' => e = .returned (.string (itoaS n)) /\ Below w.heap.size w w' := by
 refine (Tryz.strconv_Itoa n (by omega) (by omega) w g.tab).mono ?_
 rintro e w' ⟨rfl, k, os, rfl⟩
 exact ⟨rfl, Lib.below_grow _ _ (Nat.le_refl _) _ _⟩
theorem text_high (lg : Int) (d : Nat) (pw : Int) (hd : d < 4) (hl : (lg = 7 /\ pw = 128) \/ (lg = 8 /\ pw = 256)) (k : Nat) (hk : k < 40) (hv : vAt k = (lg, (d : Int))) (w : World) (g : Glo w) :
  Calls Tryz.prog 113 #[vAgg (vAt k)] w fun e w' => e = .returned (.tuple #[.string (itoaS pw ++ dotsL d), I 0]) /\ Below w.heap.size w w' := by
 have hsz : (itoaS pw).size <= 20 /\ (dotsL d).size <= 3 := by
  refine ⟨?_, ?_⟩
  ·rcases hl with ⟨-, rfl⟩ | ⟨-, rfl⟩ <;> decide +kernel
  ·unfold dotsL; simp [ByteArray.size]; omega
 have xc := fun W => check_high hk W
 rw [hv] at xc ⊢
 simp only [vAgg] at xc ⊢
 have hadd := add_run (itoaS pw) (dotsL d) (by omega) (by omega)
 have b0 := (Below.refl w.heap.size w).alloc (Nat.le_refl _) (.cells #[I lg, I (d : Nat)] 26)
 have hB := heap_alloc_new w (.cells #[I lg, I (d : Nat)] 26)
 obtain ⟨k0, k1, -, -⟩ := two_cells hB
 go_enter Tryz.func113, Tryz.ntmps113
 go_wp2_with (go_at_call 150; (with_reducible refine (xc _).mono ?_))
 intro r w1; first | (intro he b1; subst he) | rintro ⟨rfl, b1⟩
 have hB1 := (b1.block _ (heap_lt hB)).trans hB
 obtain ⟨q0, q1, -, -⟩ := two_cells hB1
 have b01 := b0.trans (b1.mono b0.size)
 have xi := itoa_high pw (by omega) (by omega) w1 (g.stay b01)
 clear xc k0 k1 hB b1
 rcases hl with ⟨rfl, rfl⟩ | ⟨rfl, rfl⟩
 all_goals
  go_wp2_with (go_at_call 147; (with_reducible refine xi.mono ?_))
  intro r w2; first | (intro he b2; subst he) | rintro ⟨rfl, b2⟩
  have hB2 := (b2.block _ (heap_lt hB1)).trans hB1
  obtain ⟨p0, p1, -, -⟩ := two_cells hB2
  have b02 := b01.trans (b2.mono b01.size)
  have xr := repeat_ok hd w2
  clear xi q0 q1 hB1 b2
  go_wp2_with (go_at_call 151; (with_reducible refine xr.mono ?_))
  intro r w3; first | (intro he b3; subst he) | rintro ⟨rfl, b3⟩
  go_wp2
  refine bodyPost_ret (results_tmp2 rfl _ _ _) rfl ?_
  exact ⟨rfl, b02.trans (b3.mono b02.size)⟩
theorem text_ex (k : Nat) (hk : k < 40) : ∃ t, TextIs (vAt k) t := by
 by_cases h : k < 32
 ·refine ⟨lowT k, ?_, fun w _ => runsV_says (args := [vAgg (vAt k)]) rfl rfl (List.all_eq_true.1 low_texts k (List.mem_range.2 h)) w⟩
  have : ∀ j < 32, (lowT j).size <= 100 := by decide +kernel
  exact this k h
 ·have h4 : k % 4 < 4 := Nat.mod_lt _ (by decide)
  have hv : vAt k = (((k / 4 : Nat) : Int) - 1, ((k % 4 : Nat) : Int)) := rfl
  rcases (by omega : k / 4 = 8 \/ k / 4 = 9) with h8 | h8
  ·refine ⟨itoaS 128 ++ dotsL (k % 4), ?_, fun w g => text_high 7 (k % 4) 128 h4 (.inl ⟨rfl, rfl⟩) k hk (by rw [hv, h8]; rfl) w g⟩
   have : ∀ j < 4, (itoaS 128 ++ dotsL j).size <= 100 := by decide +kernel
   exact this _ h4
  ·refine ⟨itoaS 256 ++ dotsL (k % 4), ?_, fun w g => text_high 8 (k % 4) 256 h4 (.inr ⟨rfl, rfl⟩) k hk (by rw [hv, h8]; rfl) w g⟩
   have : ∀ j < 4, (itoaS 256 ++ dotsL j).size <= 100 := by decide +kernel
   exact this _ h4
open Classical in
noncomputable def txtOf (x : Int × Int) : ByteArray := if h : ∃ t, TextIs x t then Classical.choose h else ByteArray.empty
theorem txtOf_is (k : Nat) (hk : k < 40) : TextIs (vAt k) (txtOf (vAt k)) := by
 have h := text_ex k hk
 unfold txtOf
 rw [dif_pos h]
 exact Classical.choose_spec h
def fUpto (k : Nat) : List (Fin 40) := (List.finRange 40).take k
theorem fUpto_succ (k : Nat) (h : k < 40) : fUpto (k + 1) = fUpto k ++ [⟨k, h⟩] := by
 unfold fUpto
 rw [List.take_add_one, List.getElem?_eq_getElem (by simpa using h)]
 simp
theorem fUpto_len (k : Nat) (h : k <= 40) : (fUpto k).length = k := by unfold fUpto; simp; omega
theorem fUpto_mem {k : Nat} {x : Fin 40} (h : x.1 < k) : x ∈ fUpto k := by
 unfold fUpto
 refine List.mem_iff_getElem?.2 ⟨x.1, ?_⟩
 rw [List.getElem?_take_of_lt h, List.getElem?_eq_getElem (by simp)]
 simp
def vEnc (k : Fin 40) : Array Value := #[vAgg (vAt k.1)]
theorem values_in (F : Fence) (n : Nat) (h6 : F.fn 149) (hro : F.round = none) (hn : 1 <= n) (l : Nat) (J Jx : List (Fin 40) -> World -> Prop)
  (hY : ∀ pre x W, J pre W -> pre.length < 40 -> YieldAt F (n - 1) Tryz.prog l (vEnc x) W fun e W' =>
   (e = .returned (.bool true) /\ J (pre ++ [x]) W' /\ KeepsWalks W W') \/ (e = .returned (.bool false) /\ Jx (pre ++ [x]) W'))
  (W : World) (h0 : J [] W) :
  CallsIn F n Tryz.prog 149 #[.func (.yield l) #[] #[]] W fun e W' => (∃ v, e = .returned v) /\ ((∃ ys, ys = fUpto 40 /\ J ys W') \/ (∃ pre, (∃ (k : Nat) (h : k < 40), pre = fUpto k ++ [⟨k, h⟩]) /\ Jx pre W')) := by
 refine callsIn_of_wp Tryz.func149 rfl h6 ?_ hro
 simp only [Tryz.ntmps149, List.size_toArray, List.length_cons, List.length_nil, Nat.reduceAdd, Nat.reduceSub, Array.replicate_succ, Array.replicate_zero, List.push_toArray, List.append_toArray, List.nil_append, List.cons_append]
 gi_wp2
 gi_loopw [2] (fun p wr => ∃ a : Nat, a <= 10 /\ p = I ((a : Int) - 1) /\ J (fUpto (4 * a)) wr) (fun p _ => (9 - intOf p).toNat)
 case atStart => exact ⟨0, by omega, rfl, h0⟩
 case round =>
  obtain ⟨a, ha, rfl, hJ⟩ := hrel
  by_cases h9 : a = 10
  ·subst h9
   gi_wp2
   go_end0
   exact ⟨⟨_, rfl⟩, .inl ⟨_, rfl, hJ⟩⟩
  ·have hle : ((a : Int) - 1 <= 8) := by omega
   gi_wp2
   gi_loopw [8] (fun p wr => ∃ i : Nat, i <= 4 /\ p = I (i : Int) /\ J (fUpto (4 * a + i)) wr) (fun p _ => (4 - intOf p).toNat)
   case atStart => exact ⟨0, by omega, rfl, hJ⟩
   case round =>
    obtain ⟨i, hi, rfl, hJi⟩ := hrel
    by_cases h4 : i = 4
    ·subst h4
     gi_wp2
     go_roundw
     case rel => exact ⟨a + 1, by omega, by congr 1; omega, by rw [show 4 * (a + 1) = 4 * a + 4 by omega]; exact hJi⟩
     case measure => simp [intOf]; omega
    ·have hlt : (i : Int) < 4 := by omega
     have hx := vUpto_at (a := a) (i := i) (by omega)
     obtain ⟨fn, tmps, assign, body, hy, hR⟩ := hY (fUpto (4 * a + i)) ⟨4 * a + i, by omega⟩ _ hJi (by rw [fUpto_len _ (by omega)]; omega)
     simp only [vEnc] at hy
     rw [hx] at hy
     simp only [vAgg] at hy
     gi_wp2
     refine hR.mono ?_
     rintro e W3 (⟨rfl, hJ3, hk3⟩ | ⟨rfl, hJx3⟩)
     ·gi_wp2
      go_roundw
      case rel => exact ⟨i + 1, by omega, by congr 1, by rw [<- Nat.add_assoc, fUpto_succ _ (by omega)]; exact hJ3⟩
      case measure => simp [intOf]; omega
     ·gi_wp2
      refine bodyPost_ret (results_none rfl _ _ _) rfl ?_
      exact ⟨⟨_, rfl⟩, .inr ⟨_, ⟨4 * a + i, by omega, rfl⟩, hJx3⟩⟩
theorem values_stops (F : Fence) (n : Nat) (h6 : F.fn 149) (hro : F.round = none) (hn : 1 <= n) (w : World) :
  SeqStopsK F n Tryz.prog 149 #[] vEnc KeepsWalks (fun ys => ys = fUpto 40) (fun pre => ∃ (k : Nat) (h : k < 40), pre = fUpto k ++ [⟨k, h⟩]) 40 w := fun l J Jx W _ _ _ hY h0 =>
 values_in F n h6 hro hn l J Jx hY W h0
theorem values_fn (w : World) : Calls Tryz.prog 112 #[] w fun e w' => e = .returned (.func (.func 149) #[] #[]) /\ w' = w := by
 go_enter Tryz.func112, Tryz.ntmps112
 go_wp2
 go_ret
 exact ⟨rfl, rfl⟩
set_option maxHeartbeats 8000000
attribute [local go_sem] Oper.semAt_some
theorem Tryz.sizeVal0 : (Tryz.prog.info? 26).map (·.size) = some 2 := by kernel_rfl
theorem load32 {w : World} {k : Nat} {v : Value} (h : w.cell? ⟨k, 0, none⟩ = some v) : (loadVar 32 ⟨k, 0, none⟩).run Tryz.prog w = .ok v w := by
 unfold loadVar
 simp [Result.andThen, go_sem, h]
theorem results67 {w : World} {tmps : Array Value} {g k : Nat} {a b v : Value} (hp : tmps.getD 2 undef = .pointer (some ⟨g, 0, none⟩)) (hq : tmps.getD 3 undef = .pointer (some ⟨k, 0, none⟩)) (hg : w.heap[g]? = some (.cells #[a, b] 26 (0, 0))) (hk : w.cell? ⟨k, 0, none⟩ = some v) :
  (results Tryz.f67 tmps).run Tryz.prog w = .ok (.tuple #[.agg #[a, b], v]) w := by
 have hp' : tmps[2]?.getD undef = .pointer (some ⟨g, 0, none⟩) := by simpa using hp
 have hq' : tmps[3]?.getD undef = .pointer (some ⟨k, 0, none⟩) := by simpa using hq
 have h : Tryz.f67.results = #[.cell 2 26, .cell 3 32] := rfl
 simp [results, hp', hq', asAddr, run_loadVar_row w g 26 26 #[a, b] (0, 0) _ hg Tryz.underlying26 rfl Tryz.sizeVal0, Result.andThen, load32 hk]
section
variable {w : World} {s : ByteArray}
structure D3 (B : Nat) (s : ByteArray) (a b c : Int) (w : World) : Prop where
 s : Boxed w B 9 (.string s)
 v : w.heap[B + 1]? = some (.cells #[I a, I b] 26 (0, 0))
 e : Boxed w (B + 2) 32 (I c)
theorem d3_new (w : World) (s : ByteArray) (c : Int) : D3 w.heap.size s 0 0 c (((w.alloc (.cells #[.string s] 9)).alloc (.cells #[I 0, I 0] 26)).alloc (.cells #[I c] 32)) := by
 have e1 : (w.alloc (.cells #[.string s] 9)).heap.size = w.heap.size + 1 := by simp
 have e2 : ((w.alloc (.cells #[.string s] 9)).alloc (.cells #[I 0, I 0] 26)).heap.size = w.heap.size + 2 := by simp
 refine ⟨((Boxed.new w 9 (.string s)).alloc _).alloc _, ?_, ?_⟩
 ·have := heap_alloc_new (w.alloc (.cells #[.string s] 9)) (.cells #[I 0, I 0] 26)
  rw [e1] at this
  exact (Lib.alloc_old _ _ _ (by rw [e2]; omega)).trans this
 ·have := Boxed.new ((w.alloc (.cells #[.string s] 9)).alloc (.cells #[I 0, I 0] 26)) 32 (I c)
  rw [e2] at this
  exact this
theorem D3.facts {B : Nat} {a b c : Int} (h : D3 B s a b c w) : w.cell? ⟨B, 0, none⟩ = some (.string s) /\ w.cell? ⟨B + 1, 0, none⟩ = some (I a) /\ w.cell? ⟨B + 1, 1, none⟩ = some (I b) /\ w.cell? ⟨B + 2, 0, none⟩ = some (I c) /\ w.frozen? ⟨B + 1, 0, none⟩ = false /\ w.frozen? ⟨B + 1, 1, none⟩ = false /\ w.frozen? ⟨B + 2, 0, none⟩ = false := by
 obtain ⟨h1, h2, h3, h4⟩ := two_cells h.v
 exact ⟨h.s.cell, h1, h2, h.e.cell, h3, h4, h.e.frozen⟩
theorem D3.put {B : Nat} {a b c : Int} (h : D3 B s a b c w) (a' b' c' : Int) : D3 B s a' b' c' (((w.setCell ⟨B + 1, 0, none⟩ (I a')).setCell ⟨B + 1, 1, none⟩ (I b')).setCell ⟨B + 2, 0, none⟩ (I c')) := by
 have o : ∀ (W : World) (p i : Nat) (v : Value) (k : Nat), k ≠ p -> (W.setCell ⟨p, i, none⟩ v).heap[k]? = W.heap[k]? := fun W p i v k hk => Below.heap_setCell W ⟨p, i, none⟩ v k hk
 refine ⟨?_, ?_, ?_⟩
 ·show _ = _
  rw [o _ _ _ _ _ (by omega), o _ _ _ _ _ (by omega), o _ _ _ _ _ (by omega)]; exact h.s
 ·rw [o _ _ _ _ _ (by omega)]
  rw [Lib.heap_setCell_same (i := 1) (Lib.heap_setCell_same (i := 0) h.v (I a')) (I b')]; rfl
 ·show _ = _
  rw [Lib.heap_setCell_same (i := 0) (((o _ _ _ _ _ (by omega)).trans (o _ _ _ _ _ (by omega))).trans (show _ = _ from h.e)) (I c')]; rfl
theorem row_own {β : Type} (B k : Nat) (cs : Array Value) (t : TypeId) : OwnFrom B (fun (_ : β) W => W.heap[k]? = some (.cells cs t (0, 0))) := fun _ X Y row hs hg hr =>
 (hg.block k (Array.getElem?_eq_some_iff.1 hs).1 (fun e => by
  obtain ⟨_, o, ho, hc⟩ := hr k e.symm
  rw [hs] at ho
  cases ho
  cases hc)).trans hs
theorem d3_own {β : Type} (A B : Nat) (s : ByteArray) (a b c : Int) : OwnFrom A (fun (_ : β) W => D3 B s a b c W) := fun x X Y row hs hg hr =>
 ⟨row_own (β := β) A B _ _ x X Y row hs.s hg hr, row_own (β := β) A (B + 1) _ _ x X Y row hs.v hg hr, row_own (β := β) A (B + 2) _ _ x X Y row hs.e hg hr⟩
theorem D3.step {B : Nat} {a b c : Int} (h : D3 B s a b c w) {w' : World} (bl : Below w.heap.size w w') : D3 B s a b c w' :=
 ⟨(bl.block _ (Array.getElem?_eq_some_iff.1 h.s).1).trans h.s, (bl.block _ (Array.getElem?_eq_some_iff.1 h.v).1).trans h.v, (bl.block _ (Array.getElem?_eq_some_iff.1 h.e).1).trans h.e⟩
end
theorem val_early (s : ByteArray) (c : Int) (hc : (s.size = 0 /\ c = 4) \/ (6 < s.size /\ c = 5)) : ValIs s ((0, 0), c) := fun w g => by
 have D := d3_new w s c
 have bb := (((Below.refl w.heap.size w).alloc (Nat.le_refl _) (.cells #[.string s] 9)).alloc (by simp) (.cells #[I 0, I 0] 26)).alloc (by simp; omega) (.cells #[I c] 32)
 have hv := D.v
 have he := D.e.cell
 simp only [vAgg]
 rcases hc with ⟨h, rfl⟩ | ⟨h, rfl⟩
 ·have hemp : s.toList.isEmpty = true := by
   rw [Go.ByteArray.toList_eq]
   have hl := size_list s
   cases e : s.data.toList with
   | nil => rfl
   | cons x r => rw [e] at hl; simp at hl; omega
  clear g h
  go_enter Tryz.func67, Tryz.ntmps67
  go_wp2
  refine bodyPost_ret (results67 (k := w.heap.size + 2) rfl rfl hv he) rfl ⟨rfl, bb⟩
 ·have hne := nonempty_list (t := s) (by omega)
  have hlen : (6 : Int) < (s.size : Int) := by omega
  clear g
  go_enter Tryz.func67, Tryz.ntmps67
  go_wp2
  refine bodyPost_ret (results67 (k := w.heap.size + 2) rfl rfl hv he) rfl ⟨rfl, bb⟩
theorem D3.turned {w : World} {s : ByteArray} {B : Nat} {a b c : Int} (h : D3 B s a b c w) {D0 : Nat} (hD : B + 3 <= D0) (o : Obj) : D3 B s a b c (w.putObj D0 o) :=
 ⟨(World.putObj_heap_other (by omega)).trans h.s, (World.putObj_heap_other (by omega)).trans h.v, (World.putObj_heap_other (by omega)).trans h.e⟩
theorem keepsFrom_below {B : Nat} {W W' : World} (b : Below W.heap.size W W') : KeepsFrom B W W' := ⟨b.size, fun k _o _ h0 _ => (b.block k (heap_lt h0)).trans h0⟩
theorem keepsWalks_below {W W' : World} (b : Below W.heap.size W W') : KeepsWalks W W' := ⟨b.size, fun k _o h0 _ => (b.block k (heap_lt h0)).trans h0⟩
theorem val_loop (s : ByteArray) (h0 : s.size ≠ 0) (h6 : s.size <= 6) (r : (Int × Int) × Int) (hr : (∃ k, k < 40 /\ txtOf (vAt k) = s /\ (∀ j < k, txtOf (vAt j) ≠ s) /\ r = (vAt k, 0)) \/ ((∀ j < 40, txtOf (vAt j) ≠ s) /\ r = ((0, 0), 13))) : ValIs s r := fun w g => by
 have hne := nonempty_list (t := s) (by omega)
 have hlen : ¬ (6 : Int) < (s.size : Int) := by omega
 have hlen2 : (s.size : Int) <= 6 := by omega
 have D := d3_new w s 0
 have bb := (((Below.refl w.heap.size w).alloc (Nat.le_refl _) (.cells #[.string s] 9)).alloc (by simp) (.cells #[I 0, I 0] 26)).alloc (by simp; omega) (.cells #[I 0] 32)
 have hsz : (((w.alloc (.cells #[.string s] 9)).alloc (.cells #[I 0, I 0] 26)).alloc (.cells #[I 0] 32)).heap.size = w.heap.size + 3 := by simp
 obtain ⟨v0, ev⟩ := r
 simp only [vAgg]
 have HR := shut hr
 clear hr
 refine (callsIn_wide (n := 5)).1 ?_
 refine callsIn_of_wp_marks Tryz.func67 rfl trivial ?_ rfl
 simp only [Tryz.ntmps67, List.size_toArray, List.length_cons, List.length_nil, Nat.reduceAdd, Nat.reduceSub, Array.replicate_succ, Array.replicate_zero, List.push_toArray, List.append_toArray, List.nil_append, List.cons_append]
 gi_wp2_with (refine ⟨trivial, ?_⟩; gi_at_call 112; refine (callsIn_wide.2 (values_fn _)).mono ?_; rintro e w' ⟨rfl, rfl⟩)
 obtain ⟨W0, hW0⟩ : ∃ W0, ((w.alloc (.cells #[.string s] 9)).alloc (.cells #[I 0, I 0] 26)).alloc (.cells #[I 0] 32) = W0 := ⟨_, rfl⟩
 rw [hW0] at D bb hsz ⊢
 clear hW0
 refine wpIn_rangeFunc_ownH rfl (by omega) (gf := 149) (lb := #[]) rfl trivial (enters_of Tryz.func149 (by kernel_rfl) rfl)
  (values_stops Fence.wide _ trivial rfl (by omega) W0) walksK_t walksK_b (Below.refl _ _) (fun _ => rfl)
  (fun pre W => (D3 w.heap.size s 0 0 0 W /\ Below w.heap.size w W) /\ ∀ y ∈ pre, txtOf (vAt y.1) ≠ s)
  (fun c pre W => (∃ p x, (c = .ret /\ pre = p ++ [x] /\ (∀ y ∈ p, txtOf (vAt y.1) ≠ s) /\ txtOf (vAt x.1) = s) /\ D3 w.heap.size s (vAt x.1).1 (vAt x.1).2 0 W) /\ Below w.heap.size w W)
  (OwnFrom.and (OwnFrom.and (d3_own _ _ _ _ _ _) (ownFrom_below (Nat.le_refl _) (by omega))) (ownFrom_pure _ (fun pre : List (Fin 40) => ∀ y ∈ pre, txtOf (vAt y.1) ≠ s)))
  (fun c => OwnFrom.and (fun pre X Y row hs hg hr => by obtain ⟨p, x, h1, h2⟩ := hs; exact ⟨p, x, h1, d3_own (β := Unit) _ _ _ _ _ _ () X Y row h2 hg hr⟩) (ownFrom_below (Nat.le_refl _) (by omega)))
  ⟨⟨D, bb⟩, by simp⟩
  (fun x a' W => ∃ Bx, w.heap.size + 2 < Bx /\ W.heap[Bx]? = some (.cells #[I (vAt x.1).1, I (vAt x.1).2] 26 (0, 0)) /\ a' = { tmps := #[.string s, .pointer (some ⟨w.heap.size, 0, none⟩), .pointer (some ⟨w.heap.size + 1, 0, none⟩), .pointer (some ⟨w.heap.size + 1 + 1, 0, none⟩), .pointer (some ⟨Bx, 0, none⟩), undef, undef, .bool false, .string s, .bool false, undef, .bool false, .string s, I s.size, .bool false, undef, .func (.func 149) #[] #[], .agg #[I (vAt x.1).1, I (vAt x.1).2], undef, undef, undef, undef, undef, undef, undef, undef, undef, undef], defers := [] })
  (fun x a' _ X Y row hs hg hr => by obtain ⟨Bx, h1, h2, h3⟩ := hs; exact ⟨Bx, h1, row_own (β := Unit) _ Bx _ _ () X Y row h2 hg hr, h3⟩)
  ?assign ?body ?done ?stop
 case assign =>
  rintro l pre x W K ⟨⟨hD, hB⟩, hp⟩ hK
  simp only [vEnc, vAgg]
  gi_wp2
  exact hK _ _ ((KeepsOthers.alloc _ _).from _) (KeepsOthers.alloc _ _).walks ⟨⟨hD.step ((Below.refl _ W).alloc (Nat.le_refl _) _), hB.alloc hB.size _⟩, hp⟩ ⟨W.heap.size, Boxed.lt hD.e, heap_alloc_new W _, rfl⟩
 case body =>
  rintro l pre x a' W hl ⟨r, hr⟩ ⟨⟨hD, hB⟩, hp⟩ ⟨Bx, hBx, hX, rfl⟩ hlt
  obtain ⟨x0, x1, -, -⟩ := two_cells hX
  have xt := (txtOf_is x.1 x.2).2 W (g.stay hB)
  simp only [vAgg] at xt
  have h1' : 1 <= 5 - 1 - 1 := by omega
  gi_wp2_with (refine ⟨trivial, ?_⟩; gi_at_call 113; refine (CallsIn.inRound l (callsIn_wide.2 xt)).mono ?_; rintro e w1 ⟨rfl, b1⟩; have hD1 := hD.step b1; obtain ⟨q1, q2, q3, q4, q5, q6, q7⟩ := hD1.facts; have hX1 := (b1.block _ (heap_lt hX)).trans hX; obtain ⟨y0, y1, -, -⟩ := two_cells hX1)
  ·rename_i he
   have he2 : txtOf (vAt x.1) = s := by
    have := eq_of_beq he
    rw [Go.ByteArray.toList_eq, Go.ByteArray.toList_eq] at this
    exact ByteArray.ext (Array.ext' this)
   have hk : KeepsFrom W0.heap.size W w1 := keepsFrom_below b1
   refine ⟨(hk.trans (((KeepsOthers.setCell _ _ _).trans (KeepsOthers.setCell _ _ _)).from _)).trans ((KeepsOthers.setCell _ _ _).from _), ⟨pre, x, ⟨rfl, rfl, hp, he2⟩, hD1.put _ _ _⟩, (((hB.trans (b1.mono hB.size)).setCell (p := ⟨w.heap.size + 1, 0, none⟩) (by show w.heap.size <= w.heap.size + 1; omega) _).setCell (p := ⟨w.heap.size + 1, 1, none⟩) (by show w.heap.size <= w.heap.size + 1; omega) _).setCell (p := ⟨w.heap.size + 2, 0, none⟩) (by show w.heap.size <= w.heap.size + 2; omega) _⟩
  ·rename_i he
   refine ⟨keepsFrom_below b1, keepsWalks_below b1, ⟨hD1, hB.trans (b1.mono hB.size)⟩, fun y hy => ?_⟩
   rcases List.mem_append.1 hy with h | h
   ·exact hp y h
   ·obtain rfl := List.mem_singleton.1 h
    intro e
    rw [e] at he
    simp at he
 case done =>
  rintro D0 xs W hD0 rfl ⟨⟨hD, hB⟩, hp⟩ hK
  obtain ⟨q1, q2, q3, q4, q5, q6, q7⟩ := hD.facts
  have hv : (v0, ev) = ((0, 0), 13) := by
   rcases HR.out with ⟨k', hk', ht', hn', hr'⟩ | ⟨hn', hr'⟩
   ·exact absurd ht' (hp ⟨k', hk'⟩ (fUpto_mem (by exact hk')))
   ·exact hr'
  simp only [Prod.mk.injEq] at hv
  obtain ⟨rfl, rfl⟩ := hv
  have hD2 := hD.put 0 0 13
  have hB2 := ((hB.setCell (p := ⟨w.heap.size + 1, 0, none⟩) (by show w.heap.size <= w.heap.size + 1; omega) (I 0)).setCell (p := ⟨w.heap.size + 1, 1, none⟩) (by show w.heap.size <= w.heap.size + 1; omega) (I 0)).setCell (p := ⟨w.heap.size + 2, 0, none⟩) (by show w.heap.size <= w.heap.size + 2; omega) (I 13)
  have hK2 := ((((KeepsOthers.setCell W ⟨w.heap.size + 1, 0, none⟩ (I 0)).trans (KeepsOthers.setCell _ ⟨w.heap.size + 1, 1, none⟩ (I 0))).trans (KeepsOthers.setCell _ ⟨w.heap.size + 2, 0, none⟩ (I 13)))).same D0 _ hK rfl
  gi_wp2
  refine ⟨by simp, .inl ⟨_, _, rfl, run_takeDeferred hK2, ?_⟩⟩
  have hD3 := hD2.turned (D0 := D0) (by omega) (.deferred none)
  exact ⟨_, results67 (k := w.heap.size + 2) rfl rfl hD3.v hD3.e.cell, rfl, hB2.trans (belowK_b (w := w) (Nat.le_refl _) _ D0 _ _ (by omega) hK2 rfl rfl)⟩
 case stop =>
  rintro D0 c pre W hD0 ⟨k, hk, rfl⟩ ⟨⟨p, x, ⟨rfl, hpx, hp, ht⟩, hD⟩, hB⟩ hK
  obtain ⟨rfl, h2⟩ := List.append_inj' hpx rfl
  obtain rfl := (List.cons.inj h2).1
  have hv : (v0, ev) = (vAt k, 0) := by
   rcases HR.out with ⟨k', hk', ht', hn', hr'⟩ | ⟨hn', hr'⟩
   ·rw [hr']
    rcases Nat.lt_trichotomy k k' with h | h | h
    ·exact absurd ht (hn' k h)
    ·rw [h]
    ·exact absurd ht' (hp ⟨k', hk'⟩ (fUpto_mem h))
   ·exact absurd ht (hn' k hk)
  simp only [Prod.mk.injEq] at hv
  obtain ⟨rfl, rfl⟩ := hv
  gi_wp2
  refine ⟨by simp, .inl ⟨_, _, rfl, run_takeDeferred hK, ?_⟩⟩
  have hD3 := hD.turned (D0 := D0) (by omega) (.deferred none)
  exact ⟨_, results67 (k := w.heap.size + 2) rfl rfl hD3.v hD3.e.cell, rfl, hB.trans (belowK_b (w := w) (Nat.le_refl _) _ D0 _ _ (by omega) hK rfl rfl)⟩
theorem val_ex (s : ByteArray) (_hs : s.size <= 281474976710656) : ∃ r, ValIs s r := by
 by_cases h0 : s.size = 0
 ·exact ⟨_, val_early s 4 (.inl ⟨h0, rfl⟩)⟩
 by_cases h6 : 6 < s.size
 ·exact ⟨_, val_early s 5 (.inr ⟨h6, rfl⟩)⟩
 have key : ∀ n, n <= 40 -> (∃ k, k < n /\ txtOf (vAt k) = s /\ ∀ j < k, txtOf (vAt j) ≠ s) \/ ∀ j < n, txtOf (vAt j) ≠ s := by
  intro n
  induction n with
  | zero => exact fun _ => .inr fun j hj => by omega
  | succ n ih =>
   intro hn
   rcases ih (by omega) with ⟨k, hk, h1, h2⟩ | h
   ·exact .inl ⟨k, by omega, h1, h2⟩
   ·by_cases hs : txtOf (vAt n) = s
    ·exact .inl ⟨n, by omega, hs, h⟩
    ·refine .inr fun j hj => ?_
     rcases Nat.lt_or_ge j n with h' | h'
     ·exact h j h'
     ·obtain rfl : j = n := by omega
      exact hs
 rcases key 40 (Nat.le_refl _) with ⟨k, hk, h1, h2⟩ | h
 ·exact ⟨_, val_loop s h0 (by omega) _ (.inl ⟨k, hk, h1, h2, rfl⟩)⟩
 ·exact ⟨_, val_loop s h0 (by omega) _ (.inr ⟨h, rfl⟩)⟩
end Go.Proofs.YtgkhemnmcgicnaaGreatDoor

namespace Go.Proofs.YtgkhemnmcgicnaaGreatDoor
set_option maxHeartbeats 4000000
set_option maxRecDepth 100000
open Go.RowKit
def PitIs (s : ByteArray) (r : PitchV × Int × Int) : Prop := ∀ w, Glo w -> Calls Tryz.prog 111 #[.string s] w fun e w' => e = .returned (.tuple #[pAgg r.1, I r.2.1, I r.2.2]) /\ Below w.heap.size w w'
theorem pit_empty (s : ByteArray) (h : ¬ 0 < s.size) : PitIs s (zP, 0, 4) := fun w g => by
 have hemp : s.toList.isEmpty = true := by
  rw [Go.ByteArray.toList_eq]
  have hl := size_list s
  cases e : s.data.toList with
  | nil => rfl
  | cons x r => rw [e] at hl; simp at hl; omega
 have hR := heap_alloc_new w (.cells #[I 0, I 0, I 0] 75)
 have b0 := (Below.refl w.heap.size w).alloc (Nat.le_refl _) (.cells #[I 0, I 0, I 0] 75)
 clear g h
 go_enter Tryz.func111, Tryz.ntmps111
 go_wp2
 exact bodyPost_ret (results_cell2 rfl _ _ w.heap.size 75 _ (0, 0) _ rfl hR Tryz.underlying75 rfl Tryz.sizePitch3) rfl ⟨rfl, b0⟩
theorem pit_byte (s : ByteArray) (h : 0 < s.size) (hc : Lib.indexByte lettersS.data.toList s[0] < 0) : PitIs s (zP, 0, 6) := fun w g => by
 have hne := nonempty_list h
 have hlen : (0 : Int) < (s.size : Int) := by omega
 have hi := fun w => Tryz.strings_IndexByte lettersS ((s[0].toNat : Nat) : Int) w
 have e : ((s[0].toNat : Nat) : Int).toNat.toUInt8 = s[0] := by simp
 rw [e] at hi
 generalize Lib.indexByte lettersS.data.toList s[0] = st at hi hc
 simp only [lettersS] at hi
 have hR := heap_alloc_new w (.cells #[I 0, I 0, I 0] 75)
 have b0 := (Below.refl w.heap.size w).alloc (Nat.le_refl _) (.cells #[I 0, I 0, I 0] 75)
 clear g e
 go_enter Tryz.func111, Tryz.ntmps111
 go_wp2_with (go_at_call 127; refine (hi _).mono ?_; rintro e w' ⟨rfl, rfl⟩)
 exact bodyPost_ret (results_cell2 rfl _ _ w.heap.size 75 _ (0, 0) _ rfl hR Tryz.underlying75 rfl Tryz.sizePitch3) rfl ⟨rfl, b0⟩
open Classical in
theorem pit_ex (s : ByteArray) (hs : s.size <= 281474976710656) : ∃ r, PitIs s r := by
 by_cases h : 0 < s.size
 ·by_cases hc : Lib.indexByte lettersS.data.toList s[0] < 0
  ·exact ⟨_, pit_byte s h hc⟩
  ·have hi := fun w => Tryz.strings_IndexByte lettersS ((s[0].toNat : Nat) : Int) w
   have e : ((s[0].toNat : Nat) : Int).toNat.toUInt8 = s[0] := by simp
   rw [e] at hi
   have key : ∃ r, r <= 5 /\ (∀ k, k < r -> ¬ HitK (s.extract 1 s.size) k) /\ (r < 5 -> HitK (s.extract 1 s.size) r) := by
    by_cases h0 : HitK (s.extract 1 s.size) 0
    ·exact ⟨0, by omega, fun k hk => by omega, fun _ => h0⟩
    by_cases h1 : HitK (s.extract 1 s.size) 1
    ·exact ⟨1, by omega, fun k hk => by obtain rfl : k = 0 := by omega
                                        exact h0, fun _ => h1⟩
    by_cases h2 : HitK (s.extract 1 s.size) 2
    ·exact ⟨2, by omega, fun k hk => by rcases (by omega : k = 0 \/ k = 1) with rfl | rfl <;> assumption, fun _ => h2⟩
    by_cases h3 : HitK (s.extract 1 s.size) 3
    ·exact ⟨3, by omega, fun k hk => by rcases (by omega : k = 0 \/ k = 1 \/ k = 2) with rfl | rfl | rfl <;> assumption, fun _ => h3⟩
    by_cases h4 : HitK (s.extract 1 s.size) 4
    ·exact ⟨4, by omega, fun k hk => by rcases (by omega : k = 0 \/ k = 1 \/ k = 2 \/ k = 3) with rfl | rfl | rfl | rfl <;> assumption, fun _ => h4⟩
    exact ⟨5, by omega, fun k hk => by rcases (by omega : k = 0 \/ k = 1 \/ k = 2 \/ k = 3 \/ k = 4) with rfl | rfl | rfl | rfl | rfl <;> assumption, fun h => by omega⟩
   obtain ⟨r, hr5, hno, hit⟩ := key
   have hst : 0 <= Lib.indexByte lettersS.data.toList s[0] := by omega
   generalize Lib.indexByte lettersS.data.toList s[0] = st at hi hst
   have go : ∀ (p : PitchV) (a e : Int), (if r < 5 then (if pitchE ⟨st, (r : Int) - 2, nK (s.extract 1 s.size) r⟩ = 0 then p = ⟨st, (r : Int) - 2, nK (s.extract 1 s.size) r⟩ /\ a = 0 /\ e = 0 else p = zP /\ a = 0 /\ e = pitchE ⟨st, (r : Int) - 2, nK (s.extract 1 s.size) r⟩) else p = zP /\ a = 1 /\ e = 3) -> PitIs s (p, a, e) :=
    fun p a e hout w g => parse_find s (s.extract 1 s.size) st r hr5 h hs rfl hst hi hno hit p a e hout w g
   by_cases hr : r < 5
   ·by_cases hp : pitchE ⟨st, (r : Int) - 2, nK (s.extract 1 s.size) r⟩ = 0
    ·exact ⟨(_, _, _), go _ _ _ (by rw [if_pos hr, if_pos hp]; exact ⟨rfl, rfl, rfl⟩)⟩
    ·exact ⟨(_, _, _), go _ _ _ (by rw [if_pos hr, if_neg hp]; exact ⟨rfl, rfl, rfl⟩)⟩
   ·exact ⟨(_, _, _), go _ _ _ (by rw [if_neg hr]; exact ⟨rfl, rfl, rfl⟩)⟩
 ·exact ⟨_, pit_empty s h⟩
open Classical in
noncomputable def pitR (s : ByteArray) : PitchV × Int × Int := if h : ∃ r, PitIs s r then Classical.choose h else (zP, 0, 0)
theorem pitR_is (s : ByteArray) (hs : s.size <= 281474976710656) : PitIs s (pitR s) := by
 have h := pit_ex s hs
 unfold pitR
 rw [dif_pos h]
 exact Classical.choose_spec h
open Classical in
noncomputable def valR (s : ByteArray) : (Int × Int) × Int := if h : ∃ r, ValIs s r then Classical.choose h else ((0, 0), 0)
theorem valR_is (s : ByteArray) (hs : s.size <= 281474976710656) : ValIs s (valR s) := by
 have h := val_ex s hs
 unfold valR
 rw [dif_pos h]
 exact Classical.choose_spec h
open Classical in
noncomputable def theO : Orc := ⟨fun s => if (pitR s).2.2 = 0 then some (pitR s).1 else none, fun s => if (valR s).2 = 0 then some (valR s).1 else none⟩
theorem theO_pit (s : ByteArray) : (theO.pit s = none /\ (pitR s).2.2 ≠ 0) \/ (∃ p, theO.pit s = some p /\ (pitR s).1 = p /\ (pitR s).2.2 = 0) := by
 unfold theO
 by_cases h : (pitR s).2.2 = 0
 ·exact .inr ⟨_, if_pos h, rfl, h⟩
 ·exact .inl ⟨if_neg h, h⟩
theorem theO_val (s : ByteArray) : (theO.val s = none /\ (valR s).2 ≠ 0) \/ (∃ p, theO.val s = some p /\ (valR s).1 = p /\ (valR s).2 = 0) := by
 unfold theO
 by_cases h : (valR s).2 = 0
 ·exact .inr ⟨_, if_pos h, rfl, h⟩
 ·exact .inl ⟨if_neg h, h⟩
structure Bas (W0 : World) (bs : List Nat) (w : World) : Prop where
 gl : Glo W0
 bel : Below W0.heap.size W0 w
 hs : ∀ k ∈ bs, W0.heap.size <= k
theorem Bas.glo {W0 w : World} {bs : List Nat} (h : Bas W0 bs w) : Glo w := h.gl.stay h.bel
theorem Bas.away {W0 w w' : World} {bs : List Nat} (h : Bas W0 bs w) (a : Away bs w w') : Bas W0 bs w' :=
 ⟨h.gl, ⟨a.os.trans h.bel.os, a.tape.trans h.bel.tape, a.output.trans h.bel.output, Nat.le_trans h.bel.size a.size, fun k hk => (a.block k (Nat.lt_of_lt_of_le hk h.bel.size) (fun hm => by have := h.hs k hm; omega)).trans (h.bel.block k hk)⟩, h.hs⟩
theorem Bas.step {W0 w w' : World} {bs : List Nat} (h : Bas W0 bs w) (b : Below w.heap.size w w') : Bas W0 bs w' := h.away (Away.of_below b)
set_option maxHeartbeats 16000000
theorem fill3_other (w : World) (X : Nat) (a b c : Value) (k : Nat) (hk : k ≠ X) : (fill3 w X a b c).heap[k]? = w.heap[k]? := by
 unfold fill3
 rw [Below.heap_setCell _ ⟨X, 2, none⟩ _ k hk, Below.heap_setCell _ ⟨X, 1, none⟩ _ k hk, Below.heap_setCell _ ⟨X, 0, none⟩ _ k hk]
theorem fill3_away {bs : List Nat} {a w : World} {X : Nat} (h : Away bs a w) (hX : a.heap.size <= X) (u v z : Value) : Away bs a (fill3 w X u v z) :=
 ((h.setCell (p := ⟨X, 0, none⟩) (.inr hX) u).setCell (p := ⟨X, 1, none⟩) (.inr hX) v).setCell (p := ⟨X, 2, none⟩) (.inr hX) z
theorem pitch_ok {T : List Tok} {st : Stt} (h : isPitchS T st = true) : ∃ p, st = .ok p := by
 cases st with
 | ok p => exact ⟨p, rfl⟩
 | bad e l c => cases h
theorem kind1_lt {T : List Tok} (g : GoodT T) {p : Nat} (hp : p < T.length) (h : isPitchS T (.ok p) = true) : p + 1 < T.length := by
 refine g.more hp ?_
 rw [isPitchS_is] at h
 unfold pitchB at h
 simp only [Bool.and_eq_true, decide_eq_true_eq] at h
 rw [show (T.getD p noTok).kind = 1 from h.1]; decide
def hashS : ByteArray := ⟨#[35, 45]⟩
theorem hash_get : ∀ i (h : i < signsS.length), hashS.extract i (i + 1) = signsS[i] := by decide
theorem comp_size {T : List Tok} (g : GoodT T) (nu : Bool) (sy : List ByteArray) {p : Nat} (hp : p + 1 < T.length) : (compF T nu sy (.ok p)).size <= 281474976710656 := by
 have h := run_size g nu sy hp (runS T nu sy (.ok p)).length
 rw [List.take_length] at h
 exact Nat.le_trans h (by decide)
section
variable {W0 : World} {T : List Tok} {X : Nat} {free : Bool} {lv iv : Value} {st : Stt} {w : World}
theorem MS.jump {p q : Nat} (h : MS T X free lv iv (.ok p) w) (hq : q < T.length) (hpq : p <= q) : MS T X free lv iv (.ok q) (w.setCell ⟨X, 1, none⟩ (I (q : Nat))) := by
 obtain ⟨g, pos, is, im, n, xs, e, line, col, h1, h2, h3, h4⟩ := h
 obtain ⟨rfl, rfl, rfl, rfl, hlt⟩ := h2
 have hn := h4 rfl
 exact ⟨g, q, is, im, n, xs, 0, 0, 0, h1.put 1 _ (fun h => h) rfl, ⟨rfl, rfl, rfl, rfl, hq⟩, h3, fun _ => by omega⟩
theorem MS.atCell {p : Nat} (h : MS T X free lv iv (.ok p) w) : w.cell? ⟨X, 1, none⟩ = some (I p) /\ w.frozen? ⟨X, 1, none⟩ = false /\ p < T.length := by
 obtain ⟨g, pos, is, im, n, xs, e, line, col, h1, h2, h3, h4⟩ := h
 obtain ⟨rfl, rfl, rfl, rfl, hlt⟩ := h2
 exact ⟨h1.c1, h1.fz 1, hlt⟩
theorem mpitch_s (h : MS T X free lv iv st w) (B : Bas W0 [X] w) : Calls Tryz.prog 65 #[.pointer (some ⟨X, 0, none⟩)] w fun r w' => r = .returned (pAgg (pitchF theO T st).1) /\ MS T X free lv iv (pitchF theO T st).2 w' /\ Away [X] w w' := by
 have hXl := h.lt
 have hR := heap_alloc_new w (.cells #[I 0, I 0, I 0] 75)
 have b0 := (Below.refl _ w).alloc (Nat.le_refl _) (.cells #[I 0, I 0, I 0] 75)
 have hx1 := mispitch_s (h.step b0)
 have hst := fun w' (b : Below w.heap.size w w') => h.step b
 cases hp : isPitchS T st with
 | false =>
  have e1 : pitchF theO T st = (zP, failS T 13 st) := by unfold pitchF; rw [if_neg (by rw [hp]; decide)]; rfl
  rw [e1, show pAgg zP = .agg #[I 0, I 0, I 0] from rfl]
  rw [hp] at hx1
  clear e1 hp
  simp only
  have c1 := fun w' (h : MS T X free lv iv st w') => mfail_s h 13 (by decide)
  have hel := fun (s1 : Stt) (w1 w2 : World) (h1 : MS T X free lv iv s1 w1) (R : Nat) => h1.else (w' := w2) (R := R) h
  generalize failS T 13 st = s1 at c1 ⊢
  clear h
  go_enter Tryz.func65, Tryz.ntmps65
  go_wp2_with (go_at_call 79; refine hx1.mono ?_)
  intro r w1; first | (intro he b1; subst he) | rintro ⟨rfl, b1⟩
  have b01 := b0.trans (b1.mono b0.size)
  have hR1 := (b1.block _ (heap_lt hR)).trans hR
  have hx2 := c1 _ (hst _ b01)
  have hRl := heap_lt hR
  clear hx1 c1
  go_wp2_with (go_at_call 32; refine hx2.mono ?_)
  intro r w2; first | (intro he hS2 a2; subst he) | rintro ⟨rfl, hS2, a2⟩
  have hR2 := a2.at hR1 (by simp; omega)
  have a02 := (Away.of_below (bs := [X]) b01).trans a2
  generalize hRR : w.heap.size = R at hR hR1 hR2 hRl ⊢
  obtain ⟨q0, q1, q2, f0, f1, f2⟩ := three_cells hR2
  have hR3 := fill3_self (a := I 0) (b := I 0) (c := I 0) hR2
  have hS3 := hel _ w2 (fill3 w2 R (I 0) (I 0) (I 0)) hS2 R (Nat.le_of_eq hRR) (Nat.le_of_eq (fill3_size _ _ _ _ _).symm) (fun j hj => fill3_other _ _ _ _ _ j hj)
  have a3 := fill3_away a02 (Nat.le_of_eq hRR) (I 0) (I 0) (I 0)
  clear hel hst hR hR1 hR2 hx2 hS2
  unfold fill3 at hR3 hS3 a3
  go_wp2
  refine bodyPost_ret (results_cell_row rfl _ _ R 75 _ (0, 0) _ rfl hR3 Tryz.underlying75 rfl Tryz.sizePitch3) rfl ?_
  exact ⟨rfl, hS3, a3⟩
 | true =>
  obtain ⟨p, rfl⟩ := pitch_ok hp
  have g := h.good
  have hpl := (h.atCell).2.2
  have hlt := kind1_lt g hpl hp
  have hrl := run_len g true signsS hlt
  have hm := g.max
  have hcs := comp_size g true signsS hlt
  rw [hp] at hx1
  have c2 := fun w' (b : Below w.heap.size w w') => mcomposed_true (h.step b) hlt hashS signsS rfl (by decide) hash_get
  have c3 := fun w' (b : Bas W0 [X] w') => pitR_is _ hcs w' b.glo
  have hBs := fun w' (b : Below w.heap.size w w') => B.step b
  have hel := fun (s1 : Stt) (w1 w2 : World) (h1 : MS T X free lv iv s1 w1) (R : Nat) => h1.else (w' := w2) (R := R) h
  have hwq : IntKind.i64.wrap ((p : Int) + (((runS T true signsS (.ok p)).length : Int) + 1)) = ((p + ((runS T true signsS (.ok p)).length + 1) : Nat) : Int) := by
   rw [IntWalk.i64_in _ (by omega)]; omega
  have hq : p + ((runS T true signsS (.ok p)).length + 1) < T.length := by omega
  have hpq : p <= p + ((runS T true signsS (.ok p)).length + 1) := by omega
  have epit : pitchF theO T (.ok p) = match theO.pit (compF T true signsS (.ok p)) with
    | none => (⟨0, 0, 0⟩, failS T 18 (.ok p))
    | some v => (v, .ok (p + ((runS T true signsS (.ok p)).length + 1))) := by unfold pitchF; rw [if_pos hp]; rfl
  rw [epit]
  have hpt := theO_pit (compF T true signsS (.ok p))
  generalize compF T true signsS (.ok p) = cs at c2 c3 hpt ⊢
  generalize (runS T true signsS (.ok p)).length = m at c2 hwq hq hpq ⊢
  generalize pitR cs = pr at c3 hpt
  obtain ⟨pv, pa, pe⟩ := pr
  simp only [hashS] at c2 hpt c3
  rcases hpt with ⟨ho, hne⟩ | ⟨v, ho, rfl, rfl⟩
  ·have hne' : ¬ pe = 0 := hne
   clear hne
   rw [ho, show pAgg (⟨0, 0, 0⟩ : PitchV) = .agg #[I 0, I 0, I 0] from rfl]
   simp only
   have c4 := fun w' (h : MS T X free lv iv (.ok p) w') => mfail_s h 18 (by decide)
   generalize failS T 18 (.ok p) = s1 at c4 ⊢
   obtain ⟨vs, va, vo⟩ := pv
   simp only [pAgg] at c3
   clear ho hp h
   go_enter Tryz.func65, Tryz.ntmps65
   go_wp2_with (go_at_call 79; refine hx1.mono ?_)
   intro r w1; first | (intro he b1; subst he) | rintro ⟨rfl, b1⟩
   have b01 := b0.trans (b1.mono b0.size)
   have hR1 := (b1.block _ (heap_lt hR)).trans hR
   have hRl := heap_lt hR
   have hx2 := c2 _ b01
   clear hx1 c2
   go_wp2_with (go_at_call 66; refine hx2.mono ?_)
   intro r w2; first | (intro he b2; subst he) | rintro ⟨rfl, b2⟩
   have b02 := b01.trans (b2.mono b01.size)
   have hR2 := (b2.block _ (heap_lt hR1)).trans hR1
   have hx3 := c3 _ (hBs _ b02)
   clear hx2 c3
   go_wp2_with (go_at_call 111; refine hx3.mono ?_)
   intro r w3; first | (intro he b3; subst he) | rintro ⟨rfl, b3⟩
   have b03 := (b02.trans (b3.mono b02.size)).alloc (Nat.le_trans b02.size b3.size) (.cells #[I vs, I va, I vo] 75)
   have hR3 := (((Below.refl _ w3).alloc (Nat.le_refl _) (.cells #[I vs, I va, I vo] 75)).block _ (Nat.lt_of_lt_of_le (heap_lt hR2) b3.size)).trans ((b3.block _ (heap_lt hR2)).trans hR2)
   have hx4 := c4 _ (hst _ b03)
   clear hx3 c4
   go_wp2_with (go_at_call 32; refine hx4.mono ?_)
   intro r w4; first | (intro he hS4 a4; subst he) | rintro ⟨rfl, hS4, a4⟩
   have hR4 := a4.at hR3 (by simp; omega)
   have a04 := (Away.of_below (bs := [X]) b03).trans a4
   generalize hRR : w.heap.size = R at hR hR1 hR2 hR3 hR4 hRl ⊢
   obtain ⟨q0, q1, q2, f0, f1, f2⟩ := three_cells hR4
   have hR5 := fill3_self (a := I 0) (b := I 0) (c := I 0) hR4
   have hS5 := hel _ w4 (fill3 w4 R (I 0) (I 0) (I 0)) hS4 R (Nat.le_of_eq hRR) (Nat.le_of_eq (fill3_size _ _ _ _ _).symm) (fun j hj => fill3_other _ _ _ _ _ j hj)
   have a5 := fill3_away a04 (Nat.le_of_eq hRR) (I 0) (I 0) (I 0)
   clear hel hst hR hR1 hR2 hR3 hR4 hx4 hS4 hBs
   unfold fill3 at hR5 hS5 a5
   go_wp2
   refine bodyPost_ret (results_cell_row rfl _ _ R 75 _ (0, 0) _ rfl hR5 Tryz.underlying75 rfl Tryz.sizePitch3) rfl ?_
   exact ⟨rfl, hS5, a5⟩
  ·rw [ho]
   simp only
   obtain ⟨vs, va, vo⟩ := pv
   simp only [pAgg] at c3 ⊢
   clear ho hp
   generalize hQQ : p + (m + 1) = q at hwq hq hpq ⊢
   go_enter Tryz.func65, Tryz.ntmps65
   go_wp2_with (go_at_call 79; refine hx1.mono ?_)
   intro r w1; first | (intro he b1; subst he) | rintro ⟨rfl, b1⟩
   have b01 := b0.trans (b1.mono b0.size)
   have hR1 := (b1.block _ (heap_lt hR)).trans hR
   have hRl := heap_lt hR
   have hx2 := c2 _ b01
   clear hx1 c2
   go_wp2_with (go_at_call 66; refine hx2.mono ?_)
   intro r w2; first | (intro he b2; subst he) | rintro ⟨rfl, b2⟩
   have b02 := b01.trans (b2.mono b01.size)
   have hR2 := (b2.block _ (heap_lt hR1)).trans hR1
   have hx3 := c3 _ (hBs _ b02)
   clear hx2 c3
   go_wp2_with (go_at_call 111; refine hx3.mono ?_)
   intro r w3; first | (intro he b3; subst he) | rintro ⟨rfl, b3⟩
   have b03 := b02.trans (b3.mono b02.size)
   have hR3 := (b3.block _ (heap_lt hR2)).trans hR2
   have hS3 := hst _ b03
   obtain ⟨x1, xf1, _⟩ := hS3.atCell
   have n1 := World.new_ne w3 _ x1
   have l1 := hS3.lt
   have hS4 := hS3.jump hq hpq
   have a4 := (Away.of_below (bs := [X]) b03).setCell (p := ⟨X, 1, none⟩) (.inl (by simp)) (I (q : Nat))
   have hRX : w.heap.size ≠ X := by omega
   have hR4 : (w3.setCell ⟨X, 1, none⟩ (I (q : Nat))).heap[w.heap.size]? = _ := (Below.heap_setCell w3 ⟨X, 1, none⟩ _ _ hRX).trans hR3
   have hRn : w.heap.size ≠ w3.heap.size := by have := heap_lt hR3; omega
   have hwl := heap_lt hR3
   generalize hRR : w.heap.size = R at hR hR1 hR2 hR3 hR4 hRl hRX hRn hwl ⊢
   obtain ⟨q0, q1, q2, f0, f1, f2⟩ := three_cells hR3
   have hR5 := fill3_self (a := I vs) (b := I va) (c := I vo) hR4
   have hS5 := hel _ _ (fill3 (w3.setCell ⟨X, 1, none⟩ (I (q : Nat))) R (I vs) (I va) (I vo)) hS4 R (Nat.le_of_eq hRR) (Nat.le_of_eq (fill3_size _ _ _ _ _).symm) (fun j hj => fill3_other _ _ _ _ _ j hj)
   have a5 := fill3_away a4 (Nat.le_of_eq hRR) (I vs) (I va) (I vo)
   have hS6 := hS5.step ((Below.refl _ _).alloc (Nat.le_refl _) (.cells #[I vs, I va, I vo] 75))
   have a6 := a5.alloc (.cells #[I vs, I va, I vo] 75)
   have hR6 := (Lib.alloc_old _ (.cells #[I vs, I va, I vo] 75) R (heap_lt hR5)).trans hR5
   clear hel hst hR hR1 hR2 hR3 hR4 hS3 hS4 hS5 hBs a4 a5 hR5 h
   unfold fill3 at hR6 hS6 a6
   go_wp2
   refine bodyPost_ret (results_cell_row rfl _ _ R 75 _ (0, 0) _ rfl hR6 Tryz.underlying75 rfl Tryz.sizePitch3) rfl ?_
   exact ⟨rfl, hS6, a6⟩
end
theorem Tryz.sizeVal : (Tryz.prog.info? 26).map (·.size) = some 2 := by kernel_rfl
def dotS : ByteArray := ⟨#[46]⟩
theorem dot_get : ∀ i (h : i < dotsS.length), dotS.extract i (i + 1) = dotsS[i] := by decide
theorem value_ok {T : List Tok} {st : Stt} (h : valueB T st = true) : ∃ p, st = .ok p := by
 cases st with
 | ok p => exact ⟨p, rfl⟩
 | bad e l c => cases h
theorem value_no {T : List Tok} {st : Stt} (h : valueB T st = false) : (tokS T st).kind ≠ 2 /\ isS T ⟨#[98]⟩ st = false := by
 unfold valueB at h
 simp only [Bool.or_eq_false_iff, decide_eq_false_iff_not] at h
 exact h
theorem value_split {T : List Tok} {st : Stt} (h : valueB T st = true) : (tokS T st).kind = 2 \/ ((tokS T st).kind ≠ 2 /\ isS T ⟨#[98]⟩ st = true) := by
 unfold valueB at h
 simp only [Bool.or_eq_true, decide_eq_true_eq] at h
 by_cases hk : (tokS T st).kind = 2
 ·exact .inl hk
 ·rcases h with h | h
  ·exact absurd h hk
  ·exact .inr ⟨hk, h⟩
theorem value_lt {T : List Tok} (g : GoodT T) {p : Nat} (hp : p < T.length) (h : valueB T (.ok p) = true) : p + 1 < T.length := by
 refine g.more hp ?_
 rcases value_split h with h | ⟨_, h⟩
 ·rw [show (T.getD p noTok).kind = 2 from h]; decide
 ·rcases isTok_kind h with h | h <;> rw [show (T.getD p noTok).kind = _ from h] <;> decide
section
variable {W0 : World} {T : List Tok} {X : Nat} {free : Bool} {lv iv : Value} {st : Stt} {w : World}
theorem mvalue_s (h : MS T X free lv iv st w) (B : Bas W0 [X] w) : Calls Tryz.prog 29 #[.pointer (some ⟨X, 0, none⟩)] w fun r w' => r = .returned (vAgg (valueF theO T st).1) /\ MS T X free lv iv (valueF theO T st).2 w' /\ Away [X] w w' := by
 have hXl := h.lt
 have hR := heap_alloc_new w (.cells #[I 0, I 0] 26)
 have b0 := (Below.refl _ w).alloc (Nat.le_refl _) (.cells #[I 0, I 0] 26)
 have hx1 := now_s (h.step b0)
 have hx1b := fun w' (b : Below w.heap.size w w') => mis_s (h.step b) ⟨#[98]⟩
 have hst := fun w' (b : Below w.heap.size w w') => h.step b
 cases hp : valueB T st with
 | false =>
  have e1 : valueF theO T st = (((0 : Int), (0 : Int)), failS T 13 st) := by unfold valueF; rw [if_neg (by rw [hp]; decide)]
  rw [e1, show vAgg ((0 : Int), (0 : Int)) = .agg #[I 0, I 0] from rfl]
  obtain ⟨hk, hb⟩ := value_no hp
  unfold tokV at hx1
  generalize tokS T st = t at hk hx1
  obtain ⟨kd, text, v, bt, lin, cl, j⟩ := t
  simp only at hk hx1
  have hfd := ftok0 kd v lin cl text bt j
  clear e1 hp
  simp only
  have c1 := fun w' (h : MS T X free lv iv st w') => mfail_s h 13 (by decide)
  have hel := fun (s1 : Stt) (w1 w2 : World) (h1 : MS T X free lv iv s1 w1) (R : Nat) => h1.else (w' := w2) (R := R) h
  generalize failS T 13 st = s1 at c1 ⊢
  clear h
  go_enter Tryz.func29, Tryz.ntmps29
  go_wp2_with (go_at_call 31; refine hx1.mono ?_)
  intro r w1; first | (intro he b1; subst he) | rintro ⟨rfl, b1⟩
  have b01 := b0.trans (b1.mono b0.size)
  have hR1 := (b1.block _ (heap_lt hR)).trans hR
  have hx1c := hx1b _ b01
  rw [hb] at hx1c
  go_wp2_with (go_at_call 27; refine hx1c.mono ?_)
  intro r w1a; first | (intro he b1a; subst he) | rintro ⟨rfl, b1a⟩
  have hR1 := (b1a.block _ (heap_lt hR1)).trans hR1
  have b01 := b01.trans (b1a.mono b01.size)
  clear hx1c b1a b1
  have hx2 := c1 _ (hst _ b01)
  have hRl := heap_lt hR
  clear hx1 hx1b c1 hb
  go_wp2_with (go_at_call 32; refine hx2.mono ?_)
  intro r w2; first | (intro he hS2 a2; subst he) | rintro ⟨rfl, hS2, a2⟩
  have hR2 := a2.at hR1 (by simp; omega)
  have a02 := (Away.of_below (bs := [X]) b01).trans a2
  generalize hRR : w.heap.size = R at hR hR1 hR2 hRl ⊢
  obtain ⟨q0, q1, f0, f1⟩ := two_cells hR2
  have hR3 := fill2_self (a := I 0) (b := I 0) hR2
  have hS3 := hel _ w2 (fill2 w2 R (I 0) (I 0)) hS2 R (Nat.le_of_eq hRR) (Nat.le_of_eq (fill2_size _ _ _ _).symm) (fun j hj => fill2_other _ _ _ _ j hj)
  have a3 := fill2_away a02 (Nat.le_of_eq hRR) (I 0) (I 0)
  clear hel hst hR hR1 hR2 hx2 hS2
  unfold fill2 at hR3 hS3 a3
  go_wp2
  refine bodyPost_ret (results_cell_row rfl _ _ R 26 _ (0, 0) _ rfl hR3 Tryz.underlying26 rfl Tryz.sizeVal) rfl ?_
  exact ⟨rfl, hS3, a3⟩
 | true =>
  obtain ⟨p, rfl⟩ := value_ok hp
  have g := h.good
  have hpl := (h.atCell).2.2
  have hlt := value_lt g hpl hp
  have hrl := run_len g false dotsS hlt
  have hm := g.max
  have hcs := comp_size g false dotsS hlt
  have c2 := fun w' (b : Below w.heap.size w w') => mcomposed_false (h.step b) hlt dotS dotsS rfl (by decide) dot_get
  have c3 := fun w' (b : Bas W0 [X] w') => valR_is _ hcs w' b.glo
  have hBs := fun w' (b : Below w.heap.size w w') => B.step b
  have hel := fun (s1 : Stt) (w1 w2 : World) (h1 : MS T X free lv iv s1 w1) (R : Nat) => h1.else (w' := w2) (R := R) h
  have hwq : IntKind.i64.wrap ((p : Int) + (((runS T false dotsS (.ok p)).length : Int) + 1)) = ((p + ((runS T false dotsS (.ok p)).length + 1) : Nat) : Int) := by
   rw [IntWalk.i64_in _ (by omega)]; omega
  have hq : p + ((runS T false dotsS (.ok p)).length + 1) < T.length := by omega
  have hpq : p <= p + ((runS T false dotsS (.ok p)).length + 1) := by omega
  have eval : valueF theO T (.ok p) = match theO.val (compF T false dotsS (.ok p)) with
    | none => ((0, 0), failS T 17 (.ok p))
    | some v => (v, .ok (p + ((runS T false dotsS (.ok p)).length + 1))) := by unfold valueF; rw [if_pos hp]; rfl
  rw [eval]
  have hpt := theO_val (compF T false dotsS (.ok p))
  generalize compF T false dotsS (.ok p) = cs at c2 c3 hpt ⊢
  generalize (runS T false dotsS (.ok p)).length = m at c2 hwq hq hpq ⊢
  generalize valR cs = pr at c3 hpt
  obtain ⟨pv, pe⟩ := pr
  simp only [dotS] at c2 hpt c3
  rcases value_split hp with hk | ⟨hk, hb⟩
  ·unfold tokV at hx1
   generalize hTT : tokS T (.ok p) = t at hk hx1
   obtain ⟨kd, text, v, bt, lin, cl, j⟩ := t
   simp only at hk hx1
   subst hk
   have hfd := ftok0 2 v lin cl text bt j
   clear hTT
   rcases hpt with ⟨ho, hne⟩ | ⟨v, ho, rfl, rfl⟩
   ·have hne' : ¬ pe = 0 := hne
    clear hne
    rw [ho, show vAgg ((0 : Int), (0 : Int)) = .agg #[I 0, I 0] from rfl]
    simp only
    have c4 := fun w' (h : MS T X free lv iv (.ok p) w') => mfail_s h 17 (by decide)
    generalize failS T 17 (.ok p) = s1 at c4 ⊢
    obtain ⟨vs, va⟩ := pv
    simp only [vAgg] at c3
    clear ho hp h
    go_enter Tryz.func29, Tryz.ntmps29
    go_wp2_with (go_at_call 31; refine hx1.mono ?_)
    intro r w1; first | (intro he b1; subst he) | rintro ⟨rfl, b1⟩
    have b01 := b0.trans (b1.mono b0.size)
    have hR1 := (b1.block _ (heap_lt hR)).trans hR
    have hRl := heap_lt hR
    have hx2 := c2 _ b01
    clear hx1 hx1b c2
    go_wp2_with (go_at_call 66; refine hx2.mono ?_)
    intro r w2; first | (intro he b2; subst he) | rintro ⟨rfl, b2⟩
    have b02 := b01.trans (b2.mono b01.size)
    have hR2 := (b2.block _ (heap_lt hR1)).trans hR1
    have hx3 := c3 _ (hBs _ b02)
    clear hx2 c3
    go_wp2_with (go_at_call 67; refine hx3.mono ?_)
    intro r w3; first | (intro he b3; subst he) | rintro ⟨rfl, b3⟩
    have b03 := (b02.trans (b3.mono b02.size)).alloc (Nat.le_trans b02.size b3.size) (.cells #[I vs, I va] 26)
    have hR3 := (((Below.refl _ w3).alloc (Nat.le_refl _) (.cells #[I vs, I va] 26)).block _ (Nat.lt_of_lt_of_le (heap_lt hR2) b3.size)).trans ((b3.block _ (heap_lt hR2)).trans hR2)
    have hx4 := c4 _ (hst _ b03)
    clear hx3 c4
    go_wp2_with (go_at_call 32; refine hx4.mono ?_)
    intro r w4; first | (intro he hS4 a4; subst he) | rintro ⟨rfl, hS4, a4⟩
    have hR4 := a4.at hR3 (by simp; omega)
    have a04 := (Away.of_below (bs := [X]) b03).trans a4
    generalize hRR : w.heap.size = R at hR hR1 hR2 hR3 hR4 hRl ⊢
    obtain ⟨q0, q1, f0, f1⟩ := two_cells hR4
    have hR5 := fill2_self (a := I 0) (b := I 0) hR4
    have hS5 := hel _ w4 (fill2 w4 R (I 0) (I 0)) hS4 R (Nat.le_of_eq hRR) (Nat.le_of_eq (fill2_size _ _ _ _).symm) (fun j hj => fill2_other _ _ _ _ j hj)
    have a5 := fill2_away a04 (Nat.le_of_eq hRR) (I 0) (I 0)
    clear hel hst hR hR1 hR2 hR3 hR4 hx4 hS4 hBs
    unfold fill2 at hR5 hS5 a5
    go_wp2
    refine bodyPost_ret (results_cell_row rfl _ _ R 26 _ (0, 0) _ rfl hR5 Tryz.underlying26 rfl Tryz.sizeVal) rfl ?_
    exact ⟨rfl, hS5, a5⟩
   ·rw [ho]
    simp only
    obtain ⟨vs, va⟩ := pv
    simp only [vAgg] at c3 ⊢
    clear ho hp
    generalize hQQ : p + (m + 1) = q at hwq hq hpq ⊢
    go_enter Tryz.func29, Tryz.ntmps29
    go_wp2_with (go_at_call 31; refine hx1.mono ?_)
    intro r w1; first | (intro he b1; subst he) | rintro ⟨rfl, b1⟩
    have b01 := b0.trans (b1.mono b0.size)
    have hR1 := (b1.block _ (heap_lt hR)).trans hR
    have hRl := heap_lt hR
    have hx2 := c2 _ b01
    clear hx1 hx1b c2
    go_wp2_with (go_at_call 66; refine hx2.mono ?_)
    intro r w2; first | (intro he b2; subst he) | rintro ⟨rfl, b2⟩
    have b02 := b01.trans (b2.mono b01.size)
    have hR2 := (b2.block _ (heap_lt hR1)).trans hR1
    have hx3 := c3 _ (hBs _ b02)
    clear hx2 c3
    go_wp2_with (go_at_call 67; refine hx3.mono ?_)
    intro r w3; first | (intro he b3; subst he) | rintro ⟨rfl, b3⟩
    have b03 := b02.trans (b3.mono b02.size)
    have hR3 := (b3.block _ (heap_lt hR2)).trans hR2
    have hS3 := hst _ b03
    obtain ⟨x1, xf1, _⟩ := hS3.atCell
    have n1 := World.new_ne w3 _ x1
    have l1 := hS3.lt
    have hS4 := hS3.jump hq hpq
    have a4 := (Away.of_below (bs := [X]) b03).setCell (p := ⟨X, 1, none⟩) (.inl (by simp)) (I (q : Nat))
    have hRX : w.heap.size ≠ X := by omega
    have hR4 : (w3.setCell ⟨X, 1, none⟩ (I (q : Nat))).heap[w.heap.size]? = _ := (Below.heap_setCell w3 ⟨X, 1, none⟩ _ _ hRX).trans hR3
    have hRn : w.heap.size ≠ w3.heap.size := by have := heap_lt hR3; omega
    have hwl := heap_lt hR3
    generalize hRR : w.heap.size = R at hR hR1 hR2 hR3 hR4 hRl hRX hRn hwl ⊢
    obtain ⟨q0, q1, f0, f1⟩ := two_cells hR3
    have hR5 := fill2_self (a := I vs) (b := I va) hR4
    have hS5 := hel _ _ (fill2 (w3.setCell ⟨X, 1, none⟩ (I (q : Nat))) R (I vs) (I va)) hS4 R (Nat.le_of_eq hRR) (Nat.le_of_eq (fill2_size _ _ _ _).symm) (fun j hj => fill2_other _ _ _ _ j hj)
    have a5 := fill2_away a4 (Nat.le_of_eq hRR) (I vs) (I va)
    have hS6 := hS5.step ((Below.refl _ _).alloc (Nat.le_refl _) (.cells #[I vs, I va] 26))
    have a6 := a5.alloc (.cells #[I vs, I va] 26)
    have hR6 := (Lib.alloc_old _ (.cells #[I vs, I va] 26) R (heap_lt hR5)).trans hR5
    clear hel hst hR hR1 hR2 hR3 hR4 hS3 hS4 hS5 hBs a4 a5 hR5 h
    unfold fill2 at hR6 hS6 a6
    go_wp2
    refine bodyPost_ret (results_cell_row rfl _ _ R 26 _ (0, 0) _ rfl hR6 Tryz.underlying26 rfl Tryz.sizeVal) rfl ?_
    exact ⟨rfl, hS6, a6⟩
  ·unfold tokV at hx1
   generalize hTT : tokS T (.ok p) = t at hk hx1
   obtain ⟨kd, text, v, bt, lin, cl, j⟩ := t
   simp only at hk hx1
   have hfd := ftok0 kd v lin cl text bt j
   clear hTT
   rcases hpt with ⟨ho, hne⟩ | ⟨v, ho, rfl, rfl⟩
   ·have hne' : ¬ pe = 0 := hne
    clear hne
    rw [ho, show vAgg ((0 : Int), (0 : Int)) = .agg #[I 0, I 0] from rfl]
    simp only
    have c4 := fun w' (h : MS T X free lv iv (.ok p) w') => mfail_s h 17 (by decide)
    generalize failS T 17 (.ok p) = s1 at c4 ⊢
    obtain ⟨vs, va⟩ := pv
    simp only [vAgg] at c3
    clear ho hp h
    go_enter Tryz.func29, Tryz.ntmps29
    go_wp2_with (go_at_call 31; refine hx1.mono ?_)
    intro r w1; first | (intro he b1; subst he) | rintro ⟨rfl, b1⟩
    have b01 := b0.trans (b1.mono b0.size)
    have hR1 := (b1.block _ (heap_lt hR)).trans hR
    have hx1c := hx1b _ b01
    rw [hb] at hx1c
    go_wp2_with (go_at_call 27; refine hx1c.mono ?_)
    intro r w1a; first | (intro he b1a; subst he) | rintro ⟨rfl, b1a⟩
    have hR1 := (b1a.block _ (heap_lt hR1)).trans hR1
    have b01 := b01.trans (b1a.mono b01.size)
    clear hx1c b1a b1
    have hRl := heap_lt hR
    have hx2 := c2 _ b01
    clear hx1 hx1b c2
    go_wp2_with (go_at_call 66; refine hx2.mono ?_)
    intro r w2; first | (intro he b2; subst he) | rintro ⟨rfl, b2⟩
    have b02 := b01.trans (b2.mono b01.size)
    have hR2 := (b2.block _ (heap_lt hR1)).trans hR1
    have hx3 := c3 _ (hBs _ b02)
    clear hx2 c3
    go_wp2_with (go_at_call 67; refine hx3.mono ?_)
    intro r w3; first | (intro he b3; subst he) | rintro ⟨rfl, b3⟩
    have b03 := (b02.trans (b3.mono b02.size)).alloc (Nat.le_trans b02.size b3.size) (.cells #[I vs, I va] 26)
    have hR3 := (((Below.refl _ w3).alloc (Nat.le_refl _) (.cells #[I vs, I va] 26)).block _ (Nat.lt_of_lt_of_le (heap_lt hR2) b3.size)).trans ((b3.block _ (heap_lt hR2)).trans hR2)
    have hx4 := c4 _ (hst _ b03)
    clear hx3 c4
    go_wp2_with (go_at_call 32; refine hx4.mono ?_)
    intro r w4; first | (intro he hS4 a4; subst he) | rintro ⟨rfl, hS4, a4⟩
    have hR4 := a4.at hR3 (by simp; omega)
    have a04 := (Away.of_below (bs := [X]) b03).trans a4
    generalize hRR : w.heap.size = R at hR hR1 hR2 hR3 hR4 hRl ⊢
    obtain ⟨q0, q1, f0, f1⟩ := two_cells hR4
    have hR5 := fill2_self (a := I 0) (b := I 0) hR4
    have hS5 := hel _ w4 (fill2 w4 R (I 0) (I 0)) hS4 R (Nat.le_of_eq hRR) (Nat.le_of_eq (fill2_size _ _ _ _).symm) (fun j hj => fill2_other _ _ _ _ j hj)
    have a5 := fill2_away a04 (Nat.le_of_eq hRR) (I 0) (I 0)
    clear hel hst hR hR1 hR2 hR3 hR4 hx4 hS4 hBs
    unfold fill2 at hR5 hS5 a5
    go_wp2
    refine bodyPost_ret (results_cell_row rfl _ _ R 26 _ (0, 0) _ rfl hR5 Tryz.underlying26 rfl Tryz.sizeVal) rfl ?_
    exact ⟨rfl, hS5, a5⟩
   ·rw [ho]
    simp only
    obtain ⟨vs, va⟩ := pv
    simp only [vAgg] at c3 ⊢
    clear ho hp
    generalize hQQ : p + (m + 1) = q at hwq hq hpq ⊢
    go_enter Tryz.func29, Tryz.ntmps29
    go_wp2_with (go_at_call 31; refine hx1.mono ?_)
    intro r w1; first | (intro he b1; subst he) | rintro ⟨rfl, b1⟩
    have b01 := b0.trans (b1.mono b0.size)
    have hR1 := (b1.block _ (heap_lt hR)).trans hR
    have hx1c := hx1b _ b01
    rw [hb] at hx1c
    go_wp2_with (go_at_call 27; refine hx1c.mono ?_)
    intro r w1a; first | (intro he b1a; subst he) | rintro ⟨rfl, b1a⟩
    have hR1 := (b1a.block _ (heap_lt hR1)).trans hR1
    have b01 := b01.trans (b1a.mono b01.size)
    clear hx1c b1a b1
    have hRl := heap_lt hR
    have hx2 := c2 _ b01
    clear hx1 hx1b c2
    go_wp2_with (go_at_call 66; refine hx2.mono ?_)
    intro r w2; first | (intro he b2; subst he) | rintro ⟨rfl, b2⟩
    have b02 := b01.trans (b2.mono b01.size)
    have hR2 := (b2.block _ (heap_lt hR1)).trans hR1
    have hx3 := c3 _ (hBs _ b02)
    clear hx2 c3
    go_wp2_with (go_at_call 67; refine hx3.mono ?_)
    intro r w3; first | (intro he b3; subst he) | rintro ⟨rfl, b3⟩
    have b03 := b02.trans (b3.mono b02.size)
    have hR3 := (b3.block _ (heap_lt hR2)).trans hR2
    have hS3 := hst _ b03
    obtain ⟨x1, xf1, _⟩ := hS3.atCell
    have n1 := World.new_ne w3 _ x1
    have l1 := hS3.lt
    have hS4 := hS3.jump hq hpq
    have a4 := (Away.of_below (bs := [X]) b03).setCell (p := ⟨X, 1, none⟩) (.inl (by simp)) (I (q : Nat))
    have hRX : w.heap.size ≠ X := by omega
    have hR4 : (w3.setCell ⟨X, 1, none⟩ (I (q : Nat))).heap[w.heap.size]? = _ := (Below.heap_setCell w3 ⟨X, 1, none⟩ _ _ hRX).trans hR3
    have hRn : w.heap.size ≠ w3.heap.size := by have := heap_lt hR3; omega
    have hwl := heap_lt hR3
    generalize hRR : w.heap.size = R at hR hR1 hR2 hR3 hR4 hRl hRX hRn hwl ⊢
    obtain ⟨q0, q1, f0, f1⟩ := two_cells hR3
    have hR5 := fill2_self (a := I vs) (b := I va) hR4
    have hS5 := hel _ _ (fill2 (w3.setCell ⟨X, 1, none⟩ (I (q : Nat))) R (I vs) (I va)) hS4 R (Nat.le_of_eq hRR) (Nat.le_of_eq (fill2_size _ _ _ _).symm) (fun j hj => fill2_other _ _ _ _ j hj)
    have a5 := fill2_away a4 (Nat.le_of_eq hRR) (I vs) (I va)
    have hS6 := hS5.step ((Below.refl _ _).alloc (Nat.le_refl _) (.cells #[I vs, I va] 26))
    have a6 := a5.alloc (.cells #[I vs, I va] 26)
    have hR6 := (Lib.alloc_old _ (.cells #[I vs, I va] 26) R (heap_lt hR5)).trans hR5
    clear hel hst hR hR1 hR2 hR3 hR4 hS3 hS4 hS5 hBs a4 a5 hR5 h
    unfold fill2 at hR6 hS6 a6
    go_wp2
    refine bodyPost_ret (results_cell_row rfl _ _ R 26 _ (0, 0) _ rfl hR6 Tryz.underlying26 rfl Tryz.sizeVal) rfl ?_
    exact ⟨rfl, hS6, a6⟩
end
theorem five_cells {w : World} {X : Nat} {c0 c1 c2 c3 c4 : Value} {T : TypeId} (h : w.heap[X]? = some (.cells #[c0, c1, c2, c3, c4] T (0, 0))) :
  (w.cell? ⟨X, 0, none⟩ = some c0 /\ w.cell? ⟨X, 1, none⟩ = some c1 /\ w.cell? ⟨X, 2, none⟩ = some c2 /\ w.cell? ⟨X, 3, none⟩ = some c3 /\ w.cell? ⟨X, 4, none⟩ = some c4) /\
  (w.frozen? ⟨X, 0, none⟩ = false /\ w.frozen? ⟨X, 1, none⟩ = false /\ w.frozen? ⟨X, 2, none⟩ = false /\ w.frozen? ⟨X, 3, none⟩ = false /\ w.frozen? ⟨X, 4, none⟩ = false) := by
 refine ⟨⟨?_, ?_, ?_, ?_, ?_⟩, Lib.frozen_of_heap h 0, Lib.frozen_of_heap h 1, Lib.frozen_of_heap h 2, Lib.frozen_of_heap h 3, Lib.frozen_of_heap h 4⟩ <;> (rw [Lib.cell_of_heap h]; rfl)
def fill5 (w : World) (X : Nat) (v0 v1 v2 v3 v4 : Value) : World :=
 ((((w.setCell ⟨X, 0, none⟩ v0).setCell ⟨X, 1, none⟩ v1).setCell ⟨X, 2, none⟩ v2).setCell ⟨X, 3, none⟩ v3).setCell ⟨X, 4, none⟩ v4
theorem fill5_other (w : World) (X : Nat) (v0 v1 v2 v3 v4 : Value) (k : Nat) (hk : k ≠ X) : (fill5 w X v0 v1 v2 v3 v4).heap[k]? = w.heap[k]? := by
 unfold fill5
 rw [Below.heap_setCell _ ⟨X, 4, none⟩ _ k hk, Below.heap_setCell _ ⟨X, 3, none⟩ _ k hk, Below.heap_setCell _ ⟨X, 2, none⟩ _ k hk, Below.heap_setCell _ ⟨X, 1, none⟩ _ k hk, Below.heap_setCell _ ⟨X, 0, none⟩ _ k hk]
theorem fill5_self {w : World} {X : Nat} {c0 c1 c2 c3 c4 : Value} {T : TypeId} (v0 v1 v2 v3 v4 : Value) (h : w.heap[X]? = some (.cells #[c0, c1, c2, c3, c4] T (0, 0))) : (fill5 w X v0 v1 v2 v3 v4).heap[X]? = some (.cells #[v0, v1, v2, v3, v4] T (0, 0)) := by
 unfold fill5
 have := Lib.heap_setCell_same (i := 4) (Lib.heap_setCell_same (i := 3) (Lib.heap_setCell_same (i := 2) (Lib.heap_setCell_same (i := 1) (Lib.heap_setCell_same (i := 0) h v0) v1) v2) v3) v4
 rw [this]; rfl
theorem fill5_away {bs : List Nat} {a w : World} {X : Nat} (h : Away bs a w) (hX : a.heap.size <= X) (v0 v1 v2 v3 v4 : Value) : Away bs a (fill5 w X v0 v1 v2 v3 v4) :=
 ((((h.setCell (p := ⟨X, 0, none⟩) (.inr hX) v0).setCell (p := ⟨X, 1, none⟩) (.inr hX) v1).setCell (p := ⟨X, 2, none⟩) (.inr hX) v2).setCell (p := ⟨X, 3, none⟩) (.inr hX) v3).setCell (p := ⟨X, 4, none⟩) (.inr hX) v4
theorem fill5_size (w : World) (X : Nat) (a b c d e : Value) : (fill5 w X a b c d e).heap.size = w.heap.size := by unfold fill5; simp [World.setCell]
theorem set_other (w : World) (R i : Nat) (v : Value) : ∀ j, j ≠ R -> (w.setCell ⟨R, i, none⟩ v).heap[j]? = w.heap[j]? := fun _j hj => Below.heap_setCell _ _ _ _ hj
theorem set_size (w : World) (R i : Nat) (v : Value) : w.heap.size <= (w.setCell ⟨R, i, none⟩ v).heap.size := by simp [World.setCell]
def hAgg (h : HeadV) : Value := .agg #[I h.p.st, I h.p.al, I h.p.oc, .bool h.tied, I h.sh]
theorem Tryz.sizeHead : (Tryz.prog.info? 80).map (·.size) = some 5 := by kernel_rfl
def zHead : Obj := .cells #[I 0, I 0, I 0, .bool false, I 0] 80
section
variable {W0 : World} {T : List Tok} {X : Nat} {free : Bool} {lv iv : Value} {st : Stt} {w : World}
theorem mhead_s (h : MS T X free lv iv st w) (B : Bas W0 [X] w) : Calls Tryz.prog 28 #[.pointer (some ⟨X, 0, none⟩)] w fun r w' => r = .returned (hAgg (headF theO T st).1) /\ MS T X free lv iv (headF theO T st).2 w' /\ Away [X] w w' := by
 have hXl := h.lt
 have hR := heap_alloc_new w (.cells #[I 0, I 0, I 0, .bool false, I 0] 80)
 have b0 := (Below.refl _ w).alloc (Nat.le_refl _) (.cells #[I 0, I 0, I 0, .bool false, I 0] 80)
 have hRl := heap_lt hR
 have hx1 := mpitch_s (h.step b0) (B.step b0)
 have hel := fun (s1 : Stt) (w1 w2 : World) (h1 : MS T X free lv iv s1 w1) (R : Nat) => h1.else (w' := w2) (R := R) h
 have hh : headF theO T st = if isS T ⟨#[33]⟩ (accS T ⟨#[126]⟩ (pitchF theO T st).2) = true then (⟨(pitchF theO T st).1, isS T ⟨#[126]⟩ (pitchF theO T st).2, 1⟩, accS T ⟨#[33]⟩ (accS T ⟨#[126]⟩ (pitchF theO T st).2))
   else if isS T ⟨#[63]⟩ (accS T ⟨#[126]⟩ (pitchF theO T st).2) = true then (⟨(pitchF theO T st).1, isS T ⟨#[126]⟩ (pitchF theO T st).2, 2⟩, accS T ⟨#[63]⟩ (accS T ⟨#[126]⟩ (pitchF theO T st).2))
   else (⟨(pitchF theO T st).1, isS T ⟨#[126]⟩ (pitchF theO T st).2, 0⟩, accS T ⟨#[126]⟩ (pitchF theO T st).2) := by
  unfold headF
  simp only
  split
  ·rename_i h1; rw [show accS T ⟨#[33]⟩ (accS T ⟨#[126]⟩ (pitchF theO T st).2) = (accS T ⟨#[126]⟩ (pitchF theO T st).2).next 1 from if_pos h1]
  ·split
   ·rename_i h1; rw [show accS T ⟨#[63]⟩ (accS T ⟨#[126]⟩ (pitchF theO T st).2) = (accS T ⟨#[126]⟩ (pitchF theO T st).2).next 1 from if_pos h1]
   ·rfl
 rw [hh]
 clear hh
 generalize pitchF theO T st = q1 at hx1 ⊢
 obtain ⟨⟨ps, pa, po⟩, s1⟩ := q1
 simp only [pAgg] at hx1 ⊢
 have c2 := fun w' (h : MS T X free lv iv s1 w') => maccept_s h ⟨#[126]⟩
 generalize accS T ⟨#[126]⟩ s1 = s2 at c2 ⊢
 generalize isS T ⟨#[126]⟩ s1 = td at c2 ⊢
 have c3 := fun w' (h : MS T X free lv iv s2 w') => maccept_s h ⟨#[33]⟩
 have c4 := fun w' (h : MS T X free lv iv s2 w') => maccept_s h ⟨#[63]⟩
 have e3 : isS T ⟨#[33]⟩ s2 = false -> accS T ⟨#[33]⟩ s2 = s2 := fun h => if_neg (by rw [h]; decide)
 have e4 : isS T ⟨#[63]⟩ s2 = false -> accS T ⟨#[63]⟩ s2 = s2 := fun h => if_neg (by rw [h]; decide)
 generalize accS T ⟨#[33]⟩ s2 = s3 at c3 e3 ⊢
 generalize accS T ⟨#[63]⟩ s2 = s4 at c4 e4 ⊢
 generalize isS T ⟨#[33]⟩ s2 = b3 at c3 e3 ⊢
 generalize isS T ⟨#[63]⟩ s2 = b4 at c4 e4 ⊢
 cases b3 with
 | true =>
  rw [if_pos rfl]
  simp only [hAgg]
  go_enter Tryz.func28, Tryz.ntmps28
  go_wp2_with (go_at_call 65; refine hx1.mono ?_)
  intro r w1; first | (intro he hS1 a1; subst he) | rintro ⟨rfl, hS1, a1⟩
  have hR1 := a1.at hR (by simp; omega)
  have a01 := (Away.of_below (bs := [X]) b0).trans a1
  have bq := (Below.refl _ w1).alloc (Nat.le_refl _) (.cells #[I ps, I pa, I po, .bool false, I 0] 80)
  have hQ1 := heap_alloc_new w1 (.cells #[I ps, I pa, I po, .bool false, I 0] 80)
  have hR1' := (bq.block _ (heap_lt hR1)).trans hR1
  have hx2 := c2 _ (hS1.step bq)
  have hw1 := a01.size
  have hs1 := a1.size
  clear hx1 c2
  go_wp2_with (go_at_call 24; refine hx2.mono ?_)
  intro r w2; first | (intro he hS2 a2; subst he) | rintro ⟨rfl, hS2, a2⟩
  have hR2 := a2.at hR1' (by simp; omega)
  have hQ2 := a2.at hQ1 (by simp; omega)
  have a02 := (a01.trans (Away.of_below bq)).trans a2
  generalize hQQ : w1.heap.size = Q at hQ1 hQ2 hw1 hs1 ⊢
  generalize hRR : w.heap.size = R at hR hR1 hR1' hR2 hRl hw1 hs1 ⊢
  have hQR : Q ≠ R := by omega
  obtain ⟨⟨q0, q1, q2, q3, q4⟩, f0, f1, f2, f3, f4⟩ := five_cells hQ2
  have hS3 := hel _ w2 (w2.setCell ⟨Q, 3, none⟩ (.bool td)) hS2 Q (by omega) (set_size _ _ _ _) (set_other _ _ _ _)
  have hQ3 : (w2.setCell ⟨Q, 3, none⟩ (.bool td)).heap[Q]? = _ := Lib.heap_setCell_same hQ2 _
  have hR3 : (w2.setCell ⟨Q, 3, none⟩ (.bool td)).heap[R]? = _ := (set_other w2 Q 3 (.bool td) R hQR.symm).trans hR2
  have a03 := a02.setCell (p := ⟨Q, 3, none⟩) (.inr (by show w.heap.size <= Q; omega)) (.bool td)
  have hx3 := c3 _ hS3
  clear hx2 c3
  go_wp2_with (go_at_call 24; refine hx3.mono ?_)
  intro r w4; first | (intro he hS4 a4; subst he) | rintro ⟨rfl, hS4, a4⟩
  have hR4 := a4.at hR3 (by simp; omega)
  have hQ4 := a4.at hQ3 (by simp; omega)
  have a04 := a03.trans a4
  clear hx3 hS3
  have hQ6 : (w4.setCell ⟨Q, 4, none⟩ (I 1)).heap[Q]? = _ := Lib.heap_setCell_same hQ4 _
  have hR6 : (w4.setCell ⟨Q, 4, none⟩ (I 1)).heap[R]? = _ := (set_other w4 Q 4 (I 1) R hQR.symm).trans hR4
  have hS6 := hel _ w4 (w4.setCell ⟨Q, 4, none⟩ (I 1)) hS4 Q (by omega) (set_size _ _ _ _) (set_other _ _ _ _)
  have a06 := a04.setCell (p := ⟨Q, 4, none⟩) (.inr (by show w.heap.size <= Q; omega)) (I 1)
  obtain ⟨⟨r0, r1, r2, r3, r4⟩, g0, g1, g2, g3, g4⟩ := five_cells hR4
  obtain ⟨⟨q0, q1, q2, q3, q4⟩, f0, f1, f2, f3, f4⟩ := five_cells hQ4
  have hR7 := fill5_self (I ps) (I pa) (I po) (.bool td) (I 1) hR6
  have hS7 := hel _ _ (fill5 (w4.setCell ⟨Q, 4, none⟩ (I 1)) R (I ps) (I pa) (I po) (.bool td) (I 1)) hS6 R (Nat.le_of_eq hRR) (Nat.le_of_eq (fill5_size _ _ _ _ _ _ _).symm) (fun j hj => fill5_other _ _ _ _ _ _ _ j hj)
  have a7 := fill5_away a06 (Nat.le_of_eq hRR) (I ps) (I pa) (I po) (.bool td) (I 1)
  clear hel
  unfold fill5 at hR7 hS7 a7
  go_wp2
  refine bodyPost_ret (results_cell_row rfl _ _ R 80 _ (0, 0) _ rfl hR7 Tryz.underlying80 rfl Tryz.sizeHead) rfl ?_
  exact ⟨rfl, hS7, a7⟩
 | false =>
  rw [if_neg (by decide)]
  obtain rfl := e3 rfl
  cases b4 with
  | true =>
   rw [if_pos rfl]
   simp only [hAgg]
   go_enter Tryz.func28, Tryz.ntmps28
   go_wp2_with (go_at_call 65; refine hx1.mono ?_)
   intro r w1; first | (intro he hS1 a1; subst he) | rintro ⟨rfl, hS1, a1⟩
   have hR1 := a1.at hR (by simp; omega)
   have a01 := (Away.of_below (bs := [X]) b0).trans a1
   have bq := (Below.refl _ w1).alloc (Nat.le_refl _) (.cells #[I ps, I pa, I po, .bool false, I 0] 80)
   have hQ1 := heap_alloc_new w1 (.cells #[I ps, I pa, I po, .bool false, I 0] 80)
   have hR1' := (bq.block _ (heap_lt hR1)).trans hR1
   have hx2 := c2 _ (hS1.step bq)
   have hw1 := a01.size
   have hs1 := a1.size
   clear hx1 c2
   go_wp2_with (go_at_call 24; refine hx2.mono ?_)
   intro r w2; first | (intro he hS2 a2; subst he) | rintro ⟨rfl, hS2, a2⟩
   have hR2 := a2.at hR1' (by simp; omega)
   have hQ2 := a2.at hQ1 (by simp; omega)
   have a02 := (a01.trans (Away.of_below bq)).trans a2
   generalize hQQ : w1.heap.size = Q at hQ1 hQ2 hw1 hs1 ⊢
   generalize hRR : w.heap.size = R at hR hR1 hR1' hR2 hRl hw1 hs1 ⊢
   have hQR : Q ≠ R := by omega
   obtain ⟨⟨q0, q1, q2, q3, q4⟩, f0, f1, f2, f3, f4⟩ := five_cells hQ2
   have hS3 := hel _ w2 (w2.setCell ⟨Q, 3, none⟩ (.bool td)) hS2 Q (by omega) (set_size _ _ _ _) (set_other _ _ _ _)
   have hQ3 : (w2.setCell ⟨Q, 3, none⟩ (.bool td)).heap[Q]? = _ := Lib.heap_setCell_same hQ2 _
   have hR3 : (w2.setCell ⟨Q, 3, none⟩ (.bool td)).heap[R]? = _ := (set_other w2 Q 3 (.bool td) R hQR.symm).trans hR2
   have a03 := a02.setCell (p := ⟨Q, 3, none⟩) (.inr (by show w.heap.size <= Q; omega)) (.bool td)
   have hx3 := c3 _ hS3
   clear hx2 c3
   go_wp2_with (go_at_call 24; refine hx3.mono ?_)
   intro r w4; first | (intro he hS4 a4; subst he) | rintro ⟨rfl, hS4, a4⟩
   have hR4 := a4.at hR3 (by simp; omega)
   have hQ4 := a4.at hQ3 (by simp; omega)
   have a04 := a03.trans a4
   clear hx3 hS3
   have hx4 := c4 _ hS4
   clear c4
   go_wp2_with (go_at_call 24; refine hx4.mono ?_)
   intro r w5; first | (intro he hS5 a5; subst he) | rintro ⟨rfl, hS5, a5⟩
   have hR5 := a5.at hR4 (by simp; omega)
   have hQ5 := a5.at hQ4 (by simp; omega)
   have a05 := a04.trans a5
   clear hx4
   have hQ6 : (w5.setCell ⟨Q, 4, none⟩ (I 2)).heap[Q]? = _ := Lib.heap_setCell_same hQ5 _
   have hR6 : (w5.setCell ⟨Q, 4, none⟩ (I 2)).heap[R]? = _ := (set_other w5 Q 4 (I 2) R hQR.symm).trans hR5
   have hS6 := hel _ w5 (w5.setCell ⟨Q, 4, none⟩ (I 2)) hS5 Q (by omega) (set_size _ _ _ _) (set_other _ _ _ _)
   have a06 := a05.setCell (p := ⟨Q, 4, none⟩) (.inr (by show w.heap.size <= Q; omega)) (I 2)
   obtain ⟨⟨r0, r1, r2, r3, r4⟩, g0, g1, g2, g3, g4⟩ := five_cells hR5
   obtain ⟨⟨q0, q1, q2, q3, q4⟩, f0, f1, f2, f3, f4⟩ := five_cells hQ5
   have hR7 := fill5_self (I ps) (I pa) (I po) (.bool td) (I 2) hR6
   have hS7 := hel _ _ (fill5 (w5.setCell ⟨Q, 4, none⟩ (I 2)) R (I ps) (I pa) (I po) (.bool td) (I 2)) hS6 R (Nat.le_of_eq hRR) (Nat.le_of_eq (fill5_size _ _ _ _ _ _ _).symm) (fun j hj => fill5_other _ _ _ _ _ _ _ j hj)
   have a7 := fill5_away a06 (Nat.le_of_eq hRR) (I ps) (I pa) (I po) (.bool td) (I 2)
   clear hel
   unfold fill5 at hR7 hS7 a7
   go_wp2
   refine bodyPost_ret (results_cell_row rfl _ _ R 80 _ (0, 0) _ rfl hR7 Tryz.underlying80 rfl Tryz.sizeHead) rfl ?_
   exact ⟨rfl, hS7, a7⟩
  | false =>
   rw [if_neg (by decide)]
   obtain rfl := e4 rfl
   simp only [hAgg]
   go_enter Tryz.func28, Tryz.ntmps28
   go_wp2_with (go_at_call 65; refine hx1.mono ?_)
   intro r w1; first | (intro he hS1 a1; subst he) | rintro ⟨rfl, hS1, a1⟩
   have hR1 := a1.at hR (by simp; omega)
   have a01 := (Away.of_below (bs := [X]) b0).trans a1
   have bq := (Below.refl _ w1).alloc (Nat.le_refl _) (.cells #[I ps, I pa, I po, .bool false, I 0] 80)
   have hQ1 := heap_alloc_new w1 (.cells #[I ps, I pa, I po, .bool false, I 0] 80)
   have hR1' := (bq.block _ (heap_lt hR1)).trans hR1
   have hx2 := c2 _ (hS1.step bq)
   have hw1 := a01.size
   have hs1 := a1.size
   clear hx1 c2
   go_wp2_with (go_at_call 24; refine hx2.mono ?_)
   intro r w2; first | (intro he hS2 a2; subst he) | rintro ⟨rfl, hS2, a2⟩
   have hR2 := a2.at hR1' (by simp; omega)
   have hQ2 := a2.at hQ1 (by simp; omega)
   have a02 := (a01.trans (Away.of_below bq)).trans a2
   generalize hQQ : w1.heap.size = Q at hQ1 hQ2 hw1 hs1 ⊢
   generalize hRR : w.heap.size = R at hR hR1 hR1' hR2 hRl hw1 hs1 ⊢
   have hQR : Q ≠ R := by omega
   obtain ⟨⟨q0, q1, q2, q3, q4⟩, f0, f1, f2, f3, f4⟩ := five_cells hQ2
   have hS3 := hel _ w2 (w2.setCell ⟨Q, 3, none⟩ (.bool td)) hS2 Q (by omega) (set_size _ _ _ _) (set_other _ _ _ _)
   have hQ3 : (w2.setCell ⟨Q, 3, none⟩ (.bool td)).heap[Q]? = _ := Lib.heap_setCell_same hQ2 _
   have hR3 : (w2.setCell ⟨Q, 3, none⟩ (.bool td)).heap[R]? = _ := (set_other w2 Q 3 (.bool td) R hQR.symm).trans hR2
   have a03 := a02.setCell (p := ⟨Q, 3, none⟩) (.inr (by show w.heap.size <= Q; omega)) (.bool td)
   have hx3 := c3 _ hS3
   clear hx2 c3
   go_wp2_with (go_at_call 24; refine hx3.mono ?_)
   intro r w4; first | (intro he hS4 a4; subst he) | rintro ⟨rfl, hS4, a4⟩
   have hR4 := a4.at hR3 (by simp; omega)
   have hQ4 := a4.at hQ3 (by simp; omega)
   have a04 := a03.trans a4
   clear hx3 hS3
   have hx4 := c4 _ hS4
   clear c4
   go_wp2_with (go_at_call 24; refine hx4.mono ?_)
   intro r w5; first | (intro he hS5 a5; subst he) | rintro ⟨rfl, hS5, a5⟩
   have hR5 := a5.at hR4 (by simp; omega)
   have hQ5 := a5.at hQ4 (by simp; omega)
   have a05 := a04.trans a5
   clear hx4
   obtain ⟨⟨r0, r1, r2, r3, r4⟩, g0, g1, g2, g3, g4⟩ := five_cells hR5
   obtain ⟨⟨q0, q1, q2, q3, q4⟩, f0, f1, f2, f3, f4⟩ := five_cells hQ5
   have hR7 := fill5_self (I ps) (I pa) (I po) (.bool td) (I 0) hR5
   have hS7 := hel _ _ (fill5 w5 R (I ps) (I pa) (I po) (.bool td) (I 0)) hS5 R (Nat.le_of_eq hRR) (Nat.le_of_eq (fill5_size _ _ _ _ _ _ _).symm) (fun j hj => fill5_other _ _ _ _ _ _ _ j hj)
   have a7 := fill5_away a05 (Nat.le_of_eq hRR) (I ps) (I pa) (I po) (.bool td) (I 0)
   clear hel
   unfold fill5 at hR7 hS7 a7
   go_wp2
   refine bodyPost_ret (results_cell_row rfl _ _ R 80 _ (0, 0) _ rfl hR7 Tryz.underlying80 rfl Tryz.sizeHead) rfl ?_
   exact ⟨rfl, hS7, a7⟩
end
end Go.Proofs.YtgkhemnmcgicnaaGreatDoor
