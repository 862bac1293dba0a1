/- Towards the law ParserVoices, true for every text (no condition): one part of the proof. -/
import Derived.Test.YtgkhemnmcgicnaaGreatDoorG01
import Derived.Test.YtgkhemnmcgicnaaGreatDoorG04
import Derived.Test.YtgkhemnmcgicnaaGreatDoorProg
import Derived.Lib.Strings
import Derived.Lib.Slices
import Derived.Lib.Walk
import Derived.Lib.Builder
import Derived.Lib.AppendStr
import Derived.Lib.UnsafeStr
import Derived.Lib.MakeNoZero
import Derived.WalkKit
import Derived.Laws.Externs
import Derived.Laws.IdiomCopy
import Derived.Laws.BitsLemmas
import Derived.Test.YtgkhemnmcgicnaaGreatDoorG02
import Derived.Deep.LoopGhost
namespace Go.Proofs.YtgkhemnmcgicnaaGreatDoor
set_option maxHeartbeats 8000000
set_option maxRecDepth 100000
open Go.RowKit
section
variable {X Bx Bj K : Nat} {j : Bool} {w : World} {Q : World -> Prop}
theorem RL (p : Nat) (hp : p < 4) (hK : w.heap[K]? = some eZ) (hx : w.cell? ⟨Bx, 0, none⟩ = some (.pointer (some ⟨X, 0, none⟩))) (hj : w.cell? ⟨Bj, 0, none⟩ = some (.bool j))
  (hmiss : ∀ i, i < p -> yT (81 + i) X j w) (hhit : YQ (81 + p) X j w Q) :
  Calls Tryz.prog 130 #[.slice (some ⟨K, 0, none⟩) 4 4, .func (.func 89) #[] #[.pointer (some ⟨Bx, 0, none⟩), .pointer (some ⟨Bj, 0, none⟩)]] w fun r w' => r = .returned (I p) /\ Q w' := by
 have lK := (qd.1 hK).1
 have lx := ql w _ hx
 have lj := ql w _ hj
 simp only at lx lj
 go_enter Tryz.func130, Tryz.ntmps130
 go_wp2
 go_loopw [8] (fun v wr => ∃ i : Nat, i <= p /\ v = I i /\ Below w.heap.size w wr) (fun v _ => p - (intOf v).toNat)
 case atStart => exact ⟨0, qn _, rfl, qa _ _⟩
 case round =>
  obtain ⟨i, hi, rfl, hb⟩ := hrel
  have hK1 := (hb.block K lK).trans hK
  have hx1 := (hb.cell (p := ⟨Bx, 0, none⟩) lx).trans hx
  have hj1 := (hb.cell (p := ⟨Bj, 0, none⟩) lj).trans hj
  have q0 : wr.cell? ⟨K, 0, none⟩ = some (.func (.func 81) #[] #[]) := by rw [Lib.cell_of_heap hK1]; rfl
  have q1 : wr.cell? ⟨K, 1, none⟩ = some (.func (.func 82) #[] #[]) := by rw [Lib.cell_of_heap hK1]; rfl
  have q2 : wr.cell? ⟨K, 2, none⟩ = some (.func (.func 83) #[] #[]) := by rw [Lib.cell_of_heap hK1]; rfl
  have q3 : wr.cell? ⟨K, 3, none⟩ = some (.func (.func 84) #[] #[]) := by rw [Lib.cell_of_heap hK1]; rfl
  by_cases hlt : i < p
  ·have hm := hmiss i hlt wr hb
   have hi3 : i = 0 \/ i = 1 \/ i = 2 := by omega
   rcases hi3 with rfl | rfl | rfl
   ·have ht := iP 81 X Bx Bj j false wr hx1 hj1 _ hm (by decide)
    go_wp2_with (go_at_call 89; refine ht.mono ?_)
    rintro e w' ⟨rfl, b'⟩
    go_wp2
    go_roundw
    case rel => exact ⟨1, by omega, rfl, hb.trans (b'.mono hb.size)⟩
    case measure => simp [intOf]; omega
   ·have ht := iP 82 X Bx Bj j false wr hx1 hj1 _ hm (by decide)
    go_wp2_with (go_at_call 89; refine ht.mono ?_)
    rintro e w' ⟨rfl, b'⟩
    go_wp2
    go_roundw
    case rel => exact ⟨2, by omega, rfl, hb.trans (b'.mono hb.size)⟩
    case measure => simp [intOf]; omega
   ·have ht := iP 83 X Bx Bj j false wr hx1 hj1 _ hm (by decide)
    go_wp2_with (go_at_call 89; refine ht.mono ?_)
    rintro e w' ⟨rfl, b'⟩
    go_wp2
    go_roundw
    case rel => exact ⟨3, by omega, rfl, hb.trans (b'.mono hb.size)⟩
    case measure => simp [intOf]; omega
  ·obtain rfl : i = p := by omega
   have hm := hhit wr hb
   have hi3 : i = 0 \/ i = 1 \/ i = 2 \/ i = 3 := by omega
   rcases hi3 with rfl | rfl | rfl | rfl
   ·have ht := iP 81 X Bx Bj j true wr hx1 hj1 _ hm (by decide)
    go_wp2_with (go_at_call 89; refine ht.mono ?_)
    rintro e w' ⟨rfl, hQ⟩
    go_wp2
    go_ret
    exact ⟨rfl, hQ⟩
   ·have ht := iP 82 X Bx Bj j true wr hx1 hj1 _ hm (by decide)
    go_wp2_with (go_at_call 89; refine ht.mono ?_)
    rintro e w' ⟨rfl, hQ⟩
    go_wp2
    go_ret
    exact ⟨rfl, hQ⟩
   ·have ht := iP 83 X Bx Bj j true wr hx1 hj1 _ hm (by decide)
    go_wp2_with (go_at_call 89; refine ht.mono ?_)
    rintro e w' ⟨rfl, hQ⟩
    go_wp2
    go_ret
    exact ⟨rfl, hQ⟩
   ·have ht := iP 84 X Bx Bj j true wr hx1 hj1 _ hm (by decide)
    go_wp2_with (go_at_call 89; refine ht.mono ?_)
    rintro e w' ⟨rfl, hQ⟩
    go_wp2
    go_ret
    exact ⟨rfl, hQ⟩
theorem NQ (p : Nat) (hp : p < 4) (hK : w.heap[K]? = some eZ) (hx : w.cell? ⟨Bx, 0, none⟩ = some (.pointer (some ⟨X, 0, none⟩))) (hj : w.cell? ⟨Bj, 0, none⟩ = some (.bool j))
  (hmiss : ∀ i, i < p -> yT (81 + i) X j w) (hhit : YQ (81 + p) X j w Q) :
  Calls Tryz.prog 88 #[.slice (some ⟨K, 0, none⟩) 4 4, .func (.func 89) #[] #[.pointer (some ⟨Bx, 0, none⟩), .pointer (some ⟨Bj, 0, none⟩)]] w fun r w' => r = .returned (.bool true) /\ Q w' := by
 have hf := RL p hp hK hx hj hmiss hhit
 have hp0 : (0 : Int) <= (p : Int) := by omega
 clear hmiss hhit hK hx hj
 go_enter Tryz.func88, Tryz.ntmps88
 go_wp2_with (go_at_call 130; refine hf.mono ?_)
 rintro e w' ⟨rfl, hQ⟩
 go_wp2
 go_ret
 refine ⟨?_, hQ⟩
 first | rfl | simp
end
section
variable {B X : Nat} {ks : List (Nat × Obj)} {s : ByteArray} {lv : Value} {n : Nat} {xs : List Value} {wr : Int} {w0 w : World} {LN : Value} {ls : List Int}
theorem RV {a : Nat} (h : gG B X ks s LN a lv n xs 0 wr w0 w) (hL : hG LN ls ks) (gL : oL ls) (hsz : s.size <= 1048576) (hn : n <= 1048576) (ha : a < s.size) (hc : eP s[a].toNat = true) (b : Nat) (hu : xD iQ s a b) (hlen : a + 64 < b) (j : Bool) :
  Calls Tryz.prog 81 #[.pointer (some ⟨X, 0, none⟩), .bool j] w fun r w' => r = .returned (.bool true) /\
   ∃ lv' xs', gG B X ks s LN b lv' (n + 1) xs' 5 a w0 w' := by
 have c0 := h.c0
 have c1 := h.c1
 have hab := hu.ab
 have hbs := hu.bs
 have ha0 : (0 : Int) <= (a : Int) := by omega
 have ha' : (a : Int) < s.size := by omega
 have h64 : (64 : Int) < (b : Int) - a := by omega
 have hw1 : IntKind.i64.wrap ((b : Int) - a) = (b : Int) - a := IntWalk.i64_in _ (by omega)
 go_enter Tryz.func81, Tryz.ntmps81
 go_wp2
 go_quiet ((go_at_call 117; refine Calls.quiet_of_same (mZ s[a].toNat _ hc)))
 have hm := h.step (cD (qa _ _) nq)
 generalize w.drewN nq = W at hm |-
 have d0 := hm.c0
 have d1 := hm.c1
 clear c0 c1 h
 go_wp2_with (first
  | (go_at_call 118; refine (C2 X s a b _ d0 hsz hu).mono ?_; rintro e w2 ⟨rfl, rfl⟩)
  | (go_at_call 87; refine (lD hm a 5).mono ?_))
 rintro e w3 ⟨rfl, hS⟩
 go_wp2_with (first
  | (go_at_call 86; refine (pP hS hL gL hsz hn b hab hbs 1 0 ByteArray.empty j).mono ?_))
 rintro e w4 ⟨rfl, lv', hS4⟩
 go_wp2
 go_ret
 exact ⟨rfl, lv', _, hS4⟩
theorem LJ {a : Nat} (h : gG B X ks s LN a lv n xs 0 wr w0 w) (ha : a < s.size) (hc : Lib.indexByte jM s[a].toNat.toUInt8 = -1) (j : Bool) :
  Calls Tryz.prog 84 #[.pointer (some ⟨X, 0, none⟩), .bool j] w fun r w' => r = .returned (.bool false) /\ Below w.heap.size w w' := by
 have c0 := h.c0
 have c1 := h.c1
 clear h
 have ha0 : (0 : Int) <= (a : Int) := by omega
 have ha' : (a : Int) < s.size := by omega
 have hcz := AH s[a].toNat s[a].toNat_lt (-1) hc
 go_enter Tryz.func84, Tryz.ntmps84
 go_wp2
 go_quiet ((go_at_call 127; refine Calls.quiet_of_same (hcz _)))
 go_wp2
 go_ret
 exact ⟨rfl, cD (qa _ _) _⟩
end
section
variable {X Bx Bj K : Nat} {j : Bool} {w : World}
theorem RW (hK : w.heap[K]? = some eZ) (hx : w.cell? ⟨Bx, 0, none⟩ = some (.pointer (some ⟨X, 0, none⟩))) (hj : w.cell? ⟨Bj, 0, none⟩ = some (.bool j))
  (hmiss : ∀ i, i < 4 -> yT (81 + i) X j w) :
  Calls Tryz.prog 130 #[.slice (some ⟨K, 0, none⟩) 4 4, .func (.func 89) #[] #[.pointer (some ⟨Bx, 0, none⟩), .pointer (some ⟨Bj, 0, none⟩)]] w fun r w' => r = .returned (I (-1)) /\ Below w.heap.size w w' := by
 have lK := (qd.1 hK).1
 have lx := ql w _ hx
 have lj := ql w _ hj
 simp only at lx lj
 go_enter Tryz.func130, Tryz.ntmps130
 go_wp2
 go_loopw [8] (fun v wr => ∃ i : Nat, i <= 4 /\ v = I i /\ Below w.heap.size w wr) (fun v _ => 4 - (intOf v).toNat)
 case atStart => exact ⟨0, qn _, rfl, qa _ _⟩
 case round =>
  obtain ⟨i, hi, rfl, hb⟩ := hrel
  have hK1 := (hb.block K lK).trans hK
  have hx1 := (hb.cell (p := ⟨Bx, 0, none⟩) lx).trans hx
  have hj1 := (hb.cell (p := ⟨Bj, 0, none⟩) lj).trans hj
  have q0 : wr.cell? ⟨K, 0, none⟩ = some (.func (.func 81) #[] #[]) := by rw [Lib.cell_of_heap hK1]; rfl
  have q1 : wr.cell? ⟨K, 1, none⟩ = some (.func (.func 82) #[] #[]) := by rw [Lib.cell_of_heap hK1]; rfl
  have q2 : wr.cell? ⟨K, 2, none⟩ = some (.func (.func 83) #[] #[]) := by rw [Lib.cell_of_heap hK1]; rfl
  have q3 : wr.cell? ⟨K, 3, none⟩ = some (.func (.func 84) #[] #[]) := by rw [Lib.cell_of_heap hK1]; rfl
  have hi3 : i = 0 \/ i = 1 \/ i = 2 \/ i = 3 \/ i = 4 := by omega
  rcases hi3 with rfl | rfl | rfl | rfl | rfl
  ·have ht := iP 81 X Bx Bj j false wr hx1 hj1 _ (hmiss 0 (by omega) wr hb) (by decide)
   go_wp2_with (go_at_call 89; refine ht.mono ?_)
   rintro e w' ⟨rfl, b'⟩
   go_wp2
   go_roundw
   case rel => exact ⟨1, by omega, rfl, hb.trans (b'.mono hb.size)⟩
   case measure => simp [intOf]
  ·have ht := iP 82 X Bx Bj j false wr hx1 hj1 _ (hmiss 1 (by omega) wr hb) (by decide)
   go_wp2_with (go_at_call 89; refine ht.mono ?_)
   rintro e w' ⟨rfl, b'⟩
   go_wp2
   go_roundw
   case rel => exact ⟨2, by omega, rfl, hb.trans (b'.mono hb.size)⟩
   case measure => simp [intOf]
  ·have ht := iP 83 X Bx Bj j false wr hx1 hj1 _ (hmiss 2 (by omega) wr hb) (by decide)
   go_wp2_with (go_at_call 89; refine ht.mono ?_)
   rintro e w' ⟨rfl, b'⟩
   go_wp2
   go_roundw
   case rel => exact ⟨3, by omega, rfl, hb.trans (b'.mono hb.size)⟩
   case measure => simp [intOf]
  ·have ht := iP 84 X Bx Bj j false wr hx1 hj1 _ (hmiss 3 (by omega) wr hb) (by decide)
   go_wp2_with (go_at_call 89; refine ht.mono ?_)
   rintro e w' ⟨rfl, b'⟩
   go_wp2
   go_roundw
   case rel => exact ⟨4, by omega, rfl, hb.trans (b'.mono hb.size)⟩
   case measure => simp [intOf]
  ·go_wp2
   go_ret
   exact ⟨rfl, hb⟩
theorem NW (hK : w.heap[K]? = some eZ) (hx : w.cell? ⟨Bx, 0, none⟩ = some (.pointer (some ⟨X, 0, none⟩))) (hj : w.cell? ⟨Bj, 0, none⟩ = some (.bool j))
  (hmiss : ∀ i, i < 4 -> yT (81 + i) X j w) :
  Calls Tryz.prog 88 #[.slice (some ⟨K, 0, none⟩) 4 4, .func (.func 89) #[] #[.pointer (some ⟨Bx, 0, none⟩), .pointer (some ⟨Bj, 0, none⟩)]] w fun r w' => r = .returned (.bool false) /\ Below w.heap.size w w' := by
 have hf := RW hK hx hj hmiss
 clear hmiss hK hx hj
 go_enter Tryz.func88, Tryz.ntmps88
 go_wp2_with (go_at_call 130; refine hf.mono ?_)
 rintro e w' ⟨rfl, hQ⟩
 go_wp2
 go_ret
 refine ⟨?_, hQ⟩
 first | rfl | simp
end
theorem PX : (Tryz.prog.info? 200).map (·.size) = some 2 := by kernel_rfl
theorem VZ : liesAt Tryz.prog Tryz.prog.depth 200 (2 / Tryz.prog.cellsOf 200) 0 200 1 = true := by kernel_rfl
theorem infoByte : (Tryz.prog.info? 5).map (fun i => (i.zero, i.size, i.bytes)) = some (some (.int .u8 0), 1, 1) := by kernel_rfl
theorem BQ (b : Nat) (w : World) (h0 : w.cell? ⟨b, 0, none⟩ = some (.pointer (some ⟨b, 0, none⟩))) :
  Calls Tryz.prog 155 #[.pointer (some ⟨b, 0, none⟩)] w fun e w' => e = .returned (.tuple #[]) /\ w' = w := by
 obtain ⟨j, hj, _⟩ := Option.map_eq_some_iff.1 PX
 go_enter Tryz.func155, Tryz.ntmps155
 go_wp2
 rw [Lib.run_neq_ptr_same w _ Tryz.underlying198 hj]
 go_wp2
 go_end0
 exact ⟨rfl, rfl⟩
theorem AU (b : Nat) (w : World) (h0 : w.cell? ⟨b, 0, none⟩ = some (.pointer none)) (hsh : w.shape? b = some (200, 2)) (hfz : w.frozen? ⟨b, 0, none⟩ = false) :
  Calls Tryz.prog 155 #[.pointer (some ⟨b, 0, none⟩)] w fun e w' => e = .returned (.tuple #[]) /\ w' = w.setCell ⟨b, 0, none⟩ (.pointer (some ⟨b, 0, none⟩)) := by
 obtain ⟨j, hj, hjs⟩ := Option.map_eq_some_iff.1 PX
 go_enter Tryz.func155, Tryz.ntmps155
 go_wp2
 rw [Lib.run_to_unsafe w ⟨b, 0, none⟩ Tryz.underlying198 Tryz.underlying256 hj (by rw [hjs]; decide) hsh (Nat.zero_lt_succ 1)]
 simp only [Result.andThen]
 rw [Oper.upon_value]
 go_wp2
 rw [run_callFunc_extern Tryz.func191 (by kernel_rfl) (by kernel_rfl) (by kernel_rfl) (e := Extern.AbiNoEscape.same) (by kernel_rfl)]
 rw [Lib.run_noEscape]
 simp only [Result.andThen]
 rw [Oper.upon_value]
 go_wp2
 rw [Lib.run_from_unsafe w ⟨b, 0, none⟩ Tryz.underlying256 Tryz.underlying198 hj hsh VZ]
 simp only [Result.andThen]
 rw [Oper.upon_value]
 go_wp2
 go_end0
 exact ⟨rfl, rfl⟩
theorem DS (B b : Nat) (bs : List Value) (w : World) (h : Lib.IsBuilder 200 5 B b bs w) :
  Calls Tryz.prog 155 #[.pointer (some ⟨b, 0, none⟩)] w fun e w' => e = .returned (.tuple #[]) /\ (Lib.BuilderAt 200 5 B b (.pointer (some ⟨b, 0, none⟩)) bs w' /\ Below B w w') := by
 rcases h with h | h
 ·refine (AU b w h.cell0 h.shape h.frozen0).mono ?_
  rintro e w' ⟨rfl, rfl⟩
  exact ⟨rfl, h.used _, (qa B w).setCell (p := ⟨b, 0, none⟩) h.1 _⟩
 ·refine (BQ b w h.cell0).mono ?_
  rintro e w' ⟨rfl, rfl⟩
  exact ⟨rfl, h, qa B _⟩
theorem xW (B b : Nat) (bs : List Value) (c : Int) (w : World) (h : Lib.IsBuilder 200 5 B b bs w) (hlen : bs.length + 1 <= 140737488355328) (hBw : B <= w.heap.size) :
  Calls Tryz.prog 125 #[.pointer (some ⟨b, 0, none⟩), .int .u8 c] w fun e w' => e = .returned .nilIface /\ (Lib.BuilderAt 200 5 B b (.pointer (some ⟨b, 0, none⟩)) (bs ++ [.int .u8 c]) w' /\ Below B w w') := by
 obtain ⟨i0, hi, hz0, hz1, hz2⟩ := info_parts infoByte
 go_enter Tryz.func125, Tryz.ntmps125
 go_wp2_with (go_at_call 155; refine (DS B b bs _ h).mono ?_)
 rintro e w1 ⟨rfl, h1, hb1⟩
 obtain ⟨hB, v, hbk, hown, hne⟩ := h1
 have c0 : w1.cell? ⟨b, 0, none⟩ = some (.pointer (some ⟨b, 0, none⟩)) := by rw [Lib.cell_of_heap hbk]; rfl
 have c1 : w1.cell? ⟨b, 1, none⟩ = some v := by rw [Lib.cell_of_heap hbk]; rfl
 go_wp2_with (at_builtin; refine wpList_append_own _ rfl _ _ 54 rfl B 5 i0 (.int .u8 0) 1 1 Tryz.underlying54 hi hz0 hz1 hz2 rfl (by decide) _ _ _ rfl (hown.alloc _) ⟨w1.heap.size, 0, none⟩ 1 1 [.int .u8 c] rfl rfl ?c1 ?c2 ?c3 ?c4 ?c5 ?_)
 case c1 =>
  intro j u hj
  match j, hj with
  | 0, hj => simp at hj; subst hj; simp [Addr.add]
 case c2 => intro u hu; simp at hu; subst hu; rfl
 case c3 => unfold maxLen; omega
 case c4 => omega
 case c5 => have := hb1.size; simp; omega
 intro v' w2 hown' hgrow _
 have hlt : b < w1.heap.size := by
  rcases Nat.lt_or_ge b w1.heap.size with h' | h'
  ·exact h'
  ·simp [Array.getElem?_eq_none h'] at hbk
 have hb2 : w2.heap[b]? = some (.cells #[.pointer (some ⟨b, 0, none⟩), v] 200 (0, 0)) := by
  rw [hgrow.block b (by simp; omega) (fun e => hne e.symm), Lib.alloc_old w1 _ b hlt]
  exact hbk
 have d0 : w2.cell? ⟨b, 0, none⟩ = some (.pointer (some ⟨b, 0, none⟩)) := by rw [Lib.cell_of_heap hb2]; rfl
 have d1 : w2.cell? ⟨b, 1, none⟩ = some v := by rw [Lib.cell_of_heap hb2]; rfl
 have f1 : w2.frozen? ⟨b, 1, none⟩ = false := Lib.frozen_of_heap hb2 1
 obtain ⟨g, cap, rfl⟩ : ∃ g cap, v' = .slice (some ⟨g, 0, none⟩) (bs.length + 1) cap := by
  rcases hown'.2 with ⟨_, h0⟩ | ⟨g, cap, cur, hv, _⟩
  ·omega
  ·exact ⟨g, cap, hv⟩
 go_wp2
 go_ret
 refine ⟨rfl, ?_, ?_⟩
 ·exact Lib.BuilderAt.put (T := 200) (e := 5) hB hb2 (bs' := bs ++ [.int .u8 c]) (by simpa using hown') (by decide)
 ·exact ((hb1.alloc (by have := hb1.size; omega) _).grown hgrow (by have := hb1.size; simp; omega) (fun k hk => (hown.lt k hk).1)).setCell (p := ⟨b, 1, none⟩) hB _
def KW (n : Nat) : UInt8 := if n < 10 then (48 + n).toUInt8 else (87 + n).toUInt8
def WL : ByteArray := ⟨#[48, 49, 50, 51, 52, 53, 54, 55, 56, 57, 97, 98, 99, 100, 101, 102]⟩
theorem NH (B b : Nat) (bs : List Value) (t : ByteArray) (w : World) (h : Lib.IsBuilder 200 5 B b bs w) (hlen : bs.length + 1 <= 140737488355328) (hBw : B <= w.heap.size) (ht : 0 < t.size) (v : Int)
  (hc : (((t[0].toNat : Nat) : Int) = 110 /\ v = 10) \/ (((t[0].toNat : Nat) : Int) = 116 /\ v = 9) \/ (((t[0].toNat : Nat) : Int) = 92 /\ v = 92) \/ (((t[0].toNat : Nat) : Int) = 34 /\ v = 34)) :
  Calls Tryz.prog 126 #[.string t, .pointer (some ⟨b, 0, none⟩)] w fun e w' => e = .returned (.tuple #[I 1, .bool false]) /\ (Lib.BuilderAt 200 5 B b (.pointer (some ⟨b, 0, none⟩)) (bs ++ [.int .u8 v]) w' /\ Below B w w') := by
 have hemp : t.toList.isEmpty = false := by
  rw [Go.ByteArray.toList_eq]
  have hl : t.data.toList.length = t.size := by simp
  cases e : t.data.toList with
  | nil => rw [e] at hl; simp at hl; omega
  | cons x r => rfl
 have ht' : (0 : Int) < (t.size : Int) := by omega
 have hi := Tryz.strings_IndexByte ⟨#[110, 116, 92, 34]⟩ ((t[0].toNat : Nat) : Int) w
 have hw := xW B b bs v w h hlen hBw
 rcases hc with ⟨hc, rfl⟩ | ⟨hc, rfl⟩ | ⟨hc, rfl⟩ | ⟨hc, rfl⟩
 all_goals rw [hc] at hi
 ·rw [show Lib.indexByte (⟨#[110, 116, 92, 34]⟩ : ByteArray).data.toList ((110 : Int).toNat.toUInt8) = 0 by decide] at hi
  go_enter Tryz.func126, Tryz.ntmps126
  go_wp2_with (first
   | (go_at_call 127; refine hi.mono ?_; rintro r w1 ⟨rfl, rfl⟩)
   | (go_at_call 125; refine hw.mono ?_))
  rintro e w2 ⟨rfl, h2, b2⟩
  go_wp2
  refine qf (qqg rfl _ _ _) rfl ?_
  exact ⟨rfl, h2, b2⟩
 ·rw [show Lib.indexByte (⟨#[110, 116, 92, 34]⟩ : ByteArray).data.toList ((116 : Int).toNat.toUInt8) = 1 by decide] at hi
  go_enter Tryz.func126, Tryz.ntmps126
  go_wp2_with (first
   | (go_at_call 127; refine hi.mono ?_; rintro r w1 ⟨rfl, rfl⟩)
   | (go_at_call 125; refine hw.mono ?_))
  rintro e w2 ⟨rfl, h2, b2⟩
  go_wp2
  refine qf (qqg rfl _ _ _) rfl ?_
  exact ⟨rfl, h2, b2⟩
 ·rw [show Lib.indexByte (⟨#[110, 116, 92, 34]⟩ : ByteArray).data.toList ((92 : Int).toNat.toUInt8) = 2 by decide] at hi
  go_enter Tryz.func126, Tryz.ntmps126
  go_wp2_with (first
   | (go_at_call 127; refine hi.mono ?_; rintro r w1 ⟨rfl, rfl⟩)
   | (go_at_call 125; refine hw.mono ?_))
  rintro e w2 ⟨rfl, h2, b2⟩
  go_wp2
  refine qf (qqg rfl _ _ _) rfl ?_
  exact ⟨rfl, h2, b2⟩
 ·rw [show Lib.indexByte (⟨#[110, 116, 92, 34]⟩ : ByteArray).data.toList ((34 : Int).toNat.toUInt8) = 3 by decide] at hi
  go_enter Tryz.func126, Tryz.ntmps126
  go_wp2_with (first
   | (go_at_call 127; refine hi.mono ?_; rintro r w1 ⟨rfl, rfl⟩)
   | (go_at_call 125; refine hw.mono ?_))
  rintro e w2 ⟨rfl, h2, b2⟩
  go_wp2
  refine qf (qqg rfl _ _ _) rfl ?_
  exact ⟨rfl, h2, b2⟩
theorem WM (h l : Nat) (hh : h < 16) (hl : l < 16) : IntKind.i64.wrap (16 * (h : Int)) = 16 * (h : Int) /\ IntKind.i64.wrap (16 * (h : Int) + l) = 16 * (h : Int) + l /\ IntKind.u8.wrap (16 * (h : Int) + l) = 16 * (h : Int) + l :=
 ⟨IntWalk.i64_in _ (by omega), IntWalk.i64_in _ (by omega), IntWalk.u8_in _ (by omega)⟩
end Go.Proofs.YtgkhemnmcgicnaaGreatDoor
