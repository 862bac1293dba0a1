/- Towards the law ParserEvents, true for every text (no condition): one part of the proof. -/
import Derived.Test.YtgkhemnmcgicnaaGreatDoorG01
import Derived.Test.YtgkhemnmcgicnaaGreatDoorG04
import Derived.Test.YtgkhemnmcgicnaaGreatDoorProg
import Derived.Lib.Strings
import Derived.Lib.Slices
import Derived.Lib.Walk
import Derived.Lib.Builder
import Derived.Lib.AppendStr
import Derived.Lib.UnsafeStr
import Derived.Lib.MakeNoZero
import Derived.WalkKit
import Derived.Laws.Externs
import Derived.Laws.IdiomCopy
import Derived.Laws.BitsLemmas
import Derived.Deep.LoopGhost
import Derived.Test.YtgkhemnmcgicnaaGreatDoorG03
import Derived.Deep.RegionHeld
namespace Go.Proofs.YtgkhemnmcgicnaaGreatDoor
set_option maxHeartbeats 8000000
set_option maxRecDepth 100000
open Go.RowKit
section
variable {B X : Nat} {ks : List (Nat × Obj)} {s : ByteArray} {lv : Value} {n : Nat} {xs : List Value} {wr : Int} {w0 w : World} {LN : Value} {ls : List Int}
theorem word_long {a : Nat} (h : Scn B X ks s LN a lv n xs 0 wr w0 w) (hL : LinesAt LN ls ks) (gL : Lines ls) (hsz : s.size <= 1048576) (hn : n <= 1048576) (ha : a < s.size) (hc : isLetter s[a].toNat = true) (b : Nat) (hu : Upto isInWord s a b) (hlen : a + 64 < b) (j : Bool) :
  Calls Tryz.prog 81 #[.pointer (some ⟨X, 0, none⟩), .bool j] w fun r w' => r = .returned (.bool true) /\
   ∃ lv' xs', Scn B X ks s LN b lv' (n + 1) xs' 5 a w0 w' := by
 have c0 := h.c0
 have c1 := h.c1
 have hab := hu.ab
 have hbs := hu.bs
 have ha0 : (0 : Int) <= (a : Int) := by omega
 have ha' : (a : Int) < s.size := by omega
 have h64 : (64 : Int) < (b : Int) - a := by omega
 have hw1 : IntKind.i64.wrap ((b : Int) - a) = (b : Int) - a := IntWalk.i64_in _ (by omega)
 go_enter Tryz.func81, Tryz.ntmps81
 go_wp2
 go_quiet ((go_at_call 117; refine Calls.quiet_of_same (letter_is s[a].toNat _ hc)))
 have hm := h.step (belowDrewN (Below.refl _ _) nq)
 generalize w.drewN nq = W at hm ⊢
 have d0 := hm.c0
 have d1 := hm.c1
 clear c0 c1 h
 go_wp2_with (first
  | (go_at_call 118; refine (run_inWord X s a b _ d0 hsz hu).mono ?_; rintro e w2 ⟨rfl, rfl⟩)
  | (go_at_call 87; refine (fail_walk hm a 5).mono ?_))
 rintro e w3 ⟨rfl, hS⟩
 go_wp2_with (first
  | (go_at_call 86; refine (add_walk hS hL gL hsz hn b hab hbs 1 0 ByteArray.empty j).mono ?_))
 rintro e w4 ⟨rfl, lv', hS4⟩
 go_wp2
 go_ret
 exact ⟨rfl, lv', _, hS4⟩
theorem symbol_miss {a : Nat} (h : Scn B X ks s LN a lv n xs 0 wr w0 w) (ha : a < s.size) (hc : Lib.indexByte symbols s[a].toNat.toUInt8 = -1) (j : Bool) :
  Calls Tryz.prog 84 #[.pointer (some ⟨X, 0, none⟩), .bool j] w fun r w' => r = .returned (.bool false) /\ Below w.heap.size w w' := by
 have c0 := h.c0
 have c1 := h.c1
 clear h
 have ha0 : (0 : Int) <= (a : Int) := by omega
 have ha' : (a : Int) < s.size := by omega
 have hcz := symbols_run s[a].toNat s[a].toNat_lt (-1) hc
 go_enter Tryz.func84, Tryz.ntmps84
 go_wp2
 go_quiet ((go_at_call 127; refine Calls.quiet_of_same (hcz _)))
 go_wp2
 go_ret
 exact ⟨rfl, belowDrewN (Below.refl _ _) _⟩
end
section
variable {X Bx Bj K : Nat} {j : Bool} {w : World}
theorem find_none (hK : w.heap[K]? = some takersRow) (hx : w.cell? ⟨Bx, 0, none⟩ = some (.pointer (some ⟨X, 0, none⟩))) (hj : w.cell? ⟨Bj, 0, none⟩ = some (.bool j))
  (hmiss : ∀ i, i < 4 -> Misses (81 + i) X j w) :
  Calls Tryz.prog 130 #[.slice (some ⟨K, 0, none⟩) 4 4, .func (.func 89) #[] #[.pointer (some ⟨Bx, 0, none⟩), .pointer (some ⟨Bj, 0, none⟩)]] w fun r w' => r = .returned (I (-1)) /\ Below w.heap.size w w' := by
 have lK := (Array.getElem?_eq_some_iff.1 hK).1
 have lx := World.block_lt_of_cell? w _ hx
 have lj := World.block_lt_of_cell? w _ hj
 simp only at lx lj
 go_enter Tryz.func130, Tryz.ntmps130
 go_wp2
 go_loopw [8] (fun v wr => ∃ i : Nat, i <= 4 /\ v = I i /\ Below w.heap.size w wr) (fun v _ => 4 - (intOf v).toNat)
 case atStart => exact ⟨0, Nat.zero_le _, rfl, Below.refl _ _⟩
 case round =>
  obtain ⟨i, hi, rfl, hb⟩ := hrel
  have hK1 := (hb.block K lK).trans hK
  have hx1 := (hb.cell (p := ⟨Bx, 0, none⟩) lx).trans hx
  have hj1 := (hb.cell (p := ⟨Bj, 0, none⟩) lj).trans hj
  have q0 : wr.cell? ⟨K, 0, none⟩ = some (.func (.func 81) #[] #[]) := by rw [Lib.cell_of_heap hK1]; rfl
  have q1 : wr.cell? ⟨K, 1, none⟩ = some (.func (.func 82) #[] #[]) := by rw [Lib.cell_of_heap hK1]; rfl
  have q2 : wr.cell? ⟨K, 2, none⟩ = some (.func (.func 83) #[] #[]) := by rw [Lib.cell_of_heap hK1]; rfl
  have q3 : wr.cell? ⟨K, 3, none⟩ = some (.func (.func 84) #[] #[]) := by rw [Lib.cell_of_heap hK1]; rfl
  have hi3 : i = 0 \/ i = 1 \/ i = 2 \/ i = 3 \/ i = 4 := by omega
  rcases hi3 with rfl | rfl | rfl | rfl | rfl
  ·have ht := try_walk 81 X Bx Bj j false wr hx1 hj1 _ (hmiss 0 (by omega) wr hb) (by decide)
   go_wp2_with (go_at_call 89; refine ht.mono ?_)
   rintro e w' ⟨rfl, b'⟩
   go_wp2
   go_roundw
   case rel => exact ⟨1, by omega, rfl, hb.trans (b'.mono hb.size)⟩
   case measure => simp [intOf]
  ·have ht := try_walk 82 X Bx Bj j false wr hx1 hj1 _ (hmiss 1 (by omega) wr hb) (by decide)
   go_wp2_with (go_at_call 89; refine ht.mono ?_)
   rintro e w' ⟨rfl, b'⟩
   go_wp2
   go_roundw
   case rel => exact ⟨2, by omega, rfl, hb.trans (b'.mono hb.size)⟩
   case measure => simp [intOf]
  ·have ht := try_walk 83 X Bx Bj j false wr hx1 hj1 _ (hmiss 2 (by omega) wr hb) (by decide)
   go_wp2_with (go_at_call 89; refine ht.mono ?_)
   rintro e w' ⟨rfl, b'⟩
   go_wp2
   go_roundw
   case rel => exact ⟨3, by omega, rfl, hb.trans (b'.mono hb.size)⟩
   case measure => simp [intOf]
  ·have ht := try_walk 84 X Bx Bj j false wr hx1 hj1 _ (hmiss 3 (by omega) wr hb) (by decide)
   go_wp2_with (go_at_call 89; refine ht.mono ?_)
   rintro e w' ⟨rfl, b'⟩
   go_wp2
   go_roundw
   case rel => exact ⟨4, by omega, rfl, hb.trans (b'.mono hb.size)⟩
   case measure => simp [intOf]
  ·go_wp2
   go_ret
   exact ⟨rfl, hb⟩
theorem takes_none (hK : w.heap[K]? = some takersRow) (hx : w.cell? ⟨Bx, 0, none⟩ = some (.pointer (some ⟨X, 0, none⟩))) (hj : w.cell? ⟨Bj, 0, none⟩ = some (.bool j))
  (hmiss : ∀ i, i < 4 -> Misses (81 + i) X j w) :
  Calls Tryz.prog 88 #[.slice (some ⟨K, 0, none⟩) 4 4, .func (.func 89) #[] #[.pointer (some ⟨Bx, 0, none⟩), .pointer (some ⟨Bj, 0, none⟩)]] w fun r w' => r = .returned (.bool false) /\ Below w.heap.size w w' := by
 have hf := find_none hK hx hj hmiss
 clear hmiss hK hx hj
 go_enter Tryz.func88, Tryz.ntmps88
 go_wp2_with (go_at_call 130; refine hf.mono ?_)
 rintro e w' ⟨rfl, hQ⟩
 go_wp2
 go_ret
 refine ⟨?_, hQ⟩
 first | rfl | simp
end
theorem sizeBld : (Tryz.prog.info? 200).map (·.size) = some 2 := by kernel_rfl
theorem liesBld : liesAt Tryz.prog Tryz.prog.depth 200 (2 / Tryz.prog.cellsOf 200) 0 200 1 = true := by kernel_rfl
theorem infoByte : (Tryz.prog.info? 5).map (fun i => (i.zero, i.size, i.bytes)) = some (some (.int .u8 0), 1, 1) := by kernel_rfl
theorem copyCheck_used (b : Nat) (w : World) (h0 : w.cell? ⟨b, 0, none⟩ = some (.pointer (some ⟨b, 0, none⟩))) :
  Calls Tryz.prog 155 #[.pointer (some ⟨b, 0, none⟩)] w fun e w' => e = .returned (.tuple #[]) /\ w' = w := by
 obtain ⟨j, hj, _⟩ := Option.map_eq_some_iff.1 sizeBld
 go_enter Tryz.func155, Tryz.ntmps155
 go_wp2
 rw [Lib.run_neq_ptr_same w _ Tryz.underlying198 hj]
 go_wp2
 go_end0
 exact ⟨rfl, rfl⟩
theorem copyCheck_fresh (b : Nat) (w : World) (h0 : w.cell? ⟨b, 0, none⟩ = some (.pointer none)) (hsh : w.shape? b = some (200, 2)) (hfz : w.frozen? ⟨b, 0, none⟩ = false) :
  Calls Tryz.prog 155 #[.pointer (some ⟨b, 0, none⟩)] w fun e w' => e = .returned (.tuple #[]) /\ w' = w.setCell ⟨b, 0, none⟩ (.pointer (some ⟨b, 0, none⟩)) := by
 obtain ⟨j, hj, hjs⟩ := Option.map_eq_some_iff.1 sizeBld
 go_enter Tryz.func155, Tryz.ntmps155
 go_wp2
 rw [Lib.run_to_unsafe w ⟨b, 0, none⟩ Tryz.underlying198 Tryz.underlying256 hj (by rw [hjs]; decide) hsh (Nat.zero_lt_succ 1)]
 simp only [Result.andThen]
 rw [Oper.upon_value]
 go_wp2
 rw [run_callFunc_extern Tryz.func191 (by kernel_rfl) (by kernel_rfl) (by kernel_rfl) (e := Extern.AbiNoEscape.same) (by kernel_rfl)]
 rw [Lib.run_noEscape]
 simp only [Result.andThen]
 rw [Oper.upon_value]
 go_wp2
 rw [Lib.run_from_unsafe w ⟨b, 0, none⟩ Tryz.underlying256 Tryz.underlying198 hj hsh liesBld]
 simp only [Result.andThen]
 rw [Oper.upon_value]
 go_wp2
 go_end0
 exact ⟨rfl, rfl⟩
theorem copyCheck_any (B b : Nat) (bs : List Value) (w : World) (h : Lib.IsBuilder 200 5 B b bs w) :
  Calls Tryz.prog 155 #[.pointer (some ⟨b, 0, none⟩)] w fun e w' => e = .returned (.tuple #[]) /\ (Lib.BuilderAt 200 5 B b (.pointer (some ⟨b, 0, none⟩)) bs w' /\ Below B w w') := by
 rcases h with h | h
 ·refine (copyCheck_fresh b w h.cell0 h.shape h.frozen0).mono ?_
  rintro e w' ⟨rfl, rfl⟩
  exact ⟨rfl, h.used _, (Below.refl B w).setCell (p := ⟨b, 0, none⟩) h.1 _⟩
 ·refine (copyCheck_used b w h.cell0).mono ?_
  rintro e w' ⟨rfl, rfl⟩
  exact ⟨rfl, h, Below.refl B _⟩
theorem writeByte (B b : Nat) (bs : List Value) (c : Int) (w : World) (h : Lib.IsBuilder 200 5 B b bs w) (hlen : bs.length + 1 <= 140737488355328) (hBw : B <= w.heap.size) :
  Calls Tryz.prog 125 #[.pointer (some ⟨b, 0, none⟩), .int .u8 c] w fun e w' => e = .returned .nilIface /\ (Lib.BuilderAt 200 5 B b (.pointer (some ⟨b, 0, none⟩)) (bs ++ [.int .u8 c]) w' /\ Below B w w') := by
 obtain ⟨i0, hi, hz0, hz1, hz2⟩ := info_parts infoByte
 go_enter Tryz.func125, Tryz.ntmps125
 go_wp2_with (go_at_call 155; refine (copyCheck_any B b bs _ h).mono ?_)
 rintro e w1 ⟨rfl, h1, hb1⟩
 obtain ⟨hB, v, hbk, hown, hne⟩ := h1
 have c0 : w1.cell? ⟨b, 0, none⟩ = some (.pointer (some ⟨b, 0, none⟩)) := by rw [Lib.cell_of_heap hbk]; rfl
 have c1 : w1.cell? ⟨b, 1, none⟩ = some v := by rw [Lib.cell_of_heap hbk]; rfl
 go_wp2_with (at_builtin; refine wpList_append_own _ rfl _ _ 54 rfl B 5 i0 (.int .u8 0) 1 1 Tryz.underlying54 hi hz0 hz1 hz2 rfl (by decide) _ _ _ rfl (hown.alloc _) ⟨w1.heap.size, 0, none⟩ 1 1 [.int .u8 c] rfl rfl ?c1 ?c2 ?c3 ?c4 ?c5 ?_)
 case c1 =>
  intro j u hj
  match j, hj with
  | 0, hj => simp at hj; subst hj; simp [Addr.add]
 case c2 => intro u hu; simp at hu; subst hu; rfl
 case c3 => unfold maxLen; omega
 case c4 => omega
 case c5 => have := hb1.size; simp; omega
 intro v' w2 hown' hgrow _
 have hlt : b < w1.heap.size := by
  rcases Nat.lt_or_ge b w1.heap.size with h' | h'
  ·exact h'
  ·simp [Array.getElem?_eq_none h'] at hbk
 have hb2 : w2.heap[b]? = some (.cells #[.pointer (some ⟨b, 0, none⟩), v] 200 (0, 0)) := by
  rw [hgrow.block b (by simp; omega) (fun e => hne e.symm), Lib.alloc_old w1 _ b hlt]
  exact hbk
 have d0 : w2.cell? ⟨b, 0, none⟩ = some (.pointer (some ⟨b, 0, none⟩)) := by rw [Lib.cell_of_heap hb2]; rfl
 have d1 : w2.cell? ⟨b, 1, none⟩ = some v := by rw [Lib.cell_of_heap hb2]; rfl
 have f1 : w2.frozen? ⟨b, 1, none⟩ = false := Lib.frozen_of_heap hb2 1
 obtain ⟨g, cap, rfl⟩ : ∃ g cap, v' = .slice (some ⟨g, 0, none⟩) (bs.length + 1) cap := by
  rcases hown'.2 with ⟨_, h0⟩ | ⟨g, cap, cur, hv, _⟩
  ·omega
  ·exact ⟨g, cap, hv⟩
 go_wp2
 go_ret
 refine ⟨rfl, ?_, ?_⟩
 ·exact Lib.BuilderAt.put (T := 200) (e := 5) hB hb2 (bs' := bs ++ [.int .u8 c]) (by simpa using hown') (by decide)
 ·exact ((hb1.alloc (by have := hb1.size; omega) _).grown hgrow (by have := hb1.size; simp; omega) (fun k hk => (hown.lt k hk).1)).setCell (p := ⟨b, 1, none⟩) hB _
def hexDigit (n : Nat) : UInt8 := if n < 10 then (48 + n).toUInt8 else (87 + n).toUInt8
def hexS : ByteArray := ⟨#[48, 49, 50, 51, 52, 53, 54, 55, 56, 57, 97, 98, 99, 100, 101, 102]⟩
theorem escape_two (B b : Nat) (bs : List Value) (t : ByteArray) (w : World) (h : Lib.IsBuilder 200 5 B b bs w) (hlen : bs.length + 1 <= 140737488355328) (hBw : B <= w.heap.size) (ht : 0 < t.size) (v : Int)
  (hc : (((t[0].toNat : Nat) : Int) = 110 /\ v = 10) \/ (((t[0].toNat : Nat) : Int) = 116 /\ v = 9) \/ (((t[0].toNat : Nat) : Int) = 92 /\ v = 92) \/ (((t[0].toNat : Nat) : Int) = 34 /\ v = 34)) :
  Calls Tryz.prog 126 #[.string t, .pointer (some ⟨b, 0, none⟩)] w fun e w' => e = .returned (.tuple #[I 1, .bool false]) /\ (Lib.BuilderAt 200 5 B b (.pointer (some ⟨b, 0, none⟩)) (bs ++ [.int .u8 v]) w' /\ Below B w w') := by
 have hemp : t.toList.isEmpty = false := by
  rw [Go.ByteArray.toList_eq]
  have hl : t.data.toList.length = t.size := by simp
  cases e : t.data.toList with
  | nil => rw [e] at hl; simp at hl; omega
  | cons x r => rfl
 have ht' : (0 : Int) < (t.size : Int) := by omega
 have hi := Tryz.strings_IndexByte ⟨#[110, 116, 92, 34]⟩ ((t[0].toNat : Nat) : Int) w
 have hw := writeByte B b bs v w h hlen hBw
 rcases hc with ⟨hc, rfl⟩ | ⟨hc, rfl⟩ | ⟨hc, rfl⟩ | ⟨hc, rfl⟩
 all_goals rw [hc] at hi
 ·rw [show Lib.indexByte (⟨#[110, 116, 92, 34]⟩ : ByteArray).data.toList ((110 : Int).toNat.toUInt8) = 0 by decide] at hi
  go_enter Tryz.func126, Tryz.ntmps126
  go_wp2_with (first
   | (go_at_call 127; refine hi.mono ?_; rintro r w1 ⟨rfl, rfl⟩)
   | (go_at_call 125; refine hw.mono ?_))
  rintro e w2 ⟨rfl, h2, b2⟩
  go_wp2
  refine bodyPost_ret (results_tmp2 rfl _ _ _) rfl ?_
  exact ⟨rfl, h2, b2⟩
 ·rw [show Lib.indexByte (⟨#[110, 116, 92, 34]⟩ : ByteArray).data.toList ((116 : Int).toNat.toUInt8) = 1 by decide] at hi
  go_enter Tryz.func126, Tryz.ntmps126
  go_wp2_with (first
   | (go_at_call 127; refine hi.mono ?_; rintro r w1 ⟨rfl, rfl⟩)
   | (go_at_call 125; refine hw.mono ?_))
  rintro e w2 ⟨rfl, h2, b2⟩
  go_wp2
  refine bodyPost_ret (results_tmp2 rfl _ _ _) rfl ?_
  exact ⟨rfl, h2, b2⟩
 ·rw [show Lib.indexByte (⟨#[110, 116, 92, 34]⟩ : ByteArray).data.toList ((92 : Int).toNat.toUInt8) = 2 by decide] at hi
  go_enter Tryz.func126, Tryz.ntmps126
  go_wp2_with (first
   | (go_at_call 127; refine hi.mono ?_; rintro r w1 ⟨rfl, rfl⟩)
   | (go_at_call 125; refine hw.mono ?_))
  rintro e w2 ⟨rfl, h2, b2⟩
  go_wp2
  refine bodyPost_ret (results_tmp2 rfl _ _ _) rfl ?_
  exact ⟨rfl, h2, b2⟩
 ·rw [show Lib.indexByte (⟨#[110, 116, 92, 34]⟩ : ByteArray).data.toList ((34 : Int).toNat.toUInt8) = 3 by decide] at hi
  go_enter Tryz.func126, Tryz.ntmps126
  go_wp2_with (first
   | (go_at_call 127; refine hi.mono ?_; rintro r w1 ⟨rfl, rfl⟩)
   | (go_at_call 125; refine hw.mono ?_))
  rintro e w2 ⟨rfl, h2, b2⟩
  go_wp2
  refine bodyPost_ret (results_tmp2 rfl _ _ _) rfl ?_
  exact ⟨rfl, h2, b2⟩
theorem hex_val (h l : Nat) (hh : h < 16) (hl : l < 16) : IntKind.i64.wrap (16 * (h : Int)) = 16 * (h : Int) /\ IntKind.i64.wrap (16 * (h : Int) + l) = 16 * (h : Int) + l /\ IntKind.u8.wrap (16 * (h : Int) + l) = 16 * (h : Int) + l :=
 ⟨IntWalk.i64_in _ (by omega), IntWalk.i64_in _ (by omega), IntWalk.u8_in _ (by omega)⟩
def mk (l : List UInt8) : ByteArray := ⟨l.toArray⟩
def esc (c : UInt8) : List UInt8 :=
 if c = 10 then [92, 110] else if c = 9 then [92, 116] else if c = 92 then [92, 92] else if c = 34 then [92, 34]
 else if 32 <= c.toNat /\ c.toNat ≠ 127 then [c] else [92, 120, hexDigit (c.toNat / 16), hexDigit (c.toNat % 16)]
def standsB (c : Int) : Bool := decide (32 <= c) && decide (c ≠ 127) && decide (c ≠ 34) && decide (c ≠ 92)
theorem stands_walk (c : Int) (w : World) : Calls Tryz.prog 124 #[.int .u8 c] w fun e w' => e = .returned (.bool (decide (32 <= c) && decide (c ≠ 127) && decide (c ≠ 34) && decide (c ≠ 92))) /\ w' = w := by
 go_enter Tryz.func124, Tryz.ntmps124
 by_cases h1 : 32 <= c <;> by_cases h2 : c = 127 <;> by_cases h3 : c = 34 <;> by_cases h4 : c = 92
 all_goals (try subst h2); (try subst h3); (try subst h4)
 all_goals first | omega | skip
 all_goals go_wp2
 all_goals go_ret
 all_goals simp_all
theorem stands_is (c : Int) (w : World) (b : Bool) (h : standsB c = b) : Calls Tryz.prog 124 #[.int .u8 c] w fun e w' => e = .returned (.bool b) /\ w' = w := by
 rw [<- h]; exact stands_walk c w
theorem bld_len (B b : Nat) (bs : List Value) (w : World) (h : Lib.IsBuilder 200 5 B b bs w) : Calls Tryz.prog 122 #[.pointer (some ⟨b, 0, none⟩)] w fun r w' => r = .returned (I bs.length) /\ w' = w := by
 have key : ∃ ao c, w.cell? ⟨b, 1, none⟩ = some (.slice ao bs.length c) := by
  rcases h with h | h
  all_goals
   obtain ⟨hB, v, hbk, hown, hne⟩ := h
   rcases hown.2 with ⟨hv, h0⟩ | ⟨g, cap, cur, hv, _⟩
   ·exact ⟨none, 0, by rw [Lib.cell_of_heap hbk]; simp [hv, h0]⟩
   ·exact ⟨some ⟨g, 0, none⟩, cap, by rw [Lib.cell_of_heap hbk]; simp [hv]⟩
 obtain ⟨ao, c, hc⟩ := key
 clear h
 go_enter Tryz.func122, Tryz.ntmps122
 go_wp2
 go_ret
 exact ⟨rfl, rfl⟩
theorem size_list (s : ByteArray) : s.data.toList.length = s.size := by rw [Array.length_toList]; rfl
theorem at_list {s : ByteArray} (k : Nat) (h : k < s.size) : s.data.toList[k]? = some s[k] := by
 have hk : k < s.data.toList.length := by rw [size_list]; exact h
 rw [List.getElem?_eq_getElem hk]
 rfl
def PosIs (p q : Nat) : Prop := p = q
theorem byteCells_snoc (l : List UInt8) (c : UInt8) : Lib.byteCells (l ++ [c]) = Lib.byteCells l ++ [.int .u8 c.toNat] := by simp [Lib.byteCells]
section
variable {B X : Nat} {ks : List (Nat × Obj)} {s : ByteArray} {lv : Value} {n : Nat} {xs : List Value} {wz : Int} {w0 w : World} {LN : Value} {ls : List Int}
end
set_option maxHeartbeats 16000000
def hexV (c : UInt8) : Int := Lib.indexByte hexS.data.toList c
theorem hexV_all : (List.range 256).all (fun n => decide (-1 <= hexV n.toUInt8) && decide (hexV n.toUInt8 < 16)) = true := by decide +kernel
theorem hexV_bd (c : UInt8) : -1 <= hexV c /\ hexV c < 16 := by
 have h := List.all_eq_true.1 hexV_all c.toNat (List.mem_range.2 c.toNat_lt)
 simp only [Bool.and_eq_true, decide_eq_true_eq] at h
 have e : c.toNat.toUInt8 = c := by simp
 rw [e] at h
 exact h
theorem hex_any (c : UInt8) (m : Int) (hm : m = (c.toNat : Int)) (v : Int) (hv : hexV c = v) (w : World) : Calls Tryz.prog 156 #[.int .u8 m] w fun e w' => e = .returned (I v) /\ w' = w := by
 have hi := Tryz.strings_IndexByte hexS m w
 have e : m.toNat.toUInt8 = c := by rw [hm]; simp
 rw [e, show Lib.indexByte hexS.data.toList c = v from hv] at hi
 simp only [hexS] at hi
 clear hm hv e
 go_enter Tryz.func156, Tryz.ntmps156
 go_wp2_with (go_at_call 127; refine hi.mono ?_; rintro r w1 ⟨rfl, rfl⟩)
 go_wp2
 go_ret
 exact ⟨rfl, rfl⟩
def twoL : List UInt8 := [110, 116, 92, 34]
inductive EscR (t : ByteArray) : Nat -> Bool -> List UInt8 -> Prop
 | empty (h : t.size = 0) : EscR t 0 true []
 | two (h : 0 < t.size) (v : UInt8) (hc : (t[0].toNat = 110 /\ v = 10) \/ (t[0].toNat = 116 /\ v = 9) \/ (t[0].toNat = 92 /\ v = 92) \/ (t[0].toNat = 34 /\ v = 34)) : EscR t 1 false [v]
 | other (h : 0 < t.size) (hc : Lib.indexByte twoL t[0] = -1) (hx : t[0].toNat ≠ 120) : EscR t 0 true []
 | xa (h : t.size = 1) (h0 : t[0].toNat = 120) : EscR t 1 true []
 | xb (h : 1 < t.size) (h0 : t[0].toNat = 120) (h1 : hexV t[1] = -1) : EscR t 1 true []
 | xc (h : t.size = 2) (h0 : t[0].toNat = 120) (x : Nat) (hx : x < 16) (h1 : hexV t[1] = (x : Int)) : EscR t 2 true []
 | xd (h : 2 < t.size) (h0 : t[0].toNat = 120) (x : Nat) (hx : x < 16) (h1 : hexV t[1] = (x : Int)) (h2 : hexV t[2] = -1) : EscR t 2 true []
 | hex (h : 2 < t.size) (h0 : t[0].toNat = 120) (x y : Nat) (hx : x < 16) (hy : y < 16) (h1 : hexV t[1] = (x : Int)) (h2 : hexV t[2] = (y : Int)) : EscR t 3 false [(16 * x + y).toUInt8]
theorem two_all : (List.range 256).all (fun n => decide (Lib.indexByte twoL n.toUInt8 = -1) || (decide (n = 110) || decide (n = 116) || decide (n = 92) || decide (n = 34))) = true := by decide +kernel
theorem two_cases (c : UInt8) : Lib.indexByte twoL c = -1 \/ c.toNat = 110 \/ c.toNat = 116 \/ c.toNat = 92 \/ c.toNat = 34 := by
 have h := List.all_eq_true.1 two_all c.toNat (List.mem_range.2 c.toNat_lt)
 simp only [Bool.or_eq_true, decide_eq_true_eq] at h
 have e : c.toNat.toUInt8 = c := by simp
 rw [e] at h
 omega
theorem hexV_cases (c : UInt8) : hexV c = -1 \/ ∃ x : Nat, x < 16 /\ hexV c = (x : Int) := by
 have h := hexV_bd c
 by_cases h0 : hexV c = -1
 ·exact .inl h0
 ·exact .inr ⟨(hexV c).toNat, by omega, by omega⟩
theorem esc_ex (t : ByteArray) : ∃ n b l, EscR t n b l := by
 by_cases h : t.size = 0
 ·exact ⟨_, _, _, .empty h⟩
 have h0 : 0 < t.size := by omega
 rcases two_cases t[0] with hc | hc | hc | hc | hc
 ·by_cases hx : t[0].toNat = 120
  ·by_cases h1 : t.size = 1
   ·exact ⟨_, _, _, .xa h1 hx⟩
   ·have hl1 : 1 < t.size := by omega
    rcases hexV_cases t[1] with e1 | ⟨x, hx16, e1⟩
    ·exact ⟨_, _, _, .xb hl1 hx e1⟩
    ·by_cases h2 : t.size = 2
     ·exact ⟨_, _, _, .xc h2 hx x hx16 e1⟩
     ·have hl2 : 2 < t.size := by omega
      rcases hexV_cases t[2] with e2 | ⟨y, hy16, e2⟩
      ·exact ⟨_, _, _, .xd hl2 hx x hx16 e1 e2⟩
      ·exact ⟨_, _, _, .hex hl2 hx x y hx16 hy16 e1 e2⟩
  ·exact ⟨_, _, _, .other h0 hc hx⟩
 ·exact ⟨_, _, _, .two h0 10 (.inl ⟨hc, rfl⟩)⟩
 ·exact ⟨_, _, _, .two h0 9 (.inr (.inl ⟨hc, rfl⟩))⟩
 ·exact ⟨_, _, _, .two h0 92 (.inr (.inr (.inl ⟨hc, rfl⟩)))⟩
 ·exact ⟨_, _, _, .two h0 34 (.inr (.inr (.inr ⟨hc, rfl⟩)))⟩
theorem EscR.n_le {t : ByteArray} {n : Nat} {b : Bool} {l : List UInt8} (h : EscR t n b l) : n <= 3 /\ n <= t.size /\ l.length <= n /\ (b = false -> 1 <= n /\ l.length = 1) := by
 cases h <;> simp <;> omega
theorem nonempty_list {t : ByteArray} (h : 0 < t.size) : t.toList.isEmpty = false := by
 rw [Go.ByteArray.toList_eq]
 have hl : t.data.toList.length = t.size := by simp
 cases e : t.data.toList with
 | nil => rw [e] at hl; simp at hl; omega
 | cons x r => rfl
section
variable (B b : Nat) (bs : List Value) (t : ByteArray) (w : World)
def EscEnd (n : Nat) (wr : Bool) (l : List UInt8) (w : World) (e : Ending) (w' : World) : Prop :=
 e = .returned (.tuple #[I n, .bool wr]) /\ (Lib.IsBuilder 200 5 B b (bs ++ Lib.byteCells l) w' /\ Below B w w')
theorem esc_empty (h : Lib.IsBuilder 200 5 B b bs w) (ht : t.size = 0) : Calls Tryz.prog 126 #[.string t, .pointer (some ⟨b, 0, none⟩)] w (EscEnd B b bs 0 true [] w) := by
 have hemp : t.toList.isEmpty = true := by
  rw [Go.ByteArray.toList_eq]
  have hl : t.data.toList.length = t.size := by simp
  cases e : t.data.toList with
  | nil => rfl
  | cons x r => rw [e] at hl; simp at hl; omega
 have hfin : Lib.IsBuilder 200 5 B b (bs ++ Lib.byteCells []) w := by simpa [Lib.byteCells] using h
 clear h
 go_enter Tryz.func126, Tryz.ntmps126
 go_wp2
 refine bodyPost_ret (results_tmp2 rfl _ _ _) rfl ?_
 exact ⟨rfl, hfin, Below.refl _ _⟩
theorem esc_other (h : Lib.IsBuilder 200 5 B b bs w) (ht : 0 < t.size) (hc : Lib.indexByte twoL t[0] = -1) (hx : t[0].toNat ≠ 120) : Calls Tryz.prog 126 #[.string t, .pointer (some ⟨b, 0, none⟩)] w (EscEnd B b bs 0 true [] w) := by
 have hemp := nonempty_list ht
 have ht' : (0 : Int) < (t.size : Int) := by omega
 have hi := Tryz.strings_IndexByte ⟨#[110, 116, 92, 34]⟩ ((t[0].toNat : Nat) : Int) w
 have e : ((t[0].toNat : Nat) : Int).toNat.toUInt8 = t[0] := by simp
 rw [e, show Lib.indexByte (⟨#[110, 116, 92, 34]⟩ : ByteArray).data.toList t[0] = -1 from hc] at hi
 have hne : ¬ ((t[0].toNat : Nat) : Int) = 120 := by omega
 have hfin : Lib.IsBuilder 200 5 B b (bs ++ Lib.byteCells []) w := by simpa [Lib.byteCells] using h
 clear h e hc hx
 go_enter Tryz.func126, Tryz.ntmps126
 go_wp2_with (go_at_call 127; refine hi.mono ?_; rintro r w1 ⟨rfl, rfl⟩)
 refine bodyPost_ret (results_tmp2 rfl _ _ _) rfl ?_
 exact ⟨rfl, hfin, Below.refl _ _⟩
theorem esc_xa (h : Lib.IsBuilder 200 5 B b bs w) (ht : 0 < t.size) (h0 : t[0].toNat = 120) (hs : t.size = 1) : Calls Tryz.prog 126 #[.string t, .pointer (some ⟨b, 0, none⟩)] w (EscEnd B b bs 1 true [] w) := by
 have hemp := nonempty_list ht
 have ht' : (0 : Int) < (t.size : Int) := by omega
 have hi := Tryz.strings_IndexByte ⟨#[110, 116, 92, 34]⟩ ((t[0].toNat : Nat) : Int) w
 have h0' : ((t[0].toNat : Nat) : Int) = 120 := by omega
 rw [h0', show Lib.indexByte (⟨#[110, 116, 92, 34]⟩ : ByteArray).data.toList ((120 : Int).toNat.toUInt8) = -1 by decide] at hi
 have hn1 : (t.size : Int) = 1 := by omega
 have hfin : Lib.IsBuilder 200 5 B b (bs ++ Lib.byteCells []) w := by simpa [Lib.byteCells] using h
 clear hs h h0
 go_enter Tryz.func126, Tryz.ntmps126
 go_wp2_with (go_at_call 127; refine hi.mono ?_; rintro r w1 ⟨rfl, rfl⟩)
 go_loopg [7, 8] 3 (fun g v u wr => wr = w1 /\ (g = 3 /\ v = I 0 /\ u = I 1))
 case atStart => exact ⟨rfl, rfl, rfl, rfl⟩
 case round =>
  obtain ⟨hw1, rfl, rfl, rfl⟩ := hrel
  subst hw1
  go_wp2
  refine bodyPost_ret (results_tmp2 rfl _ _ _) rfl ?_
  exact ⟨rfl, hfin, Below.refl _ _⟩
theorem esc_xb (h : Lib.IsBuilder 200 5 B b bs w) (ht : 1 < t.size) (h0 : t[0].toNat = 120) (h1 : hexV t[1] = -1) : Calls Tryz.prog 126 #[.string t, .pointer (some ⟨b, 0, none⟩)] w (EscEnd B b bs 1 true [] w) := by
 have hemp := nonempty_list (t := t) (by omega)
 have ht' : (0 : Int) < (t.size : Int) := by omega
 have ht1 : (1 : Int) < (t.size : Int) := by omega
 have hi := Tryz.strings_IndexByte ⟨#[110, 116, 92, 34]⟩ ((t[0].toNat : Nat) : Int) w
 have h0' : ((t[0].toNat : Nat) : Int) = 120 := by omega
 rw [h0', show Lib.indexByte (⟨#[110, 116, 92, 34]⟩ : ByteArray).data.toList ((120 : Int).toNat.toUInt8) = -1 by decide] at hi
 have hz1 : ((1 : Int) == (t.size : Int)) = false := by simp; omega
 have hn1 : ¬ (1 : Int) = (t.size : Int) := by omega
 have x1 := fun w => hex_any t[1] _ rfl _ h1 w
 have hfin : Lib.IsBuilder 200 5 B b (bs ++ Lib.byteCells []) w := by simpa [Lib.byteCells] using h
 clear h h0 h1
 go_enter Tryz.func126, Tryz.ntmps126
 go_wp2_with (go_at_call 127; refine hi.mono ?_; rintro r w1 ⟨rfl, rfl⟩)
 go_loopg [7, 8] 3 (fun g v u wr => wr = w1 /\ (g = 3 /\ v = I 0 /\ u = I 1))
 case atStart => exact ⟨rfl, rfl, rfl, rfl⟩
 case round =>
  obtain ⟨hw1, rfl, rfl, rfl⟩ := hrel
  subst hw1
  go_wp2_with (go_at_call 156; refine (x1 _).mono ?_; rintro r w2 ⟨rfl, rfl⟩)
  refine bodyPost_ret (results_tmp2 rfl _ _ _) rfl ?_
  exact ⟨rfl, hfin, Below.refl _ _⟩
theorem esc_xc (h : Lib.IsBuilder 200 5 B b bs w) (ht : 1 < t.size) (h0 : t[0].toNat = 120) (x : Nat) (hx : x < 16) (h1 : hexV t[1] = (x : Int)) (hs : t.size = 2) : Calls Tryz.prog 126 #[.string t, .pointer (some ⟨b, 0, none⟩)] w (EscEnd B b bs 2 true [] w) := by
 have hT0 : 0 < t.size := Nat.lt_trans Nat.zero_lt_one ht
 have hemp := nonempty_list hT0
 have ht' : (0 : Int) < (t.size : Int) := by omega
 have ht1 : (1 : Int) < (t.size : Int) := by omega
 have hi := Tryz.strings_IndexByte ⟨#[110, 116, 92, 34]⟩ (((t[0]'hT0).toNat : Nat) : Int) w
 have h0' : (((t[0]'hT0).toNat : Nat) : Int) = 120 := by omega
 rw [h0', show Lib.indexByte (⟨#[110, 116, 92, 34]⟩ : ByteArray).data.toList ((120 : Int).toNat.toUInt8) = -1 by decide] at hi
 have hn2 : (t.size : Int) = 2 := by omega
 have m4 : IntKind.i64.wrap (0 + (x : Int)) = (x : Int) := by rw [Int.zero_add]; exact IntWalk.i64_in _ (by omega)
 have hx0 : decide ((x : Int) < 0) = false := by simp
 have x1 := fun w => hex_any (t[1]'ht) _ rfl _ h1 w
 have hfin : Lib.IsBuilder 200 5 B b (bs ++ Lib.byteCells []) w := by simpa [Lib.byteCells] using h
 clear hs h h0 h1
 go_enter Tryz.func126, Tryz.ntmps126
 go_wp2_with (go_at_call 127; refine hi.mono ?_; rintro r w1 ⟨rfl, rfl⟩)
 go_loopg [7, 8] 3 (fun g v u wr => wr = w1 /\ ((g = 3 /\ v = I 0 /\ u = I 1) \/ (g = 2 /\ v = I x /\ u = I 2)))
 case atStart => exact ⟨rfl, .inl ⟨rfl, rfl, rfl⟩⟩
 case round =>
  obtain ⟨hw1, ⟨rfl, rfl, rfl⟩ | ⟨rfl, rfl, rfl⟩⟩ := hrel
  ·go_wp2_with (go_at_call 156; refine (x1 _).mono ?_; rintro r w2 ⟨rfl, rfl⟩)
   go_roundg 2
   case measure => omega
   case rel => exact ⟨by first | rfl | exact hw1 | simp, .inr ⟨rfl, rfl, rfl⟩⟩
  ·subst hw1
   go_wp2
   refine bodyPost_ret (results_tmp2 rfl _ _ _) rfl ?_
   exact ⟨rfl, hfin, Below.refl _ _⟩
theorem esc_xd (h : Lib.IsBuilder 200 5 B b bs w) (ht : 2 < t.size) (h0 : t[0].toNat = 120) (x : Nat) (hx : x < 16) (h1 : hexV t[1] = (x : Int)) (h2 : hexV t[2] = -1) : Calls Tryz.prog 126 #[.string t, .pointer (some ⟨b, 0, none⟩)] w (EscEnd B b bs 2 true [] w) := by
 have hemp := nonempty_list (t := t) (by omega)
 have ht' : (0 : Int) < (t.size : Int) := by omega
 have ht1 : (1 : Int) < (t.size : Int) := by omega
 have ht2 : (2 : Int) < (t.size : Int) := by omega
 have hi := Tryz.strings_IndexByte ⟨#[110, 116, 92, 34]⟩ ((t[0].toNat : Nat) : Int) w
 have h0' : ((t[0].toNat : Nat) : Int) = 120 := by omega
 rw [h0', show Lib.indexByte (⟨#[110, 116, 92, 34]⟩ : ByteArray).data.toList ((120 : Int).toNat.toUInt8) = -1 by decide] at hi
 have hz1 : ((1 : Int) == (t.size : Int)) = false := by simp; omega
 have hn1 : ¬ (1 : Int) = (t.size : Int) := by omega
 have hz2 : ((2 : Int) == (t.size : Int)) = false := by simp; omega
 have hn2 : ¬ (2 : Int) = (t.size : Int) := by omega
 have m4 : IntKind.i64.wrap (0 + (x : Int)) = (x : Int) := by rw [Int.zero_add]; exact IntWalk.i64_in _ (by omega)
 have hx0 : decide ((x : Int) < 0) = false := by simp
 have x1 := fun w => hex_any t[1] _ rfl _ h1 w
 have x2 := fun w => hex_any t[2] _ rfl _ h2 w
 have hfin : Lib.IsBuilder 200 5 B b (bs ++ Lib.byteCells []) w := by simpa [Lib.byteCells] using h
 clear h h0 h1 h2
 go_enter Tryz.func126, Tryz.ntmps126
 go_wp2_with (go_at_call 127; refine hi.mono ?_; rintro r w1 ⟨rfl, rfl⟩)
 go_loopg [7, 8] 3 (fun g v u wr => wr = w1 /\ ((g = 3 /\ v = I 0 /\ u = I 1) \/ (g = 2 /\ v = I x /\ u = I 2)))
 case atStart => exact ⟨rfl, .inl ⟨rfl, rfl, rfl⟩⟩
 case round =>
  obtain ⟨hw1, ⟨rfl, rfl, rfl⟩ | ⟨rfl, rfl, rfl⟩⟩ := hrel
  ·go_wp2_with (go_at_call 156; refine (x1 _).mono ?_; rintro r w2 ⟨rfl, rfl⟩)
   go_roundg 2
   case measure => omega
   case rel => exact ⟨by first | rfl | exact hw1 | simp, .inr ⟨rfl, rfl, rfl⟩⟩
  ·subst hw1
   go_wp2_with (go_at_call 156; refine (x2 _).mono ?_; rintro r w2 ⟨rfl, rfl⟩)
   refine bodyPost_ret (results_tmp2 rfl _ _ _) rfl ?_
   exact ⟨rfl, hfin, Below.refl _ _⟩
theorem esc_hexv (h : Lib.IsBuilder 200 5 B b bs w) (hlen : bs.length + 1 <= 140737488355328) (hBw : B <= w.heap.size) (ht : 2 < t.size) (h0 : t[0].toNat = 120) (x y : Nat) (hx : x < 16) (hy : y < 16) (h1 : hexV t[1] = (x : Int)) (h2 : hexV t[2] = (y : Int)) :
  Calls Tryz.prog 126 #[.string t, .pointer (some ⟨b, 0, none⟩)] w (EscEnd B b bs 3 false [(16 * x + y).toUInt8] w) := by
 have hemp := nonempty_list (t := t) (by omega)
 have ht' : (0 : Int) < (t.size : Int) := by omega
 have ht1 : (1 : Int) < (t.size : Int) := by omega
 have ht2 : (2 : Int) < (t.size : Int) := by omega
 have hi := Tryz.strings_IndexByte ⟨#[110, 116, 92, 34]⟩ ((t[0].toNat : Nat) : Int) w
 have h0' : ((t[0].toNat : Nat) : Int) = 120 := by omega
 rw [h0', show Lib.indexByte (⟨#[110, 116, 92, 34]⟩ : ByteArray).data.toList ((120 : Int).toNat.toUInt8) = -1 by decide] at hi
 have hz1 : ((1 : Int) == (t.size : Int)) = false := by simp; omega
 have hn1 : ¬ (1 : Int) = (t.size : Int) := by omega
 have hz2 : ((2 : Int) == (t.size : Int)) = false := by simp; omega
 have hn2 : ¬ (2 : Int) = (t.size : Int) := by omega
 obtain ⟨m1, m2, m3⟩ := hex_val x y hx hy
 have m4 : IntKind.i64.wrap (0 + (x : Int)) = (x : Int) := by rw [Int.zero_add]; exact IntWalk.i64_in _ (by omega)
 have hx0 : decide ((x : Int) < 0) = false := by simp
 have hy0 : decide ((y : Int) < 0) = false := by simp
 have x1 := fun w => hex_any t[1] _ rfl _ h1 w
 have x2 := fun w => hex_any t[2] _ rfl _ h2 w
 have hw := writeByte B b bs (16 * (x : Int) + y) w h hlen hBw
 have e : [Value.int .u8 (16 * (x : Int) + y)] = Lib.byteCells [(16 * x + y).toUInt8] := by
  have e1 : (16 * x + y).toUInt8.toNat = 16 * x + y := by
   rw [Nat.toUInt8_eq, UInt8.toNat_ofNat']; omega
  unfold Lib.byteCells
  simp only [List.map_cons, List.map_nil, e1]
  simp
 have es : Shut _ := e
 clear h h0 h1 h2 e
 go_enter Tryz.func126, Tryz.ntmps126
 go_wp2_with (go_at_call 127; refine hi.mono ?_; rintro r w1 ⟨rfl, rfl⟩)
 go_loopg [7, 8] 3 (fun g v u wr => wr = w1 /\ ((g = 3 /\ v = I 0 /\ u = I 1) \/ (g = 2 /\ v = I x /\ u = I 2) \/ (g = 1 /\ v = I (16 * (x : Int) + y) /\ u = I 3)))
 case atStart => exact ⟨rfl, .inl ⟨rfl, rfl, rfl⟩⟩
 case round =>
  obtain ⟨hw1, ⟨rfl, rfl, rfl⟩ | ⟨rfl, rfl, rfl⟩ | ⟨rfl, rfl, rfl⟩⟩ := hrel
  ·go_wp2_with (go_at_call 156; refine (x1 _).mono ?_; rintro r w2 ⟨rfl, rfl⟩)
   go_roundg 2
   case measure => omega
   case rel => exact ⟨by first | rfl | exact hw1 | simp, .inr (.inl ⟨rfl, rfl, rfl⟩)⟩
  ·go_wp2_with (go_at_call 156; refine (x2 _).mono ?_; rintro r w2 ⟨rfl, rfl⟩)
   go_roundg 1
   case measure => omega
   case rel => exact ⟨by first | rfl | exact hw1 | simp, .inr (.inr ⟨rfl, rfl, rfl⟩)⟩
  ·subst hw1
   go_wp2_with (go_at_call 125; refine hw.mono ?_)
   rintro e w2 ⟨rfl, h2, b2⟩
   go_wp2
   refine bodyPost_ret (results_tmp2 rfl _ _ _) rfl ?_
   rw [es.out] at h2
   exact ⟨rfl, .inr h2, b2⟩
theorem esc_any (h : Lib.IsBuilder 200 5 B b bs w) (hlen : bs.length + 1 <= 140737488355328) (hBw : B <= w.heap.size) {n : Nat} {wr : Bool} {l : List UInt8} (hE : EscR t n wr l) :
  Calls Tryz.prog 126 #[.string t, .pointer (some ⟨b, 0, none⟩)] w (EscEnd B b bs n wr l w) := by
 cases hE with
 | empty ht => exact esc_empty B b bs t w h ht
 | other ht hc hx => exact esc_other B b bs t w h ht hc hx
 | xa ht h0 => exact esc_xa B b bs t w h (by omega) h0 ht
 | xb ht h0 h1 => exact esc_xb B b bs t w h ht h0 h1
 | xc ht h0 x hx h1 => exact esc_xc B b bs t w h (by omega) h0 x hx h1 ht
 | xd ht h0 x hx h1 h2 => exact esc_xd B b bs t w h ht h0 x hx h1 h2
 | hex ht h0 x y hx hy h1 h2 => exact esc_hexv B b bs t w h hlen hBw ht h0 x y hx hy h1 h2
 | two ht v hc =>
  refine (escape_two B b bs t w h hlen hBw ht (v.toNat : Int) ?_).mono ?_
  ·rcases hc with ⟨h1, rfl⟩ | ⟨h1, rfl⟩ | ⟨h1, rfl⟩ | ⟨h1, rfl⟩
   ·exact .inl ⟨by omega, rfl⟩
   ·exact .inr (.inl ⟨by omega, rfl⟩)
   ·exact .inr (.inr (.inl ⟨by omega, rfl⟩))
   ·exact .inr (.inr (.inr ⟨by omega, rfl⟩))
  ·rintro e w' ⟨rfl, h2, b2⟩
   refine ⟨rfl, .inr ?_, b2⟩
   simpa [Lib.byteCells] using h2
end
end Go.Proofs.YtgkhemnmcgicnaaGreatDoor
