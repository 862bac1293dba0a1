/- Towards the law ParserVoices, true for every text (no condition): one part of the proof. -/
import Derived.Test.YtgkhemnmcgicnaaGreatDoorG01
import Derived.Test.YtgkhemnmcgicnaaGreatDoorG04
import Derived.Test.YtgkhemnmcgicnaaGreatDoorG05
import Derived.Test.YtgkhemnmcgicnaaGreatDoorG02
import Derived.Deep.RegionHeld
namespace Go.Proofs.YtgkhemnmcgicnaaGreatDoor
set_option maxHeartbeats 4000000
set_option maxRecDepth 100000
open Go.RowKit
def mk (l : List UInt8) : ByteArray := ⟨l.toArray⟩
def esc (c : UInt8) : List UInt8 :=
 if c = 10 then [92, 110] else if c = 9 then [92, 116] else if c = 92 then [92, 92] else if c = 34 then [92, 34]
 else if 32 <= c.toNat /\ c.toNat ≠ 127 then [c] else [92, 120, KW (c.toNat / 16), KW (c.toNat % 16)]
def mV (c : Int) : Bool := decide (32 <= c) && decide (c ≠ 127) && decide (c ≠ 34) && decide (c ≠ 92)
theorem K9 (c : Int) (w : World) : Calls Tryz.prog 124 #[.int .u8 c] w fun e w' => e = .returned (.bool (decide (32 <= c) && decide (c ≠ 127) && decide (c ≠ 34) && decide (c ≠ 92))) /\ w' = w := by
 go_enter Tryz.func124, Tryz.ntmps124
 by_cases h1 : 32 <= c <;> by_cases h2 : c = 127 <;> by_cases h3 : c = 34 <;> by_cases h4 : c = 92
 all_goals (try subst h2); (try subst h3); (try subst h4)
 all_goals first | omega | skip
 all_goals go_wp2
 all_goals go_ret
 all_goals simp_all
theorem pQ (c : Int) (w : World) (b : Bool) (h : mV c = b) : Calls Tryz.prog 124 #[.int .u8 c] w fun e w' => e = .returned (.bool b) /\ w' = w := by
 rw [<- h]; exact K9 c w
theorem WT (B b : Nat) (bs : List Value) (w : World) (h : Lib.IsBuilder 200 5 B b bs w) : Calls Tryz.prog 122 #[.pointer (some ⟨b, 0, none⟩)] w fun r w' => r = .returned (I bs.length) /\ w' = w := by
 have key : ∃ ao c, w.cell? ⟨b, 1, none⟩ = some (.slice ao bs.length c) := by
  rcases h with h | h
  all_goals
   obtain ⟨hB, v, hbk, hown, hne⟩ := h
   rcases hown.2 with ⟨hv, h0⟩ | ⟨g, cap, cur, hv, _⟩
   ·exact ⟨none, 0, by rw [Lib.cell_of_heap hbk]; simp [hv, h0]⟩
   ·exact ⟨some ⟨g, 0, none⟩, cap, by rw [Lib.cell_of_heap hbk]; simp [hv]⟩
 obtain ⟨ao, c, hc⟩ := key
 clear h
 go_enter Tryz.func122, Tryz.ntmps122
 go_wp2
 go_ret
 exact ⟨rfl, rfl⟩
theorem kF (s : ByteArray) : s.data.toList.length = s.size := by rw [Array.length_toList]; rfl
theorem HD {s : ByteArray} (k : Nat) (h : k < s.size) : s.data.toList[k]? = some s[k] := by
 have hk : k < s.data.toList.length := by rw [kF]; exact h
 rw [qo hk]
 rfl
def kS (p q : Nat) : Prop := p = q
theorem C4 (l : List UInt8) (c : UInt8) : Lib.byteCells (l ++ [c]) = Lib.byteCells l ++ [.int .u8 c.toNat] := by simp [Lib.byteCells]
section
variable {B X : Nat} {ks : List (Nat × Obj)} {s : ByteArray} {lv : Value} {n : Nat} {xs : List Value} {wz : Int} {w0 w : World} {LN : Value} {ls : List Int}
end
set_option maxHeartbeats 16000000
def o8 (c : UInt8) : Int := Lib.indexByte WL.data.toList c
theorem TE : (List.range 256).all (fun n => decide (-1 <= o8 n.toUInt8) && decide (o8 n.toUInt8 < 16)) = true := by decide +kernel
theorem WH (c : UInt8) : -1 <= o8 c /\ o8 c < 16 := by
 have h := qqn.1 TE c.toNat (List.mem_range.2 c.toNat_lt)
 simp only [qqx, decide_eq_true_eq] at h
 have e : c.toNat.toUInt8 = c := by simp
 rw [e] at h
 exact h
theorem tX (c : UInt8) (m : Int) (hm : m = (c.toNat : Int)) (v : Int) (hv : o8 c = v) (w : World) : Calls Tryz.prog 156 #[.int .u8 m] w fun e w' => e = .returned (I v) /\ w' = w := by
 have hi := Tryz.strings_IndexByte WL m w
 have e : m.toNat.toUInt8 = c := by rw [hm]; simp
 rw [e, show Lib.indexByte WL.data.toList c = v from hv] at hi
 simp only [WL] at hi
 clear hm hv e
 go_enter Tryz.func156, Tryz.ntmps156
 go_wp2_with (go_at_call 127; refine hi.mono ?_; rintro r w1 ⟨rfl, rfl⟩)
 go_wp2
 go_ret
 exact ⟨rfl, rfl⟩
def WJ : List UInt8 := [110, 116, 92, 34]
inductive vH (t : ByteArray) : Nat -> Bool -> List UInt8 -> Prop
 | empty (h : t.size = 0) : vH t 0 true []
 | two (h : 0 < t.size) (v : UInt8) (hc : (t[0].toNat = 110 /\ v = 10) \/ (t[0].toNat = 116 /\ v = 9) \/ (t[0].toNat = 92 /\ v = 92) \/ (t[0].toNat = 34 /\ v = 34)) : vH t 1 false [v]
 | other (h : 0 < t.size) (hc : Lib.indexByte WJ t[0] = -1) (hx : t[0].toNat ≠ 120) : vH t 0 true []
 | xa (h : t.size = 1) (h0 : t[0].toNat = 120) : vH t 1 true []
 | xb (h : 1 < t.size) (h0 : t[0].toNat = 120) (h1 : o8 t[1] = -1) : vH t 1 true []
 | xc (h : t.size = 2) (h0 : t[0].toNat = 120) (x : Nat) (hx : x < 16) (h1 : o8 t[1] = (x : Int)) : vH t 2 true []
 | xd (h : 2 < t.size) (h0 : t[0].toNat = 120) (x : Nat) (hx : x < 16) (h1 : o8 t[1] = (x : Int)) (h2 : o8 t[2] = -1) : vH t 2 true []
 | hex (h : 2 < t.size) (h0 : t[0].toNat = 120) (x y : Nat) (hx : x < 16) (hy : y < 16) (h1 : o8 t[1] = (x : Int)) (h2 : o8 t[2] = (y : Int)) : vH t 3 false [(16 * x + y).toUInt8]
theorem WK : (List.range 256).all (fun n => decide (Lib.indexByte WJ n.toUInt8 = -1) || (decide (n = 110) || decide (n = 116) || decide (n = 92) || decide (n = 34))) = true := by decide +kernel
theorem RF (c : UInt8) : Lib.indexByte WJ c = -1 \/ c.toNat = 110 \/ c.toNat = 116 \/ c.toNat = 92 \/ c.toNat = 34 := by
 have h := qqn.1 WK c.toNat (List.mem_range.2 c.toNat_lt)
 simp only [Bool.or_eq_true, decide_eq_true_eq] at h
 have e : c.toNat.toUInt8 = c := by simp
 rw [e] at h
 omega
theorem CY (c : UInt8) : o8 c = -1 \/ ∃ x : Nat, x < 16 /\ o8 c = (x : Int) := by
 have h := WH c
 by_cases h0 : o8 c = -1
 ·exact .inl h0
 ·exact .inr ⟨(o8 c).toNat, by omega, by omega⟩
theorem YG (t : ByteArray) : ∃ n b l, vH t n b l := by
 by_cases h : t.size = 0
 ·exact ⟨_, _, _, .empty h⟩
 have h0 : 0 < t.size := by omega
 rcases RF t[0] with hc | hc | hc | hc | hc
 ·by_cases hx : t[0].toNat = 120
  ·by_cases h1 : t.size = 1
   ·exact ⟨_, _, _, .xa h1 hx⟩
   ·have hl1 : 1 < t.size := by omega
    rcases CY t[1] with e1 | ⟨x, hx16, e1⟩
    ·exact ⟨_, _, _, .xb hl1 hx e1⟩
    ·by_cases h2 : t.size = 2
     ·exact ⟨_, _, _, .xc h2 hx x hx16 e1⟩
     ·have hl2 : 2 < t.size := by omega
      rcases CY t[2] with e2 | ⟨y, hy16, e2⟩
      ·exact ⟨_, _, _, .xd hl2 hx x hx16 e1 e2⟩
      ·exact ⟨_, _, _, .hex hl2 hx x y hx16 hy16 e1 e2⟩
  ·exact ⟨_, _, _, .other h0 hc hx⟩
 ·exact ⟨_, _, _, .two h0 10 (.inl ⟨hc, rfl⟩)⟩
 ·exact ⟨_, _, _, .two h0 9 (.inr (.inl ⟨hc, rfl⟩))⟩
 ·exact ⟨_, _, _, .two h0 92 (.inr (.inr (.inl ⟨hc, rfl⟩)))⟩
 ·exact ⟨_, _, _, .two h0 34 (.inr (.inr (.inr ⟨hc, rfl⟩)))⟩
theorem vH.n_le {t : ByteArray} {n : Nat} {b : Bool} {l : List UInt8} (h : vH t n b l) : n <= 3 /\ n <= t.size /\ l.length <= n /\ (b = false -> 1 <= n /\ l.length = 1) := by
 cases h <;> simp <;> omega
theorem dM {t : ByteArray} (h : 0 < t.size) : t.toList.isEmpty = false := by
 rw [Go.ByteArray.toList_eq]
 have hl : t.data.toList.length = t.size := by simp
 cases e : t.data.toList with
 | nil => rw [e] at hl; simp at hl; omega
 | cons x r => rfl
section
variable (B b : Nat) (bs : List Value) (t : ByteArray) (w : World)
def nP (n : Nat) (wr : Bool) (l : List UInt8) (w : World) (e : Ending) (w' : World) : Prop :=
 e = .returned (.tuple #[I n, .bool wr]) /\ (Lib.IsBuilder 200 5 B b (bs ++ Lib.byteCells l) w' /\ Below B w w')
theorem RG (h : Lib.IsBuilder 200 5 B b bs w) (ht : t.size = 0) : Calls Tryz.prog 126 #[.string t, .pointer (some ⟨b, 0, none⟩)] w (nP B b bs 0 true [] w) := by
 have hemp : t.toList.isEmpty = true := by
  rw [Go.ByteArray.toList_eq]
  have hl : t.data.toList.length = t.size := by simp
  cases e : t.data.toList with
  | nil => rfl
  | cons x r => rw [e] at hl; simp at hl; omega
 have hfin : Lib.IsBuilder 200 5 B b (bs ++ Lib.byteCells []) w := by simpa [Lib.byteCells] using h
 clear h
 go_enter Tryz.func126, Tryz.ntmps126
 go_wp2
 refine qf (qqg rfl _ _ _) rfl ?_
 exact ⟨rfl, hfin, qa _ _⟩
theorem RH (h : Lib.IsBuilder 200 5 B b bs w) (ht : 0 < t.size) (hc : Lib.indexByte WJ t[0] = -1) (hx : t[0].toNat ≠ 120) : Calls Tryz.prog 126 #[.string t, .pointer (some ⟨b, 0, none⟩)] w (nP B b bs 0 true [] w) := by
 have hemp := dM ht
 have ht' : (0 : Int) < (t.size : Int) := by omega
 have hi := Tryz.strings_IndexByte ⟨#[110, 116, 92, 34]⟩ ((t[0].toNat : Nat) : Int) w
 have e : ((t[0].toNat : Nat) : Int).toNat.toUInt8 = t[0] := by simp
 rw [e, show Lib.indexByte (⟨#[110, 116, 92, 34]⟩ : ByteArray).data.toList t[0] = -1 from hc] at hi
 have hne : ¬ ((t[0].toNat : Nat) : Int) = 120 := by omega
 have hfin : Lib.IsBuilder 200 5 B b (bs ++ Lib.byteCells []) w := by simpa [Lib.byteCells] using h
 clear h e hc hx
 go_enter Tryz.func126, Tryz.ntmps126
 go_wp2_with (go_at_call 127; refine hi.mono ?_; rintro r w1 ⟨rfl, rfl⟩)
 refine qf (qqg rfl _ _ _) rfl ?_
 exact ⟨rfl, hfin, qa _ _⟩
theorem YH (h : Lib.IsBuilder 200 5 B b bs w) (ht : 0 < t.size) (h0 : t[0].toNat = 120) (hs : t.size = 1) : Calls Tryz.prog 126 #[.string t, .pointer (some ⟨b, 0, none⟩)] w (nP B b bs 1 true [] w) := by
 have hemp := dM ht
 have ht' : (0 : Int) < (t.size : Int) := by omega
 have hi := Tryz.strings_IndexByte ⟨#[110, 116, 92, 34]⟩ ((t[0].toNat : Nat) : Int) w
 have h0' : ((t[0].toNat : Nat) : Int) = 120 := by omega
 rw [h0', show Lib.indexByte (⟨#[110, 116, 92, 34]⟩ : ByteArray).data.toList ((120 : Int).toNat.toUInt8) = -1 by decide] at hi
 have hn1 : (t.size : Int) = 1 := by omega
 have hfin : Lib.IsBuilder 200 5 B b (bs ++ Lib.byteCells []) w := by simpa [Lib.byteCells] using h
 clear hs h h0
 go_enter Tryz.func126, Tryz.ntmps126
 go_wp2_with (go_at_call 127; refine hi.mono ?_; rintro r w1 ⟨rfl, rfl⟩)
 go_loopg [7, 8] 3 (fun g v u wr => wr = w1 /\ (g = 3 /\ v = I 0 /\ u = I 1))
 case atStart => exact ⟨rfl, rfl, rfl, rfl⟩
 case round =>
  obtain ⟨hw1, rfl, rfl, rfl⟩ := hrel
  subst hw1
  go_wp2
  refine qf (qqg rfl _ _ _) rfl ?_
  exact ⟨rfl, hfin, qa _ _⟩
theorem YJ (h : Lib.IsBuilder 200 5 B b bs w) (ht : 1 < t.size) (h0 : t[0].toNat = 120) (h1 : o8 t[1] = -1) : Calls Tryz.prog 126 #[.string t, .pointer (some ⟨b, 0, none⟩)] w (nP B b bs 1 true [] w) := by
 have hemp := dM (t := t) (by omega)
 have ht' : (0 : Int) < (t.size : Int) := by omega
 have ht1 : (1 : Int) < (t.size : Int) := by omega
 have hi := Tryz.strings_IndexByte ⟨#[110, 116, 92, 34]⟩ ((t[0].toNat : Nat) : Int) w
 have h0' : ((t[0].toNat : Nat) : Int) = 120 := by omega
 rw [h0', show Lib.indexByte (⟨#[110, 116, 92, 34]⟩ : ByteArray).data.toList ((120 : Int).toNat.toUInt8) = -1 by decide] at hi
 have hz1 : ((1 : Int) == (t.size : Int)) = false := by simp; omega
 have hn1 : ¬ (1 : Int) = (t.size : Int) := by omega
 have x1 := fun w => tX t[1] _ rfl _ h1 w
 have hfin : Lib.IsBuilder 200 5 B b (bs ++ Lib.byteCells []) w := by simpa [Lib.byteCells] using h
 clear h h0 h1
 go_enter Tryz.func126, Tryz.ntmps126
 go_wp2_with (go_at_call 127; refine hi.mono ?_; rintro r w1 ⟨rfl, rfl⟩)
 go_loopg [7, 8] 3 (fun g v u wr => wr = w1 /\ (g = 3 /\ v = I 0 /\ u = I 1))
 case atStart => exact ⟨rfl, rfl, rfl, rfl⟩
 case round =>
  obtain ⟨hw1, rfl, rfl, rfl⟩ := hrel
  subst hw1
  go_wp2_with (go_at_call 156; refine (x1 _).mono ?_; rintro r w2 ⟨rfl, rfl⟩)
  refine qf (qqg rfl _ _ _) rfl ?_
  exact ⟨rfl, hfin, qa _ _⟩
theorem YK (h : Lib.IsBuilder 200 5 B b bs w) (ht : 1 < t.size) (h0 : t[0].toNat = 120) (x : Nat) (hx : x < 16) (h1 : o8 t[1] = (x : Int)) (hs : t.size = 2) : Calls Tryz.prog 126 #[.string t, .pointer (some ⟨b, 0, none⟩)] w (nP B b bs 2 true [] w) := by
 have hT0 : 0 < t.size := Nat.lt_trans Nat.zero_lt_one ht
 have hemp := dM hT0
 have ht' : (0 : Int) < (t.size : Int) := by omega
 have ht1 : (1 : Int) < (t.size : Int) := by omega
 have hi := Tryz.strings_IndexByte ⟨#[110, 116, 92, 34]⟩ (((t[0]'hT0).toNat : Nat) : Int) w
 have h0' : (((t[0]'hT0).toNat : Nat) : Int) = 120 := by omega
 rw [h0', show Lib.indexByte (⟨#[110, 116, 92, 34]⟩ : ByteArray).data.toList ((120 : Int).toNat.toUInt8) = -1 by decide] at hi
 have hn2 : (t.size : Int) = 2 := by omega
 have m4 : IntKind.i64.wrap (0 + (x : Int)) = (x : Int) := by rw [Int.zero_add]; exact IntWalk.i64_in _ (by omega)
 have hx0 : decide ((x : Int) < 0) = false := by simp
 have x1 := fun w => tX (t[1]'ht) _ rfl _ h1 w
 have hfin : Lib.IsBuilder 200 5 B b (bs ++ Lib.byteCells []) w := by simpa [Lib.byteCells] using h
 clear hs h h0 h1
 go_enter Tryz.func126, Tryz.ntmps126
 go_wp2_with (go_at_call 127; refine hi.mono ?_; rintro r w1 ⟨rfl, rfl⟩)
 go_loopg [7, 8] 3 (fun g v u wr => wr = w1 /\ ((g = 3 /\ v = I 0 /\ u = I 1) \/ (g = 2 /\ v = I x /\ u = I 2)))
 case atStart => exact ⟨rfl, .inl ⟨rfl, rfl, rfl⟩⟩
 case round =>
  obtain ⟨hw1, ⟨rfl, rfl, rfl⟩ | ⟨rfl, rfl, rfl⟩⟩ := hrel
  ·go_wp2_with (go_at_call 156; refine (x1 _).mono ?_; rintro r w2 ⟨rfl, rfl⟩)
   go_roundg 2
   case measure => omega
   case rel => exact ⟨by first | rfl | exact hw1 | simp, .inr ⟨rfl, rfl, rfl⟩⟩
  ·subst hw1
   go_wp2
   refine qf (qqg rfl _ _ _) rfl ?_
   exact ⟨rfl, hfin, qa _ _⟩
theorem YL (h : Lib.IsBuilder 200 5 B b bs w) (ht : 2 < t.size) (h0 : t[0].toNat = 120) (x : Nat) (hx : x < 16) (h1 : o8 t[1] = (x : Int)) (h2 : o8 t[2] = -1) : Calls Tryz.prog 126 #[.string t, .pointer (some ⟨b, 0, none⟩)] w (nP B b bs 2 true [] w) := by
 have hemp := dM (t := t) (by omega)
 have ht' : (0 : Int) < (t.size : Int) := by omega
 have ht1 : (1 : Int) < (t.size : Int) := by omega
 have ht2 : (2 : Int) < (t.size : Int) := by omega
 have hi := Tryz.strings_IndexByte ⟨#[110, 116, 92, 34]⟩ ((t[0].toNat : Nat) : Int) w
 have h0' : ((t[0].toNat : Nat) : Int) = 120 := by omega
 rw [h0', show Lib.indexByte (⟨#[110, 116, 92, 34]⟩ : ByteArray).data.toList ((120 : Int).toNat.toUInt8) = -1 by decide] at hi
 have hz1 : ((1 : Int) == (t.size : Int)) = false := by simp; omega
 have hn1 : ¬ (1 : Int) = (t.size : Int) := by omega
 have hz2 : ((2 : Int) == (t.size : Int)) = false := by simp; omega
 have hn2 : ¬ (2 : Int) = (t.size : Int) := by omega
 have m4 : IntKind.i64.wrap (0 + (x : Int)) = (x : Int) := by rw [Int.zero_add]; exact IntWalk.i64_in _ (by omega)
 have hx0 : decide ((x : Int) < 0) = false := by simp
 have x1 := fun w => tX t[1] _ rfl _ h1 w
 have x2 := fun w => tX t[2] _ rfl _ h2 w
 have hfin : Lib.IsBuilder 200 5 B b (bs ++ Lib.byteCells []) w := by simpa [Lib.byteCells] using h
 clear h h0 h1 h2
 go_enter Tryz.func126, Tryz.ntmps126
 go_wp2_with (go_at_call 127; refine hi.mono ?_; rintro r w1 ⟨rfl, rfl⟩)
 go_loopg [7, 8] 3 (fun g v u wr => wr = w1 /\ ((g = 3 /\ v = I 0 /\ u = I 1) \/ (g = 2 /\ v = I x /\ u = I 2)))
 case atStart => exact ⟨rfl, .inl ⟨rfl, rfl, rfl⟩⟩
 case round =>
  obtain ⟨hw1, ⟨rfl, rfl, rfl⟩ | ⟨rfl, rfl, rfl⟩⟩ := hrel
  ·go_wp2_with (go_at_call 156; refine (x1 _).mono ?_; rintro r w2 ⟨rfl, rfl⟩)
   go_roundg 2
   case measure => omega
   case rel => exact ⟨by first | rfl | exact hw1 | simp, .inr ⟨rfl, rfl, rfl⟩⟩
  ·subst hw1
   go_wp2_with (go_at_call 156; refine (x2 _).mono ?_; rintro r w2 ⟨rfl, rfl⟩)
   refine qf (qqg rfl _ _ _) rfl ?_
   exact ⟨rfl, hfin, qa _ _⟩
theorem TF (h : Lib.IsBuilder 200 5 B b bs w) (hlen : bs.length + 1 <= 140737488355328) (hBw : B <= w.heap.size) (ht : 2 < t.size) (h0 : t[0].toNat = 120) (x y : Nat) (hx : x < 16) (hy : y < 16) (h1 : o8 t[1] = (x : Int)) (h2 : o8 t[2] = (y : Int)) :
  Calls Tryz.prog 126 #[.string t, .pointer (some ⟨b, 0, none⟩)] w (nP B b bs 3 false [(16 * x + y).toUInt8] w) := by
 have hemp := dM (t := t) (by omega)
 have ht' : (0 : Int) < (t.size : Int) := by omega
 have ht1 : (1 : Int) < (t.size : Int) := by omega
 have ht2 : (2 : Int) < (t.size : Int) := by omega
 have hi := Tryz.strings_IndexByte ⟨#[110, 116, 92, 34]⟩ ((t[0].toNat : Nat) : Int) w
 have h0' : ((t[0].toNat : Nat) : Int) = 120 := by omega
 rw [h0', show Lib.indexByte (⟨#[110, 116, 92, 34]⟩ : ByteArray).data.toList ((120 : Int).toNat.toUInt8) = -1 by decide] at hi
 have hz1 : ((1 : Int) == (t.size : Int)) = false := by simp; omega
 have hn1 : ¬ (1 : Int) = (t.size : Int) := by omega
 have hz2 : ((2 : Int) == (t.size : Int)) = false := by simp; omega
 have hn2 : ¬ (2 : Int) = (t.size : Int) := by omega
 obtain ⟨m1, m2, m3⟩ := WM x y hx hy
 have m4 : IntKind.i64.wrap (0 + (x : Int)) = (x : Int) := by rw [Int.zero_add]; exact IntWalk.i64_in _ (by omega)
 have hx0 : decide ((x : Int) < 0) = false := by simp
 have hy0 : decide ((y : Int) < 0) = false := by simp
 have x1 := fun w => tX t[1] _ rfl _ h1 w
 have x2 := fun w => tX t[2] _ rfl _ h2 w
 have hw := xW B b bs (16 * (x : Int) + y) w h hlen hBw
 have e : [Value.int .u8 (16 * (x : Int) + y)] = Lib.byteCells [(16 * x + y).toUInt8] := by
  have e1 : (16 * x + y).toUInt8.toNat = 16 * x + y := by
   rw [Nat.toUInt8_eq, UInt8.toNat_ofNat']; omega
  unfold Lib.byteCells
  simp only [List.map_cons, List.map_nil, e1]
  simp
 have es : Shut _ := e
 clear h h0 h1 h2 e
 go_enter Tryz.func126, Tryz.ntmps126
 go_wp2_with (go_at_call 127; refine hi.mono ?_; rintro r w1 ⟨rfl, rfl⟩)
 go_loopg [7, 8] 3 (fun g v u wr => wr = w1 /\ ((g = 3 /\ v = I 0 /\ u = I 1) \/ (g = 2 /\ v = I x /\ u = I 2) \/ (g = 1 /\ v = I (16 * (x : Int) + y) /\ u = I 3)))
 case atStart => exact ⟨rfl, .inl ⟨rfl, rfl, rfl⟩⟩
 case round =>
  obtain ⟨hw1, ⟨rfl, rfl, rfl⟩ | ⟨rfl, rfl, rfl⟩ | ⟨rfl, rfl, rfl⟩⟩ := hrel
  ·go_wp2_with (go_at_call 156; refine (x1 _).mono ?_; rintro r w2 ⟨rfl, rfl⟩)
   go_roundg 2
   case measure => omega
   case rel => exact ⟨by first | rfl | exact hw1 | simp, .inr (.inl ⟨rfl, rfl, rfl⟩)⟩
  ·go_wp2_with (go_at_call 156; refine (x2 _).mono ?_; rintro r w2 ⟨rfl, rfl⟩)
   go_roundg 1
   case measure => omega
   case rel => exact ⟨by first | rfl | exact hw1 | simp, .inr (.inr ⟨rfl, rfl, rfl⟩)⟩
  ·subst hw1
   go_wp2_with (go_at_call 125; refine hw.mono ?_)
   rintro e w2 ⟨rfl, h2, b2⟩
   go_wp2
   refine qf (qqg rfl _ _ _) rfl ?_
   rw [es.out] at h2
   exact ⟨rfl, .inr h2, b2⟩
theorem G4 (h : Lib.IsBuilder 200 5 B b bs w) (hlen : bs.length + 1 <= 140737488355328) (hBw : B <= w.heap.size) {n : Nat} {wr : Bool} {l : List UInt8} (hE : vH t n wr l) :
  Calls Tryz.prog 126 #[.string t, .pointer (some ⟨b, 0, none⟩)] w (nP B b bs n wr l w) := by
 cases hE with
 | empty ht => exact RG B b bs t w h ht
 | other ht hc hx => exact RH B b bs t w h ht hc hx
 | xa ht h0 => exact YH B b bs t w h (by omega) h0 ht
 | xb ht h0 h1 => exact YJ B b bs t w h ht h0 h1
 | xc ht h0 x hx h1 => exact YK B b bs t w h (by omega) h0 x hx h1 ht
 | xd ht h0 x hx h1 h2 => exact YL B b bs t w h ht h0 x hx h1 h2
 | hex ht h0 x y hx hy h1 h2 => exact TF B b bs t w h hlen hBw ht h0 x y hx hy h1 h2
 | two ht v hc =>
  refine (NH B b bs t w h hlen hBw ht (v.toNat : Int) ?_).mono ?_
  ·rcases hc with ⟨h1, rfl⟩ | ⟨h1, rfl⟩ | ⟨h1, rfl⟩ | ⟨h1, rfl⟩
   ·exact .inl ⟨by omega, rfl⟩
   ·exact .inr (.inl ⟨by omega, rfl⟩)
   ·exact .inr (.inr (.inl ⟨by omega, rfl⟩))
   ·exact .inr (.inr (.inr ⟨by omega, rfl⟩))
  ·rintro e w' ⟨rfl, h2, b2⟩
   refine ⟨rfl, .inr ?_, b2⟩
   simpa [Lib.byteCells] using h2
end
set_option maxHeartbeats 32000000
inductive PM
 | hit (e : Nat) (bytes : List UInt8)
 | short
 | wrong (p : Nat)
inductive rL (s : ByteArray) : Nat -> List UInt8 -> PM -> Prop
 | eof {i : Nat} {acc : List UInt8} (h : ¬ i < s.size) : rL s i acc .short
 | close {i : Nat} {acc : List UInt8} (h : i < s.size) (hc : s[i].toNat = 34) : rL s i acc (.hit (i + 1) acc)
 | char {i : Nat} {acc : List UInt8} {o : PM} (h : i < s.size) (hc : mV (s[i].toNat : Nat) = true) (r : rL s (i + 1) (acc ++ [s[i]]) o) : rL s i acc o
 | esc {i n : Nat} {acc l : List UInt8} {o : PM} (h : i < s.size) (hc : s[i].toNat = 92) (hE : vH (s.extract (i + 1) s.size) n false l) (r : rL s (i + 1 + n) (acc ++ l) o) : rL s i acc o
 | escShort {i n : Nat} {acc l : List UInt8} (h : i < s.size) (hc : s[i].toNat = 92) (hE : vH (s.extract (i + 1) s.size) n true l) (he : i + 1 + n = s.size) : rL s i acc .short
 | escWrong {i n : Nat} {acc l : List UInt8} (h : i < s.size) (hc : s[i].toNat = 92) (hE : vH (s.extract (i + 1) s.size) n true l) (he : i + 1 + n ≠ s.size) : rL s i acc (.wrong (i + 1 + n))
 | bad {i : Nat} {acc : List UInt8} (h : i < s.size) (h1 : s[i].toNat ≠ 34) (h2 : s[i].toNat ≠ 92) (h3 : mV (s[i].toNat : Nat) = false) : rL s i acc (.wrong i)
theorem PN (s : ByteArray) : ∀ (n i : Nat) (acc : List UInt8), s.size - i <= n -> ∃ o, rL s i acc o
 | 0, i, acc, hn => ⟨_, .eof (by omega)⟩
 | n + 1, i, acc, hn => by
  by_cases hlt : i < s.size
  ·by_cases h34 : s[i].toNat = 34
   ·exact ⟨_, .close hlt h34⟩
   ·by_cases h92 : s[i].toNat = 92
    ·obtain ⟨k, b, l, hE⟩ := YG (s.extract (i + 1) s.size)
     cases b with
     | false =>
      obtain ⟨o, hr⟩ := PN s n (i + 1 + k) (acc ++ l) (by omega)
      exact ⟨o, .esc hlt h92 hE hr⟩
     | true =>
      by_cases he : i + 1 + k = s.size
      ·exact ⟨_, .escShort hlt h92 hE he⟩
      ·exact ⟨_, .escWrong hlt h92 hE he⟩
    ·cases h3 : mV (s[i].toNat : Nat) with
     | true =>
      obtain ⟨o, hr⟩ := PN s n (i + 1) (acc ++ [s[i]]) (by omega)
      exact ⟨o, .char hlt h3 hr⟩
     | false => exact ⟨_, .bad hlt h34 h92 h3⟩
  ·exact ⟨_, .eof hlt⟩
theorem rL.le {s : ByteArray} {i : Nat} {acc : List UInt8} {o : PM} (h : rL s i acc o) : ∀ e bytes, o = .hit e bytes -> i < e /\ e <= s.size := by
 induction h with
 | eof _ => intro e b h; cases h
 | close h _ => intro e b h2; injection h2 with h3 _; omega
 | char h _ _ ih => intro e b h2; have := ih e b h2; omega
 | esc h _ _ _ ih => intro e b h2; have := ih e b h2; omega
 | escShort => intro e b h; cases h
 | escWrong => intro e b h; cases h
 | bad => intro e b h; cases h
def XQ (B X : Nat) (ks : List (Nat × Obj)) (s : ByteArray) (LN : Value) (ls : List Int) (a : Nat) (lv : Value) (n : Nat) (xs : List Value) (j : Bool) (wz : Int) (w0 : World) (o : PM) (w : World) : Prop :=
 match o with
 | .hit e bytes => ∃ lv', gG B X ks s LN (e : Nat) lv' (n + 1) (xs ++ bD.cells ⟨3, s.extract a e, 0, mk bytes, rN ls a, rP ls a, j && decide (0 < n)⟩) 0 wz w0 w
 | .short => gG B X ks s LN a lv n xs 4 a w0 w
 | .wrong p => gG B X ks s LN a lv n xs 6 (p : Nat) w0 w
section
variable {B X : Nat} {ks : List (Nat × Obj)} {s : ByteArray} {lv : Value} {n : Nat} {xs : List Value} {wz : Int} {w0 w : World} {LN : Value} {ls : List Int}
theorem DK {a : Nat} (h : gG B X ks s LN a lv n xs 0 wz w0 w) (hL : hG LN ls ks) (gL : oL ls) (hsz : s.size <= 4000) (hn : n <= 1048576) (ha : a < s.size) (hc : s[a].toNat = 34) {o : PM} (hR : rL s (a + 1) [] o) (j : Bool) :
  Calls Tryz.prog 83 #[.pointer (some ⟨X, 0, none⟩), .bool j] w fun r w' => r = .returned (.bool true) /\ XQ B X ks s LN ls a lv n xs j wz w0 o w' := by
 have hc' : ((s[a].toNat : Nat) : Int) = 34 := by omega
 have c0 := h.c0
 have c1 := h.c1
 have ha0 : (0 : Int) <= (a : Int) := by omega
 have ha' : (a : Int) < s.size := by omega
 have hw1 : IntKind.i64.wrap ((a : Int) + 1) = ((a + 1 : Nat) : Int) := by rw [show ((a + 1 : Nat) : Int) = (a : Int) + 1 by omega]; exact IntWalk.i64_in _ (by omega)
 obtain ⟨q0, hq0⟩ : ∃ q0, kS q0 (a + 1) := ⟨_, rfl⟩
 rw [show (a + 1 : Nat) = q0 from hq0.symm] at hw1 hR
 go_enter Tryz.func83, Tryz.ntmps83
 go_wp2
 go_quiet (fail)
 have hm := h.step (cD (qa _ _) nq)
 generalize w.drewN nq = W at hm |-
 have d0 := hm.c0
 have d1 := hm.c1
 have hXl := hm.lt
 have neX := qr W _ d0
 clear c0 c1 h hc hc'
 go_wp2
 have hb0 : Lib.IsBuilder 200 5 W.heap.size W.heap.size (Lib.byteCells []) (W.alloc (.cells #[.pointer none, .slice none 0 0] 200)) := Lib.fresh_isBuilder 200 5 W
 have bel0 := (qa W.heap.size W).alloc (qb _) (.cells #[.pointer none, .slice none 0 0] 200)
 generalize hbb : W.heap.size = bb at hb0 bel0 |-
 generalize (W.alloc (.cells #[.pointer none, .slice none 0 0] 200)) = V at hb0 bel0 |-
 clear d0 d1 neX
 have hqa : a + 1 <= q0 /\ q0 <= s.size := by unfold kS at hq0; omega
 clear hq0
 go_loopg [6] (s.size + 1 - q0) (fun g v wr' => ∃ (p : Nat) (acc : List UInt8), g = s.size + 1 - p /\ rL s p acc o /\ acc.length + (a + 1) <= p /\ p <= s.size /\ v = I p /\ Lib.IsBuilder 200 5 bb bb (Lib.byteCells acc) wr' /\ Below bb W wr')
 case atStart => exact ⟨q0, [], rfl, hR, by simpa using hqa.1, hqa.2, rfl, hb0, bel0⟩
 case round =>
  clear hb0 bel0 hw1 hR hqa
  obtain ⟨p, acc, hg, hR, hp1, hp2, rfl, hI, hb⟩ := hrel
  have hsb : bb <= wr.heap.size := by rw [<- hbb]; exact hbb ▸ hb.size
  have hS := hm.step (hbb.symm ▸ hb)
  have hlk : (Lib.byteCells acc).length = acc.length := Lib.byteCells_length _
  have hstep := fun w' (b : Below bb wr w') => hm.step (hbb.symm ▸ hb.trans b)
  have d0 := hS.c0
  have d1 := hS.c1
  have hp0 : (0 : Int) <= (p : Int) := by omega
  cases hR with
  | eof hlt =>
   have hps' : ¬ (p : Int) < (s.size : Int) := by omega
   have hf := lD hS a 4
   clear hS hI hstep hm
   go_wp2_with (go_at_call 87; refine hf.mono ?_)
   intro e w2; first | (intro he hS2; subst he) | rintro ⟨rfl, hS2⟩
   go_wp2
   go_ret
   exact ⟨rfl, hS2⟩
  | close hlt hcl =>
   have hq : ((s[p].toNat : Nat) : Int) = 34 := by omega
   have hps' : (p : Int) < (s.size : Int) := by omega
   have xl := WT bb bb _ wr hI
   rw [hlk] at xl
   have hlen4 : ¬ (4096 : Int) < (acc.length : Int) := by omega
   have xst := Tryz.Builder_String_any bb bb acc wr hI hsb
   have hw2 : IntKind.i64.wrap ((p : Int) + 1) = ((p + 1 : Nat) : Int) := by rw [show ((p + 1 : Nat) : Int) = (p : Int) + 1 by omega]; exact IntWalk.i64_in _ (by omega)
   have hadd := fun w' (hS' : gG B X ks s LN a lv n xs 0 wz w0 w') => pP hS' hL gL (by omega) hn (p + 1) (by omega) (by omega) 3 0 (mk acc) j
   obtain ⟨q1, hq1⟩ : ∃ q1, kS q1 (p + 1) := ⟨_, rfl⟩
   rw [show p + 1 = q1 from hq1.symm] at hadd hw2
   clear hI hcl
   go_wp2_with (first
    | (go_at_call 122; refine xl.mono ?_; rintro e w2 ⟨rfl, rfl⟩)
    | (go_at_call 123; refine xst.mono ?_))
   rintro e w3 ⟨rfl, b3⟩
   have hS3 := hstep _ b3
   have hadd3 := hadd _ hS3
   clear hstep hadd xst xl hS hS3
   go_wp2_with (first
    | (go_at_call 86; refine hadd3.mono ?_))
   rintro e w4 ⟨rfl, lv', hS4⟩
   go_wp2
   go_ret
   refine ⟨rfl, lv', ?_⟩
   rw [show p + 1 = q1 from hq1.symm]; exact hS4
  | char hlt hst hr =>
   have hle : (acc ++ [s[p]]).length = acc.length + 1 := by simp
   obtain ⟨c, hcE⟩ : ∃ c, s[p] = c := ⟨_, rfl⟩
   obtain ⟨m, hm0⟩ : ∃ m : Int, m = (c.toNat : Int) := ⟨_, rfl⟩
   have hq : ((s[p].toNat : Nat) : Int) = m := by rw [hcE, hm0]
   have hst' : mV m = true := by rw [<- hq]; exact hst
   have hps' : (p : Int) < (s.size : Int) := by omega
   have hn34 : ¬ m = 34 := by rintro rfl; revert hst'; decide
   have xs1 := fun w => pQ m w true hst'
   have xw := xW bb bb _ m wr hI (by rw [hlk]; omega) hsb
   have hw2 : IntKind.i64.wrap ((p : Int) + 1) = ((p + 1 : Nat) : Int) := by rw [show ((p + 1 : Nat) : Int) = (p : Int) + 1 by omega]; exact IntWalk.i64_in _ (by omega)
   obtain ⟨q1, hq1⟩ : ∃ q1, kS q1 (p + 1) := ⟨_, rfl⟩
   have hcells : Lib.byteCells acc ++ [.int .u8 m] = Lib.byteCells (acc ++ [s[p]]) := by rw [C4, <- hq]
   rw [hcells] at xw
   generalize hacc : acc ++ [s[p]] = acc2 at xw hr hle
   rw [show p + 1 = q1 from hq1.symm] at hw2 hr
   clear hm0 hcE hI hcells hacc hst hst' hstep
   go_wp2_with (first
    | (go_at_call 124; refine (xs1 _).mono ?_; rintro e w2 ⟨rfl, rfl⟩)
    | (go_at_call 125; refine xw.mono ?_))
   rintro e w3 ⟨rfl, hI3, b3⟩
   go_wp2
   go_roundg (s.size + 1 - q1)
   case measure => unfold kS at hq1; omega
   case rel => exact ⟨q1, acc2, rfl, hr, by unfold kS at hq1; omega, by unfold kS at hq1; omega, rfl, .inr hI3, hb.trans b3⟩
  | bad hlt h1 h2 h3 =>
   obtain ⟨m, hm0⟩ : ∃ m : Int, m = ((s[p].toNat : Nat) : Int) := ⟨_, rfl⟩
   have hq : ((s[p].toNat : Nat) : Int) = m := hm0.symm
   have hst' : mV m = false := by rw [<- hq]; exact h3
   have hps' : (p : Int) < (s.size : Int) := by omega
   have hn34 : ¬ m = 34 := by omega
   have hn92 : ¬ m = 92 := by omega
   have xs1 := fun w => pQ m w false hst'
   have hf := lD hS p 6
   clear hm0 hI h1 h2 h3 hst' hS hstep
   go_wp2_with (first
    | (go_at_call 124; refine (xs1 _).mono ?_; rintro e w2 ⟨rfl, rfl⟩)
    | (go_at_call 87; refine hf.mono ?_))
   intro e w3; first | (intro he hS3; subst he) | rintro ⟨rfl, hS3⟩
   go_wp2
   go_ret
   exact ⟨rfl, hS3⟩
  | @esc _ k _ l _ hlt h92 hE hr =>
   have hq : ((s[p].toNat : Nat) : Int) = 92 := by omega
   have hnle := hE.n_le
   have hex : (s.extract (p + 1) s.size).size = s.size - (p + 1) := by rw [ByteArray.size_extract]; omega
   have hps' : (p : Int) < (s.size : Int) := by omega
   have hst : mV 92 = false := by decide
   have xs1 := fun w => pQ 92 w false hst
   have hw2 : IntKind.i64.wrap ((p : Int) + 1) = ((p + 1 : Nat) : Int) := by rw [show ((p + 1 : Nat) : Int) = (p : Int) + 1 by omega]; exact IntWalk.i64_in _ (by omega)
   obtain ⟨q1, hq1⟩ : ∃ q1, kS q1 (p + 1) := ⟨_, rfl⟩
   have xe := G4 bb bb _ _ wr hI (by rw [hlk]; omega) hsb hE
   have hk3 : p + 1 + k <= s.size := by omega
   have hw4 : IntKind.i64.wrap (1 + (k : Int)) = ((1 + k : Nat) : Int) := by rw [show ((1 + k : Nat) : Int) = 1 + (k : Int) by omega]; exact IntWalk.i64_in _ (by omega)
   have hw5 : IntKind.i64.wrap ((p : Int) + ((1 + k : Nat) : Int)) = ((p + 1 + k : Nat) : Int) := by rw [show ((p + 1 + k : Nat) : Int) = (p : Int) + ((1 + k : Nat) : Int) by omega]; exact IntWalk.i64_in _ (by omega)
   generalize ((1 + k : Nat) : Int) = z at hw4 hw5
   have hq1s : (q1 : Int) <= (s.size : Int) := by unfold kS at hq1; omega
   have hq10 : (0 : Int) <= (q1 : Int) := by omega
   have hll : l.length = 1 := (hnle.2.2.2 rfl).2
   have hle : (acc ++ l).length = acc.length + 1 := by rw [qi, hll]
   have hcells : Lib.byteCells acc ++ Lib.byteCells l = Lib.byteCells (acc ++ l) := by simp [Lib.byteCells]
   obtain ⟨q2, hq2⟩ : ∃ q2, kS q2 (p + 1 + k) := ⟨p + 1 + k, show p + 1 + k = p + 1 + k from rfl⟩
   have hp2' : acc.length + 1 + (a + 1) <= q2 /\ q2 <= s.size /\ p < q2 := by have := (hnle.2.2.2 rfl).1; unfold kS at hq2; omega
   unfold nP at xe
   rw [hcells] at xe
   generalize acc ++ l = acc2 at xe hr hle
   rw [show p + 1 + k = q2 from hq2.symm] at hw5 hr
   rw [show p + 1 = q1 from hq1.symm] at hw2 xe
   clear hI hcells hE hnle hex hll hstep hq2 h92
   go_wp2_with (first
    | (go_at_call 124; refine (xs1 _).mono ?_; rintro e w2 ⟨rfl, rfl⟩)
    | (go_at_call 126; refine xe.mono ?_))
   rintro e w3 ⟨rfl, hI3, b3⟩
   go_wp2
   go_roundg (s.size + 1 - q2)
   case measure => omega
   case rel => exact ⟨q2, acc2, rfl, hr, by omega, hp2'.2.1, rfl, hI3, hb.trans b3⟩
  | @escShort _ k _ l hlt h92 hE he =>
   have hq : ((s[p].toNat : Nat) : Int) = 92 := by omega
   have hps' : (p : Int) < (s.size : Int) := by omega
   have hst : mV 92 = false := by decide
   have xs1 := fun w => pQ 92 w false hst
   have hw2 : IntKind.i64.wrap ((p : Int) + 1) = ((p + 1 : Nat) : Int) := by rw [show ((p + 1 : Nat) : Int) = (p : Int) + 1 by omega]; exact IntWalk.i64_in _ (by omega)
   obtain ⟨q1, hq1⟩ : ∃ q1, kS q1 (p + 1) := ⟨_, rfl⟩
   have xe := G4 bb bb _ _ wr hI (by rw [hlk]; omega) hsb hE
   have hq1s : (q1 : Int) <= (s.size : Int) := by unfold kS at hq1; omega
   have hq10 : (0 : Int) <= (q1 : Int) := by omega
   have hw3 : IntKind.i64.wrap ((q1 : Int) + (k : Int)) = (s.size : Int) := by
    unfold kS at hq1
    rw [show (q1 : Int) + (k : Int) = (s.size : Int) by omega]; exact IntWalk.i64_in _ (by omega)
   rw [show p + 1 = q1 from hq1.symm] at hw2 xe
   unfold nP at xe
   clear hI hE hS he hq1
   go_wp2_with (first
    | (go_at_call 124; refine (xs1 _).mono ?_; rintro e w2 ⟨rfl, rfl⟩)
    | (go_at_call 126; refine xe.mono ?_))
   rintro e w3 ⟨rfl, hI3, b3⟩
   have hS3 := hstep _ b3
   have g0 := hS3.c0
   have g1 := hS3.c1
   have hf := lD hS3 a 4
   clear hstep hS3 hI3
   go_wp2_with (first
    | (go_at_call 87; refine hf.mono ?_))
   intro e w4; first | (intro he hS4; subst he) | rintro ⟨rfl, hS4⟩
   go_wp2
   go_ret
   exact ⟨rfl, hS4⟩
  | @escWrong _ k _ l hlt h92 hE he =>
   have hq : ((s[p].toNat : Nat) : Int) = 92 := by omega
   have hps' : (p : Int) < (s.size : Int) := by omega
   have hst : mV 92 = false := by decide
   have xs1 := fun w => pQ 92 w false hst
   have hw2 : IntKind.i64.wrap ((p : Int) + 1) = ((p + 1 : Nat) : Int) := by rw [show ((p + 1 : Nat) : Int) = (p : Int) + 1 by omega]; exact IntWalk.i64_in _ (by omega)
   obtain ⟨q1, hq1⟩ : ∃ q1, kS q1 (p + 1) := ⟨_, rfl⟩
   have xe := G4 bb bb _ _ wr hI (by rw [hlk]; omega) hsb hE
   have hnle := hE.n_le
   have hq1s : (q1 : Int) <= (s.size : Int) := by unfold kS at hq1; omega
   have hq10 : (0 : Int) <= (q1 : Int) := by omega
   obtain ⟨q2, hq2⟩ : ∃ q2, kS q2 (p + 1 + k) := ⟨p + 1 + k, show p + 1 + k = p + 1 + k from rfl⟩
   have hw3 : IntKind.i64.wrap ((q1 : Int) + (k : Int)) = (q2 : Int) := by
    unfold kS at hq1 hq2
    rw [show (q1 : Int) + (k : Int) = (q2 : Int) by omega]; exact IntWalk.i64_in _ (by omega)
   have hne : ¬ (q2 : Int) = (s.size : Int) := by unfold kS at hq2; omega
   rw [show p + 1 = q1 from hq1.symm] at hw2 xe
   unfold nP at xe
   clear hI hE hS he hq1 hnle
   go_wp2_with (first
    | (go_at_call 124; refine (xs1 _).mono ?_; rintro e w2 ⟨rfl, rfl⟩)
    | (go_at_call 126; refine xe.mono ?_))
   rintro e w3 ⟨rfl, hI3, b3⟩
   have hS3 := hstep _ b3
   have g0 := hS3.c0
   have g1 := hS3.c1
   have hf := lD hS3 q2 6
   clear hstep hS3 hI3
   go_wp2_with (first
    | (go_at_call 87; refine hf.mono ?_))
   intro e w4; first | (intro he hS4; subst he) | rintro ⟨rfl, hS4⟩
   go_wp2
   go_ret
   refine ⟨rfl, ?_⟩
   rw [show p + 1 + k = q2 from hq2.symm]
   exact hS4
end
end Go.Proofs.YtgkhemnmcgicnaaGreatDoor
