/-
  A part of the proof that the law ParserIds (chapter 19) returns true for every site, number and count: walks of the program's functions, and runs of them in the kernel by the own evaluator.
-/
import Derived.Test.YtaimdnddmddbnaaGreatDoorPcs
import Derived.Test.YtaimdnddmddbnaaGreatDoorOkf
import Derived.Deep.RegionHeld3
import Derived.Deep.RegionWith
import Derived.Deep.RegionHeld
import Derived.WalkSpells
import Derived.WalkKit
import Derived.Below
import Derived.IntWalk
import Derived.Test.YtaimdnddmddbnaaGreatDoorRde
namespace Go.Proofs.YtaimdnddmddbnaaGreatDoor
open Go.RowKit Go.Dam

def decS (n : Nat) : ByteArray := ⟨(Lib.decDigits n).toArray⟩
noncomputable def smallOk (n : Nat) : Bool := match evCall noOrc Tryz.prog fsAll 100 5 (.func 4) [.int .i64 (n : Int)] ⟨[], 100⟩ with
  | some (v, _) => veq (.string ⟨#[UInt8.ofNat (48 + n)]⟩) v
  | none => false
set_option maxRecDepth 1000000 in
theorem small_all : ((List.range 10).all smallOk) = true := by kernel_rfl

theorem digits_small (n : Nat) (hn : n < 10) (w : World) : Calls Tryz.prog 4 #[.int .i64 (n : Int)] w fun e w' => e = .returned (.string (decS n)) ∧ Below w.heap.size w w' := by
  have h := List.all_eq_true.1 small_all n (List.mem_range.2 hn)
  have hd : decS n = ⟨#[UInt8.ofNat (48 + n)]⟩ := by
    unfold decS
    rw [Lib.decDigits_one hn]
  unfold smallOk at h
  split at h
  · rename_i v S he
    obtain rfl := veq_spec h
    rw [hd]
    refine closed (args := [.int .i64 (n : Int)]) noOrc_ok mixed_ok (namesOk_of names_ok) (ok_any _) (h := []) (nx := 100) rfl (by decide) (Nat.le_of_ble_eq_true (by kernel_rfl)) ?_ rfl he rfl ?_
    · intro x hx; obtain rfl := List.mem_singleton.1 hx; rfl
    · intro n o hn; cases hn
  · cases h

theorem decS_le (n : Nat) (hn : n ≤ 9223372036854775807) : (decS n).size ≤ 19 := dec_le 18 n (by omega)

theorem add_run (s t : ByteArray) (hs : s.size ≤ 10000) (ht : t.size ≤ 10000) (w : World) : (Op.stringOp .add s t).run Tryz.prog w = .ok (.string (s ++ t)) w :=
  Go.run_string_add_sum (P := Tryz.prog) (w := w) s t (by omega)

theorem decS_step {n : Nat} (hn : ¬ n < 10) : decS (n / 10) ++ decS (n % 10) = decS n := by
  have h1 : Lib.decDigits (n % 10) = [UInt8.ofNat (48 + n % 10)] := Lib.decDigits_one (by omega)
  have h2 : Lib.decDigits n = Lib.decDigits (n / 10) ++ [UInt8.ofNat (48 + n % 10)] := by
    conv => lhs; rw [Lib.decDigits, dif_neg hn]
  apply ByteArray.ext
  rw [ByteArray.data_append]
  apply Array.ext'
  unfold decS
  rw [h2, h1]
  simp

set_option maxHeartbeats 2000000 in
set_option maxRecDepth 1000000 in
theorem digits_big (i : Int) (h10 : 10 ≤ i) (h1 : i ≤ 9223372036854775807) (ih : ∀ w : World, Calls Tryz.prog 4 #[.int .i64 (i / 10)] w fun e w' => e = .returned (.string (decS (i / 10).toNat)) ∧ Below w.heap.size w w')
    (il : ∀ w : World, Calls Tryz.prog 4 #[.int .i64 (i % 10)] w fun e w' => e = .returned (.string (decS (i % 10).toNat)) ∧ Below w.heap.size w w') (w : World) :
    Calls Tryz.prog 4 #[.int .i64 i] w fun e w' => e = .returned (.string (decS i.toNat)) ∧ Below w.heap.size w w' := by
  have h0 : 0 ≤ i := by omega
  have g2 : ¬ i < 10 := by omega
  have q1 : 0 ≤ i % 10 := by omega
  have q2 : i % 10 < 10 := by omega
  go_enter Tryz.func4, Tryz.ntmps4
  have e1 : i.tdiv 10 = i / 10 := by rw [Int.tdiv_eq_ediv_of_nonneg h0]
  have e2 : i.tmod 10 = i % 10 := by rw [Int.tmod_eq_emod_of_nonneg h0]
  have e3 : IntKind.i64.wrap (i / 10) = i / 10 := IntWalk.i64_in _ (by omega)
  have e4 : IntKind.i64.wrap (i % 10) = i % 10 := IntWalk.i64_in _ (by omega)
  have a0 : ∀ ww : World, (Op.stringOp .add (decS (i / 10).toNat) (decS (i % 10).toNat)).run Tryz.prog ww = .ok (.string (decS i.toNat)) ww := fun ww => by
    have x1 : (i / 10).toNat = i.toNat / 10 := by omega
    have x2 : (i % 10).toNat = i.toNat % 10 := by omega
    rw [add_run _ _ (by have := decS_le (i / 10).toNat (by omega); omega) (by have := decS_le (i % 10).toNat (by omega); omega)]
    rw [x1, x2, decS_step (by omega)]
  go_wp2_with (go_at_call 4; refine (ih _).mono ?_)
  intro r w1; first | (intro he b1; subst he) | rintro ⟨rfl, b1⟩
  go_wp2_with (go_at_call 4; refine (il _).mono ?_)
  intro r w2; first | (intro he b2; subst he) | rintro ⟨rfl, b2⟩
  go_wp2
  go_ret
  exact ⟨rfl, b1.trans (b2.mono b1.size)⟩

theorem digits_walk : ∀ (n : Nat), n ≤ 9223372036854775807 → ∀ w : World, Calls Tryz.prog 4 #[.int .i64 (n : Int)] w fun e w' => e = .returned (.string (decS n)) ∧ Below w.heap.size w w' := by
  intro n
  induction n using Nat.strongRecOn with
  | _ n ih =>
    intro hn w
    by_cases h : n < 10
    · exact digits_small n h w
    · have e1 : ((n : Int) / 10) = ((n / 10 : Nat) : Int) := by omega
      have e2 : ((n : Int) % 10) = ((n % 10 : Nat) : Int) := by omega
      have := digits_big (n : Int) (by omega) (by omega) (fun w => by
        rw [e1, Int.toNat_natCast]
        exact ih (n / 10) (by omega) (by omega) w) (fun w => by
        rw [e2, Int.toNat_natCast]
        exact ih (n % 10) (by omega) (by omega) w) w
      simpa using this

/-- What abs gives. -/
def absI (n : Int) : Int := if n < 0 then -(n + 1) else n
theorem absI_nonneg (n : Int) : 0 ≤ absI n := by unfold absI; split <;> omega

set_option maxHeartbeats 2000000 in
set_option maxRecDepth 100000 in
theorem abs_walk (n : Int) (h0 : -9223372036854775808 ≤ n) (h1 : n ≤ 9223372036854775807) (w : World) : Calls Tryz.prog 5 #[.int .i64 n] w fun e w' => e = .returned (.int .i64 (absI n)) ∧ w' = w := by
  by_cases hn : n < 0
  · have e1 : IntKind.i64.wrap (n + 1) = n + 1 := IntWalk.i64_in _ (by omega)
    have e2 : IntKind.i64.wrap (-(n + 1)) = -(n + 1) := IntWalk.i64_in _ (by omega)
    have e3 : absI n = -(n + 1) := by unfold absI; rw [if_pos hn]
    rw [e3]
    go_enter Tryz.func5, Tryz.ntmps5
    go_wp2
    go_ret
    exact ⟨rfl, rfl⟩
  · have e3 : absI n = n := by unfold absI; rw [if_neg hn]
    rw [e3]
    go_enter Tryz.func5, Tryz.ntmps5
    go_wp2
    go_ret
    exact ⟨rfl, rfl⟩
end Go.Proofs.YtaimdnddmddbnaaGreatDoor

namespace Go.Proofs.YtaimdnddmddbnaaGreatDoor
open Go.RowKit

def preS : ByteArray := ⟨#[115, 99, 111, 114, 101, 32, 34, 34, 32, 112, 97, 114, 116, 32, 64]⟩
def p1 (S : Nat) : ByteArray := preS ++ decS S
def p2 (S : Nat) : ByteArray := p1 S ++ dotS
def p3 (S N : Nat) : ByteArray := p2 S ++ decS N
def qqS : ByteArray := ⟨#[32, 34, 34]⟩
def staffBassS : ByteArray := ⟨#[32, 115, 116, 97, 102, 102, 32, 98, 97, 115, 115]⟩

theorem text_zero (S N : Nat) : p3 S N ++ qqS = idText S N 0 := by
  apply ByteArray.ext
  apply Array.ext'
  simp [p3, p2, p1, preS, dotS, qqS, decS, idText, idPs, headPs, staves, flat]

theorem text_more (S N n : Nat) : idText S N n ++ staffBassS = idText S N (n + 1) := by
  have e : ∀ k, flat (idPs S N k) = flat headPs ++ (Lib.decDigits S ++ (46 :: (Lib.decDigits N ++ ([32, 34, 34] ++ flat (staves k))))) := by intro k; simp [idPs, flat]
  apply ByteArray.ext
  apply Array.ext'
  have h := staves_ends n
  simp only [idText, e, staffBassS, ByteArray.data_append, Array.toList_append]
  rw [← h]
  simp

section
variable {S N : Nat}
theorem a1 (hS : S ≤ 9223372036854775807) (w : World) : (Op.stringOp .add preS (decS S)).run Tryz.prog w = .ok (.string (p1 S)) w := by
  have := decS_le S hS
  exact add_run _ _ (by show 15 ≤ _; omega) (by omega) w
theorem p1_le (hS : S ≤ 9223372036854775807) : (p1 S).size ≤ 34 := by
  have := decS_le S hS
  have e : preS.size = 15 := rfl
  rw [p1, ByteArray.size_append]; omega
theorem a2 (hS : S ≤ 9223372036854775807) (w : World) : (Op.stringOp .add (p1 S) dotS).run Tryz.prog w = .ok (.string (p2 S)) w := by
  have := p1_le hS
  exact add_run _ _ (by omega) (by show 1 ≤ _; omega) w
theorem p2_le (hS : S ≤ 9223372036854775807) : (p2 S).size ≤ 35 := by
  have := p1_le hS
  have e : dotS.size = 1 := rfl
  rw [p2, ByteArray.size_append]; omega
theorem a3 (hS : S ≤ 9223372036854775807) (hN : N ≤ 9223372036854775807) (w : World) : (Op.stringOp .add (p2 S) (decS N)).run Tryz.prog w = .ok (.string (p3 S N)) w := by
  have := p2_le hS
  have := decS_le N hN
  exact add_run _ _ (by omega) (by omega) w
theorem p3_le (hS : S ≤ 9223372036854775807) (hN : N ≤ 9223372036854775807) : (p3 S N).size ≤ 54 := by
  have := p2_le hS
  have := decS_le N hN
  rw [p3, ByteArray.size_append]; omega
theorem a4 (hS : S ≤ 9223372036854775807) (hN : N ≤ 9223372036854775807) (w : World) : (Op.stringOp .add (p3 S N) qqS).run Tryz.prog w = .ok (.string (idText S N 0)) w := by
  have := p3_le hS hN
  have h := add_run (p3 S N) qqS (by omega) (by show 3 ≤ _; omega) w
  rw [text_zero] at h
  exact h
theorem a5 (hS : S ≤ 9223372036854775807) (hN : N ≤ 9223372036854775807) (i : Nat) (hi : i ≤ 7) (w : World) : (Op.stringOp .add (idText S N i) staffBassS).run Tryz.prog w = .ok (.string (idText S N (i + 1))) w := by
  have hz : (idText S N i).size ≤ 1000 := by
    have h1 := dec_le 18 S (by omega)
    have h2 := dec_le 18 N (by omega)
    have e : flat (idPs S N i) = flat headPs ++ (Lib.decDigits S ++ (46 :: (Lib.decDigits N ++ ([32, 34, 34] ++ flat (staves i))))) := by simp [idPs, flat]
    have e2 : (flat headPs).length = 15 := rfl
    rw [← size_list]
    simp only [idText, e, List.length_append, List.length_cons, staves_flat, e2]
    simp
    omega
  have h := add_run (idText S N i) staffBassS (by omega) (by show 11 ≤ _; omega) w
  rw [text_more] at h
  exact h
end
end Go.Proofs.YtaimdnddmddbnaaGreatDoor
