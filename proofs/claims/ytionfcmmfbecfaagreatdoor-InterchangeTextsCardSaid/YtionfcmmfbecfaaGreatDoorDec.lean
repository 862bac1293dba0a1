/-
  A part of the proof that the law InterchangeTexts (chapter 22) returns true for every loss: runs of the program's functions in the kernel, by the own evaluator, and walks.
-/
import Derived.Test.YtionfcmmfbecfaaGreatDoorOkf
import Derived.Test.YtionfcmmfbecfaaGreatDoorShf
import Derived.Deep.RegionWith
import Derived.Deep.RegionHeld
import Derived.WalkSpells
import Derived.WalkKit
import Derived.Below
import Derived.Lib.ItoaNum
namespace Go.Proofs.YtionfcmmfbecfaaGreatDoor
open Go.RowKit Go.Dam

def decS (n : Nat) : ByteArray := ⟨(Lib.decDigits n).toArray⟩
noncomputable def smallOk (n : Nat) : Bool := match evCall noOrc Tryz.prog fsAll 100 5 (.func 10) [.int .i64 (n : Int)] ⟨[], 100⟩ with
  | some (v, _) => veq (.string ⟨#[UInt8.ofNat (48 + n)]⟩) v
  | none => false
set_option maxRecDepth 1000000 in
theorem small_all : ((List.range 10).all smallOk) = true := by kernel_rfl

theorem decimal_small (n : Nat) (hn : n < 10) (w : World) : Calls Tryz.prog 10 #[.int .i64 (n : Int)] w fun e w' => e = .returned (.string (decS n)) ∧ Below w.heap.size w w' := by
  have h := List.all_eq_true.1 small_all n (List.mem_range.2 hn)
  have hd : decS n = ⟨#[UInt8.ofNat (48 + n)]⟩ := by
    unfold decS
    rw [Lib.decDigits_one hn]
  unfold smallOk at h
  split at h
  · rename_i v S he
    obtain rfl := veq_spec h
    rw [hd]
    refine closed (args := [.int .i64 (n : Int)]) noOrc_ok mixed_ok (namesOk_of names_ok) (ok_any _) (h := []) (nx := 100) rfl (by decide) (Nat.le_of_ble_eq_true (by kernel_rfl)) ?_ rfl he rfl ?_
    · intro x hx; obtain rfl := List.mem_singleton.1 hx; rfl
    · intro n o hn; cases hn
  · cases h

theorem decDigits_le : ∀ (k n : Nat), n < 10 ^ (k + 1) → (Lib.decDigits n).length ≤ k + 1
  | 0, n, h => by
    rw [Lib.decDigits_one (by simpa using h)]
    simp
  | k + 1, n, h => by
    by_cases hn : n < 10
    · rw [Lib.decDigits_one hn]; simp
    · rw [Lib.decDigits, dif_neg hn]
      have := decDigits_le k (n / 10) (by rw [Nat.pow_succ] at h; omega)
      simp; omega

theorem decS_le (n : Nat) (hn : n ≤ 9223372036854775807) : (decS n).size ≤ 19 := decDigits_le 18 n (by omega)

theorem add_run (s t : ByteArray) (hs : s.size ≤ 1000) (ht : t.size ≤ 1000) (w : World) : (Op.stringOp .add s t).run Tryz.prog w = .ok (.string (s ++ t)) w :=
  Go.run_string_add_sum (P := Tryz.prog) (w := w) s t (by omega)

theorem decS_step {n : Nat} (hn : ¬ n < 10) : decS (n / 10) ++ ⟨#[UInt8.ofNat (48 + n % 10)]⟩ = decS n := by
  have h2 : Lib.decDigits n = Lib.decDigits (n / 10) ++ [UInt8.ofNat (48 + n % 10)] := by
    conv => lhs; rw [Lib.decDigits, dif_neg hn]
  apply ByteArray.ext
  rw [ByteArray.data_append]
  apply Array.ext'
  unfold decS
  rw [h2]
  simp

end Go.Proofs.YtionfcmmfbecfaaGreatDoor
