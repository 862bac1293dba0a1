/- Towards the law ParserEvents, true for every text (no condition): one part of the proof. -/
import Derived.Test.YtgkhemnmcgicnaaGreatDoorG01
import Derived.Test.YtgkhemnmcgicnaaGreatDoorG21
import Derived.RangeFuncNested
import Derived.RangeFuncBound
import Derived.RangeFuncCalls
import Derived.RangeFuncLeaves
import Derived.Shelf.Abstract
import Derived.Shelf.RegionOpen
import Derived.WalkKit
import Derived.OwnWalkIn
import Derived.TacticsInMore
import Derived.LoopNIn
import Derived.LoopIn
namespace Go.Proofs.YtgkhemnmcgicnaaGreatDoor
set_option maxRecDepth 1000000
open Go.RowKit Go.Shelf Go.Dam
attribute [local go_sem] Oper.semAt_some
def vAgg (v : Int × Int) : Value := .agg #[I v.1, I v.2]
def ValIs (s : ByteArray) (r : (Int × Int) × Int) : Prop := ∀ w, Glo w -> Calls Tryz.prog 67 #[.string s] w fun e w' => e = .returned (.tuple #[vAgg r.1, I r.2]) /\ Below w.heap.size w w'
def vAt (k : Nat) : Int × Int := (((k / 4 : Nat) : Int) - 1, ((k % 4 : Nat) : Int))
theorem vUpto_at {a i : Nat} (hi : i < 4) : vAt (4 * a + i) = ((a : Int) - 1, (i : Int)) := by
 unfold vAt
 rw [show (4 * a + i) / 4 = a by omega, show (4 * a + i) % 4 = i by omega]
def TextIs (x : Int × Int) (t : ByteArray) : Prop := t.size <= 100 /\ ∀ w, Glo w -> Calls Tryz.prog 113 #[vAgg x] w fun e w' => e = .returned (.tuple #[.string t, I 0]) /\ Below w.heap.size w w'
def dotsL (d : Nat) : ByteArray := ⟨(List.replicate d 46).toArray⟩
def lowT (k : Nat) : ByteArray :=
 ⟨(((if k / 4 = 0 then [98] else if k / 4 = 1 then [49] else if k / 4 = 2 then [50] else if k / 4 = 3 then [52] else if k / 4 = 4 then [56] else if k / 4 = 5 then [49, 54] else if k / 4 = 6 then [51, 50] else [54, 52]) ++ List.replicate (k % 4) 46 : List UInt8)).toArray⟩
theorem low_texts : (List.range 32).all (fun k => runsV 113 [vAgg (vAt k)] (.tuple #[.string (lowT k), I 0])) = true := by kernel_rfl
theorem high_checks : (List.range 40).all (fun k => runsV 150 [vAgg (vAt k)] (I 0)) = true := by kernel_rfl
theorem repeats : (List.range 4).all (fun d => runsV 151 [.string ⟨#[46]⟩, I (d : Nat)] (.string (dotsL d))) = true := by kernel_rfl
end Go.Proofs.YtgkhemnmcgicnaaGreatDoor
