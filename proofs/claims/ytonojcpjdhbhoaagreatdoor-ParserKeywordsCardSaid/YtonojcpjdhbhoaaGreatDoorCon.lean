/-
  A part of the proof that the law ParserKeywords (chapter 19) returns true for every index: runs of the program's functions in the kernel, by the own evaluator, and walks.
-/
import Derived.Test.YtonojcpjdhbhoaaGreatDoorProg
import Derived.WalkKit
namespace Go.Proofs.YtonojcpjdhbhoaaGreatDoor
open Go.RowKit

def hasStr (xs : List ByteArray) (s : ByteArray) : Bool := xs.any fun x => x.toList == s.toList

theorem hasStr_true {xs : List ByteArray} {s x : ByteArray} (h : x ∈ xs) (he : (x.toList == s.toList) = true) : hasStr xs s = true := by
  unfold hasStr
  rw [List.any_eq_true]
  exact ⟨x, h, he⟩

theorem hasStr_false {xs : List ByteArray} {s : ByteArray} (h : ∀ j, j < xs.length → ∀ x, xs[j]? = some x → (x.toList == s.toList) = false) : hasStr xs s = false := by
  unfold hasStr
  rw [List.any_eq_false]
  intro x hx he
  obtain ⟨j, hj⟩ := List.mem_iff_getElem?.1 hx
  have := h j (List.getElem?_eq_some_iff.1 hj).1 x hj
  rw [this] at he; cases he

set_option maxHeartbeats 2000000 in
set_option maxRecDepth 100000 in
theorem contains_walk (b off cap : Nat) (xs : List ByteArray) (s : ByteArray) (w : World) (hc : ∀ j x, xs[j]? = some x → w.cell? ⟨b, off + j, none⟩ = some (.string x)) (hlen : xs.length < 4611686018427387904) :
    Calls Tryz.prog 10 #[.slice (some ⟨b, off, none⟩) xs.length cap, .string s] w fun e w' => e = .returned (.bool (hasStr xs s)) ∧ w' = w := by
  go_enter Tryz.func10, Tryz.ntmps10
  go_wp2
  go_loopw [5] (fun v wr => ∃ k : Nat, k ≤ xs.length ∧ v = .int .i64 k ∧ (∀ j, j < k → ∀ x, xs[j]? = some x → (x.toList == s.toList) = false) ∧ wr = w) (fun v _ => xs.length - (intOf v).toNat)
  case atStart =>
    exact ⟨0, Nat.zero_le _, rfl, fun j hj => by omega, rfl⟩
  case round =>
    obtain ⟨k, hk, rfl, hno, rfl⟩ := hrel
    by_cases hlt : k < xs.length
    · have hlt' : (k : Int) < xs.length := by omega
      have hx : xs[k]? = some xs[k] := List.getElem?_eq_getElem hlt
      have hcell := hc k _ hx
      cases hq : (xs[k].toList == s.toList) with
      | true =>
        have hm : hasStr xs s = true := hasStr_true (List.getElem_mem hlt) hq
        go_wp2
        go_ret
        exact ⟨by first | rfl | (rw [hm]; rfl), rfl⟩
      | false =>
        go_wp2
        refine ⟨⟨k + 1, by omega, rfl, fun j hj x hxj => ?_, trivial⟩, by simp [intOf]; omega⟩
        by_cases hjk : j = k
        · subst hjk
          rw [hx] at hxj
          obtain rfl := Option.some.inj hxj
          exact hq
        · exact hno j (by omega) x hxj
    · have hlt' : ¬ (k : Int) < xs.length := by omega
      have hm : hasStr xs s = false := hasStr_false fun j hj x hxj => hno j (by omega) x hxj
      go_wp2
      go_ret
      exact ⟨by first | rfl | (rw [hm]; rfl), rfl⟩
end Go.Proofs.YtonojcpjdhbhoaaGreatDoor
