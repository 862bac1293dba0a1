/-
  A part of the proof that the law ParserIds (chapter 19) returns true for every site, number and count: walks of the program's functions, and runs of them in the kernel by the own evaluator.
-/
import Derived.Test.YtaimdnddmddbnaaGreatDoorDeb
import Derived.Deep.LoopGhost
namespace Go.Proofs.YtaimdnddmddbnaaGreatDoor
open Go.RowKit Go.Dam

theorem read_bad (S N n : Nat) (hS : S ≤ 9223372036854775807) (hN : N ≤ 9223372036854775807) (hn : n ≤ 7) (hbad : 99 < (S : Int) ∨ (N : Int) < 1 ∨ 1073741824 < (N : Int)) (w : World) : Calls Tryz.prog 6 #[.string (idText S N n)] w (ReadErr (fun _ e => e = 2 ∨ e = 5) w) := by
  by_cases hl : 1000000000000000 ≤ S ∨ 1000000000000000 ≤ N
  · refine (read_long hl (by omega) (by omega) (by omega) w).mono ?_
    rintro r w' ⟨b, line, col, e, rfl, he⟩
    exact ⟨b, line, col, e, rfl, .inr he⟩
  · by_cases h1 : 99 < S
    · refine (read_site h1 (by omega) (by omega) (by omega) w).mono ?_
      rintro r w' ⟨b, line, col, e, rfl, he⟩
      exact ⟨b, line, col, e, rfl, .inl he⟩
    · refine (read_num (by omega) (by omega) (by omega) (by omega) w).mono ?_
      rintro r w' ⟨b, line, col, e, rfl, he⟩
      exact ⟨b, line, col, e, rfl, .inl he⟩

set_option maxHeartbeats 16000000 in
set_option maxRecDepth 1000000 in
theorem law_bad (hkn : ∀ w, Calls Tryz.prog 7 #[] w fun e w' => e = .returned (.bool true) ∧ Below w.heap.size w w') (s k c : Int) (s0 : -9223372036854775808 ≤ s) (s1 : s ≤ 9223372036854775807) (k0 : -9223372036854775808 ≤ k) (k1 : k ≤ 9223372036854775807) (c0 : 0 ≤ c) (_c1 : c ≤ 255) (hbad : 99 < absI s ∨ absI k < 1 ∨ 1073741824 < absI k) (w : World) :
    Calls Tryz.prog 3 #[.int .i64 s, .int .i64 k, .int .u8 c] w fun e w' => e = .returned (.bool true) ∧ Below w.heap.size w w' := by
  obtain ⟨S, hSe⟩ : ∃ S : Nat, absI s = S := ⟨(absI s).toNat, by have := absI_nonneg s; omega⟩
  obtain ⟨N, hNe⟩ : ∃ N : Nat, absI k = N := ⟨(absI k).toNat, by have := absI_nonneg k; omega⟩
  have hS : S ≤ 9223372036854775807 := by unfold absI at hSe; split at hSe <;> omega
  have hN : N ≤ 9223372036854775807 := by unfold absI at hNe; split at hNe <;> omega
  obtain ⟨n, hne⟩ : ∃ n : Nat, c.tmod 8 = n := ⟨(c.tmod 8).toNat, by have : 0 ≤ c.tmod 8 := Int.tmod_nonneg 8 c0; omega⟩
  have hn : n ≤ 7 := by have : c.tmod 8 = c % 8 := Int.tmod_eq_emod_of_nonneg c0; omega
  have xs := fun w => abs_walk s s0 s1 w
  have xk := fun w => abs_walk k k0 k1 w
  rw [hSe] at xs hbad
  rw [hNe] at xk hbad
  have ds := digits_walk S hS
  have dk := digits_walk N hN
  have g1 := fun w => a1 (S := S) hS w
  have g2 := fun w => a2 (S := S) hS w
  have g3 := fun w => a3 (S := S) (N := N) hS hN w
  have g4 := fun w => a4 (S := S) (N := N) hS hN w
  simp only [preS, dotS, qqS] at g1 g2 g3 g4
  have m1 : IntKind.u8.wrap (n : Int) = n := IntWalk.u8_in _ (by omega)
  have m2 : IntKind.i64.wrap (n : Int) = n := IntWalk.i64_in _ (by omega)
  go_enter Tryz.func3, Tryz.ntmps3
  go_wp2_with (go_at_call 5; refine (xs _).mono ?_)
  intro r w1; first | (intro he b1; subst he) | rintro ⟨rfl, b1⟩
  replace b1 := b1.symm
  subst b1
  go_wp2_with (go_at_call 4; refine (ds _).mono ?_)
  intro r w1; first | (intro he b1; subst he) | rintro ⟨rfl, b1⟩
  go_wp2_with (go_at_call 5; refine (xk _).mono ?_)
  intro r w2; first | (intro he b2; subst he) | rintro ⟨rfl, b2⟩
  replace b2 := b2.symm
  subst b2
  go_wp2_with (go_at_call 4; refine (dk _).mono ?_)
  intro r w2; first | (intro he b2; subst he) | rintro ⟨rfl, b2⟩
  have bb := b1.trans (b2.mono b1.size)
  clear b1 b2
  have g5 := fun (i : Nat) (hi : i ≤ 7) (w : World) => a5 (S := S) (N := N) hS hN i hi w
  simp only [staffBassS] at g5
  clear xs xk ds dk
  go_wp2
  clear g1 g2 g3 g4
  go_loopg [7, 9] n (fun g u v wr => ∃ i : Nat, i ≤ n ∧ g = n - i ∧ u = .string (idText S N i) ∧ v = .int .i64 i ∧ wr = w2)
  case atStart => exact ⟨0, Nat.zero_le _, rfl, rfl, rfl, rfl⟩
  case round =>
    obtain ⟨i, hi, hg, rfl, rfl, hw⟩ := hrel
    by_cases hlt : i < n
    · have hlt' : (i : Int) < n := by omega
      have g5i := g5 i (by omega)
      have m3 : IntKind.i64.wrap ((i : Int) + 1) = (i : Int) + 1 := IntWalk.i64_in _ (by omega)
      go_wp2
      go_roundg (n - (i + 1))
      case measure => omega
      case rel => exact ⟨i + 1, by omega, rfl, rfl, by simp, by first | rfl | exact hw⟩
    · have hlt' : ¬ (i : Int) < n := by omega
      obtain rfl : i = n := by omega
      replace hw := hw.symm
      subst hw
      clear g5
      have hr := fun w => read_bad S N i hS hN (by omega) hbad w
      go_wp2_with (go_at_call 6; refine (hr _).mono ?_)
      rintro r w3 ⟨b3, line, col, e, rfl, he⟩
      have bb3 := bb.trans (b3.mono bb.size)
      clear hr b3 bb
      simp only [noScore]
      go_wp2_with (go_at_call 7; refine (hkn _).mono ?_)
      intro r w4; first | (intro he4 b4; subst he4) | rintro ⟨rfl, b4⟩
      have bb4 : Below w.heap.size w w4 := (bb3.alloc bb3.size _).trans (b4.mono (by have := bb3.size; simp; omega))
      clear bb3 b4
      have xs := fun w => abs_walk s s0 s1 w
      have xk := fun w => abs_walk k k0 k1 w
      rw [hSe] at xs
      rw [hNe] at xk
      go_wp2_with (go_at_call 5; refine (xs _).mono ?_)
      intro r w5; first | (intro he5 b5; subst he5) | rintro ⟨rfl, b5⟩
      replace b5 := b5.symm
      subst b5
      go_wp2_with (go_at_call 5; refine (xk _).mono ?_)
      intro r w5; first | (intro he5 b5; subst he5) | rintro ⟨rfl, b5⟩
      replace b5 := b5.symm
      subst b5
      clear xs xk hkn
      by_cases h1 : 99 < (S : Int)
      · rcases he with rfl | rfl
        · go_wp2
          go_ret
          exact ⟨rfl, bb4⟩
        · go_wp2
          go_ret
          exact ⟨rfl, bb4⟩
      · by_cases h2 : (N : Int) < 1
        · rcases he with rfl | rfl
          · go_wp2
            go_ret
            exact ⟨rfl, bb4⟩
          · go_wp2
            go_ret
            exact ⟨rfl, bb4⟩
        · have h3 : 1073741824 < (N : Int) := by omega
          rcases he with rfl | rfl
          · go_wp2
            go_ret
            exact ⟨rfl, bb4⟩
          · go_wp2
            go_ret
            exact ⟨rfl, bb4⟩
end Go.Proofs.YtaimdnddmddbnaaGreatDoor

namespace Go.Proofs.YtaimdnddmddbnaaGreatDoor
open Go.RowKit Go.Dam

set_option maxHeartbeats 16000000 in
set_option maxRecDepth 1000000 in
theorem law_limit (hkn : ∀ w, Calls Tryz.prog 7 #[] w fun e w' => e = .returned (.bool true) ∧ Below w.heap.size w w') (s k c : Int) (s0 : -9223372036854775808 ≤ s) (s1 : s ≤ 9223372036854775807) (k0 : -9223372036854775808 ≤ k) (k1 : k ≤ 9223372036854775807) (c0 : 0 ≤ c) (_c1 : c ≤ 255) (h1 : absI s ≤ 99) (h2 : 1 ≤ absI k) (h3 : absI k ≤ 1073741824) (h4 : 1073741824 < absI k + c.tmod 8) (w : World) :
    Calls Tryz.prog 3 #[.int .i64 s, .int .i64 k, .int .u8 c] w fun e w' => e = .returned (.bool true) ∧ Below w.heap.size w w' := by
  obtain ⟨S, hSe⟩ : ∃ S : Nat, absI s = S := ⟨(absI s).toNat, by have := absI_nonneg s; omega⟩
  obtain ⟨N, hNe⟩ : ∃ N : Nat, absI k = N := ⟨(absI k).toNat, by have := absI_nonneg k; omega⟩
  have hS : S ≤ 9223372036854775807 := by unfold absI at hSe; split at hSe <;> omega
  have hN : N ≤ 9223372036854775807 := by unfold absI at hNe; split at hNe <;> omega
  obtain ⟨n, hne⟩ : ∃ n : Nat, c.tmod 8 = n := ⟨(c.tmod 8).toNat, by have : 0 ≤ c.tmod 8 := Int.tmod_nonneg 8 c0; omega⟩
  have hn : n ≤ 7 := by have : c.tmod 8 = c % 8 := Int.tmod_eq_emod_of_nonneg c0; omega
  have xs := fun w => abs_walk s s0 s1 w
  have xk := fun w => abs_walk k k0 k1 w
  rw [hSe] at xs h1
  rw [hNe] at xk h2 h3 h4
  rw [hne] at h4
  have ds := digits_walk S hS
  have dk := digits_walk N hN
  have g1 := fun w => a1 (S := S) hS w
  have g2 := fun w => a2 (S := S) hS w
  have g3 := fun w => a3 (S := S) (N := N) hS hN w
  have g4 := fun w => a4 (S := S) (N := N) hS hN w
  simp only [preS, dotS, qqS] at g1 g2 g3 g4
  have m1 : IntKind.u8.wrap (n : Int) = n := IntWalk.u8_in _ (by omega)
  have m2 : IntKind.i64.wrap (n : Int) = n := IntWalk.i64_in _ (by omega)
  go_enter Tryz.func3, Tryz.ntmps3
  go_wp2_with (go_at_call 5; refine (xs _).mono ?_)
  intro r w1; first | (intro he b1; subst he) | rintro ⟨rfl, b1⟩
  replace b1 := b1.symm
  subst b1
  go_wp2_with (go_at_call 4; refine (ds _).mono ?_)
  intro r w1; first | (intro he b1; subst he) | rintro ⟨rfl, b1⟩
  go_wp2_with (go_at_call 5; refine (xk _).mono ?_)
  intro r w2; first | (intro he b2; subst he) | rintro ⟨rfl, b2⟩
  replace b2 := b2.symm
  subst b2
  go_wp2_with (go_at_call 4; refine (dk _).mono ?_)
  intro r w2; first | (intro he b2; subst he) | rintro ⟨rfl, b2⟩
  have bb := b1.trans (b2.mono b1.size)
  clear b1 b2
  have g5 := fun (i : Nat) (hi : i ≤ 7) (w : World) => a5 (S := S) (N := N) hS hN i hi w
  simp only [staffBassS] at g5
  clear xs xk ds dk
  go_wp2
  clear g1 g2 g3 g4
  go_loopg [7, 9] n (fun g u v wr => ∃ i : Nat, i ≤ n ∧ g = n - i ∧ u = .string (idText S N i) ∧ v = .int .i64 i ∧ wr = w2)
  case atStart => exact ⟨0, Nat.zero_le _, rfl, rfl, rfl, rfl⟩
  case round =>
    obtain ⟨i, hi, hg, rfl, rfl, hw⟩ := hrel
    by_cases hlt : i < n
    · have hlt' : (i : Int) < n := by omega
      have g5i := g5 i (by omega)
      have m3 : IntKind.i64.wrap ((i : Int) + 1) = (i : Int) + 1 := IntWalk.i64_in _ (by omega)
      go_wp2
      go_roundg (n - (i + 1))
      case measure => omega
      case rel => exact ⟨i + 1, by omega, rfl, rfl, by simp, by first | rfl | exact hw⟩
    · have hlt' : ¬ (i : Int) < n := by omega
      obtain rfl : i = n := by omega
      replace hw := hw.symm
      subst hw
      clear g5
      have hr := fun w => read_limit (S := S) (N := N) (n := i) (by omega) (by omega) (by omega) (by omega) (by omega) w
      go_wp2_with (go_at_call 6; refine (hr _).mono ?_)
      rintro r w3 ⟨b3, line, col, e, rfl, rfl, hcol⟩
      have bb3 := bb.trans (b3.mono bb.size)
      clear hr b3 bb
      simp only [noScore]
      go_wp2_with (go_at_call 7; refine (hkn _).mono ?_)
      intro r w4; first | (intro he4 b4; subst he4) | rintro ⟨rfl, b4⟩
      have bb4 : Below w.heap.size w w4 := (bb3.alloc bb3.size _).trans (b4.mono (by have := bb3.size; simp; omega))
      clear bb3 b4
      have xs := fun w => abs_walk s s0 s1 w
      have xk := fun w => abs_walk k k0 k1 w
      rw [hSe] at xs
      rw [hNe] at xk
      go_wp2_with (go_at_call 5; refine (xs _).mono ?_)
      intro r w5; first | (intro he5 b5; subst he5) | rintro ⟨rfl, b5⟩
      replace b5 := b5.symm
      subst b5
      go_wp2_with (go_at_call 5; refine (xk _).mono ?_)
      intro r w5; first | (intro he5 b5; subst he5) | rintro ⟨rfl, b5⟩
      replace b5 := b5.symm
      subst b5
      clear xs xk hkn
      have q1 : ¬ 99 < (S : Int) := by omega
      have q2 : ¬ (N : Int) < 1 := by omega
      have q3 : ¬ 1073741824 < (N : Int) := by omega
      have q4 : 1073741824 - (i : Int) < N := by omega
      have q5 : IntKind.i64.wrap (1073741824 - (i : Int)) = 1073741824 - i := IntWalk.i64_in _ (by omega)
      clear h1 h2 h3 h4
      go_wp2
      go_ret
      exact ⟨rfl, bb4⟩
end Go.Proofs.YtaimdnddmddbnaaGreatDoor
