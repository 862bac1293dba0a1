/-
  A part of the proof that the law ParserIds (chapter 19) returns true for every site, number and count: walks of the program's functions, and runs of them in the kernel by the own evaluator.
-/
import Derived.Test.YtaimdnddmddbnaaGreatDoorDeb
import Derived.Deep.LoopGhost
import Derived.Test.YtaimdnddmddbnaaGreatDoorTpa
import Derived.Test.YtaimdnddmddbnaaGreatDoorSca
namespace Go.Proofs.YtaimdnddmddbnaaGreatDoor
open Go.RowKit Go.Dam

theorem staffCells_len (S N : Int) (k : Nat) : (staffCells S N k).length = 3 * k := by
  induction k with
  | zero => rfl
  | succ k ih => rw [staffCells_succ, List.length_append, ih]; simp; omega
theorem staffCells_at (S N : Int) : ∀ (n i : Nat), i < n → (staffCells S N n)[i * 3]? = some (.int .i64 S) ∧ (staffCells S N n)[i * 3 + 1]? = some (.int .i64 (N + 1 + i))
  | 0, i, h => absurd h (by omega)
  | n + 1, i, h => by
    rw [staffCells_succ]
    by_cases hi : i < n
    · obtain ⟨h1, h2⟩ := staffCells_at S N n i hi
      rw [List.getElem?_append_left (by rw [staffCells_len]; omega), List.getElem?_append_left (by rw [staffCells_len]; omega)]
      exact ⟨h1, h2⟩
    · obtain rfl : i = n := by omega
      rw [List.getElem?_append_right (by rw [staffCells_len]; omega), List.getElem?_append_right (by rw [staffCells_len]; omega), staffCells_len]
      rw [show i * 3 - 3 * i = 0 by omega, show i * 3 + 1 - 3 * i = 1 by omega]
      refine ⟨rfl, ?_⟩
      simp; omega

set_option maxHeartbeats 16000000 in
set_option maxRecDepth 1000000 in
theorem law_ok (hkn : ∀ w, Calls Tryz.prog 7 #[] w fun e w' => e = .returned (.bool true) ∧ Below w.heap.size w w') (s k c : Int) (s0 : -9223372036854775808 ≤ s) (s1 : s ≤ 9223372036854775807) (k0 : -9223372036854775808 ≤ k) (k1 : k ≤ 9223372036854775807) (c0 : 0 ≤ c) (_c1 : c ≤ 255) (h1 : absI s ≤ 99) (h2 : 1 ≤ absI k) (h4 : absI k + c.tmod 8 ≤ 1073741824) (w : World) :
    Calls Tryz.prog 3 #[.int .i64 s, .int .i64 k, .int .u8 c] w fun e w' => e = .returned (.bool true) ∧ Below w.heap.size w w' := by
  obtain ⟨S, hSe⟩ : ∃ S : Nat, absI s = S := ⟨(absI s).toNat, by have := absI_nonneg s; omega⟩
  obtain ⟨N, hNe⟩ : ∃ N : Nat, absI k = N := ⟨(absI k).toNat, by have := absI_nonneg k; omega⟩
  have hS : S ≤ 9223372036854775807 := by unfold absI at hSe; split at hSe <;> omega
  have hN : N ≤ 9223372036854775807 := by unfold absI at hNe; split at hNe <;> omega
  obtain ⟨n, hne⟩ : ∃ n : Nat, c.tmod 8 = n := ⟨(c.tmod 8).toNat, by have : 0 ≤ c.tmod 8 := Int.tmod_nonneg 8 c0; omega⟩
  have hn : n ≤ 7 := by have : c.tmod 8 = c % 8 := Int.tmod_eq_emod_of_nonneg c0; omega
  have xs := fun w => abs_walk s s0 s1 w
  have xk := fun w => abs_walk k k0 k1 w
  rw [hSe] at xs h1
  rw [hNe] at xk h2 h4
  rw [hne] at h4
  have ds := digits_walk S hS
  have dk := digits_walk N hN
  have g1 := fun w => a1 (S := S) hS w
  have g2 := fun w => a2 (S := S) hS w
  have g3 := fun w => a3 (S := S) (N := N) hS hN w
  have g4 := fun w => a4 (S := S) (N := N) hS hN w
  simp only [preS, dotS, qqS] at g1 g2 g3 g4
  have m1 : IntKind.u8.wrap (n : Int) = n := IntWalk.u8_in _ (by omega)
  have m2 : IntKind.i64.wrap (n : Int) = n := IntWalk.i64_in _ (by omega)
  go_enter Tryz.func3, Tryz.ntmps3
  go_wp2_with (go_at_call 5; refine (xs _).mono ?_)
  intro r w1; first | (intro he b1; subst he) | rintro ⟨rfl, b1⟩
  replace b1 := b1.symm
  subst b1
  go_wp2_with (go_at_call 4; refine (ds _).mono ?_)
  intro r w1; first | (intro he b1; subst he) | rintro ⟨rfl, b1⟩
  go_wp2_with (go_at_call 5; refine (xk _).mono ?_)
  intro r w2; first | (intro he b2; subst he) | rintro ⟨rfl, b2⟩
  replace b2 := b2.symm
  subst b2
  go_wp2_with (go_at_call 4; refine (dk _).mono ?_)
  intro r w2; first | (intro he b2; subst he) | rintro ⟨rfl, b2⟩
  have bb := b1.trans (b2.mono b1.size)
  clear b1 b2
  have g5 := fun (i : Nat) (hi : i ≤ 7) (w : World) => a5 (S := S) (N := N) hS hN i hi w
  simp only [staffBassS] at g5
  clear xs xk ds dk
  go_wp2
  clear g1 g2 g3 g4
  go_loopg [7, 9] n (fun g u v wr => ∃ i : Nat, i ≤ n ∧ g = n - i ∧ u = .string (idText S N i) ∧ v = .int .i64 i ∧ wr = w2)
  case atStart => exact ⟨0, Nat.zero_le _, rfl, rfl, rfl, rfl⟩
  case round =>
    obtain ⟨i, hi, hg, rfl, rfl, hw⟩ := hrel
    by_cases hlt : i < n
    · have hlt' : (i : Int) < n := by omega
      have g5i := g5 i (by omega)
      have m3 : IntKind.i64.wrap ((i : Int) + 1) = (i : Int) + 1 := IntWalk.i64_in _ (by omega)
      go_wp2
      go_roundg (n - (i + 1))
      case measure => omega
      case rel => exact ⟨i + 1, by omega, rfl, rfl, by simp, by first | rfl | exact hw⟩
    · have hlt' : ¬ (i : Int) < n := by omega
      obtain rfl : i = n := by omega
      replace hw := hw.symm
      subst hw
      clear g5
      have hr := fun w => read_ok (S := S) (N := N) (n := i) (by omega) (by omega) (by omega) (by omega) w
      go_wp2_with (go_at_call 6; refine (hr _).mono ?_)
      rintro r w3 ⟨b3, title, ap, cp, al, cl, av, cv, rfl, o1, o2, o3⟩
      have bb3 := bb.trans (b3.mono bb.size)
      clear hr b3 bb
      obtain ⟨ga, cpa, e1, _, _⟩ := o1.form (by omega)
      obtain ⟨gl, cpl, e3, _, _⟩ := o3.form (by omega)
      injection e1 with e1 _ e1c
      injection e3 with e3 _ e3c
      subst e1 e1c e3 e3c
      go_wp2_with (go_at_call 7; refine (hkn _).mono ?_)
      intro r w4; first | (intro he4 b4; subst he4) | rintro ⟨rfl, b4⟩
      have bb4 : Below w.heap.size w w4 := (bb3.alloc bb3.size _).trans (b4.mono (by have := bb3.size; simp; omega))
      have hz := heap_alloc_new w3 (.cells #[.string title, .bool false, .slice (some ⟨ga, 0, none⟩) 1 cp, .slice none 0 0, .slice none 0 0, .slice (some ⟨gl, 0, none⟩) 1 cl] 29)
      have hz4 := (b4.block w3.heap.size (by simp)).trans hz
      have y2 : w4.cell? ⟨w3.heap.size, 2, none⟩ = some (.slice (some ⟨ga, 0, none⟩) 1 cp) := by rw [Lib.cell_of_heap hz4]; rfl
      have y5 : w4.cell? ⟨w3.heap.size, 5, none⟩ = some (.slice (some ⟨gl, 0, none⟩) 1 cl) := by rw [Lib.cell_of_heap hz4]; rfl
      have st : ∀ {T size : Nat} {v : Value} {m : Nat} {xs : List Value}, w3.ownsRow (w2.heap.size + 1) T size v m xs → w4.ownsRow (w2.heap.size + 1) T size v m xs := fun h => own_step h fun k hk => (b4.block k (by have := (h.lt k hk).2; simp; omega)).trans (Lib.alloc_old _ _ _ (h.lt k hk).2)
      have o1' := st o1
      have o2' := st o2
      have o3' := st o3
      have z5 : w4.cell? ⟨ga, 5, none⟩ = some (.slice av i cv) := o1'.cellAt 5 (by omega)
      have l0 : w4.cell? ⟨gl, 0, none⟩ = some (.int .i64 S) := o3'.cellAt 0 (by omega)
      have l1 : w4.cell? ⟨gl, 1, none⟩ = some (.int .i64 ((N : Int) + i)) := o3'.cellAt 1 (by omega)
      clear st o1 o2 o3 o1' o3' hz hz4 bb3 b4
      have xs := fun w => abs_walk s s0 s1 w
      have xk := fun w => abs_walk k k0 k1 w
      rw [hSe] at xs
      rw [hNe] at xk
      go_wp2_with (go_at_call 5; refine (xs _).mono ?_)
      intro r w5; first | (intro he5 b5; subst he5) | rintro ⟨rfl, b5⟩
      replace b5 := b5.symm
      subst b5
      go_wp2_with (go_at_call 5; refine (xk _).mono ?_)
      intro r w5; first | (intro he5 b5; subst he5) | rintro ⟨rfl, b5⟩
      replace b5 := b5.symm
      subst b5
      clear xs xk hkn
      have q1 : ¬ 99 < (S : Int) := by omega
      have q2 : ¬ (N : Int) < 1 := by omega
      have q3 : ¬ 1073741824 < (N : Int) := by omega
      have q4 : ¬ 1073741824 - (i : Int) < N := by omega
      have q5 : IntKind.i64.wrap (1073741824 - (i : Int)) = 1073741824 - i := IntWalk.i64_in _ (by omega)
      go_wp2
      go_loopg [14] i (fun g v wr => ∃ j : Nat, j ≤ i ∧ g = i - j ∧ v = .int .i64 j ∧ wr = w4)
      case atStart => exact ⟨0, Nat.zero_le _, rfl, rfl, rfl⟩
      case round =>
        obtain ⟨j, hj, hg, rfl, hw⟩ := hrel
        replace hw := hw.symm
        subst hw
        by_cases hlt : j < i
        · have hlt' : (j : Int) < i := by omega
          have hj0 : (0 : Int) ≤ j := by omega
          obtain ⟨gs, cps, e2, _, _⟩ := o2'.form (by omega)
          injection e2 with e2 _ e2c
          subst e2 e2c
          obtain ⟨s0', s1'⟩ := staffCells_at (S : Int) N i j hlt
          have x0 : w4.cell? ⟨gs, j * 3, none⟩ = some (.int .i64 S) := by rw [o2'.cellAt (j * 3) (by omega), s0']
          have x1 : w4.cell? ⟨gs, j * 3 + 1, none⟩ = some (.int .i64 ((N : Int) + 1 + j)) := by rw [o2'.cellAt (j * 3 + 1) (by omega), s1']
          have m3 : IntKind.i64.wrap ((N : Int) + 1) = (N : Int) + 1 := IntWalk.i64_in _ (by omega)
          have m4 : IntKind.i64.wrap ((N : Int) + 1 + j) = (N : Int) + 1 + j := IntWalk.i64_in _ (by omega)
          have m5 : IntKind.i64.wrap ((j : Int) + 1) = (j : Int) + 1 := IntWalk.i64_in _ (by omega)
          go_wp2
          go_roundg (i - (j + 1))
          case measure => omega
          case rel => exact ⟨j + 1, by omega, rfl, by simp, rfl⟩
        · have hlt' : ¬ (j : Int) < i := by omega
          obtain rfl : j = i := by omega
          have m6 : IntKind.i64.wrap ((N : Int) + j) = (N : Int) + j := IntWalk.i64_in _ (by omega)
          go_wp2
          go_ret
          exact ⟨rfl, bb4⟩
end Go.Proofs.YtaimdnddmddbnaaGreatDoor

namespace Go.Proofs.YtaimdnddmddbnaaGreatDoor
open Go.RowKit

theorem top_walk (s k c : Int) (s0 : -9223372036854775808 ≤ s) (s1 : s ≤ 9223372036854775807) (k0 : -9223372036854775808 ≤ k) (k1 : k ≤ 9223372036854775807) (c0 : 0 ≤ c) (c1 : c ≤ 255) (w : World) :
    Calls Tryz.prog 3 #[.int .i64 s, .int .i64 k, .int .u8 c] w fun e w' => e = .returned (.bool true) ∧ Below w.heap.size w w' := by
  by_cases h1 : 99 < absI s ∨ absI k < 1 ∨ 1073741824 < absI k
  · exact law_bad known_walk s k c s0 s1 k0 k1 c0 c1 h1 w
  · by_cases h2 : 1073741824 < absI k + c.tmod 8
    · exact law_limit known_walk s k c s0 s1 k0 k1 c0 c1 (by omega) (by omega) (by omega) h2 w
    · exact law_ok known_walk s k c s0 s1 k0 k1 c0 c1 (by omega) (by omega) (by omega) w
#print axioms top_walk
end Go.Proofs.YtaimdnddmddbnaaGreatDoor
