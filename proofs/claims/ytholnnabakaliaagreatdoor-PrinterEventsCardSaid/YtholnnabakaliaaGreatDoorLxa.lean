/-
  A part of the proof that the law PrinterEvents (chapter 20) returns true for every event: walks of the program's functions, and runs of them in the kernel by the own evaluator.
-/
import Derived.Test.YtholnnabakaliaaGreatDoorLxs
import Derived.Deep.LoopGhost
import Derived.Lib.Walk
import Derived.Test.YtholnnabakaliaaGreatDoorShf
import Derived.Deep.RegionWith
import Derived.Deep.RegionHeld3
import Derived.Deep.AppendLies
import Derived.StillTail
import Derived.WalkMore
import Derived.Deep.QuietTactic
import Derived.BigQuiet
import Derived.StillTailTactics
import Derived.Lib.Slices
import Derived.Lib.Strings
import Derived.Lib.SmallJoins
import Derived.Lib.ConvBytes
import Derived.Lib.UnsafeStr
import Derived.Test.YtholnnabakaliaaGreatDoorProg
import Derived.Lib.Builder
import Derived.Lib.AppendStr
import Derived.Lib.MakeNoZero
import Derived.WalkKit
import Derived.Laws.Externs
import Derived.Laws.IdiomCopy
import Derived.Laws.BitsLemmas
namespace Go.Proofs.YtholnnabakaliaaGreatDoor
open Go.RowKit

set_option maxHeartbeats 1000000 in
set_option maxRecDepth 100000 in
theorem letter_walk (c : Int) (w : World) : Calls Tryz.prog 124 #[.int .u8 c] w fun e w' => e = .returned (.bool ((decide (97 ≤ c) && decide (c ≤ 122)) || (decide (65 ≤ c) && decide (c ≤ 90)))) ∧ w' = w := by
  go_enter Tryz.func124, Tryz.ntmps124
  by_cases h1 : 97 ≤ c <;> by_cases h2 : c ≤ 122 <;> by_cases h3 : 65 ≤ c <;> by_cases h4 : c ≤ 90
  all_goals first | omega | skip
  all_goals go_wp2
  all_goals go_ret
  all_goals simp_all

set_option maxHeartbeats 1000000 in
set_option maxRecDepth 100000 in
theorem digit_walk (c : Int) (w : World) : Calls Tryz.prog 127 #[.int .u8 c] w fun e w' => e = .returned (.bool (decide (48 ≤ c) && decide (c ≤ 57))) ∧ w' = w := by
  go_enter Tryz.func127, Tryz.ntmps127
  by_cases h1 : 48 ≤ c <;> by_cases h2 : c ≤ 57
  all_goals first | omega | skip
  all_goals go_wp2
  all_goals go_ret
  all_goals simp_all

set_option maxHeartbeats 1000000 in
set_option maxRecDepth 100000 in
theorem blank_walk (c : Int) (w : World) : Calls Tryz.prog 131 #[.int .u8 c] w fun e w' => e = .returned (.bool (decide (c = 32) || decide (c = 9) || decide (c = 10) || decide (c = 13))) ∧ w' = w := by
  go_enter Tryz.func131, Tryz.ntmps131
  by_cases h1 : c = 32 <;> by_cases h2 : c = 9 <;> by_cases h3 : c = 10 <;> by_cases h4 : c = 13
  all_goals first | omega | skip
  all_goals (try subst h1); (try subst h2); (try subst h3); (try subst h4)
  all_goals go_wp2
  all_goals go_ret
  all_goals simp_all

theorem letter_is (c : Nat) (w : World) {b : Bool} (h : isLetter c = b) : Calls Tryz.prog 124 #[.int .u8 c] w fun e w' => e = .returned (.bool b) ∧ w' = w := by
  refine (letter_walk c w).mono ?_
  rintro e w' ⟨rfl, rfl⟩
  refine ⟨?_, rfl⟩
  rw [← h]; unfold isLetter
  congr 2
  congr 1 <;> congr 1 <;> exact decide_eq_decide.2 (by omega)

theorem digit_is (c : Nat) (w : World) {b : Bool} (h : isDigit c = b) : Calls Tryz.prog 127 #[.int .u8 c] w fun e w' => e = .returned (.bool b) ∧ w' = w := by
  refine (digit_walk c w).mono ?_
  rintro e w' ⟨rfl, rfl⟩
  refine ⟨?_, rfl⟩
  rw [← h]; unfold isDigit
  congr 2
  congr 1 <;> exact decide_eq_decide.2 (by omega)

theorem blank_is (c : Nat) (w : World) {b : Bool} (h : isBlank c = b) : Calls Tryz.prog 131 #[.int .u8 c] w fun e w' => e = .returned (.bool b) ∧ w' = w := by
  refine (blank_walk c w).mono ?_
  rintro e w' ⟨rfl, rfl⟩
  refine ⟨?_, rfl⟩
  rw [← h]; unfold isBlank
  congr 2
  congr 1
  · congr 1
    · congr 1 <;> exact decide_eq_decide.2 (by omega)
    · exact decide_eq_decide.2 (by omega)
  · exact decide_eq_decide.2 (by omega)

set_option maxHeartbeats 1000000 in
set_option maxRecDepth 100000 in
theorem inWord_l (c : Nat) (w : World) (hl : isLetter c = true) : Calls Tryz.prog 126 #[.int .u8 c] w fun e w' => e = .returned (.bool true) ∧ w' = w := by
  go_enter Tryz.func126, Tryz.ntmps126
  go_wp2_with (go_at_call 124; refine (letter_is _ _ hl).mono ?_; rintro e w2 ⟨rfl, rfl⟩)
  go_ret
  exact ⟨rfl, rfl⟩

set_option maxHeartbeats 1000000 in
set_option maxRecDepth 100000 in
theorem inWord_d (c : Nat) (w : World) (hl : isLetter c = false) (hd : isDigit c = true) : Calls Tryz.prog 126 #[.int .u8 c] w fun e w' => e = .returned (.bool true) ∧ w' = w := by
  go_enter Tryz.func126, Tryz.ntmps126
  go_wp2_with (first
    | (go_at_call 124; refine (letter_is _ _ hl).mono ?_; rintro e w2 ⟨rfl, rfl⟩)
    | (go_at_call 127; refine (digit_is _ _ hd).mono ?_; rintro e w2 ⟨rfl, rfl⟩))
  go_ret
  exact ⟨rfl, rfl⟩

set_option maxHeartbeats 1000000 in
set_option maxRecDepth 100000 in
theorem inWord_u (c : Nat) (w : World) (hl : isLetter c = false) (hd : isDigit c = false) : Calls Tryz.prog 126 #[.int .u8 c] w fun e w' => e = .returned (.bool (decide ((c : Int) = 95))) ∧ w' = w := by
  go_enter Tryz.func126, Tryz.ntmps126
  go_wp2_with (first
    | (go_at_call 124; refine (letter_is _ _ hl).mono ?_; rintro e w2 ⟨rfl, rfl⟩)
    | (go_at_call 127; refine (digit_is _ _ hd).mono ?_; rintro e w2 ⟨rfl, rfl⟩))
  all_goals go_ret
  all_goals first | exact ⟨rfl, rfl⟩ | simp_all

theorem inWord_is (c : Nat) (w : World) {b : Bool} (h : isInWord c = b) : Calls Tryz.prog 126 #[.int .u8 c] w fun e w' => e = .returned (.bool b) ∧ w' = w := by
  unfold isInWord at h
  cases hl : isLetter c
  · cases hd : isDigit c
    · have := inWord_u c w hl hd
      rw [hl, hd] at h
      have hc4 : decide (c = 95) = decide ((c : Int) = 95) := decide_eq_decide.2 (by omega)
      rw [← hc4] at this
      rw [← h]; simpa using this
    · rw [hl, hd] at h
      have := inWord_d c w hl hd
      rw [← h]; simpa using this
  · rw [hl] at h
    have := inWord_l c w hl
    rw [← h]; simpa using this

/-- A place 'b' up to which a class of bytes reaches from 'a' on. -/
structure Upto (p : Nat → Bool) (s : ByteArray) (a b : Nat) : Prop where
  ab : a ≤ b
  bs : b ≤ s.size
  ins : ∀ k (h : k < s.size), a ≤ k → k < b → p s[k].toNat = true
  out : ∀ h : b < s.size, p s[b].toNat = false

set_option maxHeartbeats 2000000 in
set_option maxRecDepth 100000 in
theorem run_digit (X : Nat) (s : ByteArray) (a b : Nat) (w : World) (c0 : w.cell? ⟨X, 0, none⟩ = some (.string s)) (hsz : s.size ≤ 1048576) (hu : Upto isDigit s a b) :
    Calls Tryz.prog 125 #[.pointer (some ⟨X, 0, none⟩), .int .i64 a, .func (.func 127) #[] #[]] w fun e w' => e = .returned (.int .i64 b) ∧ w' = w := by
  obtain ⟨hab, hbs, hin, hout⟩ := hu
  go_enter Tryz.func125, Tryz.ntmps125
  go_wp2
  go_loop [1] (fun v => ∃ k : Nat, a ≤ k ∧ k ≤ b ∧ v = .int .i64 k) (fun v => b - (intOf v).toNat)
  case atStart => exact ⟨a, Nat.le_refl _, hab, rfl⟩
  case round =>
    obtain ⟨k, hk1, hk2, rfl⟩ := hrel
    by_cases hlt : k < s.size
    · by_cases hkb : k < b
      · have hd := hin k hlt hk1 hkb
        go_wp2_with (go_at_call 127; refine (digit_is _ _ hd).mono ?_; rintro e w2 ⟨rfl, rfl⟩)
        go_round
        case rel => exact ⟨k + 1, by omega, hkb, by go_num⟩
        case measure => simp [intOf]; omega
      · obtain rfl : k = b := by omega
        have hd := hout hlt
        go_wp2_with (go_at_call 127; refine (digit_is _ _ hd).mono ?_; rintro e w2 ⟨rfl, rfl⟩)
        go_ret
        exact ⟨rfl, rfl⟩
    · obtain rfl : k = b := by omega
      go_wp2
      go_ret
      exact ⟨rfl, rfl⟩

set_option maxHeartbeats 2000000 in
set_option maxRecDepth 100000 in
theorem run_inWord (X : Nat) (s : ByteArray) (a b : Nat) (w : World) (c0 : w.cell? ⟨X, 0, none⟩ = some (.string s)) (hsz : s.size ≤ 1048576) (hu : Upto isInWord s a b) :
    Calls Tryz.prog 125 #[.pointer (some ⟨X, 0, none⟩), .int .i64 a, .func (.func 126) #[] #[]] w fun e w' => e = .returned (.int .i64 b) ∧ w' = w := by
  obtain ⟨hab, hbs, hin, hout⟩ := hu
  go_enter Tryz.func125, Tryz.ntmps125
  go_wp2
  go_loop [1] (fun v => ∃ k : Nat, a ≤ k ∧ k ≤ b ∧ v = .int .i64 k) (fun v => b - (intOf v).toNat)
  case atStart => exact ⟨a, Nat.le_refl _, hab, rfl⟩
  case round =>
    obtain ⟨k, hk1, hk2, rfl⟩ := hrel
    by_cases hlt : k < s.size
    · by_cases hkb : k < b
      · have hd := hin k hlt hk1 hkb
        go_wp2_with (go_at_call 126; refine (inWord_is _ _ hd).mono ?_; rintro e w2 ⟨rfl, rfl⟩)
        go_round
        case rel => exact ⟨k + 1, by omega, hkb, by go_num⟩
        case measure => simp [intOf]; omega
      · obtain rfl : k = b := by omega
        have hd := hout hlt
        go_wp2_with (go_at_call 126; refine (inWord_is _ _ hd).mono ?_; rintro e w2 ⟨rfl, rfl⟩)
        go_ret
        exact ⟨rfl, rfl⟩
    · obtain rfl : k = b := by omega
      go_wp2
      go_ret
      exact ⟨rfl, rfl⟩

section
variable {B X : Nat} {ks : List (Nat × Obj)} {s : ByteArray} {lines : Value} {pos : Int} {lv : Value} {n : Nat} {xs : List Value} {wr : Int} {w0 w : World}
set_option maxHeartbeats 2000000 in
set_option maxRecDepth 100000 in
theorem fail_walk (h : Scn B X ks s lines pos lv n xs 0 wr w0 w) (a e : Int) :
    Calls Tryz.prog 101 #[.pointer (some ⟨X, 0, none⟩), .int .i64 a, .int .i64 e] w fun r w' => r = .returned (.tuple #[]) ∧ Scn B X ks s lines pos lv n xs e a w0 w' := by
  have c4 := h.c4
  have f4 := h.fz 4
  have f5 := h.fz 5
  have c5 := h.c5
  have hfin := h.fail e a
  clear h
  go_enter Tryz.func101, Tryz.ntmps101
  go_wp2
  go_end0
  exact ⟨rfl, hfin⟩
end
end Go.Proofs.YtholnnabakaliaaGreatDoor

namespace Go.Proofs.YtholnnabakaliaaGreatDoor
open Go.RowKit

section
variable {B X : Nat} {ks : List (Nat × Obj)} {s : ByteArray} {lines : Value} {lv : Value} {n : Nat} {xs : List Value} {wr : Int} {w0 w : World}

theorem not_percent {c : Nat} (h : isBlank c = true) : ((c : Nat) : Int) ≠ 37 := by
  intro e
  have : c = 37 := by omega
  subst this
  simp [isBlank] at h

set_option maxHeartbeats 4000000 in
set_option maxRecDepth 100000 in
theorem skip_walk {a : Nat} (h : Scn B X ks s lines a lv n xs 0 wr w0 w) (hsz : s.size ≤ 1048576) (b : Nat) (hu : Upto isBlank s a b) (hnp : ∀ h : b < s.size, ((s[b].toNat : Nat) : Int) ≠ 37) :
    Calls Tryz.prog 99 #[.pointer (some ⟨X, 0, none⟩)] w fun e w' => e = .returned (.bool (decide (a < b))) ∧ Scn B X ks s lines b lv n xs 0 wr w0 w' := by
  obtain ⟨hab, hbs, hin, hout⟩ := hu
  have c1 := h.c1
  go_enter Tryz.func99, Tryz.ntmps99
  go_wp2
  go_step3
  go_wp2
  go_step3
  go_wp2
  go_loopg [4] (b - a) (fun g v wr' => ∃ k : Nat, a ≤ k ∧ k ≤ b ∧ b - k ≤ g ∧ Scn B X ks s lines k lv n xs 0 wr w0 wr')
  case atStart => exact ⟨a, Nat.le_refl _, hab, Nat.le_refl _, h⟩
  case round =>
    obtain ⟨k, hk1, hk2, hg, hS⟩ := hrel
    have d0 := hS.c0
    have d1 := hS.c1
    have f1 := hS.fz 1
    have e1 : ((k + 1 : Nat) : Int) = (k : Int) + 1 := by omega
    by_cases hkb : k < b
    · have hlt : k < s.size := by omega
      have hd := hin k hlt hk1 hkb
      have hne := not_percent hd
      have hlt' : (k : Int) < s.size := by omega
      go_wp2
      go_quiet (fail)
      go_wp2
      go_quiet (fail)
      go_wp2_with (go_at_call 131; refine (blank_is _ _ hd).mono ?_; rintro e w2 ⟨rfl, rfl⟩)
      go_roundg (b - (k + 1))
      case measure => omega
      case rel =>
        refine ⟨k + 1, by omega, by omega, Nat.le_refl _, ?_⟩
        rw [e1]
        exact (hS.step (belowDrewN (Below.refl _ _) _)).at _
    · obtain rfl : k = b := by omega
      clear e1
      by_cases hlt : k < s.size
      · have hd := hout hlt
        have hne := hnp hlt
        have hlt' : (k : Int) < s.size := by omega
        go_wp2
        go_quiet (fail)
        go_wp2
        go_quiet (fail)
        go_wp2_with (go_at_call 131; refine (blank_is _ _ hd).mono ?_; rintro e w2 ⟨rfl, rfl⟩)
        rw [Exit.noGoto_ret]
        go_ret
        refine ⟨?_, hS.step (belowDrewN (Below.refl _ _) _)⟩
        first | rfl | simp
      · have hlt' : ¬ (k : Int) < s.size := by omega
        go_wp2
        go_quiet (fail)
        go_wp2
        rw [Exit.noGoto_ret]
        go_ret
        refine ⟨?_, hS.step (belowDrewN (Below.refl _ _) _)⟩
        first | rfl | simp

/-- Where lines begin. -/
structure Lines (ls : List Int) : Prop where
  head : 0 < ls.length ∧ ls.getD 0 0 = 0
  sorted : ls.Pairwise (· ≤ ·)
  lo : ∀ x ∈ ls, 0 ≤ x
  hi : ∀ x ∈ ls, x ≤ 1048576
  len : ls.length ≤ 2000000
def lineAt (ls : List Int) (a : Nat) : Nat := if ls.contains (a : Int) then ls.countP (· < (a : Int)) else ls.countP (· < (a : Int)) - 1
def plL (ls : List Int) (a : Nat) : Int := (lineAt ls a : Int) + 1
def plC (ls : List Int) (a : Nat) : Int := (a : Int) - ls.getD (lineAt ls a) 0 + 1
/-- The row of the lines' beginnings lies there. -/
def LinesAt (LN : Value) (ls : List Int) (ks : List (Nat × Obj)) : Prop :=
  ∃ L cap cs, LN = .slice (some ⟨L, 0, none⟩) ls.length cap ∧ (L, Obj.cells cs 3 (0, 0)) ∈ ks ∧ ∀ j, j < ls.length → cs[j]? = some (.int .i64 (ls.getD j 0))

theorem Lines.mem0 {ls : List Int} (g : Lines ls) : (0 : Int) ∈ ls := by
  obtain ⟨h, e⟩ := g.head
  cases ls with
  | nil => simp at h
  | cons x r => simp at e; subst e; simp
theorem lineAt_lt {ls : List Int} (g : Lines ls) (a : Nat) : lineAt ls a < ls.length := by
  unfold lineAt
  have hle := List.countP_le_length (p := fun x : Int => decide (x < (a : Int))) (l := ls)
  split
  · rename_i h
    have hm : (a : Int) ∈ ls := by simpa using h
    rcases Nat.lt_or_ge (ls.countP fun x => decide (x < (a : Int))) ls.length with h1 | h1
    · exact h1
    · have h2 := List.countP_eq_length.1 (Nat.le_antisymm hle h1) _ hm
      simp at h2
  · have := g.head.1
    omega
theorem lineAt_pos {ls : List Int} (g : Lines ls) (a : Nat) (h : ls.contains (a : Int) = false) : 0 < ls.countP (· < (a : Int)) := by
  rw [List.countP_pos_iff]
  refine ⟨0, g.mem0, ?_⟩
  have hm := g.mem0
  have hn : ¬ (a : Int) ∈ ls := by simpa using h
  have : a ≠ 0 := by rintro rfl; exact hn hm
  simp; omega

set_option maxHeartbeats 4000000 in
set_option maxRecDepth 100000 in
theorem place_walk {LN : Value} {ls : List Int} {pos e : Int} (h : Scn B X ks s LN pos lv n xs e wr w0 w) (hL : LinesAt LN ls ks) (gL : Lines ls) (a : Nat) (ha : a ≤ 1048576) :
    Calls Tryz.prog 71 #[.pointer (some ⟨X, 0, none⟩), .int .i64 a] w fun r w' => r = .returned (.tuple #[.int .i64 (plL ls a), .int .i64 (plC ls a)]) ∧ Below w.heap.size w w' := by
  obtain ⟨L, cap, cs, rfl, hk, hcs⟩ := hL
  have c2 := h.c2
  have hrow := (h.keep _ hk).1
  have l0 : ∀ j, j < ls.length → w.cell? ⟨L, j, none⟩ = some (.int .i64 (ls.getD j 0)) := fun j hj => by rw [Lib.cell_of_heap hrow]; exact hcs j hj
  clear h
  have hlen := gL.len
  have hb := Tryz.slices_BinarySearch_int L 0 ls.length cap ls (a : Int) w (Nat.le_refl _) (by omega) (fun j hj => by rw [Nat.zero_add]; exact l0 j hj) (by rw [List.take_length]; exact gL.sorted)
  rw [List.take_length] at hb
  have hlt := lineAt_lt gL a
  have hv := l0 _ hlt
  have hmem : ls.getD (lineAt ls a) 0 ∈ ls := by simp [List.getD, hlt]
  have v0 := gL.lo _ hmem
  have v1 := gL.hi _ hmem
  obtain ⟨i, hi⟩ : ∃ i, lineAt ls a = i := ⟨_, rfl⟩
  have hpl : plL ls a = (i : Int) + 1 := by rw [plL, hi]
  have hpc : plC ls a = (a : Int) - ls.getD i 0 + 1 := by rw [plC, hi]
  rw [hpl, hpc]
  rw [hi] at hv v0 v1 hlt hmem
  generalize ls.getD i 0 = v at hv v0 v1
  have hi0 : (0 : Int) ≤ (i : Int) := by omega
  have hi1 : (i : Int) < (ls.length : Int) := by omega
  have m1 : IntKind.i64.wrap ((i : Int) + 1) = (i : Int) + 1 := IntWalk.i64_in _ (by omega)
  have m2 : IntKind.i64.wrap ((a : Int) - v) = (a : Int) - v := IntWalk.i64_in _ (by omega)
  have m3 : IntKind.i64.wrap ((a : Int) - v + 1) = (a : Int) - v + 1 := IntWalk.i64_in _ (by omega)
  have e3 : ls.contains (a : Int) = true ∨ ls.contains (a : Int) = false := by cases ls.contains (a : Int) <;> simp
  rcases e3 with e3 | e3
  · have e4 : ls.countP (· < (a : Int)) = i := by rw [← hi, lineAt, if_pos e3]
    rw [e3, e4] at hb
    clear l0 hpl hpc hi e3 e4 hmem hrow hcs hk
    go_enter Tryz.func71, Tryz.ntmps71
    go_wp2_with (go_at_call 104; refine hb.mono ?_; rintro e w' ⟨rfl, q, rfl⟩)
    go_quiet (fail)
    go_wp2
    go_ret2
    exact ⟨by simp, belowDrewN (belowDrewN (Below.refl _ _) _) _⟩
  · have hp := lineAt_pos gL a e3
    have e4 : ls.countP (· < (a : Int)) = i + 1 := by
      have : lineAt ls a = ls.countP (· < (a : Int)) - 1 := by rw [lineAt, if_neg (by rw [e3]; decide)]
      omega
    rw [e3, e4] at hb
    have m4 : IntKind.i64.wrap (((i + 1 : Nat) : Int) - 1) = (i : Int) := by rw [show ((i + 1 : Nat) : Int) - 1 = (i : Int) by omega]; exact IntWalk.i64_in _ (by omega)
    generalize ((i + 1 : Nat) : Int) = y at hb m4
    clear l0 hpl hpc hi e3 e4 hmem hrow hcs hk hp
    go_enter Tryz.func71, Tryz.ntmps71
    go_wp2_with (go_at_call 104; refine hb.mono ?_; rintro e w' ⟨rfl, q, rfl⟩)
    go_quiet (fail)
    go_wp2
    go_ret2
    exact ⟨by simp, belowDrewN (belowDrewN (Below.refl _ _) _) _⟩

theorem Tryz.infoTok : (Tryz.prog.info? 100).map (fun i => (i.zero, i.size, i.bytes)) = some (some (.agg #[.int .i64 0, .string ByteArray.empty, .int .i64 0, .string ByteArray.empty, .int .i64 0, .int .i64 0, .bool false]), 7, 72) := by kernel_rfl
end
end Go.Proofs.YtholnnabakaliaaGreatDoor

namespace Go.Proofs.YtholnnabakaliaaGreatDoor
open Go.RowKit

section
variable {B X : Nat} {ks : List (Nat × Obj)} {s : ByteArray} {lines : Value} {lv : Value} {n : Nat} {xs : List Value} {wr : Int} {w0 w : World}

set_option maxHeartbeats 8000000 in
set_option maxRecDepth 100000 in
theorem add_walk {LN : Value} {ls : List Int} {a : Nat} (h : Scn B X ks s LN a lv n xs 0 wr w0 w) (hL : LinesAt LN ls ks) (gL : Lines ls) (hsz : s.size ≤ 1048576) (hn : n ≤ 1048576) (b : Nat) (hab : a ≤ b) (hb : b ≤ s.size) (kd v : Int) (tx : ByteArray) (j : Bool) :
    Calls Tryz.prog 100 #[.pointer (some ⟨X, 0, none⟩), .agg #[.int .i64 kd, .string ByteArray.empty, .int .i64 v, .string tx, .int .i64 0, .int .i64 0, .bool false], .int .i64 b, .bool j] w fun r w' =>
      r = .returned (.tuple #[]) ∧ ∃ lv', Scn B X ks s LN b lv' (n + 1) (xs ++ Tok.cells ⟨kd, s.extract a b, v, tx, plL ls a, plC ls a, j && decide (0 < n)⟩) 0 wr w0 w' := by
  obtain ⟨i0, hi, hz0, hz1, hz2⟩ := info_parts Tryz.infoTok
  obtain ⟨ao, cp, rfl⟩ := h.lvIs
  have c0 := h.c0
  have c1 := h.c1
  have c3 := h.c3
  have hXlt := h.lt
  have ne0 := World.new_ne w _ c0
  have ne1 := World.new_ne w _ c1
  have ne3 := World.new_ne w _ c3
  have hXne : X ≠ w.heap.size := by omega
  have ha0 : (0 : Int) ≤ (a : Int) := by omega
  have hb0 : (0 : Int) ≤ (b : Int) := by omega
  have hab' : (a : Int) ≤ (b : Int) := by omega
  have hbs' : (b : Int) ≤ (s.size : Int) := by omega
  cases j
  · have hlow : Below w.heap.size w ((w.alloc (.cells #[.int .i64 kd, .string (s.extract a b), .int .i64 v, .string tx, .int .i64 0, .int .i64 0, .bool false] 100)).drew) := ((Below.refl _ w).alloc (Nat.le_refl _) _).drew
    have hT : ((w.alloc (.cells #[.int .i64 kd, .string (s.extract a b), .int .i64 v, .string tx, .int .i64 0, .int .i64 0, .bool false] 100)).drew).heap[w.heap.size]? = some (.cells #[.int .i64 kd, .string (s.extract a b), .int .i64 v, .string tx, .int .i64 0, .int .i64 0, .bool false] 100 (0, 0)) := heap_alloc_new w _
    go_enter Tryz.func100, Tryz.ntmps100
    go_wp2
    go_region
    generalize hW : (w.alloc (.cells #[.int .i64 kd, .string (s.extract a b), .int .i64 v, .string tx, .int .i64 0, .int .i64 0, .bool false] 100)).drew = W at hlow hT ⊢
    have hm := h.step hlow
    have d1 := hm.c1
    go_wp2_with (go_at_call 71; refine (place_walk hm hL gL a (by omega)).mono ?_)
    rintro e w2 ⟨rfl, b2⟩
    have hTl := (Array.getElem?_eq_some_iff.1 hT).1
    have hT2 := (b2.block _ hTl).trans hT
    have k4 : w2.cell? ⟨w.heap.size, 4, none⟩ = some (.int .i64 0) := by rw [Lib.cell_of_heap hT2]; rfl
    have k5 : w2.cell? ⟨w.heap.size, 5, none⟩ = some (.int .i64 0) := by rw [Lib.cell_of_heap hT2]; rfl
    have f4 : w2.frozen? ⟨w.heap.size, 4, none⟩ = false := Lib.frozen_of_heap hT2 4
    have f5 : w2.frozen? ⟨w.heap.size, 5, none⟩ = false := Lib.frozen_of_heap hT2 5
    have hl3 : Below w.heap.size w ((w2.setCell ⟨w.heap.size, 4, none⟩ (.int .i64 (plL ls a))).setCell ⟨w.heap.size, 5, none⟩ (.int .i64 (plC ls a))) := ((hlow.trans (b2.mono (by omega))).setCell (p := ⟨w.heap.size, 4, none⟩) (Nat.le_refl _) _).setCell (p := ⟨w.heap.size, 5, none⟩) (Nat.le_refl _) _
    have hT3 := Lib.heap_setCell_same (i := 5) (Lib.heap_setCell_same (i := 4) hT2 (.int .i64 (plL ls a))) (.int .i64 (plC ls a))
    clear d1 ne0 ne1 ne3 c0 c1 c3
    go_wp2
    generalize hW3 : (w2.setCell ⟨w.heap.size, 4, none⟩ (.int .i64 (plL ls a))).setCell ⟨w.heap.size, 5, none⟩ (.int .i64 (plC ls a)) = W3 at hl3 hT3 ⊢
    clear k4 k5 f4 f5 hT2 hW3 hT hTl hm hW
    simp only [List.setIfInBounds_toArray, List.set_cons_succ, List.set_cons_zero] at hT3
    have hm3 := h.step hl3
    have d3 := hm3.c3
    have d1 := hm3.c1
    have g1 := hm3.fz 1
    have g3 := hm3.fz 3
    have t0 : W3.cell? ⟨w.heap.size, 0, none⟩ = some (.int .i64 kd) := by rw [Lib.cell_of_heap hT3]; rfl
    have t1 : W3.cell? ⟨w.heap.size, 1, none⟩ = some (.string (s.extract a b)) := by rw [Lib.cell_of_heap hT3]; rfl
    have t2 : W3.cell? ⟨w.heap.size, 2, none⟩ = some (.int .i64 v) := by rw [Lib.cell_of_heap hT3]; rfl
    have t3 : W3.cell? ⟨w.heap.size, 3, none⟩ = some (.string tx) := by rw [Lib.cell_of_heap hT3]; rfl
    have t4 : W3.cell? ⟨w.heap.size, 4, none⟩ = some (.int .i64 (plL ls a)) := by rw [Lib.cell_of_heap hT3]; rfl
    have t5 : W3.cell? ⟨w.heap.size, 5, none⟩ = some (.int .i64 (plC ls a)) := by rw [Lib.cell_of_heap hT3]; rfl
    have t6 : W3.cell? ⟨w.heap.size, 6, none⟩ = some (.bool false) := by rw [Lib.cell_of_heap hT3]; rfl
    have hB3 := hm3.hB
    have hpush := fun (w5 : World) (g cap : Nat) (hown1 : w5.ownsRow B 100 7 (.slice (some ⟨g, 0, none⟩) (n + 1) cap) (n + 1) (xs ++ Tok.cells ⟨kd, s.extract a b, v, tx, plL ls a, plC ls a, false⟩)) (hgr : ((W3.drew).alloc (.cells #[.int .i64 kd, .string (s.extract a b), .int .i64 v, .string tx, .int .i64 (plL ls a), .int .i64 (plC ls a), .bool false] 100)).grownBy w5 (Value.slice ao n cp).ownBlock) => ((hm3.step (((Below.refl _ _).drew).alloc (Nat.le_refl _) _)).push hgr hown1).at b
    have ownX : (Value.slice ao n cp).ownBlock ≠ some X := own_ne hm3.own hm3.blk (by intro cs fr hc; injection hc with _ h2 _; exact absurd h2 (by decide))
    have hm4 := hm3.step (((Below.refl _ _).drew).alloc (Nat.le_refl _) (.cells #[.int .i64 kd, .string (s.extract a b), .int .i64 v, .string tx, .int .i64 (plL ls a), .int .i64 (plC ls a), .bool false] 100))
    have hX5 : ∀ w5 : World, ((W3.drew).alloc (.cells #[.int .i64 kd, .string (s.extract a b), .int .i64 v, .string tx, .int .i64 (plL ls a), .int .i64 (plC ls a), .bool false] 100)).grownBy w5 (Value.slice ao n cp).ownBlock → w5.heap[X]? = some _ := fun w5 hgr => (hgr.block X hm4.lt (fun e => ownX e.symm)).trans hm4.blk
    have hXl3 := hm3.lt
    have neX := World.new_ne W3 _ d3
    have neT := World.new_ne W3 _ t0
    have own3 := hm3.own
    clear hm3 hl3 hT3 h hm4
    go_region_law ((refine step_append_lies _ (by rfl) _ _ _ (by rfl) B 100 i0 _ 7 72 Tryz.underlying81 hi hz0 hz1 hz2 rfl (by omega) (.slice ao n cp) n xs (by rfl) (World.ownsRow.alloc (w := W3.drew) own3 _) ⟨W3.heap.size, 0, none⟩ 1 1 (Tok.cells ⟨kd, s.extract a b, v, tx, plL ls a, plC ls a, false⟩) (by rfl) (by rfl) (World.news_of_block (cs := (Tok.cells ⟨kd, s.extract a b, v, tx, plL ls a, plC ls a, false⟩).toArray) (t := 100) (fr := (0, 0)) (heap_alloc_new _ _)) (by simp [Value.oneCell', Tok.cells]) (by omega) (by simp only [maxLen]; omega) (by omega) (by simp; omega) (W3.heap.size + 1) (by simp) ?_; intro gg cap w5 hown1 hgrow hat hlt; have hx5 := hX5 _ hgrow; have q3 := Lib.cell_of_heap hx5 3; have q1 := Lib.cell_of_heap hx5 1; have r3 := Lib.frozen_of_heap hx5 3; have r1 := Lib.frozen_of_heap hx5 1; simp only [List.getElem?_toArray, List.getElem?_cons_succ, List.getElem?_cons_zero] at q3 q1; have hfin := hpush w5 gg cap hown1 hgrow; clear hx5 hgrow hown1 hat hlt))
    all_goals go_end0
    all_goals exact ⟨rfl, _, hfin⟩
  · have hlow : Below w.heap.size w ((w.alloc (.cells #[.int .i64 kd, .string (s.extract a b), .int .i64 v, .string tx, .int .i64 0, .int .i64 0, .bool (decide (0 < n))] 100)).drew) := ((Below.refl _ w).alloc (Nat.le_refl _) _).drew
    have hT : ((w.alloc (.cells #[.int .i64 kd, .string (s.extract a b), .int .i64 v, .string tx, .int .i64 0, .int .i64 0, .bool (decide (0 < n))] 100)).drew).heap[w.heap.size]? = some (.cells #[.int .i64 kd, .string (s.extract a b), .int .i64 v, .string tx, .int .i64 0, .int .i64 0, .bool (decide (0 < n))] 100 (0, 0)) := heap_alloc_new w _
    go_enter Tryz.func100, Tryz.ntmps100
    go_wp2
    go_region_held3 (fun w' => w'.cell? ⟨X, 0, none⟩ = some (.string s) ∧ w'.cell? ⟨X, 1, none⟩ = some (.int .i64 a) ∧ w'.cell? ⟨X, 3, none⟩ = some (.slice ao n cp)) (go_keep) (fail)
    generalize hW : (w.alloc (.cells #[.int .i64 kd, .string (s.extract a b), .int .i64 v, .string tx, .int .i64 0, .int .i64 0, .bool (decide (0 < n))] 100)).drew = W at hlow hT ⊢
    have hm := h.step hlow
    have d1 := hm.c1
    go_wp2_with (go_at_call 71; refine (place_walk hm hL gL a (by omega)).mono ?_)
    rintro e w2 ⟨rfl, b2⟩
    have hTl := (Array.getElem?_eq_some_iff.1 hT).1
    have hT2 := (b2.block _ hTl).trans hT
    have k4 : w2.cell? ⟨w.heap.size, 4, none⟩ = some (.int .i64 0) := by rw [Lib.cell_of_heap hT2]; rfl
    have k5 : w2.cell? ⟨w.heap.size, 5, none⟩ = some (.int .i64 0) := by rw [Lib.cell_of_heap hT2]; rfl
    have f4 : w2.frozen? ⟨w.heap.size, 4, none⟩ = false := Lib.frozen_of_heap hT2 4
    have f5 : w2.frozen? ⟨w.heap.size, 5, none⟩ = false := Lib.frozen_of_heap hT2 5
    have hl3 : Below w.heap.size w ((w2.setCell ⟨w.heap.size, 4, none⟩ (.int .i64 (plL ls a))).setCell ⟨w.heap.size, 5, none⟩ (.int .i64 (plC ls a))) := ((hlow.trans (b2.mono (by omega))).setCell (p := ⟨w.heap.size, 4, none⟩) (Nat.le_refl _) _).setCell (p := ⟨w.heap.size, 5, none⟩) (Nat.le_refl _) _
    have hT3 := Lib.heap_setCell_same (i := 5) (Lib.heap_setCell_same (i := 4) hT2 (.int .i64 (plL ls a))) (.int .i64 (plC ls a))
    clear d1 ne0 ne1 ne3 c0 c1 c3
    go_wp2
    generalize hW3 : (w2.setCell ⟨w.heap.size, 4, none⟩ (.int .i64 (plL ls a))).setCell ⟨w.heap.size, 5, none⟩ (.int .i64 (plC ls a)) = W3 at hl3 hT3 ⊢
    clear k4 k5 f4 f5 hT2 hW3 hT hTl hm hW
    simp only [List.setIfInBounds_toArray, List.set_cons_succ, List.set_cons_zero] at hT3
    have hm3 := h.step hl3
    have d3 := hm3.c3
    have d1 := hm3.c1
    have g1 := hm3.fz 1
    have g3 := hm3.fz 3
    have t0 : W3.cell? ⟨w.heap.size, 0, none⟩ = some (.int .i64 kd) := by rw [Lib.cell_of_heap hT3]; rfl
    have t1 : W3.cell? ⟨w.heap.size, 1, none⟩ = some (.string (s.extract a b)) := by rw [Lib.cell_of_heap hT3]; rfl
    have t2 : W3.cell? ⟨w.heap.size, 2, none⟩ = some (.int .i64 v) := by rw [Lib.cell_of_heap hT3]; rfl
    have t3 : W3.cell? ⟨w.heap.size, 3, none⟩ = some (.string tx) := by rw [Lib.cell_of_heap hT3]; rfl
    have t4 : W3.cell? ⟨w.heap.size, 4, none⟩ = some (.int .i64 (plL ls a)) := by rw [Lib.cell_of_heap hT3]; rfl
    have t5 : W3.cell? ⟨w.heap.size, 5, none⟩ = some (.int .i64 (plC ls a)) := by rw [Lib.cell_of_heap hT3]; rfl
    have t6 : W3.cell? ⟨w.heap.size, 6, none⟩ = some (.bool (decide (0 < n))) := by rw [Lib.cell_of_heap hT3]; rfl
    have hB3 := hm3.hB
    have hpush := fun (w5 : World) (g cap : Nat) (hown1 : w5.ownsRow B 100 7 (.slice (some ⟨g, 0, none⟩) (n + 1) cap) (n + 1) (xs ++ Tok.cells ⟨kd, s.extract a b, v, tx, plL ls a, plC ls a, (decide (0 < n))⟩)) (hgr : ((W3.drew).alloc (.cells #[.int .i64 kd, .string (s.extract a b), .int .i64 v, .string tx, .int .i64 (plL ls a), .int .i64 (plC ls a), .bool (decide (0 < n))] 100)).grownBy w5 (Value.slice ao n cp).ownBlock) => ((hm3.step (((Below.refl _ _).drew).alloc (Nat.le_refl _) _)).push hgr hown1).at b
    have ownX : (Value.slice ao n cp).ownBlock ≠ some X := own_ne hm3.own hm3.blk (by intro cs fr hc; injection hc with _ h2 _; exact absurd h2 (by decide))
    have hm4 := hm3.step (((Below.refl _ _).drew).alloc (Nat.le_refl _) (.cells #[.int .i64 kd, .string (s.extract a b), .int .i64 v, .string tx, .int .i64 (plL ls a), .int .i64 (plC ls a), .bool (decide (0 < n))] 100))
    have hX5 : ∀ w5 : World, ((W3.drew).alloc (.cells #[.int .i64 kd, .string (s.extract a b), .int .i64 v, .string tx, .int .i64 (plL ls a), .int .i64 (plC ls a), .bool (decide (0 < n))] 100)).grownBy w5 (Value.slice ao n cp).ownBlock → w5.heap[X]? = some _ := fun w5 hgr => (hgr.block X hm4.lt (fun e => ownX e.symm)).trans hm4.blk
    have hXl3 := hm3.lt
    have neX := World.new_ne W3 _ d3
    have neT := World.new_ne W3 _ t0
    have own3 := hm3.own
    clear hm3 hl3 hT3 h hm4
    go_region_law ((refine step_append_lies _ (by rfl) _ _ _ (by rfl) B 100 i0 _ 7 72 Tryz.underlying81 hi hz0 hz1 hz2 rfl (by omega) (.slice ao n cp) n xs (by rfl) (World.ownsRow.alloc (w := W3.drew) own3 _) ⟨W3.heap.size, 0, none⟩ 1 1 (Tok.cells ⟨kd, s.extract a b, v, tx, plL ls a, plC ls a, (decide (0 < n))⟩) (by rfl) (by rfl) (World.news_of_block (cs := (Tok.cells ⟨kd, s.extract a b, v, tx, plL ls a, plC ls a, (decide (0 < n))⟩).toArray) (t := 100) (fr := (0, 0)) (heap_alloc_new _ _)) (by simp [Value.oneCell', Tok.cells]) (by omega) (by simp only [maxLen]; omega) (by omega) (by simp; omega) (W3.heap.size + 1) (by simp) ?_; intro gg cap w5 hown1 hgrow hat hlt; have hx5 := hX5 _ hgrow; have q3 := Lib.cell_of_heap hx5 3; have q1 := Lib.cell_of_heap hx5 1; have r3 := Lib.frozen_of_heap hx5 3; have r1 := Lib.frozen_of_heap hx5 1; simp only [List.getElem?_toArray, List.getElem?_cons_succ, List.getElem?_cons_zero] at q3 q1; have hfin := hpush w5 gg cap hown1 hgrow; clear hx5 hgrow hown1 hat hlt))
    all_goals go_end0
    all_goals exact ⟨rfl, _, hfin⟩
end
end Go.Proofs.YtholnnabakaliaaGreatDoor

namespace Go.Proofs.YtholnnabakaliaaGreatDoor
open Go.RowKit

section
variable {B X : Nat} {ks : List (Nat × Obj)} {s : ByteArray} {lines : Value} {lv : Value} {n : Nat} {xs : List Value} {wr : Int} {w0 w : World}

set_option maxHeartbeats 4000000 in
set_option maxRecDepth 100000 in
theorem word_miss {a : Nat} (h : Scn B X ks s lines a lv n xs 0 wr w0 w) (ha : a < s.size) (hc : isLetter s[a].toNat = false) (j : Bool) :
    Calls Tryz.prog 95 #[.pointer (some ⟨X, 0, none⟩), .bool j] w fun r w' => r = .returned (.bool false) ∧ Below w.heap.size w w' := by
  have c0 := h.c0
  have c1 := h.c1
  clear h
  have ha0 : (0 : Int) ≤ (a : Int) := by omega
  have ha' : (a : Int) < s.size := by omega
  go_enter Tryz.func95, Tryz.ntmps95
  go_wp2
  go_quiet ((go_at_call 124; refine Calls.quiet_of_same (letter_is s[a].toNat _ hc)))
  go_wp2
  go_ret
  exact ⟨rfl, belowDrewN (Below.refl _ _) _⟩

set_option maxHeartbeats 4000000 in
set_option maxRecDepth 100000 in
theorem number_miss {a : Nat} (h : Scn B X ks s lines a lv n xs 0 wr w0 w) (ha : a < s.size) (hc : isDigit s[a].toNat = false) (j : Bool) :
    Calls Tryz.prog 96 #[.pointer (some ⟨X, 0, none⟩), .bool j] w fun r w' => r = .returned (.bool false) ∧ Below w.heap.size w w' := by
  have c0 := h.c0
  have c1 := h.c1
  clear h
  have ha0 : (0 : Int) ≤ (a : Int) := by omega
  have ha' : (a : Int) < s.size := by omega
  go_enter Tryz.func96, Tryz.ntmps96
  go_wp2
  go_quiet ((go_at_call 127; refine Calls.quiet_of_same (digit_is s[a].toNat _ hc)))
  go_wp2
  go_ret
  exact ⟨rfl, belowDrewN (Below.refl _ _) _⟩

set_option maxHeartbeats 4000000 in
set_option maxRecDepth 100000 in
theorem text_miss {a : Nat} (h : Scn B X ks s lines a lv n xs 0 wr w0 w) (ha : a < s.size) (hc : ¬ ((s[a].toNat : Nat) : Int) = 34) (j : Bool) :
    Calls Tryz.prog 97 #[.pointer (some ⟨X, 0, none⟩), .bool j] w fun r w' => r = .returned (.bool false) ∧ Below w.heap.size w w' := by
  have c0 := h.c0
  have c1 := h.c1
  clear h
  have ha0 : (0 : Int) ≤ (a : Int) := by omega
  have ha' : (a : Int) < s.size := by omega
  go_enter Tryz.func97, Tryz.ntmps97
  go_wp2
  go_quiet (fail)
  go_wp2
  go_ret
  exact ⟨rfl, belowDrewN (Below.refl _ _) _⟩

variable {LN : Value} {ls : List Int}
set_option maxHeartbeats 8000000 in
set_option maxRecDepth 100000 in
theorem word_hit {a : Nat} (h : Scn B X ks s LN a lv n xs 0 wr w0 w) (hL : LinesAt LN ls ks) (gL : Lines ls) (hsz : s.size ≤ 1048576) (hn : n ≤ 1048576) (ha : a < s.size) (hc : isLetter s[a].toNat = true) (b : Nat) (hu : Upto isInWord s a b) (hlen : b ≤ a + 64) (j : Bool) :
    Calls Tryz.prog 95 #[.pointer (some ⟨X, 0, none⟩), .bool j] w fun r w' => r = .returned (.bool true) ∧
      ∃ lv', Scn B X ks s LN b lv' (n + 1) (xs ++ Tok.cells ⟨1, s.extract a b, 0, ByteArray.empty, plL ls a, plC ls a, j && decide (0 < n)⟩) 0 wr w0 w' := by
  have c0 := h.c0
  have c1 := h.c1
  have hab := hu.ab
  have hbs := hu.bs
  have ha0 : (0 : Int) ≤ (a : Int) := by omega
  have ha' : (a : Int) < s.size := by omega
  have h64 : (b : Int) - a ≤ 64 := by omega
  have hw1 : IntKind.i64.wrap ((b : Int) - a) = (b : Int) - a := IntWalk.i64_in _ (by omega)
  go_enter Tryz.func95, Tryz.ntmps95
  go_wp2
  go_quiet ((go_at_call 124; refine Calls.quiet_of_same (letter_is s[a].toNat _ hc)))
  have hm := h.step (belowDrewN (Below.refl _ _) nq)
  generalize w.drewN nq = W at hm ⊢
  have d0 := hm.c0
  have d1 := hm.c1
  clear c0 c1 h
  go_wp2_with (first
    | (go_at_call 125; refine (run_inWord X s a b _ d0 hsz hu).mono ?_; rintro e w2 ⟨rfl, rfl⟩)
    | (go_at_call 100; refine (add_walk hm hL gL hsz hn b hab hbs 1 0 ByteArray.empty j).mono ?_))
  rintro e w3 ⟨rfl, lv', hS⟩
  go_wp2
  go_ret
  exact ⟨rfl, lv', hS⟩

theorem atoi_run (s : ByteArray) (n : Int) (hl : s.size ≤ 18) (h : Lib.atoi s.data.toList = some n) (w : World) :
    Calls Tryz.prog 128 #[.string s] w fun e w' => e = .returned (.tuple #[.int .i64 n, .nilIface]) ∧ Below w.heap.size w w' := by
  refine (Tryz.strconv_Atoi s n hl h w).mono ?_
  rintro e w' ⟨rfl, t, rfl⟩
  exact ⟨rfl, Go.Joins.below_bytesWorld _ _ _ _ (Nat.le_refl _)⟩

set_option maxHeartbeats 8000000 in
set_option maxRecDepth 100000 in
theorem number_hit {a : Nat} (h : Scn B X ks s LN a lv n xs 0 wr w0 w) (hL : LinesAt LN ls ks) (gL : Lines ls) (hsz : s.size ≤ 1048576) (hn : n ≤ 1048576) (ha : a < s.size) (hc : isDigit s[a].toNat = true) (b : Nat) (hu : Upto isDigit s a b) (hlen : b ≤ a + 15) (v : Int) (hv : Lib.atoi (s.extract a b).data.toList = some v) (j : Bool) :
    Calls Tryz.prog 96 #[.pointer (some ⟨X, 0, none⟩), .bool j] w fun r w' => r = .returned (.bool true) ∧
      ∃ lv', Scn B X ks s LN b lv' (n + 1) (xs ++ Tok.cells ⟨2, s.extract a b, v, ByteArray.empty, plL ls a, plC ls a, j && decide (0 < n)⟩) 0 wr w0 w' := by
  have c0 := h.c0
  have c1 := h.c1
  have hab := hu.ab
  have hbs := hu.bs
  have ha0 : (0 : Int) ≤ (a : Int) := by omega
  have hb0 : (0 : Int) ≤ (b : Int) := by omega
  have hab' : (a : Int) ≤ (b : Int) := by omega
  have hbs' : (b : Int) ≤ (s.size : Int) := by omega
  have ha' : (a : Int) < s.size := by omega
  have h64 : (b : Int) - a ≤ 15 := by omega
  have hw1 : IntKind.i64.wrap ((b : Int) - a) = (b : Int) - a := IntWalk.i64_in _ (by omega)
  have hl : (s.extract a b).size ≤ 18 := by rw [ByteArray.size_extract]; omega
  go_enter Tryz.func96, Tryz.ntmps96
  go_wp2
  go_quiet ((go_at_call 127; refine Calls.quiet_of_same (digit_is s[a].toNat _ hc)))
  have hm := h.step (belowDrewN (Below.refl _ _) nq)
  generalize w.drewN nq = W at hm ⊢
  have d0 := hm.c0
  have d1 := hm.c1
  have hst : ∀ w' : World, Below W.drew.heap.size W.drew w' → Scn B X ks s LN a lv n xs 0 wr w0 w' := fun w' b1 => hm.step ((Below.refl W.heap.size W).drew.trans b1)
  clear c0 c1 h
  go_wp2_with (first
    | (go_at_call 125; refine (run_digit X s a b _ d0 hsz hu).mono ?_; rintro e w2 ⟨rfl, rfl⟩))
  go_region_held3 (fun w' => w'.cell? ⟨X, 0, none⟩ = some (.string s) ∧ w'.cell? ⟨X, 1, none⟩ = some (.int .i64 a)) (go_keep) (first | (go_at_call 128; refine (atoi_run (s.extract a b) v hl hv _).mono ?_; rintro e w' ⟨rfl, b1⟩; have hS1 := hst _ b1; have q0 := hS1.c0; have q1 := hS1.c1))
  clear d0 d1 hm
  go_wp2_with (first
    | (go_at_call 100; refine (add_walk hS1 hL gL hsz hn b hab hbs 2 v ByteArray.empty j).mono ?_))
  rintro e w3 ⟨rfl, lv', hS⟩
  go_wp2
  go_ret
  exact ⟨rfl, lv', hS⟩

end
end Go.Proofs.YtholnnabakaliaaGreatDoor

namespace Go.Proofs.YtholnnabakaliaaGreatDoor
open Go.RowKit

section
variable {B X : Nat} {ks : List (Nat × Obj)} {s : ByteArray} {lines : Value} {lv : Value} {n : Nat} {xs : List Value} {wr : Int} {w0 w : World}

set_option maxHeartbeats 8000000 in
set_option maxRecDepth 100000 in
theorem number_long {a : Nat} (h : Scn B X ks s lines a lv n xs 0 wr w0 w) (hsz : s.size ≤ 1048576) (ha : a < s.size) (hc : isDigit s[a].toNat = true) (b : Nat) (hu : Upto isDigit s a b) (hlen : a + 15 < b) (j : Bool) :
    Calls Tryz.prog 96 #[.pointer (some ⟨X, 0, none⟩), .bool j] w fun r w' => r = .returned (.bool true) ∧ Scn B X ks s lines a lv n xs 5 a w0 w' := by
  have c0 := h.c0
  have c1 := h.c1
  have hab := hu.ab
  have hbs := hu.bs
  have ha0 : (0 : Int) ≤ (a : Int) := by omega
  have ha' : (a : Int) < s.size := by omega
  have h64 : (15 : Int) < (b : Int) - a := by omega
  have hw1 : IntKind.i64.wrap ((b : Int) - a) = (b : Int) - a := IntWalk.i64_in _ (by omega)
  go_enter Tryz.func96, Tryz.ntmps96
  go_wp2
  go_quiet ((go_at_call 127; refine Calls.quiet_of_same (digit_is s[a].toNat _ hc)))
  have hm := h.step (belowDrewN (Below.refl _ _) nq)
  generalize w.drewN nq = W at hm ⊢
  have d0 := hm.c0
  have d1 := hm.c1
  clear c0 c1 h
  go_wp2_with (first
    | (go_at_call 125; refine (run_digit X s a b _ d0 hsz hu).mono ?_; rintro e w2 ⟨rfl, rfl⟩)
    | (go_at_call 101; refine (fail_walk hm a 5).mono ?_))
  rintro e w3 ⟨rfl, hS⟩
  go_wp2
  go_ret
  exact ⟨rfl, hS⟩

def symbols : List UInt8 := [33, 35, 36, 38, 39, 40, 41, 42, 43, 44, 45, 46, 47, 58, 59, 60, 61, 62, 63, 64, 91, 92, 93, 94, 95, 123, 124, 125, 126]

theorem symbols_run (c : Nat) (_hc : c < 256) (k : Int) (hk : Lib.indexByte symbols c.toUInt8 = k) (w : World) :
    Calls Tryz.prog 88 #[.string ⟨symbols.toArray⟩, .int .u8 c] w fun e w' => e = .returned (.int .i64 k) ∧ w' = w := by
  have := Tryz.strings_IndexByte ⟨symbols.toArray⟩ (c : Int) w
  rw [← hk]
  simpa using this

variable {LN : Value} {ls : List Int}
set_option maxHeartbeats 8000000 in
set_option maxRecDepth 100000 in
theorem symbol_hit {a : Nat} (h : Scn B X ks s LN a lv n xs 0 wr w0 w) (hL : LinesAt LN ls ks) (gL : Lines ls) (hsz : s.size ≤ 1048576) (hn : n ≤ 1048576) (ha : a < s.size) (hc : 0 ≤ Lib.indexByte symbols s[a].toNat.toUInt8) (j : Bool) :
    Calls Tryz.prog 98 #[.pointer (some ⟨X, 0, none⟩), .bool j] w fun r w' => r = .returned (.bool true) ∧
      ∃ lv', Scn B X ks s LN (a + 1 : Nat) lv' (n + 1) (xs ++ Tok.cells ⟨4, s.extract a (a + 1), 0, ByteArray.empty, plL ls a, plC ls a, j && decide (0 < n)⟩) 0 wr w0 w' := by
  have c0 := h.c0
  have c1 := h.c1
  have ha0 : (0 : Int) ≤ (a : Int) := by omega
  have ha' : (a : Int) < s.size := by omega
  obtain ⟨k, hk⟩ : ∃ k, Lib.indexByte symbols s[a].toNat.toUInt8 = k := ⟨_, rfl⟩
  rw [hk] at hc
  have hcz := symbols_run s[a].toNat s[a].toNat_lt k hk
  have e1 : ((a + 1 : Nat) : Int) = (a : Int) + 1 := by omega
  go_enter Tryz.func98, Tryz.ntmps98
  go_wp2
  go_quiet ((go_at_call 88; refine Calls.quiet_of_same (hcz _)))
  have hm := h.step (belowDrewN (Below.refl _ _) nq)
  generalize w.drewN nq = W at hm ⊢
  have d0 := hm.c0
  have d1 := hm.c1
  have hadd := add_walk hm hL gL hsz hn (a + 1) (by omega) (by omega) 4 0 ByteArray.empty j
  rw [e1] at hadd
  clear c0 c1 h
  go_wp2_with (first
    | (go_at_call 100; refine hadd.mono ?_))
  rintro e w3 ⟨rfl, lv', hS⟩
  go_wp2
  go_ret
  refine ⟨rfl, lv', ?_⟩
  rw [e1]; exact hS

end
end Go.Proofs.YtholnnabakaliaaGreatDoor

namespace Go.Proofs.YtholnnabakaliaaGreatDoor
open Go.RowKit

theorem sizeBld : (Tryz.prog.info? 113).map (·.size) = some 2 := by kernel_rfl
theorem liesBld : liesAt Tryz.prog Tryz.prog.depth 113 (2 / Tryz.prog.cellsOf 113) 0 113 1 = true := by kernel_rfl
theorem infoByte : (Tryz.prog.info? 5).map (fun i => (i.zero, i.size, i.bytes)) = some (some (.int .u8 0), 1, 1) := by kernel_rfl

set_option maxHeartbeats 1000000 in
set_option maxRecDepth 100000 in
theorem copyCheck_used (b : Nat) (w : World) (h0 : w.cell? ⟨b, 0, none⟩ = some (.pointer (some ⟨b, 0, none⟩))) :
    Calls Tryz.prog 93 #[.pointer (some ⟨b, 0, none⟩)] w fun e w' => e = .returned (.tuple #[]) ∧ w' = w := by
  obtain ⟨j, hj, _⟩ := Option.map_eq_some_iff.1 sizeBld
  go_enter Tryz.func93, Tryz.ntmps93
  go_wp2
  rw [Lib.run_neq_ptr_same w _ Tryz.underlying111 hj]
  go_wp2
  go_end0
  exact ⟨rfl, rfl⟩

set_option maxHeartbeats 1000000 in
set_option maxRecDepth 100000 in
theorem copyCheck_fresh (b : Nat) (w : World) (h0 : w.cell? ⟨b, 0, none⟩ = some (.pointer none)) (hsh : w.shape? b = some (113, 2)) (hfz : w.frozen? ⟨b, 0, none⟩ = false) :
    Calls Tryz.prog 93 #[.pointer (some ⟨b, 0, none⟩)] w fun e w' => e = .returned (.tuple #[]) ∧ w' = w.setCell ⟨b, 0, none⟩ (.pointer (some ⟨b, 0, none⟩)) := by
  obtain ⟨j, hj, hjs⟩ := Option.map_eq_some_iff.1 sizeBld
  go_enter Tryz.func93, Tryz.ntmps93
  go_wp2
  rw [Lib.run_to_unsafe w ⟨b, 0, none⟩ Tryz.underlying111 Tryz.underlying186 hj (by rw [hjs]; decide) hsh (Nat.zero_lt_succ 1)]
  simp only [Result.andThen]
  rw [Oper.upon_value]
  go_wp2
  rw [run_callFunc_extern Tryz.func122 (by kernel_rfl) (by kernel_rfl) (by kernel_rfl) (e := Extern.AbiNoEscape.same) (by kernel_rfl)]
  rw [Lib.run_noEscape]
  simp only [Result.andThen]
  rw [Oper.upon_value]
  go_wp2
  rw [Lib.run_from_unsafe w ⟨b, 0, none⟩ Tryz.underlying186 Tryz.underlying111 hj hsh liesBld]
  simp only [Result.andThen]
  rw [Oper.upon_value]
  go_wp2
  go_end0
  exact ⟨rfl, rfl⟩

theorem copyCheck_any (B b : Nat) (bs : List Value) (w : World) (h : Lib.IsBuilder 113 5 B b bs w) :
    Calls Tryz.prog 93 #[.pointer (some ⟨b, 0, none⟩)] w fun e w' => e = .returned (.tuple #[]) ∧ (Lib.BuilderAt 113 5 B b (.pointer (some ⟨b, 0, none⟩)) bs w' ∧ Below B w w') := by
  rcases h with h | h
  · refine (copyCheck_fresh b w h.cell0 h.shape h.frozen0).mono ?_
    rintro e w' ⟨rfl, rfl⟩
    exact ⟨rfl, h.used _, (Below.refl B w).setCell (p := ⟨b, 0, none⟩) h.1 _⟩
  · refine (copyCheck_used b w h.cell0).mono ?_
    rintro e w' ⟨rfl, rfl⟩
    exact ⟨rfl, h, Below.refl B _⟩

set_option maxHeartbeats 2000000 in
set_option maxRecDepth 100000 in
theorem writeByte (B b : Nat) (bs : List Value) (c : Int) (w : World) (h : Lib.IsBuilder 113 5 B b bs w) (hlen : bs.length + 1 ≤ 140737488355328) (hBw : B ≤ w.heap.size) :
    Calls Tryz.prog 87 #[.pointer (some ⟨b, 0, none⟩), .int .u8 c] w fun e w' => e = .returned .nilIface ∧ (Lib.BuilderAt 113 5 B b (.pointer (some ⟨b, 0, none⟩)) (bs ++ [.int .u8 c]) w' ∧ Below B w w') := by
  obtain ⟨i0, hi, hz0, hz1, hz2⟩ := info_parts infoByte
  go_enter Tryz.func87, Tryz.ntmps87
  go_wp2_with (go_at_call 93; refine (copyCheck_any B b bs _ h).mono ?_)
  rintro e w1 ⟨rfl, h1, hb1⟩
  obtain ⟨hB, v, hbk, hown, hne⟩ := h1
  have c0 : w1.cell? ⟨b, 0, none⟩ = some (.pointer (some ⟨b, 0, none⟩)) := by rw [Lib.cell_of_heap hbk]; rfl
  have c1 : w1.cell? ⟨b, 1, none⟩ = some v := by rw [Lib.cell_of_heap hbk]; rfl
  go_wp2_with (at_builtin; refine wpList_append_own _ rfl _ _ 106 rfl B 5 i0 (.int .u8 0) 1 1 Tryz.underlying106 hi hz0 hz1 hz2 rfl (by decide) _ _ _ rfl (hown.alloc _) ⟨w1.heap.size, 0, none⟩ 1 1 [.int .u8 c] rfl rfl ?c1 ?c2 ?c3 ?c4 ?c5 ?_)
  case c1 =>
    intro j u hj
    match j, hj with
    | 0, hj => simp at hj; subst hj; simp [Addr.add]
  case c2 => intro u hu; simp at hu; subst hu; rfl
  case c3 => unfold maxLen; omega
  case c4 => omega
  case c5 => have := hb1.size; simp; omega
  intro v' w2 hown' hgrow _
  have hlt : b < w1.heap.size := by
    rcases Nat.lt_or_ge b w1.heap.size with h' | h'
    · exact h'
    · simp [Array.getElem?_eq_none h'] at hbk
  have hb2 : w2.heap[b]? = some (.cells #[.pointer (some ⟨b, 0, none⟩), v] 113 (0, 0)) := by
    rw [hgrow.block b (by simp; omega) (fun e => hne e.symm), Lib.alloc_old w1 _ b hlt]
    exact hbk
  have d0 : w2.cell? ⟨b, 0, none⟩ = some (.pointer (some ⟨b, 0, none⟩)) := by rw [Lib.cell_of_heap hb2]; rfl
  have d1 : w2.cell? ⟨b, 1, none⟩ = some v := by rw [Lib.cell_of_heap hb2]; rfl
  have f1 : w2.frozen? ⟨b, 1, none⟩ = false := Lib.frozen_of_heap hb2 1
  obtain ⟨g, cap, rfl⟩ : ∃ g cap, v' = .slice (some ⟨g, 0, none⟩) (bs.length + 1) cap := by
    rcases hown'.2 with ⟨_, h0⟩ | ⟨g, cap, cur, hv, _⟩
    · omega
    · exact ⟨g, cap, hv⟩
  go_wp2
  go_ret
  refine ⟨rfl, ?_, ?_⟩
  · exact Lib.BuilderAt.put (T := 113) (e := 5) hB hb2 (bs' := bs ++ [.int .u8 c]) (by simpa using hown') (by decide)
  · exact ((hb1.alloc (by have := hb1.size; omega) _).grown hgrow (by have := hb1.size; simp; omega) (fun k hk => (hown.lt k hk).1)).setCell (p := ⟨b, 1, none⟩) hB _

set_option maxHeartbeats 2000000 in
set_option maxRecDepth 100000 in
theorem writeString (B b : Nat) (bs : List Value) (s : ByteArray) (w : World) (h : Lib.IsBuilder 113 5 B b bs w) (hlen : bs.length + s.size ≤ 140737488355328) (hBw : B ≤ w.heap.size) :
    Calls Tryz.prog 67 #[.pointer (some ⟨b, 0, none⟩), .string s] w fun e w' => e = .returned (.tuple #[.int .i64 s.size, .nilIface]) ∧ (Lib.BuilderAt 113 5 B b (.pointer (some ⟨b, 0, none⟩)) (bs ++ Lib.strCells s) w' ∧ Below B w w') := by
  obtain ⟨i0, hi, hz0, hz1, hz2⟩ := info_parts infoByte
  go_enter Tryz.func67, Tryz.ntmps67
  go_wp2_with (go_at_call 93; refine (copyCheck_any B b bs _ h).mono ?_)
  rintro e w1 ⟨rfl, h1, hb1⟩
  obtain ⟨hB, v, hbk, hown, hne⟩ := h1
  have c0 : w1.cell? ⟨b, 0, none⟩ = some (.pointer (some ⟨b, 0, none⟩)) := by rw [Lib.cell_of_heap hbk]; rfl
  have c1 : w1.cell? ⟨b, 1, none⟩ = some v := by rw [Lib.cell_of_heap hbk]; rfl
  go_wp2_with (at_builtin; refine Lib.wpList_append_own_string _ rfl _ _ 106 9 rfl B 5 i0 Tryz.underlying106 Tryz.underlying9 hi hz0 hz1 hz2 _ _ _ rfl hown s rfl ?c3 ?c4 ?c5 ?_)
  case c3 => unfold maxLen; omega
  case c4 => omega
  case c5 => have := hb1.size; omega
  intro v' w2 hown' hgrow _
  have hlt : b < w1.heap.size := by
    rcases Nat.lt_or_ge b w1.heap.size with h' | h'
    · exact h'
    · simp [Array.getElem?_eq_none h'] at hbk
  have hb2 : w2.heap[b]? = some (.cells #[.pointer (some ⟨b, 0, none⟩), v] 113 (0, 0)) := by
    rw [hgrow.block b hlt (fun e => hne e.symm)]
    exact hbk
  have d0 : w2.cell? ⟨b, 0, none⟩ = some (.pointer (some ⟨b, 0, none⟩)) := by rw [Lib.cell_of_heap hb2]; rfl
  have d1 : w2.cell? ⟨b, 1, none⟩ = some v := by rw [Lib.cell_of_heap hb2]; rfl
  have f1 : w2.frozen? ⟨b, 1, none⟩ = false := Lib.frozen_of_heap hb2 1
  obtain ⟨ao, n', cap, rfl⟩ : ∃ ao n' cap, v' = .slice ao n' cap := by
    rcases hown'.2 with ⟨hv, _⟩ | ⟨g, cap, cur, hv, _⟩
    · exact ⟨_, _, _, hv⟩
    · exact ⟨_, _, _, hv⟩
  go_wp2
  go_ret2
  refine ⟨rfl, ?_, ?_⟩
  · exact Lib.BuilderAt.put (T := 113) (e := 5) hB hb2 (bs' := bs ++ Lib.strCells s) (by simpa [Lib.strCells_length] using hown') (by decide)
  · exact (hb1.grown hgrow (by have := hb1.size; omega) (fun k hk => (hown.lt k hk).1)).setCell (p := ⟨b, 1, none⟩) hB _

end Go.Proofs.YtholnnabakaliaaGreatDoor

namespace Go.Proofs.YtholnnabakaliaaGreatDoor
open Go.RowKit

def hexDigit (n : Nat) : UInt8 := if n < 10 then (48 + n).toUInt8 else (87 + n).toUInt8
def hexS : ByteArray := ⟨#[48, 49, 50, 51, 52, 53, 54, 55, 56, 57, 97, 98, 99, 100, 101, 102]⟩

theorem hex_index : ∀ n, n < 16 → Lib.indexByte hexS.data.toList (hexDigit n) = (n : Int) := by decide

set_option maxHeartbeats 4000000 in
set_option maxRecDepth 100000 in
theorem hex_walk (n : Nat) (hn : n < 16) (w : World) : Calls Tryz.prog 151 #[.int .u8 (hexDigit n).toNat] w fun e w' => e = .returned (.int .i64 n) ∧ w' = w := by
  have hi := Tryz.strings_IndexByte hexS ((hexDigit n).toNat : Int) w
  have e : ((hexDigit n).toNat : Int).toNat.toUInt8 = hexDigit n := by simp
  rw [e, hex_index n hn] at hi
  simp only [hexS] at hi
  go_enter Tryz.func151, Tryz.ntmps151
  go_wp2_with (go_at_call 88; refine hi.mono ?_; rintro r w1 ⟨rfl, rfl⟩)
  go_wp2
  go_ret
  exact ⟨rfl, rfl⟩

set_option maxHeartbeats 8000000 in
set_option maxRecDepth 100000 in
theorem escape_two (B b : Nat) (bs : List Value) (t : ByteArray) (w : World) (h : Lib.IsBuilder 113 5 B b bs w) (hlen : bs.length + 1 ≤ 140737488355328) (hBw : B ≤ w.heap.size) (ht : 0 < t.size) (v : Int)
    (hc : (((t[0].toNat : Nat) : Int) = 110 ∧ v = 10) ∨ (((t[0].toNat : Nat) : Int) = 116 ∧ v = 9) ∨ (((t[0].toNat : Nat) : Int) = 92 ∧ v = 92) ∨ (((t[0].toNat : Nat) : Int) = 34 ∧ v = 34)) :
    Calls Tryz.prog 129 #[.string t, .pointer (some ⟨b, 0, none⟩)] w fun e w' => e = .returned (.tuple #[.int .i64 1, .bool false]) ∧ (Lib.BuilderAt 113 5 B b (.pointer (some ⟨b, 0, none⟩)) (bs ++ [.int .u8 v]) w' ∧ Below B w w') := by
  have hemp : t.toList.isEmpty = false := by
    rw [Go.ByteArray.toList_eq]
    have hl : t.data.toList.length = t.size := by simp
    cases e : t.data.toList with
    | nil => rw [e] at hl; simp at hl; omega
    | cons x r => rfl
  have ht' : (0 : Int) < (t.size : Int) := by omega
  have hi := Tryz.strings_IndexByte ⟨#[110, 116, 92, 34]⟩ ((t[0].toNat : Nat) : Int) w
  have hw := writeByte B b bs v w h hlen hBw
  rcases hc with ⟨hc, rfl⟩ | ⟨hc, rfl⟩ | ⟨hc, rfl⟩ | ⟨hc, rfl⟩
  all_goals rw [hc] at hi
  · rw [show Lib.indexByte (⟨#[110, 116, 92, 34]⟩ : ByteArray).data.toList ((110 : Int).toNat.toUInt8) = 0 by decide] at hi
    go_enter Tryz.func129, Tryz.ntmps129
    go_wp2_with (first
      | (go_at_call 88; refine hi.mono ?_; rintro r w1 ⟨rfl, rfl⟩)
      | (go_at_call 87; refine hw.mono ?_))
    rintro e w2 ⟨rfl, h2, b2⟩
    go_wp2
    refine bodyPost_ret (results_tmp2 rfl _ _ _) rfl ?_
    exact ⟨rfl, h2, b2⟩
  · rw [show Lib.indexByte (⟨#[110, 116, 92, 34]⟩ : ByteArray).data.toList ((116 : Int).toNat.toUInt8) = 1 by decide] at hi
    go_enter Tryz.func129, Tryz.ntmps129
    go_wp2_with (first
      | (go_at_call 88; refine hi.mono ?_; rintro r w1 ⟨rfl, rfl⟩)
      | (go_at_call 87; refine hw.mono ?_))
    rintro e w2 ⟨rfl, h2, b2⟩
    go_wp2
    refine bodyPost_ret (results_tmp2 rfl _ _ _) rfl ?_
    exact ⟨rfl, h2, b2⟩
  · rw [show Lib.indexByte (⟨#[110, 116, 92, 34]⟩ : ByteArray).data.toList ((92 : Int).toNat.toUInt8) = 2 by decide] at hi
    go_enter Tryz.func129, Tryz.ntmps129
    go_wp2_with (first
      | (go_at_call 88; refine hi.mono ?_; rintro r w1 ⟨rfl, rfl⟩)
      | (go_at_call 87; refine hw.mono ?_))
    rintro e w2 ⟨rfl, h2, b2⟩
    go_wp2
    refine bodyPost_ret (results_tmp2 rfl _ _ _) rfl ?_
    exact ⟨rfl, h2, b2⟩
  · rw [show Lib.indexByte (⟨#[110, 116, 92, 34]⟩ : ByteArray).data.toList ((34 : Int).toNat.toUInt8) = 3 by decide] at hi
    go_enter Tryz.func129, Tryz.ntmps129
    go_wp2_with (first
      | (go_at_call 88; refine hi.mono ?_; rintro r w1 ⟨rfl, rfl⟩)
      | (go_at_call 87; refine hw.mono ?_))
    rintro e w2 ⟨rfl, h2, b2⟩
    go_wp2
    refine bodyPost_ret (results_tmp2 rfl _ _ _) rfl ?_
    exact ⟨rfl, h2, b2⟩

theorem hex_val (h l : Nat) (hh : h < 16) (hl : l < 16) : IntKind.i64.wrap (16 * (h : Int)) = 16 * (h : Int) ∧ IntKind.i64.wrap (16 * (h : Int) + l) = 16 * (h : Int) + l ∧ IntKind.u8.wrap (16 * (h : Int) + l) = 16 * (h : Int) + l :=
  ⟨IntWalk.i64_in _ (by omega), IntWalk.i64_in _ (by omega), IntWalk.u8_in _ (by omega)⟩

set_option maxHeartbeats 16000000 in
set_option maxRecDepth 100000 in
theorem escape_hex (B b : Nat) (bs : List Value) (t : ByteArray) (w : World) (h : Lib.IsBuilder 113 5 B b bs w) (hlen : bs.length + 1 ≤ 140737488355328) (hBw : B ≤ w.heap.size) (ht : 2 < t.size) (x y : Nat) (hx : x < 16) (hy : y < 16)
    (h0 : ((t[0].toNat : Nat) : Int) = 120) (h1 : t[1] = hexDigit x) (h2 : t[2] = hexDigit y) :
    Calls Tryz.prog 129 #[.string t, .pointer (some ⟨b, 0, none⟩)] w fun e w' => e = .returned (.tuple #[.int .i64 3, .bool false]) ∧ (Lib.BuilderAt 113 5 B b (.pointer (some ⟨b, 0, none⟩)) (bs ++ [.int .u8 (16 * (x : Int) + y)]) w' ∧ Below B w w') := by
  have hemp : t.toList.isEmpty = false := by
    rw [Go.ByteArray.toList_eq]
    have hl : t.data.toList.length = t.size := by simp
    cases e : t.data.toList with
    | nil => rw [e] at hl; simp at hl; omega
    | cons x r => rfl
  have ht' : (0 : Int) < (t.size : Int) := by omega
  have ht1 : (1 : Int) < (t.size : Int) := by omega
  have ht2 : (2 : Int) < (t.size : Int) := by omega
  have hn1 : ¬ (1 : Int) = (t.size : Int) := by omega
  have hn2 : ¬ (2 : Int) = (t.size : Int) := by omega
  have hi := Tryz.strings_IndexByte ⟨#[110, 116, 92, 34]⟩ ((t[0].toNat : Nat) : Int) w
  rw [h0, show Lib.indexByte (⟨#[110, 116, 92, 34]⟩ : ByteArray).data.toList ((120 : Int).toNat.toUInt8) = -1 by decide] at hi
  have hw := writeByte B b bs (16 * (x : Int) + y) w h hlen hBw
  obtain ⟨m1, m2, m3⟩ := hex_val x y hx hy
  have m4 : IntKind.i64.wrap (0 + (x : Int)) = (x : Int) := by rw [Int.zero_add]; exact IntWalk.i64_in _ (by omega)
  have q1 : ((t[1].toNat : Nat) : Int) = ((hexDigit x).toNat : Int) := by rw [h1]
  have q2 : ((t[2].toNat : Nat) : Int) = ((hexDigit y).toNat : Int) := by rw [h2]
  have x1 := fun w => hex_walk x hx w
  have x2 := fun w => hex_walk y hy w
  have hx0 : decide ((x : Int) < 0) = false := by simp
  have hy0 : decide ((y : Int) < 0) = false := by simp
  have hz1 : ((1 : Int) == (t.size : Int)) = false := by simp; omega
  have hz2 : ((2 : Int) == (t.size : Int)) = false := by simp; omega
  rw [← q1] at x1
  rw [← q2] at x2
  clear h1 h2 q1 q2
  go_enter Tryz.func129, Tryz.ntmps129
  go_wp2_with (go_at_call 88; refine hi.mono ?_; rintro r w1 ⟨rfl, rfl⟩)
  go_loopg [7, 8] 3 (fun g v u wr => wr = w1 ∧ ((g = 3 ∧ v = .int .i64 0 ∧ u = .int .i64 1) ∨ (g = 2 ∧ v = .int .i64 x ∧ u = .int .i64 2) ∨ (g = 1 ∧ v = .int .i64 (16 * (x : Int) + y) ∧ u = .int .i64 3)))
  case atStart => exact ⟨rfl, .inl ⟨rfl, rfl, rfl⟩⟩
  case round =>
    obtain ⟨hw1, ⟨rfl, rfl, rfl⟩ | ⟨rfl, rfl, rfl⟩ | ⟨rfl, rfl, rfl⟩⟩ := hrel
    · go_wp2_with (go_at_call 151; refine (x1 _).mono ?_; rintro r w2 ⟨rfl, rfl⟩)
      go_roundg 2
      case measure => omega
      case rel => exact ⟨by first | rfl | exact hw1 | simp, .inr (.inl ⟨rfl, rfl, rfl⟩)⟩
    · go_wp2_with (go_at_call 151; refine (x2 _).mono ?_; rintro r w2 ⟨rfl, rfl⟩)
      go_roundg 1
      case measure => omega
      case rel => exact ⟨by first | rfl | exact hw1 | simp, .inr (.inr ⟨rfl, rfl, rfl⟩)⟩
    · subst hw1
      go_wp2_with (go_at_call 87; refine hw.mono ?_)
      rintro e w2 ⟨rfl, h2, b2⟩
      go_wp2
      refine bodyPost_ret (results_tmp2 rfl _ _ _) rfl ?_
      exact ⟨rfl, h2, b2⟩
end Go.Proofs.YtholnnabakaliaaGreatDoor
