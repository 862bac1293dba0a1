/-
  A part of the proof that the law ParserNests (chapter 19) returns true for every depth and every list of notes: walks of the program's functions, and runs of them in the kernel by the own evaluator.
-/
import Derived.Test.YtmoddgkjaimpfaaGreatDoorProg
import Derived.Lib.Builder
import Derived.Lib.BufferMore
import Derived.WalkKit
import Derived.WalkSmall
import Derived.Below
import Derived.Deep.LoopGhost
import Derived.Lib.Walk
namespace Go.Proofs.YtmoddgkjaimpfaaGreatDoor
open Go.RowKit

/-- The scanner at block X: it stands at 'pos' of 's', has the 'n' tokens whose cells are 'xs', and the error 'e' at 'wr'; the blocks 'ks' hold what they held; below B the world is w0's. -/
structure Scn (B X : Nat) (ks : List (Nat × Obj)) (s : ByteArray) (lines : Value) (pos : Int) (lv : Value) (n : Nat) (xs : List Value) (e wr : Int) (w0 w : World) : Prop where
  hX : B ≤ X
  hB : B ≤ w.heap.size
  blk : w.heap[X]? = some (.cells #[.string s, .int .i64 pos, lines, lv, .int .i64 e, .int .i64 wr] 92 (0, 0))
  own : w.ownsRow B 85 7 lv n xs
  keep : ∀ p ∈ ks, w.heap[p.1]? = some p.2 ∧ p.1 ≠ X ∧ B ≤ p.1 ∧ ∀ cs fr, p.2 ≠ .cells cs 85 fr
  below : Below B w0 w

theorem own_ne {w : World} {B : Nat} {e : TypeId} {size : Nat} {v : Value} {n : Nat} {xs : List Value} {b : Nat} {o : Obj} (hown : w.ownsRow B e size v n xs) (hb : w.heap[b]? = some o) (hTe : ∀ cs fr, o ≠ .cells cs e fr) : v.ownBlock ≠ some b := by
  rcases hown.2 with ⟨rfl, _⟩ | ⟨g, cap, cur, rfl, _, hg, _⟩
  · simp [Value.ownBlock]
  · intro h
    simp only [Value.ownBlock, Option.some.injEq] at h
    subst h
    rw [hg] at hb
    exact hTe _ _ (Option.some.inj hb).symm

theorem own_step {w w' : World} {B : Nat} {e : TypeId} {size : Nat} {v : Value} {n : Nat} {xs : List Value} (h : w.ownsRow B e size v n xs) (hb : ∀ k, v.ownBlock = some k → w'.heap[k]? = w.heap[k]?) : w'.ownsRow B e size v n xs := by
  refine ⟨h.1, ?_⟩
  rcases h.2 with hn | ⟨g, cap, cur, rfl, hg, hgg, rest⟩
  · exact .inl hn
  · exact .inr ⟨g, cap, cur, rfl, hg, (hb g rfl).trans hgg, rest⟩

section
variable {B X : Nat} {ks : List (Nat × Obj)} {s : ByteArray} {lines : Value} {pos : Int} {lv : Value} {n : Nat} {xs : List Value} {e wr : Int} {w0 w : World}

theorem Scn.lt (h : Scn B X ks s lines pos lv n xs e wr w0 w) : X < w.heap.size := (Array.getElem?_eq_some_iff.1 h.blk).1

/-- It lasts where nothing that was there is touched. -/
theorem Scn.step (h : Scn B X ks s lines pos lv n xs e wr w0 w) {w' : World} (hb : Below w.heap.size w w') : Scn B X ks s lines pos lv n xs e wr w0 w' := by
  have hB := h.hB
  refine ⟨h.hX, Nat.le_trans h.hB hb.size, (hb.block X h.lt).trans h.blk, own_step h.own fun k hk => hb.block k (h.own.lt k hk).2, fun p hp => ?_, h.below.trans (hb.mono h.hB)⟩
  obtain ⟨h1, h2, h3, h4⟩ := h.keep p hp
  exact ⟨(hb.block _ (Array.getElem?_eq_some_iff.1 h1).1).trans h1, h2, h3, h4⟩

/-- A store into the scanner's own cells. -/
theorem Scn.put (h : Scn B X ks s lines pos lv n xs e wr w0 w) (i : Nat) (u : Value) {pos' e' wr' : Int} (hu : (#[.string s, .int .i64 pos, lines, lv, .int .i64 e, .int .i64 wr] : Array Value).setIfInBounds i u = #[.string s, .int .i64 pos', lines, lv, .int .i64 e', .int .i64 wr']) :
    Scn B X ks s lines pos' lv n xs e' wr' w0 (w.setCell ⟨X, i, none⟩ u) := by
  have hne : lv.ownBlock ≠ some X := own_ne h.own h.blk (by intro cs fr hc; injection hc with _ h2 _; exact absurd h2 (by decide))
  refine ⟨h.hX, by simpa [World.setCell] using h.hB, ?_, own_step h.own fun k hk => Below.heap_setCell _ _ _ _ (fun e => hne (by rw [hk, e])), fun p hp => ?_, h.below.setCell (p := ⟨X, i, none⟩) h.hX _⟩
  · rw [Lib.heap_setCell_same h.blk, hu]
  · obtain ⟨h1, h2, h3, h4⟩ := h.keep p hp
    exact ⟨(Below.heap_setCell _ _ _ _ h2).trans h1, h2, h3, h4⟩

theorem Scn.at (h : Scn B X ks s lines pos lv n xs e wr w0 w) (q : Int) : Scn B X ks s lines q lv n xs e wr w0 (w.setCell ⟨X, 1, none⟩ (.int .i64 q)) := h.put 1 _ rfl
theorem Scn.fail (h : Scn B X ks s lines pos lv n xs e wr w0 w) (a b : Int) : Scn B X ks s lines pos lv n xs a b w0 ((w.setCell ⟨X, 5, none⟩ (.int .i64 b)).setCell ⟨X, 4, none⟩ (.int .i64 a)) := (h.put (e' := e) (wr' := b) (pos' := pos) 5 _ rfl).put 4 _ rfl

/-- A longer row of tokens. -/
theorem Scn.push (h : Scn B X ks s lines pos lv n xs e wr w0 w) {w' : World} {v' : Value} {n' : Nat} {xs' : List Value} (hg : w.grownBy w' lv.ownBlock) (hown : w'.ownsRow B 85 7 v' n' xs') :
    Scn B X ks s lines pos v' n' xs' e wr w0 (w'.setCell ⟨X, 3, none⟩ v') := by
  have hne : lv.ownBlock ≠ some X := own_ne h.own h.blk (by intro cs fr hc; injection hc with _ h2 _; exact absurd h2 (by decide))
  have hblk : w'.heap[X]? = some (.cells #[.string s, .int .i64 pos, lines, lv, .int .i64 e, .int .i64 wr] 92 (0, 0)) := (hg.block X h.lt (fun e => hne e.symm)).trans h.blk
  have hne' : v'.ownBlock ≠ some X := own_ne hown hblk (by intro cs fr hc; injection hc with _ h2 _; exact absurd h2 (by decide))
  refine ⟨h.hX, by simpa [World.setCell] using Nat.le_trans h.hB hg.size, ?_, own_step hown fun k hk => Below.heap_setCell _ _ _ _ (fun e => hne' (by rw [hk, e])), fun p hp => ?_, ?_⟩
  · rw [Lib.heap_setCell_same hblk]; rfl
  · obtain ⟨h1, h2, h3, h4⟩ := h.keep p hp
    have hnp : lv.ownBlock ≠ some p.1 := own_ne h.own h1 h4
    exact ⟨(Below.heap_setCell _ _ _ _ h2).trans ((hg.block _ (Array.getElem?_eq_some_iff.1 h1).1 (fun e => hnp e.symm)).trans h1), h2, h3, h4⟩
  · exact (h.below.grown hg h.hB (fun k hk => (h.own.lt k hk).1)).setCell (p := ⟨X, 3, none⟩) h.hX _

theorem Scn.c0 (h : Scn B X ks s lines pos lv n xs e wr w0 w) : w.cell? ⟨X, 0, none⟩ = some (.string s) := by rw [Lib.cell_of_heap h.blk]; rfl
theorem Scn.c1 (h : Scn B X ks s lines pos lv n xs e wr w0 w) : w.cell? ⟨X, 1, none⟩ = some (.int .i64 pos) := by rw [Lib.cell_of_heap h.blk]; rfl
theorem Scn.c2 (h : Scn B X ks s lines pos lv n xs e wr w0 w) : w.cell? ⟨X, 2, none⟩ = some lines := by rw [Lib.cell_of_heap h.blk]; rfl
theorem Scn.c3 (h : Scn B X ks s lines pos lv n xs e wr w0 w) : w.cell? ⟨X, 3, none⟩ = some lv := by rw [Lib.cell_of_heap h.blk]; rfl
theorem Scn.c4 (h : Scn B X ks s lines pos lv n xs e wr w0 w) : w.cell? ⟨X, 4, none⟩ = some (.int .i64 e) := by rw [Lib.cell_of_heap h.blk]; rfl
theorem Scn.c5 (h : Scn B X ks s lines pos lv n xs e wr w0 w) : w.cell? ⟨X, 5, none⟩ = some (.int .i64 wr) := by rw [Lib.cell_of_heap h.blk]; rfl
theorem Scn.fz (h : Scn B X ks s lines pos lv n xs e wr w0 w) (i : Nat) : w.frozen? ⟨X, i, none⟩ = false := Lib.frozen_of_heap h.blk i
theorem Scn.lvIs (h : Scn B X ks s lines pos lv n xs e wr w0 w) : ∃ ao c, lv = .slice ao n c := by
  rcases h.own.2 with ⟨hv, h0⟩ | ⟨g, cap, cur, hv, _⟩
  · exact ⟨none, 0, by rw [hv, h0]⟩
  · exact ⟨_, _, hv⟩
end

/-- A token of one line. -/
structure Tok where
  kind : Int
  text : ByteArray
  value : Int
  bytes : ByteArray
  col : Int
  joined : Bool

def Tok.cells (t : Tok) : List Value := [.int .i64 t.kind, .string t.text, .int .i64 t.value, .string t.bytes, .int .i64 1, .int .i64 t.col, .bool t.joined]

def isLetter (c : Nat) : Bool := (decide (97 ≤ c) && decide (c ≤ 122)) || (decide (65 ≤ c) && decide (c ≤ 90))
def isDigit (c : Nat) : Bool := decide (48 ≤ c) && decide (c ≤ 57)
def isBlank (c : Nat) : Bool := decide (c = 32) || decide (c = 9) || decide (c = 10) || decide (c = 13)
def isInWord (c : Nat) : Bool := isLetter c || isDigit c || decide (c = 95)

end Go.Proofs.YtmoddgkjaimpfaaGreatDoor

namespace Go.Proofs.YtmoddgkjaimpfaaGreatDoor
open Go.RowKit

set_option maxHeartbeats 1000000 in
set_option maxRecDepth 100000 in
theorem letter_walk (c : Int) (w : World) : Calls Tryz.prog 71 #[.int .u8 c] w fun e w' => e = .returned (.bool ((decide (97 ≤ c) && decide (c ≤ 122)) || (decide (65 ≤ c) && decide (c ≤ 90)))) ∧ w' = w := by
  go_enter Tryz.func71, Tryz.ntmps71
  by_cases h1 : 97 ≤ c <;> by_cases h2 : c ≤ 122 <;> by_cases h3 : 65 ≤ c <;> by_cases h4 : c ≤ 90
  all_goals first | omega | skip
  all_goals go_wp2
  all_goals go_ret
  all_goals simp_all

set_option maxHeartbeats 1000000 in
set_option maxRecDepth 100000 in
theorem digit_walk (c : Int) (w : World) : Calls Tryz.prog 74 #[.int .u8 c] w fun e w' => e = .returned (.bool (decide (48 ≤ c) && decide (c ≤ 57))) ∧ w' = w := by
  go_enter Tryz.func74, Tryz.ntmps74
  by_cases h1 : 48 ≤ c <;> by_cases h2 : c ≤ 57
  all_goals first | omega | skip
  all_goals go_wp2
  all_goals go_ret
  all_goals simp_all

set_option maxHeartbeats 1000000 in
set_option maxRecDepth 100000 in
theorem blank_walk (c : Int) (w : World) : Calls Tryz.prog 83 #[.int .u8 c] w fun e w' => e = .returned (.bool (decide (c = 32) || decide (c = 9) || decide (c = 10) || decide (c = 13))) ∧ w' = w := by
  go_enter Tryz.func83, Tryz.ntmps83
  by_cases h1 : c = 32 <;> by_cases h2 : c = 9 <;> by_cases h3 : c = 10 <;> by_cases h4 : c = 13
  all_goals first | omega | skip
  all_goals (try subst h1); (try subst h2); (try subst h3); (try subst h4)
  all_goals go_wp2
  all_goals go_ret
  all_goals simp_all

theorem letter_is (c : Nat) (w : World) {b : Bool} (h : isLetter c = b) : Calls Tryz.prog 71 #[.int .u8 c] w fun e w' => e = .returned (.bool b) ∧ w' = w := by
  refine (letter_walk c w).mono ?_
  rintro e w' ⟨rfl, rfl⟩
  refine ⟨?_, rfl⟩
  rw [← h]; unfold isLetter
  congr 2
  congr 1 <;> congr 1 <;> exact decide_eq_decide.2 (by omega)

theorem digit_is (c : Nat) (w : World) {b : Bool} (h : isDigit c = b) : Calls Tryz.prog 74 #[.int .u8 c] w fun e w' => e = .returned (.bool b) ∧ w' = w := by
  refine (digit_walk c w).mono ?_
  rintro e w' ⟨rfl, rfl⟩
  refine ⟨?_, rfl⟩
  rw [← h]; unfold isDigit
  congr 2
  congr 1 <;> exact decide_eq_decide.2 (by omega)

theorem blank_is (c : Nat) (w : World) {b : Bool} (h : isBlank c = b) : Calls Tryz.prog 83 #[.int .u8 c] w fun e w' => e = .returned (.bool b) ∧ w' = w := by
  refine (blank_walk c w).mono ?_
  rintro e w' ⟨rfl, rfl⟩
  refine ⟨?_, rfl⟩
  rw [← h]; unfold isBlank
  congr 2
  congr 1
  · congr 1
    · congr 1 <;> exact decide_eq_decide.2 (by omega)
    · exact decide_eq_decide.2 (by omega)
  · exact decide_eq_decide.2 (by omega)

set_option maxHeartbeats 1000000 in
set_option maxRecDepth 100000 in
theorem inWord_l (c : Nat) (w : World) (hl : isLetter c = true) : Calls Tryz.prog 73 #[.int .u8 c] w fun e w' => e = .returned (.bool true) ∧ w' = w := by
  go_enter Tryz.func73, Tryz.ntmps73
  go_wp2_with (go_at_call 71; refine (letter_is _ _ hl).mono ?_; rintro e w2 ⟨rfl, rfl⟩)
  go_ret
  exact ⟨rfl, rfl⟩

set_option maxHeartbeats 1000000 in
set_option maxRecDepth 100000 in
theorem inWord_d (c : Nat) (w : World) (hl : isLetter c = false) (hd : isDigit c = true) : Calls Tryz.prog 73 #[.int .u8 c] w fun e w' => e = .returned (.bool true) ∧ w' = w := by
  go_enter Tryz.func73, Tryz.ntmps73
  go_wp2_with (first
    | (go_at_call 71; refine (letter_is _ _ hl).mono ?_; rintro e w2 ⟨rfl, rfl⟩)
    | (go_at_call 74; refine (digit_is _ _ hd).mono ?_; rintro e w2 ⟨rfl, rfl⟩))
  go_ret
  exact ⟨rfl, rfl⟩

set_option maxHeartbeats 1000000 in
set_option maxRecDepth 100000 in
theorem inWord_u (c : Nat) (w : World) (hl : isLetter c = false) (hd : isDigit c = false) : Calls Tryz.prog 73 #[.int .u8 c] w fun e w' => e = .returned (.bool (decide ((c : Int) = 95))) ∧ w' = w := by
  go_enter Tryz.func73, Tryz.ntmps73
  go_wp2_with (first
    | (go_at_call 71; refine (letter_is _ _ hl).mono ?_; rintro e w2 ⟨rfl, rfl⟩)
    | (go_at_call 74; refine (digit_is _ _ hd).mono ?_; rintro e w2 ⟨rfl, rfl⟩))
  all_goals go_ret
  all_goals first | exact ⟨rfl, rfl⟩ | simp_all

theorem inWord_is (c : Nat) (w : World) {b : Bool} (h : isInWord c = b) : Calls Tryz.prog 73 #[.int .u8 c] w fun e w' => e = .returned (.bool b) ∧ w' = w := by
  unfold isInWord at h
  cases hl : isLetter c
  · cases hd : isDigit c
    · have := inWord_u c w hl hd
      rw [hl, hd] at h
      have hc4 : decide (c = 95) = decide ((c : Int) = 95) := decide_eq_decide.2 (by omega)
      rw [← hc4] at this
      rw [← h]; simpa using this
    · rw [hl, hd] at h
      have := inWord_d c w hl hd
      rw [← h]; simpa using this
  · rw [hl] at h
    have := inWord_l c w hl
    rw [← h]; simpa using this

/-- A place 'b' up to which a class of bytes reaches from 'a' on. -/
structure Upto (p : Nat → Bool) (s : ByteArray) (a b : Nat) : Prop where
  ab : a ≤ b
  bs : b ≤ s.size
  ins : ∀ k (h : k < s.size), a ≤ k → k < b → p s[k].toNat = true
  out : ∀ h : b < s.size, p s[b].toNat = false

set_option maxHeartbeats 2000000 in
set_option maxRecDepth 100000 in
theorem run_digit (X : Nat) (s : ByteArray) (a b : Nat) (w : World) (c0 : w.cell? ⟨X, 0, none⟩ = some (.string s)) (hsz : s.size ≤ 1048576) (hu : Upto isDigit s a b) :
    Calls Tryz.prog 72 #[.pointer (some ⟨X, 0, none⟩), .int .i64 a, .func (.func 74) #[] #[]] w fun e w' => e = .returned (.int .i64 b) ∧ w' = w := by
  obtain ⟨hab, hbs, hin, hout⟩ := hu
  go_enter Tryz.func72, Tryz.ntmps72
  go_wp2
  go_loop [1] (fun v => ∃ k : Nat, a ≤ k ∧ k ≤ b ∧ v = .int .i64 k) (fun v => b - (intOf v).toNat)
  case atStart => exact ⟨a, Nat.le_refl _, hab, rfl⟩
  case round =>
    obtain ⟨k, hk1, hk2, rfl⟩ := hrel
    by_cases hlt : k < s.size
    · by_cases hkb : k < b
      · have hd := hin k hlt hk1 hkb
        go_wp2_with (go_at_call 74; refine (digit_is _ _ hd).mono ?_; rintro e w2 ⟨rfl, rfl⟩)
        go_round
        case rel => exact ⟨k + 1, by omega, hkb, by go_num⟩
        case measure => simp [intOf]; omega
      · obtain rfl : k = b := by omega
        have hd := hout hlt
        go_wp2_with (go_at_call 74; refine (digit_is _ _ hd).mono ?_; rintro e w2 ⟨rfl, rfl⟩)
        go_ret
        exact ⟨rfl, rfl⟩
    · obtain rfl : k = b := by omega
      go_wp2
      go_ret
      exact ⟨rfl, rfl⟩

set_option maxHeartbeats 2000000 in
set_option maxRecDepth 100000 in
theorem run_inWord (X : Nat) (s : ByteArray) (a b : Nat) (w : World) (c0 : w.cell? ⟨X, 0, none⟩ = some (.string s)) (hsz : s.size ≤ 1048576) (hu : Upto isInWord s a b) :
    Calls Tryz.prog 72 #[.pointer (some ⟨X, 0, none⟩), .int .i64 a, .func (.func 73) #[] #[]] w fun e w' => e = .returned (.int .i64 b) ∧ w' = w := by
  obtain ⟨hab, hbs, hin, hout⟩ := hu
  go_enter Tryz.func72, Tryz.ntmps72
  go_wp2
  go_loop [1] (fun v => ∃ k : Nat, a ≤ k ∧ k ≤ b ∧ v = .int .i64 k) (fun v => b - (intOf v).toNat)
  case atStart => exact ⟨a, Nat.le_refl _, hab, rfl⟩
  case round =>
    obtain ⟨k, hk1, hk2, rfl⟩ := hrel
    by_cases hlt : k < s.size
    · by_cases hkb : k < b
      · have hd := hin k hlt hk1 hkb
        go_wp2_with (go_at_call 73; refine (inWord_is _ _ hd).mono ?_; rintro e w2 ⟨rfl, rfl⟩)
        go_round
        case rel => exact ⟨k + 1, by omega, hkb, by go_num⟩
        case measure => simp [intOf]; omega
      · obtain rfl : k = b := by omega
        have hd := hout hlt
        go_wp2_with (go_at_call 73; refine (inWord_is _ _ hd).mono ?_; rintro e w2 ⟨rfl, rfl⟩)
        go_ret
        exact ⟨rfl, rfl⟩
    · obtain rfl : k = b := by omega
      go_wp2
      go_ret
      exact ⟨rfl, rfl⟩

section
variable {B X : Nat} {ks : List (Nat × Obj)} {s : ByteArray} {lines : Value} {pos : Int} {lv : Value} {n : Nat} {xs : List Value} {wr : Int} {w0 w : World}
set_option maxHeartbeats 2000000 in
set_option maxRecDepth 100000 in
theorem fail_walk (h : Scn B X ks s lines pos lv n xs 0 wr w0 w) (a e : Int) :
    Calls Tryz.prog 49 #[.pointer (some ⟨X, 0, none⟩), .int .i64 a, .int .i64 e] w fun r w' => r = .returned (.tuple #[]) ∧ Scn B X ks s lines pos lv n xs e a w0 w' := by
  have c4 := h.c4
  have f4 := h.fz 4
  have f5 := h.fz 5
  have c5 := h.c5
  have hfin := h.fail e a
  clear h
  go_enter Tryz.func49, Tryz.ntmps49
  go_wp2
  go_end0
  exact ⟨rfl, hfin⟩
end
end Go.Proofs.YtmoddgkjaimpfaaGreatDoor
