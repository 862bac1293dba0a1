/-
  A part of the proof that the law ParserNests (chapter 19) returns true for every depth and every list of notes: walks of the program's functions, and runs of them in the kernel by the own evaluator.
-/
import Derived.Test.YtmoddgkjaimpfaaGreatDoorLxd
namespace Go.Proofs.YtmoddgkjaimpfaaGreatDoor
open Go.RowKit

/-- The row of the four takers. -/
def takers : Array Value := #[.func (.func 43) #[] #[], .func (.func 44) #[] #[], .func (.func 45) #[] #[], .func (.func 46) #[] #[]]
def takersRow : Obj := .cells takers 127 (0, 0)

/-- What a taker does: it misses, and leaves what was; or it hits. -/
def Misses (F X : Nat) (j : Bool) (w : World) : Prop := ∀ w', Below w.heap.size w w' → Calls Tryz.prog F #[.pointer (some ⟨X, 0, none⟩), .bool j] w' fun r w'' => r = .returned (.bool false) ∧ Below w'.heap.size w' w''
def Hits (F X : Nat) (j : Bool) (w : World) (Q : World → Prop) : Prop := ∀ w', Below w.heap.size w w' → Calls Tryz.prog F #[.pointer (some ⟨X, 0, none⟩), .bool j] w' fun r w'' => r = .returned (.bool true) ∧ Q w''

def takerAt (i : Nat) : Nat := 43 + i

set_option maxHeartbeats 4000000 in
set_option maxRecDepth 100000 in
theorem try_walk (F X Bx Bj : Nat) (j b : Bool) (w : World) (hx : w.cell? ⟨Bx, 0, none⟩ = some (.pointer (some ⟨X, 0, none⟩))) (hj : w.cell? ⟨Bj, 0, none⟩ = some (.bool j)) (Q : World → Prop)
    (hc : Calls Tryz.prog F #[.pointer (some ⟨X, 0, none⟩), .bool j] w fun r w' => r = .returned (.bool b) ∧ Q w') (hF : F = 43 ∨ F = 44 ∨ F = 45 ∨ F = 46) :
    Calls Tryz.prog 51 #[.func (.func F) #[] #[], .pointer (some ⟨Bx, 0, none⟩), .pointer (some ⟨Bj, 0, none⟩)] w fun r w' => r = .returned (.bool b) ∧ Q w' := by
  rcases hF with rfl | rfl | rfl | rfl
  all_goals go_enter Tryz.func51, Tryz.ntmps51
  all_goals go_wp2_with (first
    | (go_at_call 43; refine hc.mono ?_)
    | (go_at_call 44; refine hc.mono ?_)
    | (go_at_call 45; refine hc.mono ?_)
    | (go_at_call 46; refine hc.mono ?_))
  all_goals rintro e w' ⟨rfl, hQ⟩
  all_goals go_wp2
  all_goals go_ret
  all_goals exact ⟨rfl, hQ⟩
end Go.Proofs.YtmoddgkjaimpfaaGreatDoor

namespace Go.Proofs.YtmoddgkjaimpfaaGreatDoor
open Go.RowKit

theorem Misses.step {F X : Nat} {j : Bool} {w w' : World} (h : Misses F X j w) (b : Below w.heap.size w w') : Misses F X j w' := fun w'' b' => h w'' (b.trans (b'.mono b.size))
theorem Hits.step {F X : Nat} {j : Bool} {w w' : World} {Q : World → Prop} (h : Hits F X j w Q) (b : Below w.heap.size w w') : Hits F X j w' Q := fun w'' b' => h w'' (b.trans (b'.mono b.size))

section
variable {X Bx Bj K : Nat} {j : Bool} {w : World} {Q : World → Prop}

set_option maxHeartbeats 8000000 in
set_option maxRecDepth 100000 in
theorem find_walk (p : Nat) (hp : p < 4) (hK : w.heap[K]? = some takersRow) (hx : w.cell? ⟨Bx, 0, none⟩ = some (.pointer (some ⟨X, 0, none⟩))) (hj : w.cell? ⟨Bj, 0, none⟩ = some (.bool j))
    (hmiss : ∀ i, i < p → Misses (43 + i) X j w) (hhit : Hits (43 + p) X j w Q) :
    Calls Tryz.prog 84 #[.slice (some ⟨K, 0, none⟩) 4 4, .func (.func 51) #[] #[.pointer (some ⟨Bx, 0, none⟩), .pointer (some ⟨Bj, 0, none⟩)]] w fun r w' => r = .returned (.int .i64 p) ∧ Q w' := by
  have lK := (Array.getElem?_eq_some_iff.1 hK).1
  have lx := World.block_lt_of_cell? w _ hx
  have lj := World.block_lt_of_cell? w _ hj
  simp only at lx lj
  go_enter Tryz.func84, Tryz.ntmps84
  go_wp2
  go_loopw [8] (fun v wr => ∃ i : Nat, i ≤ p ∧ v = .int .i64 i ∧ Below w.heap.size w wr) (fun v _ => p - (intOf v).toNat)
  case atStart => exact ⟨0, Nat.zero_le _, rfl, Below.refl _ _⟩
  case round =>
    obtain ⟨i, hi, rfl, hb⟩ := hrel
    have hK1 := (hb.block K lK).trans hK
    have hx1 := (hb.cell (p := ⟨Bx, 0, none⟩) lx).trans hx
    have hj1 := (hb.cell (p := ⟨Bj, 0, none⟩) lj).trans hj
    have q0 : wr.cell? ⟨K, 0, none⟩ = some (.func (.func 43) #[] #[]) := by rw [Lib.cell_of_heap hK1]; rfl
    have q1 : wr.cell? ⟨K, 1, none⟩ = some (.func (.func 44) #[] #[]) := by rw [Lib.cell_of_heap hK1]; rfl
    have q2 : wr.cell? ⟨K, 2, none⟩ = some (.func (.func 45) #[] #[]) := by rw [Lib.cell_of_heap hK1]; rfl
    have q3 : wr.cell? ⟨K, 3, none⟩ = some (.func (.func 46) #[] #[]) := by rw [Lib.cell_of_heap hK1]; rfl
    by_cases hlt : i < p
    · have hm := hmiss i hlt wr hb
      have hi3 : i = 0 ∨ i = 1 ∨ i = 2 := by omega
      rcases hi3 with rfl | rfl | rfl
      · have ht := try_walk 43 X Bx Bj j false wr hx1 hj1 _ hm (by decide)
        go_wp2_with (go_at_call 51; refine ht.mono ?_)
        rintro e w' ⟨rfl, b'⟩
        go_wp2
        go_roundw
        case rel => exact ⟨1, by omega, rfl, hb.trans (b'.mono hb.size)⟩
        case measure => simp [intOf]; omega
      · have ht := try_walk 44 X Bx Bj j false wr hx1 hj1 _ hm (by decide)
        go_wp2_with (go_at_call 51; refine ht.mono ?_)
        rintro e w' ⟨rfl, b'⟩
        go_wp2
        go_roundw
        case rel => exact ⟨2, by omega, rfl, hb.trans (b'.mono hb.size)⟩
        case measure => simp [intOf]; omega
      · have ht := try_walk 45 X Bx Bj j false wr hx1 hj1 _ hm (by decide)
        go_wp2_with (go_at_call 51; refine ht.mono ?_)
        rintro e w' ⟨rfl, b'⟩
        go_wp2
        go_roundw
        case rel => exact ⟨3, by omega, rfl, hb.trans (b'.mono hb.size)⟩
        case measure => simp [intOf]; omega
    · obtain rfl : i = p := by omega
      have hm := hhit wr hb
      have hi3 : i = 0 ∨ i = 1 ∨ i = 2 ∨ i = 3 := by omega
      rcases hi3 with rfl | rfl | rfl | rfl
      · have ht := try_walk 43 X Bx Bj j true wr hx1 hj1 _ hm (by decide)
        go_wp2_with (go_at_call 51; refine ht.mono ?_)
        rintro e w' ⟨rfl, hQ⟩
        go_wp2
        go_ret
        exact ⟨rfl, hQ⟩
      · have ht := try_walk 44 X Bx Bj j true wr hx1 hj1 _ hm (by decide)
        go_wp2_with (go_at_call 51; refine ht.mono ?_)
        rintro e w' ⟨rfl, hQ⟩
        go_wp2
        go_ret
        exact ⟨rfl, hQ⟩
      · have ht := try_walk 45 X Bx Bj j true wr hx1 hj1 _ hm (by decide)
        go_wp2_with (go_at_call 51; refine ht.mono ?_)
        rintro e w' ⟨rfl, hQ⟩
        go_wp2
        go_ret
        exact ⟨rfl, hQ⟩
      · have ht := try_walk 46 X Bx Bj j true wr hx1 hj1 _ hm (by decide)
        go_wp2_with (go_at_call 51; refine ht.mono ?_)
        rintro e w' ⟨rfl, hQ⟩
        go_wp2
        go_ret
        exact ⟨rfl, hQ⟩

set_option maxHeartbeats 4000000 in
set_option maxRecDepth 100000 in
theorem takes_walk (p : Nat) (hp : p < 4) (hK : w.heap[K]? = some takersRow) (hx : w.cell? ⟨Bx, 0, none⟩ = some (.pointer (some ⟨X, 0, none⟩))) (hj : w.cell? ⟨Bj, 0, none⟩ = some (.bool j))
    (hmiss : ∀ i, i < p → Misses (43 + i) X j w) (hhit : Hits (43 + p) X j w Q) :
    Calls Tryz.prog 50 #[.slice (some ⟨K, 0, none⟩) 4 4, .func (.func 51) #[] #[.pointer (some ⟨Bx, 0, none⟩), .pointer (some ⟨Bj, 0, none⟩)]] w fun r w' => r = .returned (.bool true) ∧ Q w' := by
  have hf := find_walk p hp hK hx hj hmiss hhit
  have hp0 : (0 : Int) ≤ (p : Int) := by omega
  clear hmiss hhit hK hx hj
  go_enter Tryz.func50, Tryz.ntmps50
  go_wp2_with (go_at_call 84; refine hf.mono ?_)
  rintro e w' ⟨rfl, hQ⟩
  go_wp2
  go_ret
  refine ⟨?_, hQ⟩
  first | rfl | simp
end
end Go.Proofs.YtmoddgkjaimpfaaGreatDoor

namespace Go.Proofs.YtmoddgkjaimpfaaGreatDoor
open Go.RowKit

/-- From offset a on, behind n tokens, the text has the tokens 'toks' (the last of them End); 'some b': at b begins a number that is too long. -/
inductive Lx (s : ByteArray) : Nat → Nat → List Tok → Option Nat → Prop
  | fin {a b n : Nat} (hu : Upto isBlank s a b) (hb : b = s.size) : Lx s a n [⟨0, s.extract b b, 0, ByteArray.empty, (b : Int) + 1, !decide (a < b) && decide (0 < n)⟩] none
  | word {a b c n : Nat} {toks : List Tok} {out : Option Nat} (hu : Upto isBlank s a b) (hb : b < s.size) (hc : isLetter s[b].toNat = true) (hw : Upto isInWord s b c) (hl : c ≤ b + 64) (h : Lx s c (n + 1) toks out) :
      Lx s a n (⟨1, s.extract b c, 0, ByteArray.empty, (b : Int) + 1, !decide (a < b) && decide (0 < n)⟩ :: toks) out
  | number {a b c n : Nat} {toks : List Tok} {out : Option Nat} (v : Int) (hu : Upto isBlank s a b) (hb : b < s.size) (hc : isDigit s[b].toNat = true) (hw : Upto isDigit s b c) (hl : c ≤ b + 15) (hv : Lib.atoi (s.extract b c).data.toList = some v) (h : Lx s c (n + 1) toks out) :
      Lx s a n (⟨2, s.extract b c, v, ByteArray.empty, (b : Int) + 1, !decide (a < b) && decide (0 < n)⟩ :: toks) out
  | long {a b c n : Nat} (hu : Upto isBlank s a b) (hb : b < s.size) (hc : isDigit s[b].toNat = true) (hw : Upto isDigit s b c) (hl : b + 15 < c) : Lx s a n [] (some b)
  | str {a b n : Nat} {toks : List Tok} {out : Option Nat} (hu : Upto isBlank s a b) (hb : b + 1 < s.size) (hc : s[b].toNat = 34) (hc1 : s[b + 1].toNat = 34) (h : Lx s (b + 2) (n + 1) toks out) :
      Lx s a n (⟨3, s.extract b (b + 2), 0, ByteArray.empty, (b : Int) + 1, !decide (a < b) && decide (0 < n)⟩ :: toks) out
  | sym {a b n : Nat} {toks : List Tok} {out : Option Nat} (hu : Upto isBlank s a b) (hb : b < s.size) (h1 : isLetter s[b].toNat = false) (h2 : isDigit s[b].toNat = false) (h3 : s[b].toNat ≠ 34) (hc : 0 ≤ Lib.indexByte symbols s[b].toNat.toUInt8) (h : Lx s (b + 1) (n + 1) toks out) :
      Lx s a n (⟨4, s.extract b (b + 1), 0, ByteArray.empty, (b : Int) + 1, !decide (a < b) && decide (0 < n)⟩ :: toks) out

def cellsOf (l : List Tok) : List Value := l.flatMap Tok.cells

/-- What is behind one step. -/
def After (B X : Nat) (ks : List (Nat × Obj)) (s : ByteArray) (lines : Value) (b n : Nat) (lv : Value) (xs : List Value) (wr : Int) (w0 : World) (toks : List Tok) (out : Option Nat) (w : World) : Prop :=
  (∃ t toks' lv' c, toks = t :: toks' ∧ Lx s c (n + 1) toks' out ∧ Scn B X ks s lines (c : Nat) lv' (n + 1) (xs ++ t.cells) 0 wr w0 w) ∨
  (∃ b' : Nat, toks = [] ∧ out = some b' ∧ Scn B X ks s lines b lv n xs 5 b' w0 w)

theorem letter_no {c : Nat} (h : isLetter c = true) : ((c : Nat) : Int) ≠ 37 := by
  intro e; have : c = 37 := by omega
  subst this; simp [isLetter] at h
theorem digit_no {c : Nat} (h : isDigit c = true) : ((c : Nat) : Int) ≠ 37 ∧ isLetter c = false := by
  simp only [isDigit, Bool.and_eq_true, decide_eq_true_eq] at h
  refine ⟨by omega, ?_⟩
  have h1 : ¬ 97 ≤ c := by omega
  have h2 : ¬ 65 ≤ c := by omega
  simp [isLetter, h1, h2]
theorem sym_no {c : UInt8} (h : 0 ≤ Lib.indexByte symbols c) : c ≠ 37 := by
  rintro rfl
  revert h; decide

theorem lx_step {s : ByteArray} {a n : Nat} {toks : List Tok} {out : Option Nat} (h : Lx s a n toks out) (hsz : s.size ≤ 1048576) (hn : n ≤ 1048576) :
    (∃ b, Upto isBlank s a b ∧ b = s.size ∧ toks = [⟨0, s.extract b b, 0, ByteArray.empty, (b : Int) + 1, !decide (a < b) && decide (0 < n)⟩] ∧ out = none) ∨
    (∃ b p, Upto isBlank s a b ∧ b < s.size ∧ (∀ h : b < s.size, ((s[b].toNat : Nat) : Int) ≠ 37) ∧ p < 4 ∧
      ∀ (B X L : Nat) (ks : List (Nat × Obj)) (lv : Value) (xs : List Value) (wr : Int) (w0 w : World), (L, lineRow) ∈ ks → Scn B X ks s (.slice (some ⟨L, 0, none⟩) 1 1) b lv n xs 0 wr w0 w →
        (∀ i, i < p → Misses (43 + i) X (!decide (a < b)) w) ∧ Hits (43 + p) X (!decide (a < b)) w (After B X ks s (.slice (some ⟨L, 0, none⟩) 1 1) b n lv xs wr w0 toks out)) := by
  cases h with
  | fin hu hb => exact .inl ⟨_, hu, hb, rfl, rfl⟩
  | @word _ b c _ toks' _ hu hb hc hw hl h =>
    refine .inr ⟨b, 0, hu, hb, fun _ => letter_no hc, by omega, fun B X L ks lv xs wr w0 w hL hS => ⟨fun i hi => absurd hi (by omega), fun w' b' => ?_⟩⟩
    refine (word_hit (hS.step b') hL hsz hn hb hc c hw hl _).mono ?_
    rintro e w'' ⟨rfl, lv', hS'⟩
    exact ⟨rfl, .inl ⟨_, _, lv', c, rfl, h, hS'⟩⟩
  | @number _ b c _ toks' _ v hu hb hc hw hl hv h =>
    refine .inr ⟨b, 1, hu, hb, fun _ => (digit_no hc).1, by omega, fun B X L ks lv xs wr w0 w hL hS => ⟨fun i hi => ?_, fun w' b' => ?_⟩⟩
    · obtain rfl : i = 0 := by omega
      exact fun w' b' => word_miss (hS.step b') hb (digit_no hc).2 _
    · refine (number_hit (hS.step b') hL hsz hn hb hc c hw hl v hv _).mono ?_
      rintro e w'' ⟨rfl, lv', hS'⟩
      exact ⟨rfl, .inl ⟨_, _, lv', c, rfl, h, hS'⟩⟩
  | @long _ b c _ hu hb hc hw hl =>
    refine .inr ⟨b, 1, hu, hb, fun _ => (digit_no hc).1, by omega, fun B X L ks lv xs wr w0 w hL hS => ⟨fun i hi => ?_, fun w' b' => ?_⟩⟩
    · obtain rfl : i = 0 := by omega
      exact fun w' b' => word_miss (hS.step b') hb (digit_no hc).2 _
    · refine (number_long (hS.step b') hsz hb hc c hw hl _).mono ?_
      rintro e w'' ⟨rfl, hS'⟩
      exact ⟨rfl, .inr ⟨b, rfl, rfl, hS'⟩⟩
  | @str _ b _ toks' _ hu hb hc hc1 h =>
    have hb0 : b < s.size := by omega
    refine .inr ⟨b, 2, hu, hb0, fun _ => by rw [hc]; decide, by omega, fun B X L ks lv xs wr w0 w hL hS => ⟨fun i hi => ?_, fun w' b' => ?_⟩⟩
    · rcases (by omega : i = 0 ∨ i = 1) with rfl | rfl
      · exact fun w' b' => word_miss (hS.step b') hb0 (by rw [hc]; decide) _
      · exact fun w' b' => number_miss (hS.step b') hb0 (by rw [hc]; decide) _
    · refine (text_hit (hS.step b') hL hsz hn hb (by rw [hc]; rfl) (by rw [hc1]; rfl) _).mono ?_
      rintro e w'' ⟨rfl, lv', hS'⟩
      exact ⟨rfl, .inl ⟨_, _, lv', b + 2, rfl, h, hS'⟩⟩
  | @sym _ b _ toks' _ hu hb h1 h2 h3 hc h =>
    refine .inr ⟨b, 3, hu, hb, fun _ => ?_, by omega, fun B X L ks lv xs wr w0 w hL hS => ⟨fun i hi => ?_, fun w' b' => ?_⟩⟩
    · intro e
      have h37 := sym_no hc
      apply h37
      have : s[b].toNat = 37 := by omega
      rw [this]; rfl
    · rcases (by omega : i = 0 ∨ i = 1 ∨ i = 2) with rfl | rfl | rfl
      · exact fun w' b' => word_miss (hS.step b') hb h1 _
      · exact fun w' b' => number_miss (hS.step b') hb h2 _
      · exact fun w' b' => text_miss (hS.step b') hb (by omega) _
    · refine (symbol_hit (hS.step b') hL hsz hn hb hc _).mono ?_
      rintro e w'' ⟨rfl, lv', hS'⟩
      exact ⟨rfl, .inl ⟨_, _, lv', b + 1, rfl, h, hS'⟩⟩
end Go.Proofs.YtmoddgkjaimpfaaGreatDoor
