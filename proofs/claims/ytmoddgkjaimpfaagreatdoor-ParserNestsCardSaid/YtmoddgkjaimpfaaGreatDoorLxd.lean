/-
  A part of the proof that the law ParserNests (chapter 19) returns true for every depth and every list of notes: walks of the program's functions, and runs of them in the kernel by the own evaluator.
-/
import Derived.Test.YtmoddgkjaimpfaaGreatDoorLxb
import Derived.Lib.SmallJoins
import Derived.Lib.ConvBytes
import Derived.Lib.UnsafeStr
namespace Go.Proofs.YtmoddgkjaimpfaaGreatDoor
open Go.RowKit

section
variable {B X : Nat} {ks : List (Nat × Obj)} {s : ByteArray} {lines : Value} {lv : Value} {n : Nat} {xs : List Value} {wr : Int} {w0 w : World}

set_option maxHeartbeats 4000000 in
set_option maxRecDepth 100000 in
theorem word_miss {a : Nat} (h : Scn B X ks s lines a lv n xs 0 wr w0 w) (ha : a < s.size) (hc : isLetter s[a].toNat = false) (j : Bool) :
    Calls Tryz.prog 43 #[.pointer (some ⟨X, 0, none⟩), .bool j] w fun r w' => r = .returned (.bool false) ∧ Below w.heap.size w w' := by
  have c0 := h.c0
  have c1 := h.c1
  clear h
  have ha0 : (0 : Int) ≤ (a : Int) := by omega
  have ha' : (a : Int) < s.size := by omega
  go_enter Tryz.func43, Tryz.ntmps43
  go_wp2
  go_quiet ((go_at_call 71; refine Calls.quiet_of_same (letter_is s[a].toNat _ hc)))
  go_wp2
  go_ret
  exact ⟨rfl, below_drewN (Below.refl _ _) _⟩

set_option maxHeartbeats 4000000 in
set_option maxRecDepth 100000 in
theorem number_miss {a : Nat} (h : Scn B X ks s lines a lv n xs 0 wr w0 w) (ha : a < s.size) (hc : isDigit s[a].toNat = false) (j : Bool) :
    Calls Tryz.prog 44 #[.pointer (some ⟨X, 0, none⟩), .bool j] w fun r w' => r = .returned (.bool false) ∧ Below w.heap.size w w' := by
  have c0 := h.c0
  have c1 := h.c1
  clear h
  have ha0 : (0 : Int) ≤ (a : Int) := by omega
  have ha' : (a : Int) < s.size := by omega
  go_enter Tryz.func44, Tryz.ntmps44
  go_wp2
  go_quiet ((go_at_call 74; refine Calls.quiet_of_same (digit_is s[a].toNat _ hc)))
  go_wp2
  go_ret
  exact ⟨rfl, below_drewN (Below.refl _ _) _⟩

set_option maxHeartbeats 4000000 in
set_option maxRecDepth 100000 in
theorem text_miss {a : Nat} (h : Scn B X ks s lines a lv n xs 0 wr w0 w) (ha : a < s.size) (hc : ¬ ((s[a].toNat : Nat) : Int) = 34) (j : Bool) :
    Calls Tryz.prog 45 #[.pointer (some ⟨X, 0, none⟩), .bool j] w fun r w' => r = .returned (.bool false) ∧ Below w.heap.size w w' := by
  have c0 := h.c0
  have c1 := h.c1
  clear h
  have ha0 : (0 : Int) ≤ (a : Int) := by omega
  have ha' : (a : Int) < s.size := by omega
  go_enter Tryz.func45, Tryz.ntmps45
  go_wp2
  go_quiet (fail)
  go_wp2
  go_ret
  exact ⟨rfl, below_drewN (Below.refl _ _) _⟩

variable {L : Nat}
set_option maxHeartbeats 8000000 in
set_option maxRecDepth 100000 in
theorem word_hit {a : Nat} (h : Scn B X ks s (.slice (some ⟨L, 0, none⟩) 1 1) a lv n xs 0 wr w0 w) (hL : (L, lineRow) ∈ ks) (hsz : s.size ≤ 1048576) (hn : n ≤ 1048576) (ha : a < s.size) (hc : isLetter s[a].toNat = true) (b : Nat) (hu : Upto isInWord s a b) (hlen : b ≤ a + 64) (j : Bool) :
    Calls Tryz.prog 43 #[.pointer (some ⟨X, 0, none⟩), .bool j] w fun r w' => r = .returned (.bool true) ∧
      ∃ lv', Scn B X ks s (.slice (some ⟨L, 0, none⟩) 1 1) b lv' (n + 1) (xs ++ Tok.cells ⟨1, s.extract a b, 0, ByteArray.empty, (a : Int) + 1, j && decide (0 < n)⟩) 0 wr w0 w' := by
  have c0 := h.c0
  have c1 := h.c1
  have hab := hu.ab
  have hbs := hu.bs
  have ha0 : (0 : Int) ≤ (a : Int) := by omega
  have ha' : (a : Int) < s.size := by omega
  have h64 : (b : Int) - a ≤ 64 := by omega
  have hw1 : IntKind.i64.wrap ((b : Int) - a) = (b : Int) - a := IntWalk.i64_in _ (by omega)
  go_enter Tryz.func43, Tryz.ntmps43
  go_wp2
  go_quiet ((go_at_call 71; refine Calls.quiet_of_same (letter_is s[a].toNat _ hc)))
  have hm := h.step (below_drewN (Below.refl _ _) nq)
  generalize w.drewN nq = W at hm ⊢
  have d0 := hm.c0
  have d1 := hm.c1
  clear c0 c1 h
  go_wp2_with (first
    | (go_at_call 72; refine (run_inWord X s a b _ d0 hsz hu).mono ?_; rintro e w2 ⟨rfl, rfl⟩)
    | (go_at_call 48; refine (add_walk hm hL hsz hn b hab hbs 1 0 ByteArray.empty j).mono ?_))
  rintro e w3 ⟨rfl, lv', hS⟩
  go_wp2
  go_ret
  exact ⟨rfl, lv', hS⟩

theorem atoi_run (s : ByteArray) (n : Int) (hl : s.size ≤ 18) (h : Lib.atoi s.data.toList = some n) (w : World) :
    Calls Tryz.prog 75 #[.string s] w fun e w' => e = .returned (.tuple #[.int .i64 n, .nilIface]) ∧ Below w.heap.size w w' := by
  refine (Tryz.strconv_Atoi s n hl h w).mono ?_
  rintro e w' ⟨rfl, t, rfl⟩
  exact ⟨rfl, Go.Joins.below_bytesWorld _ _ _ _ (Nat.le_refl _)⟩

set_option maxHeartbeats 8000000 in
set_option maxRecDepth 100000 in
theorem number_hit {a : Nat} (h : Scn B X ks s (.slice (some ⟨L, 0, none⟩) 1 1) a lv n xs 0 wr w0 w) (hL : (L, lineRow) ∈ ks) (hsz : s.size ≤ 1048576) (hn : n ≤ 1048576) (ha : a < s.size) (hc : isDigit s[a].toNat = true) (b : Nat) (hu : Upto isDigit s a b) (hlen : b ≤ a + 15) (v : Int) (hv : Lib.atoi (s.extract a b).data.toList = some v) (j : Bool) :
    Calls Tryz.prog 44 #[.pointer (some ⟨X, 0, none⟩), .bool j] w fun r w' => r = .returned (.bool true) ∧
      ∃ lv', Scn B X ks s (.slice (some ⟨L, 0, none⟩) 1 1) b lv' (n + 1) (xs ++ Tok.cells ⟨2, s.extract a b, v, ByteArray.empty, (a : Int) + 1, j && decide (0 < n)⟩) 0 wr w0 w' := by
  have c0 := h.c0
  have c1 := h.c1
  have hab := hu.ab
  have hbs := hu.bs
  have ha0 : (0 : Int) ≤ (a : Int) := by omega
  have hb0 : (0 : Int) ≤ (b : Int) := by omega
  have hab' : (a : Int) ≤ (b : Int) := by omega
  have hbs' : (b : Int) ≤ (s.size : Int) := by omega
  have ha' : (a : Int) < s.size := by omega
  have h64 : (b : Int) - a ≤ 15 := by omega
  have hw1 : IntKind.i64.wrap ((b : Int) - a) = (b : Int) - a := IntWalk.i64_in _ (by omega)
  have hl : (s.extract a b).size ≤ 18 := by rw [ByteArray.size_extract]; omega
  go_enter Tryz.func44, Tryz.ntmps44
  go_wp2
  go_quiet ((go_at_call 74; refine Calls.quiet_of_same (digit_is s[a].toNat _ hc)))
  have hm := h.step (below_drewN (Below.refl _ _) nq)
  generalize w.drewN nq = W at hm ⊢
  have d0 := hm.c0
  have d1 := hm.c1
  have hst : ∀ w' : World, Below W.drew.heap.size W.drew w' → Scn B X ks s (.slice (some ⟨L, 0, none⟩) 1 1) a lv n xs 0 wr w0 w' := fun w' b1 => hm.step ((Below.refl W.heap.size W).drew.trans b1)
  clear c0 c1 h
  go_wp2_with (first
    | (go_at_call 72; refine (run_digit X s a b _ d0 hsz hu).mono ?_; rintro e w2 ⟨rfl, rfl⟩))
  go_region_held3 (fun w' => w'.cell? ⟨X, 0, none⟩ = some (.string s) ∧ w'.cell? ⟨X, 1, none⟩ = some (.int .i64 a)) (go_keep) (first | (go_at_call 75; refine (atoi_run (s.extract a b) v hl hv _).mono ?_; rintro e w' ⟨rfl, b1⟩; have hS1 := hst _ b1; have q0 := hS1.c0; have q1 := hS1.c1))
  clear d0 d1 hm
  go_wp2_with (first
    | (go_at_call 48; refine (add_walk hS1 hL hsz hn b hab hbs 2 v ByteArray.empty j).mono ?_))
  rintro e w3 ⟨rfl, lv', hS⟩
  go_wp2
  go_ret
  exact ⟨rfl, lv', hS⟩

end
end Go.Proofs.YtmoddgkjaimpfaaGreatDoor

namespace Go.Proofs.YtmoddgkjaimpfaaGreatDoor
open Go.RowKit

section
variable {B X : Nat} {ks : List (Nat × Obj)} {s : ByteArray} {lines : Value} {lv : Value} {n : Nat} {xs : List Value} {wr : Int} {w0 w : World}

set_option maxHeartbeats 8000000 in
set_option maxRecDepth 100000 in
theorem number_long {a : Nat} (h : Scn B X ks s lines a lv n xs 0 wr w0 w) (hsz : s.size ≤ 1048576) (ha : a < s.size) (hc : isDigit s[a].toNat = true) (b : Nat) (hu : Upto isDigit s a b) (hlen : a + 15 < b) (j : Bool) :
    Calls Tryz.prog 44 #[.pointer (some ⟨X, 0, none⟩), .bool j] w fun r w' => r = .returned (.bool true) ∧ Scn B X ks s lines a lv n xs 5 a w0 w' := by
  have c0 := h.c0
  have c1 := h.c1
  have hab := hu.ab
  have hbs := hu.bs
  have ha0 : (0 : Int) ≤ (a : Int) := by omega
  have ha' : (a : Int) < s.size := by omega
  have h64 : (15 : Int) < (b : Int) - a := by omega
  have hw1 : IntKind.i64.wrap ((b : Int) - a) = (b : Int) - a := IntWalk.i64_in _ (by omega)
  go_enter Tryz.func44, Tryz.ntmps44
  go_wp2
  go_quiet ((go_at_call 74; refine Calls.quiet_of_same (digit_is s[a].toNat _ hc)))
  have hm := h.step (below_drewN (Below.refl _ _) nq)
  generalize w.drewN nq = W at hm ⊢
  have d0 := hm.c0
  have d1 := hm.c1
  clear c0 c1 h
  go_wp2_with (first
    | (go_at_call 72; refine (run_digit X s a b _ d0 hsz hu).mono ?_; rintro e w2 ⟨rfl, rfl⟩)
    | (go_at_call 49; refine (fail_walk hm a 5).mono ?_))
  rintro e w3 ⟨rfl, hS⟩
  go_wp2
  go_ret
  exact ⟨rfl, hS⟩

def symbols : List UInt8 := [33, 35, 36, 38, 39, 40, 41, 42, 43, 44, 45, 46, 47, 58, 59, 60, 61, 62, 63, 64, 91, 92, 93, 94, 95, 123, 124, 125, 126]

theorem symbols_run (c : Nat) (_hc : c < 256) (k : Int) (hk : Lib.indexByte symbols c.toUInt8 = k) (w : World) :
    Calls Tryz.prog 81 #[.string ⟨symbols.toArray⟩, .int .u8 c] w fun e w' => e = .returned (.int .i64 k) ∧ w' = w := by
  have := Tryz.strings_IndexByte ⟨symbols.toArray⟩ (c : Int) w
  rw [← hk]
  simpa using this

variable {L : Nat}
set_option maxHeartbeats 8000000 in
set_option maxRecDepth 100000 in
theorem symbol_hit {a : Nat} (h : Scn B X ks s (.slice (some ⟨L, 0, none⟩) 1 1) a lv n xs 0 wr w0 w) (hL : (L, lineRow) ∈ ks) (hsz : s.size ≤ 1048576) (hn : n ≤ 1048576) (ha : a < s.size) (hc : 0 ≤ Lib.indexByte symbols s[a].toNat.toUInt8) (j : Bool) :
    Calls Tryz.prog 46 #[.pointer (some ⟨X, 0, none⟩), .bool j] w fun r w' => r = .returned (.bool true) ∧
      ∃ lv', Scn B X ks s (.slice (some ⟨L, 0, none⟩) 1 1) (a + 1 : Nat) lv' (n + 1) (xs ++ Tok.cells ⟨4, s.extract a (a + 1), 0, ByteArray.empty, (a : Int) + 1, j && decide (0 < n)⟩) 0 wr w0 w' := by
  have c0 := h.c0
  have c1 := h.c1
  have ha0 : (0 : Int) ≤ (a : Int) := by omega
  have ha' : (a : Int) < s.size := by omega
  obtain ⟨k, hk⟩ : ∃ k, Lib.indexByte symbols s[a].toNat.toUInt8 = k := ⟨_, rfl⟩
  rw [hk] at hc
  have hcz := symbols_run s[a].toNat s[a].toNat_lt k hk
  have e1 : ((a + 1 : Nat) : Int) = (a : Int) + 1 := by omega
  go_enter Tryz.func46, Tryz.ntmps46
  go_wp2
  go_quiet ((go_at_call 81; refine Calls.quiet_of_same (hcz _)))
  have hm := h.step (below_drewN (Below.refl _ _) nq)
  generalize w.drewN nq = W at hm ⊢
  have d0 := hm.c0
  have d1 := hm.c1
  have hadd := add_walk hm hL hsz hn (a + 1) (by omega) (by omega) 4 0 ByteArray.empty j
  rw [e1] at hadd
  clear c0 c1 h
  go_wp2_with (first
    | (go_at_call 48; refine hadd.mono ?_))
  rintro e w3 ⟨rfl, lv', hS⟩
  go_wp2
  go_ret
  refine ⟨rfl, lv', ?_⟩
  rw [e1]; exact hS

set_option maxHeartbeats 4000000 in
set_option maxRecDepth 100000 in
theorem bld_len {b : Nat} (h : w.cell? ⟨b, 1, none⟩ = some (.slice none 0 0)) : Calls Tryz.prog 76 #[.pointer (some ⟨b, 0, none⟩)] w fun r w' => r = .returned (.int .i64 0) ∧ w' = w := by
  go_enter Tryz.func76, Tryz.ntmps76
  go_wp2
  go_ret
  exact ⟨rfl, rfl⟩

set_option maxHeartbeats 4000000 in
set_option maxRecDepth 100000 in
theorem bld_string {b : Nat} (h : w.cell? ⟨b, 1, none⟩ = some (.slice none 0 0)) : Calls Tryz.prog 77 #[.pointer (some ⟨b, 0, none⟩)] w fun r w' => r = .returned (.string ByteArray.empty) ∧ Below w.heap.size w w' := by
  have hSD : ∀ W : World, (Builtin.unsafeSliceData_ #[22] 198 #[.slice none 0 0]).run Tryz.prog W = .ok (.pointer none) W := fun W => rfl
  have hUS : ∀ W : World, (Builtin.unsafeString_ #[198, 3] 9 #[.pointer none, .int .i64 0]).run Tryz.prog W = .ok (.string .empty) W := fun W => Lib.run_unsafeString_none W _ _ _ none
  go_enter Tryz.func77, Tryz.ntmps77
  go_wp2
  go_region
  all_goals go_wp2
  all_goals go_ret
  all_goals exact ⟨rfl, (Below.refl _ _).drew⟩

variable {L : Nat}
set_option maxHeartbeats 8000000 in
set_option maxRecDepth 100000 in
theorem text_hit {a : Nat} (h : Scn B X ks s (.slice (some ⟨L, 0, none⟩) 1 1) a lv n xs 0 wr w0 w) (hL : (L, lineRow) ∈ ks) (hsz : s.size ≤ 1048576) (hn : n ≤ 1048576) (ha : a + 1 < s.size) (hc : ((s[a].toNat : Nat) : Int) = 34) (hc1 : ((s[a + 1].toNat : Nat) : Int) = 34) (j : Bool) :
    Calls Tryz.prog 45 #[.pointer (some ⟨X, 0, none⟩), .bool j] w fun r w' => r = .returned (.bool true) ∧
      ∃ lv', Scn B X ks s (.slice (some ⟨L, 0, none⟩) 1 1) (a + 2 : Nat) lv' (n + 1) (xs ++ Tok.cells ⟨3, s.extract a (a + 2), 0, ByteArray.empty, (a : Int) + 1, j && decide (0 < n)⟩) 0 wr w0 w' := by
  have c0 := h.c0
  have c1 := h.c1
  have ha0 : (0 : Int) ≤ (a : Int) := by omega
  have ha' : (a : Int) < s.size := by omega
  have ha1 : (a : Int) + 1 < s.size := by omega
  have e2 : ((a + 2 : Nat) : Int) = (a : Int) + 2 := by omega
  go_enter Tryz.func45, Tryz.ntmps45
  go_wp2
  go_quiet (fail)
  have hm := h.step (below_drewN (Below.refl _ _) nq)
  generalize w.drewN nq = W at hm ⊢
  have d0 := hm.c0
  have d1 := hm.c1
  have hB := hm.lt
  have neX := World.new_ne W _ d0
  clear c0 c1 h
  go_wp2
  have hm2 := hm.step ((Below.refl W.heap.size W).alloc (Nat.le_refl _) (.cells #[.pointer none, .slice none 0 0] 169))
  have b1 : (W.alloc (.cells #[.pointer none, .slice none 0 0] 169)).cell? ⟨W.heap.size, 1, none⟩ = some (.slice none 0 0) := by rw [Lib.cell_of_heap (heap_alloc_new W _)]; rfl
  generalize (W.alloc (.cells #[.pointer none, .slice none 0 0] 169)) = V at hm2 b1 ⊢
  generalize W.heap.size = bb at b1 ⊢
  clear d0 d1 neX hB hm
  go_loopw [6] (fun v wr' => v = .int .i64 ((a : Int) + 1) ∧ wr' = V) (fun _ _ => 0)
  case atStart => exact ⟨rfl, rfl⟩
  case round =>
    obtain ⟨rfl, rfl⟩ := hrel
    have d0 := hm2.c0
    go_wp2_with (first
      | (go_at_call 76; refine (bld_len b1).mono ?_; rintro e w2 ⟨rfl, rfl⟩)
      | (go_at_call 77; refine (bld_string b1).mono ?_))
    rintro e w3 ⟨rfl, b3⟩
    have hm3 := hm2.step b3
    have hadd := add_walk hm3 hL hsz hn (a + 2) (by omega) (by omega) 3 0 ByteArray.empty j
    rw [e2] at hadd
    go_wp2_with (first
      | (go_at_call 48; refine hadd.mono ?_))
    rintro e w4 ⟨rfl, lv', hS⟩
    go_wp2
    go_ret
    refine ⟨rfl, lv', ?_⟩
    rw [e2]; exact hS
end
end Go.Proofs.YtmoddgkjaimpfaaGreatDoor
