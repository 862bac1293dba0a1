/-
  A part of the proof that the law ParserSheets (chapter 19) returns true for every sheet: walks of the program's functions, and runs of them in the kernel by the own evaluator.
-/
import Derived.Test.YtjnkppneilmpbaaGreatDoorLxb
import Derived.Lib.SmallJoins
import Derived.Lib.ConvBytes
import Derived.Lib.UnsafeStr
import Derived.Test.YtjnkppneilmpbaaGreatDoorScb
import Derived.BigCall
import Derived.StillTail
import Derived.Test.YtjnkppneilmpbaaGreatDoorDamD
namespace Go.Proofs.YtjnkppneilmpbaaGreatDoor
open Go.RowKit

section
variable {B X : Nat} {ks : List (Nat × Obj)} {s : ByteArray} {lines : Value} {lv : Value} {n : Nat} {xs : List Value} {wr : Int} {w0 w : World}

set_option maxHeartbeats 4000000 in
set_option maxRecDepth 100000 in
theorem word_miss {a : Nat} (h : Scn B X ks s lines a lv n xs 0 wr w0 w) (ha : a < s.size) (hc : isLetter s[a].toNat = false) (j : Bool) :
    Calls Tryz.prog 63 #[.pointer (some ⟨X, 0, none⟩), .bool j] w fun r w' => r = .returned (.bool false) ∧ Below w.heap.size w w' := by
  have c0 := h.c0
  have c1 := h.c1
  clear h
  have ha0 : (0 : Int) ≤ (a : Int) := by omega
  have ha' : (a : Int) < s.size := by omega
  go_enter Tryz.func63, Tryz.ntmps63
  go_wp2
  go_quiet ((go_at_call 99; refine Calls.quiet_of_same (letter_is s[a].toNat _ hc)))
  go_wp2
  go_ret
  exact ⟨rfl, below_drewN (Below.refl _ _) _⟩

set_option maxHeartbeats 4000000 in
set_option maxRecDepth 100000 in
theorem number_miss {a : Nat} (h : Scn B X ks s lines a lv n xs 0 wr w0 w) (ha : a < s.size) (hc : isDigit s[a].toNat = false) (j : Bool) :
    Calls Tryz.prog 64 #[.pointer (some ⟨X, 0, none⟩), .bool j] w fun r w' => r = .returned (.bool false) ∧ Below w.heap.size w w' := by
  have c0 := h.c0
  have c1 := h.c1
  clear h
  have ha0 : (0 : Int) ≤ (a : Int) := by omega
  have ha' : (a : Int) < s.size := by omega
  go_enter Tryz.func64, Tryz.ntmps64
  go_wp2
  go_quiet ((go_at_call 102; refine Calls.quiet_of_same (digit_is s[a].toNat _ hc)))
  go_wp2
  go_ret
  exact ⟨rfl, below_drewN (Below.refl _ _) _⟩

set_option maxHeartbeats 4000000 in
set_option maxRecDepth 100000 in
theorem text_miss {a : Nat} (h : Scn B X ks s lines a lv n xs 0 wr w0 w) (ha : a < s.size) (hc : ¬ ((s[a].toNat : Nat) : Int) = 34) (j : Bool) :
    Calls Tryz.prog 65 #[.pointer (some ⟨X, 0, none⟩), .bool j] w fun r w' => r = .returned (.bool false) ∧ Below w.heap.size w w' := by
  have c0 := h.c0
  have c1 := h.c1
  clear h
  have ha0 : (0 : Int) ≤ (a : Int) := by omega
  have ha' : (a : Int) < s.size := by omega
  go_enter Tryz.func65, Tryz.ntmps65
  go_wp2
  go_quiet (fail)
  go_wp2
  go_ret
  exact ⟨rfl, below_drewN (Below.refl _ _) _⟩

variable {LN : Value} {ls : List Int}
set_option maxHeartbeats 8000000 in
set_option maxRecDepth 100000 in
theorem word_hit {a : Nat} (h : Scn B X ks s LN a lv n xs 0 wr w0 w) (hL : LinesAt LN ls ks) (gL : Lines ls) (hsz : s.size ≤ 1048576) (hn : n ≤ 1048576) (ha : a < s.size) (hc : isLetter s[a].toNat = true) (b : Nat) (hu : Upto isInWord s a b) (hlen : b ≤ a + 64) (j : Bool) :
    Calls Tryz.prog 63 #[.pointer (some ⟨X, 0, none⟩), .bool j] w fun r w' => r = .returned (.bool true) ∧
      ∃ lv', Scn B X ks s LN b lv' (n + 1) (xs ++ Tok.cells ⟨1, s.extract a b, 0, ByteArray.empty, plL ls a, plC ls a, j && decide (0 < n)⟩) 0 wr w0 w' := by
  have c0 := h.c0
  have c1 := h.c1
  have hab := hu.ab
  have hbs := hu.bs
  have ha0 : (0 : Int) ≤ (a : Int) := by omega
  have ha' : (a : Int) < s.size := by omega
  have h64 : (b : Int) - a ≤ 64 := by omega
  have hw1 : IntKind.i64.wrap ((b : Int) - a) = (b : Int) - a := IntWalk.i64_in _ (by omega)
  go_enter Tryz.func63, Tryz.ntmps63
  go_wp2
  go_quiet ((go_at_call 99; refine Calls.quiet_of_same (letter_is s[a].toNat _ hc)))
  have hm := h.step (below_drewN (Below.refl _ _) nq)
  generalize w.drewN nq = W at hm ⊢
  have d0 := hm.c0
  have d1 := hm.c1
  clear c0 c1 h
  go_wp2_with (first
    | (go_at_call 100; refine (run_inWord X s a b _ d0 hsz hu).mono ?_; rintro e w2 ⟨rfl, rfl⟩)
    | (go_at_call 68; refine (add_walk hm hL gL hsz hn b hab hbs 1 0 ByteArray.empty j).mono ?_))
  rintro e w3 ⟨rfl, lv', hS⟩
  go_wp2
  go_ret
  exact ⟨rfl, lv', hS⟩

theorem atoi_run (s : ByteArray) (n : Int) (hl : s.size ≤ 18) (h : Lib.atoi s.data.toList = some n) (w : World) :
    Calls Tryz.prog 103 #[.string s] w fun e w' => e = .returned (.tuple #[.int .i64 n, .nilIface]) ∧ Below w.heap.size w w' := by
  refine (Tryz.strconv_Atoi s n hl h w).mono ?_
  rintro e w' ⟨rfl, t, rfl⟩
  exact ⟨rfl, Go.Joins.below_bytesWorld _ _ _ _ (Nat.le_refl _)⟩

set_option maxHeartbeats 8000000 in
set_option maxRecDepth 100000 in
theorem number_hit {a : Nat} (h : Scn B X ks s LN a lv n xs 0 wr w0 w) (hL : LinesAt LN ls ks) (gL : Lines ls) (hsz : s.size ≤ 1048576) (hn : n ≤ 1048576) (ha : a < s.size) (hc : isDigit s[a].toNat = true) (b : Nat) (hu : Upto isDigit s a b) (hlen : b ≤ a + 15) (v : Int) (hv : Lib.atoi (s.extract a b).data.toList = some v) (j : Bool) :
    Calls Tryz.prog 64 #[.pointer (some ⟨X, 0, none⟩), .bool j] w fun r w' => r = .returned (.bool true) ∧
      ∃ lv', Scn B X ks s LN b lv' (n + 1) (xs ++ Tok.cells ⟨2, s.extract a b, v, ByteArray.empty, plL ls a, plC ls a, j && decide (0 < n)⟩) 0 wr w0 w' := by
  have c0 := h.c0
  have c1 := h.c1
  have hab := hu.ab
  have hbs := hu.bs
  have ha0 : (0 : Int) ≤ (a : Int) := by omega
  have hb0 : (0 : Int) ≤ (b : Int) := by omega
  have hab' : (a : Int) ≤ (b : Int) := by omega
  have hbs' : (b : Int) ≤ (s.size : Int) := by omega
  have ha' : (a : Int) < s.size := by omega
  have h64 : (b : Int) - a ≤ 15 := by omega
  have hw1 : IntKind.i64.wrap ((b : Int) - a) = (b : Int) - a := IntWalk.i64_in _ (by omega)
  have hl : (s.extract a b).size ≤ 18 := by rw [ByteArray.size_extract]; omega
  go_enter Tryz.func64, Tryz.ntmps64
  go_wp2
  go_quiet ((go_at_call 102; refine Calls.quiet_of_same (digit_is s[a].toNat _ hc)))
  have hm := h.step (below_drewN (Below.refl _ _) nq)
  generalize w.drewN nq = W at hm ⊢
  have d0 := hm.c0
  have d1 := hm.c1
  have hst : ∀ w' : World, Below W.drew.heap.size W.drew w' → Scn B X ks s LN a lv n xs 0 wr w0 w' := fun w' b1 => hm.step ((Below.refl W.heap.size W).drew.trans b1)
  clear c0 c1 h
  go_wp2_with (first
    | (go_at_call 100; refine (run_digit X s a b _ d0 hsz hu).mono ?_; rintro e w2 ⟨rfl, rfl⟩))
  go_region_held3 (fun w' => w'.cell? ⟨X, 0, none⟩ = some (.string s) ∧ w'.cell? ⟨X, 1, none⟩ = some (.int .i64 a)) (go_keep) (first | (go_at_call 103; refine (atoi_run (s.extract a b) v hl hv _).mono ?_; rintro e w' ⟨rfl, b1⟩; have hS1 := hst _ b1; have q0 := hS1.c0; have q1 := hS1.c1))
  clear d0 d1 hm
  go_wp2_with (first
    | (go_at_call 68; refine (add_walk hS1 hL gL hsz hn b hab hbs 2 v ByteArray.empty j).mono ?_))
  rintro e w3 ⟨rfl, lv', hS⟩
  go_wp2
  go_ret
  exact ⟨rfl, lv', hS⟩

end
end Go.Proofs.YtjnkppneilmpbaaGreatDoor

namespace Go.Proofs.YtjnkppneilmpbaaGreatDoor
open Go.RowKit

section
variable {B X : Nat} {ks : List (Nat × Obj)} {s : ByteArray} {lines : Value} {lv : Value} {n : Nat} {xs : List Value} {wr : Int} {w0 w : World}

set_option maxHeartbeats 8000000 in
set_option maxRecDepth 100000 in
theorem number_long {a : Nat} (h : Scn B X ks s lines a lv n xs 0 wr w0 w) (hsz : s.size ≤ 1048576) (ha : a < s.size) (hc : isDigit s[a].toNat = true) (b : Nat) (hu : Upto isDigit s a b) (hlen : a + 15 < b) (j : Bool) :
    Calls Tryz.prog 64 #[.pointer (some ⟨X, 0, none⟩), .bool j] w fun r w' => r = .returned (.bool true) ∧ Scn B X ks s lines a lv n xs 5 a w0 w' := by
  have c0 := h.c0
  have c1 := h.c1
  have hab := hu.ab
  have hbs := hu.bs
  have ha0 : (0 : Int) ≤ (a : Int) := by omega
  have ha' : (a : Int) < s.size := by omega
  have h64 : (15 : Int) < (b : Int) - a := by omega
  have hw1 : IntKind.i64.wrap ((b : Int) - a) = (b : Int) - a := IntWalk.i64_in _ (by omega)
  go_enter Tryz.func64, Tryz.ntmps64
  go_wp2
  go_quiet ((go_at_call 102; refine Calls.quiet_of_same (digit_is s[a].toNat _ hc)))
  have hm := h.step (below_drewN (Below.refl _ _) nq)
  generalize w.drewN nq = W at hm ⊢
  have d0 := hm.c0
  have d1 := hm.c1
  clear c0 c1 h
  go_wp2_with (first
    | (go_at_call 100; refine (run_digit X s a b _ d0 hsz hu).mono ?_; rintro e w2 ⟨rfl, rfl⟩)
    | (go_at_call 69; refine (fail_walk hm a 5).mono ?_))
  rintro e w3 ⟨rfl, hS⟩
  go_wp2
  go_ret
  exact ⟨rfl, hS⟩

def symbols : List UInt8 := [33, 35, 36, 38, 39, 40, 41, 42, 43, 44, 45, 46, 47, 58, 59, 60, 61, 62, 63, 64, 91, 92, 93, 94, 95, 123, 124, 125, 126]

theorem symbols_run (c : Nat) (_hc : c < 256) (k : Int) (hk : Lib.indexByte symbols c.toUInt8 = k) (w : World) :
    Calls Tryz.prog 39 #[.string ⟨symbols.toArray⟩, .int .u8 c] w fun e w' => e = .returned (.int .i64 k) ∧ w' = w := by
  have := Tryz.strings_IndexByte ⟨symbols.toArray⟩ (c : Int) w
  rw [← hk]
  simpa using this

variable {LN : Value} {ls : List Int}
set_option maxHeartbeats 8000000 in
set_option maxRecDepth 100000 in
theorem symbol_hit {a : Nat} (h : Scn B X ks s LN a lv n xs 0 wr w0 w) (hL : LinesAt LN ls ks) (gL : Lines ls) (hsz : s.size ≤ 1048576) (hn : n ≤ 1048576) (ha : a < s.size) (hc : 0 ≤ Lib.indexByte symbols s[a].toNat.toUInt8) (j : Bool) :
    Calls Tryz.prog 66 #[.pointer (some ⟨X, 0, none⟩), .bool j] w fun r w' => r = .returned (.bool true) ∧
      ∃ lv', Scn B X ks s LN (a + 1 : Nat) lv' (n + 1) (xs ++ Tok.cells ⟨4, s.extract a (a + 1), 0, ByteArray.empty, plL ls a, plC ls a, j && decide (0 < n)⟩) 0 wr w0 w' := by
  have c0 := h.c0
  have c1 := h.c1
  have ha0 : (0 : Int) ≤ (a : Int) := by omega
  have ha' : (a : Int) < s.size := by omega
  obtain ⟨k, hk⟩ : ∃ k, Lib.indexByte symbols s[a].toNat.toUInt8 = k := ⟨_, rfl⟩
  rw [hk] at hc
  have hcz := symbols_run s[a].toNat s[a].toNat_lt k hk
  have e1 : ((a + 1 : Nat) : Int) = (a : Int) + 1 := by omega
  go_enter Tryz.func66, Tryz.ntmps66
  go_wp2
  go_quiet ((go_at_call 39; refine Calls.quiet_of_same (hcz _)))
  have hm := h.step (below_drewN (Below.refl _ _) nq)
  generalize w.drewN nq = W at hm ⊢
  have d0 := hm.c0
  have d1 := hm.c1
  have hadd := add_walk hm hL gL hsz hn (a + 1) (by omega) (by omega) 4 0 ByteArray.empty j
  rw [e1] at hadd
  clear c0 c1 h
  go_wp2_with (first
    | (go_at_call 68; refine hadd.mono ?_))
  rintro e w3 ⟨rfl, lv', hS⟩
  go_wp2
  go_ret
  refine ⟨rfl, lv', ?_⟩
  rw [e1]; exact hS

end
end Go.Proofs.YtjnkppneilmpbaaGreatDoor

namespace Go.Proofs.YtjnkppneilmpbaaGreatDoor
open Go.RowKit

def mk (l : List UInt8) : ByteArray := ⟨l.toArray⟩
def esc (c : UInt8) : List UInt8 :=
  if c = 10 then [92, 110] else if c = 9 then [92, 116] else if c = 92 then [92, 92] else if c = 34 then [92, 34]
  else if 32 ≤ c.toNat ∧ c.toNat ≠ 127 then [c] else [92, 120, hexDigit (c.toNat / 16), hexDigit (c.toNat % 16)]
def quoteL (l : List UInt8) : List UInt8 := 34 :: (l.flatMap esc ++ [34])

theorem esc_form (c : UInt8) : (esc c = [c] ∧ 32 ≤ c.toNat ∧ c.toNat ≠ 127 ∧ c.toNat ≠ 34 ∧ c.toNat ≠ 92) ∨
    (∃ x : UInt8, esc c = [92, x] ∧ ((x = 110 ∧ c.toNat = 10) ∨ (x = 116 ∧ c.toNat = 9) ∨ (x = 92 ∧ c.toNat = 92) ∨ (x = 34 ∧ c.toNat = 34))) ∨
    esc c = [92, 120, hexDigit (c.toNat / 16), hexDigit (c.toNat % 16)] := by
  by_cases h1 : c = 10
  · subst h1; exact .inr (.inl ⟨110, rfl, .inl ⟨rfl, rfl⟩⟩)
  by_cases h2 : c = 9
  · subst h2; exact .inr (.inl ⟨116, rfl, .inr (.inl ⟨rfl, rfl⟩)⟩)
  by_cases h3 : c = 92
  · subst h3; exact .inr (.inl ⟨92, rfl, .inr (.inr (.inl ⟨rfl, rfl⟩))⟩)
  by_cases h4 : c = 34
  · subst h4; exact .inr (.inl ⟨34, rfl, .inr (.inr (.inr ⟨rfl, rfl⟩))⟩)
  have n3 : c.toNat ≠ 92 := fun e => h3 (UInt8.toNat_inj.1 (by rw [e]; rfl))
  have n4 : c.toNat ≠ 34 := fun e => h4 (UInt8.toNat_inj.1 (by rw [e]; rfl))
  by_cases h5 : 32 ≤ c.toNat ∧ c.toNat ≠ 127
  · exact .inl ⟨by simp [esc, h1, h2, h3, h4, h5], h5.1, h5.2, n4, n3⟩
  · exact .inr (.inr (by simp only [esc, if_neg h1, if_neg h2, if_neg h3, if_neg h4, if_neg h5]))

def standsB (c : Int) : Bool := decide (32 ≤ c) && decide (c ≠ 127) && decide (c ≠ 34) && decide (c ≠ 92)

set_option maxHeartbeats 400000 in
theorem stands_walk (c : Int) (w : World) : Calls Tryz.prog 41 #[.int .u8 c] w fun e w' => e = .returned (.bool (decide (32 ≤ c) && decide (c ≠ 127) && decide (c ≠ 34) && decide (c ≠ 92))) ∧ w' = w := by
  go_enter Tryz.func41, Tryz.ntmps41
  by_cases h1 : 32 ≤ c <;> by_cases h2 : c = 127 <;> by_cases h3 : c = 34 <;> by_cases h4 : c = 92
  all_goals (try subst h2); (try subst h3); (try subst h4)
  all_goals first | omega | skip
  all_goals go_wp2
  all_goals go_ret
  all_goals simp_all
theorem stands_is (c : Int) (w : World) (b : Bool) (h : standsB c = b) : Calls Tryz.prog 41 #[.int .u8 c] w fun e w' => e = .returned (.bool b) ∧ w' = w := by
  rw [← h]; exact stands_walk c w

set_option maxHeartbeats 4000000 in
set_option maxRecDepth 100000 in
theorem bld_len (B b : Nat) (bs : List Value) (w : World) (h : Lib.IsBuilder 120 5 B b bs w) : Calls Tryz.prog 104 #[.pointer (some ⟨b, 0, none⟩)] w fun r w' => r = .returned (.int .i64 bs.length) ∧ w' = w := by
  have key : ∃ ao c, w.cell? ⟨b, 1, none⟩ = some (.slice ao bs.length c) := by
    rcases h with h | h
    all_goals
      obtain ⟨hB, v, hbk, hown, hne⟩ := h
      rcases hown.2 with ⟨hv, h0⟩ | ⟨g, cap, cur, hv, _⟩
      · exact ⟨none, 0, by rw [Lib.cell_of_heap hbk]; simp [hv, h0]⟩
      · exact ⟨some ⟨g, 0, none⟩, cap, by rw [Lib.cell_of_heap hbk]; simp [hv]⟩
  obtain ⟨ao, c, hc⟩ := key
  clear h
  go_enter Tryz.func104, Tryz.ntmps104
  go_wp2
  go_ret
  exact ⟨rfl, rfl⟩

theorem size_list (s : ByteArray) : s.data.toList.length = s.size := by rw [Array.length_toList]; rfl
theorem at_list {s : ByteArray} (k : Nat) (h : k < s.size) : s.data.toList[k]? = some s[k] := by
  have hk : k < s.data.toList.length := by rw [size_list]; exact h
  rw [List.getElem?_eq_getElem hk]
  rfl
/-- A byte of a text whose rest is known. -/
theorem byte_at {s : ByteArray} {a : Nat} {y : List UInt8} (hd : s.data.toList.drop a = y) (i : Nat) {x : UInt8} (hx : y[i]? = some x) : ∃ h : a + i < s.size, s[a + i] = x := by
  have hg : s.data.toList[a + i]? = some x := by rw [← List.getElem?_drop, hd]; exact hx
  have hlt : a + i < s.size := by rw [← size_list]; exact (List.getElem?_eq_some_iff.1 hg).1
  refine ⟨hlt, ?_⟩
  rw [at_list _ hlt] at hg
  exact Option.some.inj hg

def encLen (bytes : List UInt8) (k : Nat) : Nat := ((bytes.take k).flatMap esc).length
theorem enc_drop {s : ByteArray} {a : Nat} {bytes rest : List UInt8} (hd : s.data.toList.drop a = quoteL bytes ++ rest) (k : Nat) : s.data.toList.drop (a + 1 + encLen bytes k) = (bytes.drop k).flatMap esc ++ (34 :: rest) := by
  have h1 : quoteL bytes ++ rest = (34 :: (bytes.take k).flatMap esc) ++ ((bytes.drop k).flatMap esc ++ (34 :: rest)) := by
    conv => lhs; rw [quoteL, ← List.take_append_drop k bytes, List.flatMap_append]
    simp
  rw [show a + 1 + encLen bytes k = a + (34 :: (bytes.take k).flatMap esc).length by simp [encLen]; omega, ← List.drop_drop, hd, h1]
  simp
theorem encLen_succ {bytes : List UInt8} {k : Nat} (h : k < bytes.length) : encLen bytes (k + 1) = encLen bytes k + (esc bytes[k]).length := by
  unfold encLen
  rw [List.take_succ_eq_append_getElem h, List.flatMap_append]
  simp
theorem esc_le (c : UInt8) : (esc c).length ≤ 4 := by unfold esc; (repeat' split) <;> simp
end Go.Proofs.YtjnkppneilmpbaaGreatDoor

namespace Go.Proofs.YtjnkppneilmpbaaGreatDoor
open Go.RowKit

theorem bld_alloc {B b : Nat} {p : Value} {bs : List Value} {w : World} (h : Lib.BuilderAt 120 5 B b p bs w) (o : Obj) : Lib.BuilderAt 120 5 B b p bs (w.alloc o) := by
  have hlt := h.lt
  obtain ⟨hB, v, hbk, hown, hne⟩ := h
  exact ⟨hB, v, by rw [Lib.alloc_old w o b hlt]; exact hbk, hown.alloc _, hne⟩

theorem isBld_alloc {B b : Nat} {bs : List Value} {w : World} (h : Lib.IsBuilder 120 5 B b bs w) (o : Obj) : Lib.IsBuilder 120 5 B b bs (w.alloc o) :=
  h.imp (fun h => bld_alloc h o) (fun h => bld_alloc h o)

theorem isBld_drew {B b : Nat} {bs : List Value} {w : World} (h : Lib.IsBuilder 120 5 B b bs w) : Lib.IsBuilder 120 5 B b bs w.drew :=
  h.imp (fun h => h.drew) (fun h => h.drew)

/-- What has been written behind k bytes. -/
def done (s : ByteArray) (k : Nat) : List UInt8 := 34 :: (s.data.toList.take k).flatMap esc

theorem done_succ (s : ByteArray) (k : Nat) (h : k < s.size) : done s (k + 1) = done s k ++ esc s[k] := by
  have h' : k < s.data.toList.length := by simpa using h
  unfold done
  rw [List.take_succ_eq_append_getElem h', List.flatMap_append]
  simp
  rfl

theorem done_le (s : ByteArray) (k : Nat) : (done s k).length ≤ 1 + 4 * s.size := by
  have key : ∀ l : List UInt8, (l.flatMap esc).length ≤ 4 * l.length := by
    intro l
    induction l with
    | nil => simp
    | cons a r ih => have := esc_le a; simp only [List.flatMap_cons, List.length_append, List.length_cons]; omega
  have := key (s.data.toList.take k)
  have h2 : (s.data.toList.take k).length ≤ s.size := by
    have : s.data.toList.length = s.size := by simp
    rw [List.length_take]; omega
  unfold done
  simp only [List.length_cons]
  omega

def ix (c : UInt8) : Int := Lib.indexByte [10, 9, 92, 34] c
theorem esc_cases (c : UInt8) : (ix c = 0 ∧ esc c = [92, 110]) ∨ (ix c = 1 ∧ esc c = [92, 116]) ∨ (ix c = 2 ∧ esc c = [92, 92]) ∨ (ix c = 3 ∧ esc c = [92, 34]) ∨
    (ix c = -1 ∧ standsB c.toNat = true ∧ esc c = [c]) ∨ (ix c = -1 ∧ standsB c.toNat = false ∧ (c.toNat < 32 ∨ c.toNat = 127) ∧ esc c = [92, 120, hexDigit (c.toNat / 16), hexDigit (c.toNat % 16)]) := by
  by_cases h1 : c = 10
  · subst h1; left; decide
  by_cases h2 : c = 9
  · subst h2; right; left; decide
  by_cases h3 : c = 92
  · subst h3; right; right; left; decide
  by_cases h4 : c = 34
  · subst h4; right; right; right; left; decide
  have hix : ix c = -1 := by
    have e1 : (10 : UInt8) ≠ c := fun e => h1 e.symm
    have e2 : (9 : UInt8) ≠ c := fun e => h2 e.symm
    have e3 : (92 : UInt8) ≠ c := fun e => h3 e.symm
    have e4 : (34 : UInt8) ≠ c := fun e => h4 e.symm
    simp [ix, Lib.indexByte, e1, e2, e3, e4]
  have n3 : c.toNat ≠ 92 := fun e => h3 (UInt8.toNat_inj.1 (by rw [e]; rfl))
  have n4 : c.toNat ≠ 34 := fun e => h4 (UInt8.toNat_inj.1 (by rw [e]; rfl))
  right; right; right; right
  by_cases h5 : 32 ≤ c.toNat ∧ c.toNat ≠ 127
  · left
    refine ⟨hix, ?_, ?_⟩
    · have : (c.toNat : Int) ≠ 127 := by omega
      have : (c.toNat : Int) ≠ 34 := by omega
      have : (c.toNat : Int) ≠ 92 := by omega
      have : (32 : Int) ≤ c.toNat := by omega
      simp [standsB, *]
    · simp [esc, h1, h2, h3, h4, h5]
  · right
    refine ⟨hix, ?_, by omega, ?_⟩
    · unfold standsB
      by_cases h6 : c.toNat = 127
      · simp [h6]
      · have : ¬ ((32 : Int) ≤ c.toNat) := by omega
        simp [this]
    · simp only [esc, if_neg h1, if_neg h2, if_neg h3, if_neg h4, if_neg h5]

def tmpOrConst : Operand → Bool
  | .tmp _ | .const _ => true
  | _ => false

/-- Operations that ask nothing of the heap, one behind the other. -/
def pureRun (P : Program) : List Oper → List Value → Option (List Value)
  | [], tm => some tm
  | o :: r, tm =>
    match o.guard, o.op.operands.toList.all tmpOrConst, Dam.purely P (execOp (Dam.aeval tm) o) with
    | none, true, some (.value v) => pureRun P r (Dam.putD tm o.dst v)
    | _, _, _ => none

theorem put_toArray (tm : List Value) (dst : Option Tmp) (v : Value) (a : Act) (h : a.tmps = tm.toArray) : (a.put dst v).tmps = (Dam.putD tm dst v).toArray := by
  have key : ∀ (l : List Value) (n : Nat), Dam.setNth l n v = l.set n v := by
    intro l
    induction l with
    | nil => intro n; rfl
    | cons x r ih => intro n; cases n with
      | zero => rfl
      | succ n => simp [Dam.setNth, ih]
  cases dst with
  | none => exact h
  | some d => simp only [Act.put, Dam.putD, h, key]; simp

theorem still_pure {P : Program} {ops : Array Oper} {w : World} {Q : Act → Prop} : ∀ {l : List Oper} {tm tm' : List Value} {a : Act}, pureRun P l tm = some tm' → (∀ o ∈ l, ∀ cs b, o.op ≠ .select cs b) → a.tmps = tm.toArray →
    (∀ a', a'.tmps = tm'.toArray → a'.defers = a.defers → Q a') → wpStill P ops w Q l a
  | [], tm, tm', a, h, _, ha, hQ => by
    simp only [pureRun, Option.some.injEq] at h; subst h
    exact hQ a ha rfl
  | o :: r, tm, tm', a, h, hsel, ha, hQ => by
    simp only [pureRun] at h
    split at h
    · rename_i v hg hops hv
      have he : execOp a.eval o = execOp (Dam.aeval tm) o := execOp_congr o (hsel o (by simp)) fun x hx => by
        have := List.all_eq_true.1 hops x (by simpa using hx)
        cases x with
        | tmp t => simp [Act.eval, Dam.aeval, ha, Dam.nth_get]
        | const v => rfl
        | _ => simp [tmpOrConst] at this
      unfold wpStill
      rw [if_pos (by simp [Region.wanted, hg])]
      unfold Oper.still
      rw [he, Dam.run_purely hv w]
      refine ⟨rfl, still_pure h (fun o' ho' => hsel o' (by simp [ho'])) (put_toArray tm o.dst v a ha) fun a' h1 h2 => hQ a' h1 (h2.trans ?_)⟩
      unfold Act.put; split <;> rfl
    · simp at h

def setAll (tm : List Value) : List (Nat × Value) → List Value
  | [] => tm
  | (i, v) :: r => setAll (Dam.setNth tm i v) r

theorem still_pure_sets {P : Program} {ops : Array Oper} {w : World} {Q : Act → Prop} {l : List Oper} {tm : List Value} {a : Act} (sets : List (Nat × Value)) (ha : a.tmps = tm.toArray) (h : pureRun P l tm = some (setAll tm sets)) (hsel : ∀ o ∈ l, ∀ cs b, o.op ≠ .select cs b)
    (hQ : ∀ a', a'.tmps = (setAll tm sets).toArray → a'.defers = a.defers → Q a') : wpStill P ops w Q l a := still_pure h hsel ha hQ

set_option maxHeartbeats 4000000 in
set_option maxRecDepth 1000000 in
theorem quote_walk (s : ByteArray) (w : World) (hs : s.size ≤ 4096) :
    Calls Tryz.prog 15 #[.string s] w fun e w' => e = .returned (.tuple #[.string ⟨(done s s.size ++ [34]).toArray⟩, .int .i64 0]) ∧ Below w.heap.size w w' := by
  go_enter Tryz.func15, Tryz.ntmps15
  have hs2 : ¬ (4096 : Int) < s.size := by omega
  go_wp2_with (go_at_call 38; refine (writeByte w.heap.size w.heap.size [] 34 _ (Lib.fresh_isBuilder 120 5 w) (by decide) (by simp)).mono ?_)
  rintro e w1 rfl h1 b1
  go_wp2
  go_loopw [14] (fun v wr => ∃ k : Nat, k ≤ s.size ∧ v = .int .i64 k ∧ Lib.IsBuilder 120 5 w.heap.size w.heap.size (Lib.byteCells (done s k)) wr ∧ Below w.heap.size w wr) (fun v _ => s.size - (intOf v).toNat)
  case atStart =>
    exact ⟨0, Nat.zero_le _, rfl, Or.inr (by simpa [Lib.byteCells, done] using h1), ((Below.refl _ w).alloc (Nat.le_refl _) _).trans b1⟩
  case round =>
    obtain ⟨k, hk, rfl, hI, hb⟩ := hrel
    have hlen := done_le s k
    have hsz := hb.size
    by_cases hlt : k < s.size
    · have hlt' : (k : Int) < s.size := by omega
      have hd := done_succ s k hlt
      have hesc := esc_cases s[k]
      unfold ix at hesc
      rcases hesc with ⟨hix, he⟩ | ⟨hix, he⟩ | ⟨hix, he⟩ | ⟨hix, he⟩ | ⟨hix, hst, he⟩ | ⟨hix, hst, hc, he⟩
      case inr.inr.inr.inr.inr =>
        have hc2 : s[k].toNat < 256 := s[k].toNat_lt
        go_wp2_with (first
          | (go_at_call 39; refine (Tryz.strings_IndexByte _ _ _).mono ?_)
          | (go_at_call 41; refine (stands_is _ _ _ hst).mono ?_; rintro e w2 ⟨rfl, rfl⟩)
          | (go_at_call 40; refine (writeString w.heap.size w.heap.size _ _ _ (isBld_drew hI) (by rw [Lib.byteCells_length]; simp [ByteArray.size]; omega) (by simp; omega)).mono ?_))
        obtain ⟨n, hn⟩ : ∃ n, s[k].toNat = n := ⟨_, rfl⟩
        rw [hn] at hc he ⊢
        clear hst hc2
        refine wp_region_still_tail 14 (by kernel_rfl) (by kernel_rfl) ?_
        refine still_pure_sets [(22, .int .u8 n), (23, .int .u8 (n / 16 : Nat)), (24, .int .u8 n), (25, .int .u8 (n / 16 : Nat)), (26, .int .u8 (n / 16 + 1 : Nat)), (27, .string ⟨#[hexDigit (n / 16)]⟩), (28, .string ⟨#[92, 120, hexDigit (n / 16)]⟩), (29, .int .u8 n), (30, .int .u8 (n % 16 : Nat)), (31, .int .u8 n), (32, .int .u8 (n % 16 : Nat)), (33, .int .u8 (n % 16 + 1 : Nat)), (34, .string ⟨#[hexDigit (n % 16)]⟩), (35, .string ⟨#[92, 120, hexDigit (n / 16), hexDigit (n % 16)]⟩)] rfl ?hrun ?hsel ?_
        case hrun =>
          rcases (by omega : n = 0 ∨ n = 1 ∨ n = 2 ∨ n = 3 ∨ n = 4 ∨ n = 5 ∨ n = 6 ∨ n = 7 ∨ n = 8 ∨ n = 9 ∨ n = 10 ∨ n = 11 ∨ n = 12 ∨ n = 13 ∨ n = 14 ∨ n = 15 ∨ n = 16 ∨ n = 17 ∨ n = 18 ∨ n = 19 ∨ n = 20 ∨ n = 21 ∨ n = 22 ∨ n = 23 ∨ n = 24 ∨ n = 25 ∨ n = 26 ∨ n = 27 ∨ n = 28 ∨ n = 29 ∨ n = 30 ∨ n = 31 ∨ n = 127) with rfl | rfl | rfl | rfl | rfl | rfl | rfl | rfl | rfl | rfl | rfl | rfl | rfl | rfl | rfl | rfl | rfl | rfl | rfl | rfl | rfl | rfl | rfl | rfl | rfl | rfl | rfl | rfl | rfl | rfl | rfl | rfl | rfl
          all_goals kernel_rfl
        case hsel =>
          intro o ho cs b
          simp only [List.take_succ_cons, List.take_zero, List.mem_cons, List.not_mem_nil, or_false] at ho
          rcases ho with rfl | rfl | rfl | rfl | rfl | rfl | rfl | rfl | rfl | rfl | rfl | rfl | rfl | rfl
          all_goals simp
        intro a' ha' hd'
        obtain ⟨tmps', defers'⟩ := a'
        simp only [setAll, Dam.setNth] at ha' hd'
        subst ha'; subst hd'
        simp only [List.drop_succ_cons, List.drop_zero]
        change wpList _ _ _ _ _ w2.drew
        have hI2 := isBld_drew hI
        have hb2 : Below w.heap.size w w2.drew := hb.drew
        generalize w2.drew = w3 at hI2 hb2 ⊢
        go_wp2_with (first
          | (go_at_call 40; refine (writeString w.heap.size w.heap.size _ _ _ hI2 (by rw [Lib.byteCells_length]; simp [ByteArray.size]; omega) hb2.size).mono ?_))
        rintro e w4 ⟨rfl, h1, b1⟩
        go_wp2
        go_roundw
        all_goals first
          | (refine ⟨k + 1, hlt, ?_, Or.inr (by rw [hd, Lib.byteCells_append, he]; exact h1), hb2.trans b1⟩; go_num)
          | (simp [intOf]; omega)
      case inr.inr.inr.inr.inl =>
        go_wp2_with (first
          | (go_at_call 39; refine (Tryz.strings_IndexByte _ _ _).mono ?_)
          | (go_at_call 41; refine (stands_is _ _ _ hst).mono ?_; rintro e w2 ⟨rfl, rfl⟩)
          | (go_at_call 38; refine (writeByte w.heap.size w.heap.size _ _ _ hI (by rw [Lib.byteCells_length]; omega) (by omega)).mono ?_))
        rintro e w1 ⟨rfl, h1, b1⟩
        go_wp2
        go_roundw
        all_goals first
          | (refine ⟨k + 1, hlt, ?_, Or.inr (by rw [hd, Lib.byteCells_append, he]; exact h1), hb.trans b1⟩; go_num)
          | (simp [intOf]; omega)
      all_goals
        go_wp2_with (first
          | (go_at_call 39; refine (Tryz.strings_IndexByte _ _ _).mono ?_)
          | (go_at_call 40; refine (writeString w.heap.size w.heap.size _ _ _ (isBld_alloc hI _) (by rw [Lib.byteCells_length]; simp [ByteArray.size]; omega) (by simp; omega)).mono ?_))
      all_goals rintro e w1 ⟨rfl, h1, b1⟩
      all_goals go_wp2
      all_goals go_roundw
      all_goals first
        | (refine ⟨k + 1, hlt, ?_, Or.inr (by rw [hd, Lib.byteCells_append, he]; exact h1), (hb.alloc hb.size _).trans b1⟩; go_num)
        | (simp [intOf]; omega)
    · have hlt' : ¬ (k : Int) < s.size := by omega
      go_wp2_with (first
        | (go_at_call 38; refine (writeByte w.heap.size w.heap.size _ 34 _ hI (by rw [Lib.byteCells_length]; omega) hb.size).mono ?_))
      rintro e w1 rfl h1 b1
      obtain rfl : k = s.size := by omega
      go_wp2_with (first
        | (go_at_call 42; refine (Tryz.Builder_String_any w.heap.size w.heap.size (done s s.size ++ [34]) _ (Or.inr (by rw [Lib.byteCells_append]; exact h1)) (by have := b1.size; omega)).mono ?_))
      rintro e w2 ⟨rfl, b2⟩
      go_wp2
      go_ret2
      exact ⟨rfl, (hb.trans b1).trans b2⟩

theorem quote_says (s : ByteArray) (w : World) (hs : s.size ≤ 4096) : Calls Tryz.prog 15 #[.string s] w fun e w' => e = .returned (.tuple #[.string (mk (quoteL s.data.toList)), .int .i64 0]) ∧ Below w.heap.size w w' := by
  have h : done s s.size ++ [34] = quoteL s.data.toList := by
    unfold done quoteL
    rw [List.take_of_length_le (by simp)]
    rfl
  have := quote_walk s w hs
  rw [h] at this
  exact this
end Go.Proofs.YtjnkppneilmpbaaGreatDoor

namespace Go.Proofs.YtjnkppneilmpbaaGreatDoor
open Go.RowKit

/-- The row of the four takers. -/
def takers : Array Value := #[.func (.func 63) #[] #[], .func (.func 64) #[] #[], .func (.func 65) #[] #[], .func (.func 66) #[] #[]]
def takersRow : Obj := .cells takers 161 (0, 0)

/-- What a taker does: it misses, and leaves what was; or it hits. -/
def Misses (F X : Nat) (j : Bool) (w : World) : Prop := ∀ w', Below w.heap.size w w' → Calls Tryz.prog F #[.pointer (some ⟨X, 0, none⟩), .bool j] w' fun r w'' => r = .returned (.bool false) ∧ Below w'.heap.size w' w''
def Hits (F X : Nat) (j : Bool) (w : World) (Q : World → Prop) : Prop := ∀ w', Below w.heap.size w w' → Calls Tryz.prog F #[.pointer (some ⟨X, 0, none⟩), .bool j] w' fun r w'' => r = .returned (.bool true) ∧ Q w''

def takerAt (i : Nat) : Nat := 63 + i

set_option maxHeartbeats 4000000 in
set_option maxRecDepth 100000 in
theorem try_walk (F X Bx Bj : Nat) (j b : Bool) (w : World) (hx : w.cell? ⟨Bx, 0, none⟩ = some (.pointer (some ⟨X, 0, none⟩))) (hj : w.cell? ⟨Bj, 0, none⟩ = some (.bool j)) (Q : World → Prop)
    (hc : Calls Tryz.prog F #[.pointer (some ⟨X, 0, none⟩), .bool j] w fun r w' => r = .returned (.bool b) ∧ Q w') (hF : F = 63 ∨ F = 64 ∨ F = 65 ∨ F = 66) :
    Calls Tryz.prog 71 #[.func (.func F) #[] #[], .pointer (some ⟨Bx, 0, none⟩), .pointer (some ⟨Bj, 0, none⟩)] w fun r w' => r = .returned (.bool b) ∧ Q w' := by
  rcases hF with rfl | rfl | rfl | rfl
  all_goals go_enter Tryz.func71, Tryz.ntmps71
  all_goals go_wp2_with (first
    | (go_at_call 63; refine hc.mono ?_)
    | (go_at_call 64; refine hc.mono ?_)
    | (go_at_call 65; refine hc.mono ?_)
    | (go_at_call 66; refine hc.mono ?_))
  all_goals rintro e w' ⟨rfl, hQ⟩
  all_goals go_wp2
  all_goals go_ret
  all_goals exact ⟨rfl, hQ⟩
end Go.Proofs.YtjnkppneilmpbaaGreatDoor

namespace Go.Proofs.YtjnkppneilmpbaaGreatDoor
open Go.RowKit

theorem Misses.step {F X : Nat} {j : Bool} {w w' : World} (h : Misses F X j w) (b : Below w.heap.size w w') : Misses F X j w' := fun w'' b' => h w'' (b.trans (b'.mono b.size))
theorem Hits.step {F X : Nat} {j : Bool} {w w' : World} {Q : World → Prop} (h : Hits F X j w Q) (b : Below w.heap.size w w') : Hits F X j w' Q := fun w'' b' => h w'' (b.trans (b'.mono b.size))

section
variable {X Bx Bj K : Nat} {j : Bool} {w : World} {Q : World → Prop}

set_option maxHeartbeats 8000000 in
set_option maxRecDepth 100000 in
theorem find_walk (p : Nat) (hp : p < 4) (hK : w.heap[K]? = some takersRow) (hx : w.cell? ⟨Bx, 0, none⟩ = some (.pointer (some ⟨X, 0, none⟩))) (hj : w.cell? ⟨Bj, 0, none⟩ = some (.bool j))
    (hmiss : ∀ i, i < p → Misses (63 + i) X j w) (hhit : Hits (63 + p) X j w Q) :
    Calls Tryz.prog 108 #[.slice (some ⟨K, 0, none⟩) 4 4, .func (.func 71) #[] #[.pointer (some ⟨Bx, 0, none⟩), .pointer (some ⟨Bj, 0, none⟩)]] w fun r w' => r = .returned (.int .i64 p) ∧ Q w' := by
  have lK := (Array.getElem?_eq_some_iff.1 hK).1
  have lx := World.block_lt_of_cell? w _ hx
  have lj := World.block_lt_of_cell? w _ hj
  simp only at lx lj
  go_enter Tryz.func108, Tryz.ntmps108
  go_wp2
  go_loopw [8] (fun v wr => ∃ i : Nat, i ≤ p ∧ v = .int .i64 i ∧ Below w.heap.size w wr) (fun v _ => p - (intOf v).toNat)
  case atStart => exact ⟨0, Nat.zero_le _, rfl, Below.refl _ _⟩
  case round =>
    obtain ⟨i, hi, rfl, hb⟩ := hrel
    have hK1 := (hb.block K lK).trans hK
    have hx1 := (hb.cell (p := ⟨Bx, 0, none⟩) lx).trans hx
    have hj1 := (hb.cell (p := ⟨Bj, 0, none⟩) lj).trans hj
    have q0 : wr.cell? ⟨K, 0, none⟩ = some (.func (.func 63) #[] #[]) := by rw [Lib.cell_of_heap hK1]; rfl
    have q1 : wr.cell? ⟨K, 1, none⟩ = some (.func (.func 64) #[] #[]) := by rw [Lib.cell_of_heap hK1]; rfl
    have q2 : wr.cell? ⟨K, 2, none⟩ = some (.func (.func 65) #[] #[]) := by rw [Lib.cell_of_heap hK1]; rfl
    have q3 : wr.cell? ⟨K, 3, none⟩ = some (.func (.func 66) #[] #[]) := by rw [Lib.cell_of_heap hK1]; rfl
    by_cases hlt : i < p
    · have hm := hmiss i hlt wr hb
      have hi3 : i = 0 ∨ i = 1 ∨ i = 2 := by omega
      rcases hi3 with rfl | rfl | rfl
      · have ht := try_walk 63 X Bx Bj j false wr hx1 hj1 _ hm (by decide)
        go_wp2_with (go_at_call 71; refine ht.mono ?_)
        rintro e w' ⟨rfl, b'⟩
        go_wp2
        go_roundw
        case rel => exact ⟨1, by omega, rfl, hb.trans (b'.mono hb.size)⟩
        case measure => simp [intOf]; omega
      · have ht := try_walk 64 X Bx Bj j false wr hx1 hj1 _ hm (by decide)
        go_wp2_with (go_at_call 71; refine ht.mono ?_)
        rintro e w' ⟨rfl, b'⟩
        go_wp2
        go_roundw
        case rel => exact ⟨2, by omega, rfl, hb.trans (b'.mono hb.size)⟩
        case measure => simp [intOf]; omega
      · have ht := try_walk 65 X Bx Bj j false wr hx1 hj1 _ hm (by decide)
        go_wp2_with (go_at_call 71; refine ht.mono ?_)
        rintro e w' ⟨rfl, b'⟩
        go_wp2
        go_roundw
        case rel => exact ⟨3, by omega, rfl, hb.trans (b'.mono hb.size)⟩
        case measure => simp [intOf]; omega
    · obtain rfl : i = p := by omega
      have hm := hhit wr hb
      have hi3 : i = 0 ∨ i = 1 ∨ i = 2 ∨ i = 3 := by omega
      rcases hi3 with rfl | rfl | rfl | rfl
      · have ht := try_walk 63 X Bx Bj j true wr hx1 hj1 _ hm (by decide)
        go_wp2_with (go_at_call 71; refine ht.mono ?_)
        rintro e w' ⟨rfl, hQ⟩
        go_wp2
        go_ret
        exact ⟨rfl, hQ⟩
      · have ht := try_walk 64 X Bx Bj j true wr hx1 hj1 _ hm (by decide)
        go_wp2_with (go_at_call 71; refine ht.mono ?_)
        rintro e w' ⟨rfl, hQ⟩
        go_wp2
        go_ret
        exact ⟨rfl, hQ⟩
      · have ht := try_walk 65 X Bx Bj j true wr hx1 hj1 _ hm (by decide)
        go_wp2_with (go_at_call 71; refine ht.mono ?_)
        rintro e w' ⟨rfl, hQ⟩
        go_wp2
        go_ret
        exact ⟨rfl, hQ⟩
      · have ht := try_walk 66 X Bx Bj j true wr hx1 hj1 _ hm (by decide)
        go_wp2_with (go_at_call 71; refine ht.mono ?_)
        rintro e w' ⟨rfl, hQ⟩
        go_wp2
        go_ret
        exact ⟨rfl, hQ⟩

set_option maxHeartbeats 4000000 in
set_option maxRecDepth 100000 in
theorem takes_walk (p : Nat) (hp : p < 4) (hK : w.heap[K]? = some takersRow) (hx : w.cell? ⟨Bx, 0, none⟩ = some (.pointer (some ⟨X, 0, none⟩))) (hj : w.cell? ⟨Bj, 0, none⟩ = some (.bool j))
    (hmiss : ∀ i, i < p → Misses (63 + i) X j w) (hhit : Hits (63 + p) X j w Q) :
    Calls Tryz.prog 70 #[.slice (some ⟨K, 0, none⟩) 4 4, .func (.func 71) #[] #[.pointer (some ⟨Bx, 0, none⟩), .pointer (some ⟨Bj, 0, none⟩)]] w fun r w' => r = .returned (.bool true) ∧ Q w' := by
  have hf := find_walk p hp hK hx hj hmiss hhit
  have hp0 : (0 : Int) ≤ (p : Int) := by omega
  clear hmiss hhit hK hx hj
  go_enter Tryz.func70, Tryz.ntmps70
  go_wp2_with (go_at_call 108; refine hf.mono ?_)
  rintro e w' ⟨rfl, hQ⟩
  go_wp2
  go_ret
  refine ⟨?_, hQ⟩
  first | rfl | simp
end
end Go.Proofs.YtjnkppneilmpbaaGreatDoor
