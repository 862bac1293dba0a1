/- Towards the law ParserVoices, true for every text (no condition): one part of the proof. -/
import Derived.Test.YtgkhemnmcgicnaaGreatDoorG01
import Derived.Test.YtgkhemnmcgicnaaGreatDoorG03
import Derived.Lib.SmallJoins
import Derived.Lib.ConvBytes
import Derived.Lib.UnsafeStr
namespace Go.Proofs.YtgkhemnmcgicnaaGreatDoor
set_option maxHeartbeats 8000000
set_option maxRecDepth 100000
open Go.RowKit
section
variable {B X : Nat} {ks : List (Nat × Obj)} {s : ByteArray} {lines : Value} {lv : Value} {n : Nat} {xs : List Value} {wr : Int} {w0 w : World}
theorem lF {a : Nat} (h : gG B X ks s lines a lv n xs 0 wr w0 w) (ha : a < s.size) (hc : eP s[a].toNat = false) (j : Bool) :
  Calls Tryz.prog 81 #[.pointer (some ⟨X, 0, none⟩), .bool j] w fun r w' => r = .returned (.bool false) /\ Below w.heap.size w w' := by
 have c0 := h.c0
 have c1 := h.c1
 clear h
 have ha0 : (0 : Int) <= (a : Int) := by omega
 have ha' : (a : Int) < s.size := by omega
 go_enter Tryz.func81, Tryz.ntmps81
 go_wp2
 go_quiet ((go_at_call 117; refine Calls.quiet_of_same (mZ s[a].toNat _ hc)))
 go_wp2
 go_ret
 exact ⟨rfl, cD (qa _ _) _⟩
theorem mF {a : Nat} (h : gG B X ks s lines a lv n xs 0 wr w0 w) (ha : a < s.size) (hc : dC s[a].toNat = false) (j : Bool) :
  Calls Tryz.prog 82 #[.pointer (some ⟨X, 0, none⟩), .bool j] w fun r w' => r = .returned (.bool false) /\ Below w.heap.size w w' := by
 have c0 := h.c0
 have c1 := h.c1
 clear h
 have ha0 : (0 : Int) <= (a : Int) := by omega
 have ha' : (a : Int) < s.size := by omega
 go_enter Tryz.func82, Tryz.ntmps82
 go_wp2
 go_quiet ((go_at_call 120; refine Calls.quiet_of_same (nS s[a].toNat _ hc)))
 go_wp2
 go_ret
 exact ⟨rfl, cD (qa _ _) _⟩
theorem FL {a : Nat} (h : gG B X ks s lines a lv n xs 0 wr w0 w) (ha : a < s.size) (hc : ¬ ((s[a].toNat : Nat) : Int) = 34) (j : Bool) :
  Calls Tryz.prog 83 #[.pointer (some ⟨X, 0, none⟩), .bool j] w fun r w' => r = .returned (.bool false) /\ Below w.heap.size w w' := by
 have c0 := h.c0
 have c1 := h.c1
 clear h
 have ha0 : (0 : Int) <= (a : Int) := by omega
 have ha' : (a : Int) < s.size := by omega
 go_enter Tryz.func83, Tryz.ntmps83
 go_wp2
 go_quiet (fail)
 go_wp2
 go_ret
 exact ⟨rfl, cD (qa _ _) _⟩
variable {LN : Value} {ls : List Int}
theorem TQ {a : Nat} (h : gG B X ks s LN a lv n xs 0 wr w0 w) (hL : hG LN ls ks) (gL : oL ls) (hsz : s.size <= 1048576) (hn : n <= 1048576) (ha : a < s.size) (hc : eP s[a].toNat = true) (b : Nat) (hu : xD iQ s a b) (hlen : b <= a + 64) (j : Bool) :
  Calls Tryz.prog 81 #[.pointer (some ⟨X, 0, none⟩), .bool j] w fun r w' => r = .returned (.bool true) /\
   ∃ lv', gG B X ks s LN b lv' (n + 1) (xs ++ bD.cells ⟨1, s.extract a b, 0, ByteArray.empty, rN ls a, rP ls a, j && decide (0 < n)⟩) 0 wr w0 w' := by
 have c0 := h.c0
 have c1 := h.c1
 have hab := hu.ab
 have hbs := hu.bs
 have ha0 : (0 : Int) <= (a : Int) := by omega
 have ha' : (a : Int) < s.size := by omega
 have h64 : (b : Int) - a <= 64 := by omega
 have hw1 : IntKind.i64.wrap ((b : Int) - a) = (b : Int) - a := IntWalk.i64_in _ (by omega)
 go_enter Tryz.func81, Tryz.ntmps81
 go_wp2
 go_quiet ((go_at_call 117; refine Calls.quiet_of_same (mZ s[a].toNat _ hc)))
 have hm := h.step (cD (qa _ _) nq)
 generalize w.drewN nq = W at hm |-
 have d0 := hm.c0
 have d1 := hm.c1
 clear c0 c1 h
 go_wp2_with (first
  | (go_at_call 118; refine (C2 X s a b _ d0 hsz hu).mono ?_; rintro e w2 ⟨rfl, rfl⟩)
  | (go_at_call 86; refine (pP hm hL gL hsz hn b hab hbs 1 0 ByteArray.empty j).mono ?_))
 rintro e w3 ⟨rfl, lv', hS⟩
 go_wp2
 go_ret
 exact ⟨rfl, lv', hS⟩
theorem TR (s : ByteArray) (n : Int) (hl : s.size <= 18) (h : Lib.atoi s.data.toList = some n) (w : World) :
  Calls Tryz.prog 121 #[.string s] w fun e w' => e = .returned (.tuple #[I n, .nilIface]) /\ Below w.heap.size w w' := by
 refine (Tryz.strconv_Atoi s n hl h w).mono ?_
 rintro e w' ⟨rfl, t, rfl⟩
 exact ⟨rfl, Go.Joins.below_bytesWorld _ _ _ _ (qb _)⟩
theorem NN {a : Nat} (h : gG B X ks s LN a lv n xs 0 wr w0 w) (hL : hG LN ls ks) (gL : oL ls) (hsz : s.size <= 1048576) (hn : n <= 1048576) (ha : a < s.size) (hc : dC s[a].toNat = true) (b : Nat) (hu : xD dC s a b) (hlen : b <= a + 15) (v : Int) (hv : Lib.atoi (s.extract a b).data.toList = some v) (j : Bool) :
  Calls Tryz.prog 82 #[.pointer (some ⟨X, 0, none⟩), .bool j] w fun r w' => r = .returned (.bool true) /\
   ∃ lv', gG B X ks s LN b lv' (n + 1) (xs ++ bD.cells ⟨2, s.extract a b, v, ByteArray.empty, rN ls a, rP ls a, j && decide (0 < n)⟩) 0 wr w0 w' := by
 have c0 := h.c0
 have c1 := h.c1
 have hab := hu.ab
 have hbs := hu.bs
 have ha0 : (0 : Int) <= (a : Int) := by omega
 have hb0 : (0 : Int) <= (b : Int) := by omega
 have hab' : (a : Int) <= (b : Int) := by omega
 have hbs' : (b : Int) <= (s.size : Int) := by omega
 have ha' : (a : Int) < s.size := by omega
 have h64 : (b : Int) - a <= 15 := by omega
 have hw1 : IntKind.i64.wrap ((b : Int) - a) = (b : Int) - a := IntWalk.i64_in _ (by omega)
 have hl : (s.extract a b).size <= 18 := by rw [ByteArray.size_extract]; omega
 go_enter Tryz.func82, Tryz.ntmps82
 go_wp2
 go_quiet ((go_at_call 120; refine Calls.quiet_of_same (nS s[a].toNat _ hc)))
 have hm := h.step (cD (qa _ _) nq)
 generalize w.drewN nq = W at hm |-
 have d0 := hm.c0
 have d1 := hm.c1
 have hst : ∀ w' : World, Below W.drew.heap.size W.drew w' -> gG B X ks s LN a lv n xs 0 wr w0 w' := fun w' b1 => hm.step ((qa W.heap.size W).drew.trans b1)
 clear c0 c1 h
 go_wp2_with (first
  | (go_at_call 118; refine (FK X s a b _ d0 hsz hu).mono ?_; rintro e w2 ⟨rfl, rfl⟩))
 go_region_held3 (fun w' => w'.cell? ⟨X, 0, none⟩ = some (.string s) /\ w'.cell? ⟨X, 1, none⟩ = some (I a)) (go_keep) (first | (go_at_call 121; refine (TR (s.extract a b) v hl hv _).mono ?_; rintro e w' ⟨rfl, b1⟩; have hS1 := hst _ b1; have q0 := hS1.c0; have q1 := hS1.c1))
 clear d0 d1 hm
 go_wp2_with (first
  | (go_at_call 86; refine (pP hS1 hL gL hsz hn b hab hbs 2 v ByteArray.empty j).mono ?_))
 rintro e w3 ⟨rfl, lv', hS⟩
 go_wp2
 go_ret
 exact ⟨rfl, lv', hS⟩
end
section
variable {B X : Nat} {ks : List (Nat × Obj)} {s : ByteArray} {lines : Value} {lv : Value} {n : Nat} {xs : List Value} {wr : Int} {w0 w : World}
theorem K6 {a : Nat} (h : gG B X ks s lines a lv n xs 0 wr w0 w) (hsz : s.size <= 1048576) (ha : a < s.size) (hc : dC s[a].toNat = true) (b : Nat) (hu : xD dC s a b) (hlen : a + 15 < b) (j : Bool) :
  Calls Tryz.prog 82 #[.pointer (some ⟨X, 0, none⟩), .bool j] w fun r w' => r = .returned (.bool true) /\ gG B X ks s lines a lv n xs 5 a w0 w' := by
 have c0 := h.c0
 have c1 := h.c1
 have hab := hu.ab
 have hbs := hu.bs
 have ha0 : (0 : Int) <= (a : Int) := by omega
 have ha' : (a : Int) < s.size := by omega
 have h64 : (15 : Int) < (b : Int) - a := by omega
 have hw1 : IntKind.i64.wrap ((b : Int) - a) = (b : Int) - a := IntWalk.i64_in _ (by omega)
 go_enter Tryz.func82, Tryz.ntmps82
 go_wp2
 go_quiet ((go_at_call 120; refine Calls.quiet_of_same (nS s[a].toNat _ hc)))
 have hm := h.step (cD (qa _ _) nq)
 generalize w.drewN nq = W at hm |-
 have d0 := hm.c0
 have d1 := hm.c1
 clear c0 c1 h
 go_wp2_with (first
  | (go_at_call 118; refine (FK X s a b _ d0 hsz hu).mono ?_; rintro e w2 ⟨rfl, rfl⟩)
  | (go_at_call 87; refine (lD hm a 5).mono ?_))
 rintro e w3 ⟨rfl, hS⟩
 go_wp2
 go_ret
 exact ⟨rfl, hS⟩
def jM : List UInt8 := [33, 35, 36, 38, 39, 40, 41, 42, 43, 44, 45, 46, 47, 58, 59, 60, 61, 62, 63, 64, 91, 92, 93, 94, 95, 123, 124, 125, 126]
theorem AH (c : Nat) (_hc : c < 256) (k : Int) (hk : Lib.indexByte jM c.toUInt8 = k) (w : World) :
  Calls Tryz.prog 127 #[.string ⟨jM.toArray⟩, .int .u8 c] w fun e w' => e = .returned (I k) /\ w' = w := by
 have := Tryz.strings_IndexByte ⟨jM.toArray⟩ (c : Int) w
 rw [<- hk]
 simpa using this
variable {LN : Value} {ls : List Int}
theorem NP {a : Nat} (h : gG B X ks s LN a lv n xs 0 wr w0 w) (hL : hG LN ls ks) (gL : oL ls) (hsz : s.size <= 1048576) (hn : n <= 1048576) (ha : a < s.size) (hc : 0 <= Lib.indexByte jM s[a].toNat.toUInt8) (j : Bool) :
  Calls Tryz.prog 84 #[.pointer (some ⟨X, 0, none⟩), .bool j] w fun r w' => r = .returned (.bool true) /\
   ∃ lv', gG B X ks s LN (a + 1 : Nat) lv' (n + 1) (xs ++ bD.cells ⟨4, s.extract a (a + 1), 0, ByteArray.empty, rN ls a, rP ls a, j && decide (0 < n)⟩) 0 wr w0 w' := by
 have c0 := h.c0
 have c1 := h.c1
 have ha0 : (0 : Int) <= (a : Int) := by omega
 have ha' : (a : Int) < s.size := by omega
 obtain ⟨k, hk⟩ : ∃ k, Lib.indexByte jM s[a].toNat.toUInt8 = k := ⟨_, rfl⟩
 rw [hk] at hc
 have hcz := AH s[a].toNat s[a].toNat_lt k hk
 have e1 : ((a + 1 : Nat) : Int) = (a : Int) + 1 := by omega
 go_enter Tryz.func84, Tryz.ntmps84
 go_wp2
 go_quiet ((go_at_call 127; refine Calls.quiet_of_same (hcz _)))
 have hm := h.step (cD (qa _ _) nq)
 generalize w.drewN nq = W at hm |-
 have d0 := hm.c0
 have d1 := hm.c1
 have hadd := pP hm hL gL hsz hn (a + 1) (by omega) (by omega) 4 0 ByteArray.empty j
 rw [e1] at hadd
 clear c0 c1 h
 go_wp2_with (first
  | (go_at_call 86; refine hadd.mono ?_))
 rintro e w3 ⟨rfl, lv', hS⟩
 go_wp2
 go_ret
 refine ⟨rfl, lv', ?_⟩
 rw [e1]; exact hS
end
def YP : Array Value := #[.func (.func 81) #[] #[], .func (.func 82) #[] #[], .func (.func 83) #[] #[], .func (.func 84) #[] #[]]
def eZ : Obj := .cells YP 153 (0, 0)
def yT (F X : Nat) (j : Bool) (w : World) : Prop := ∀ w', Below w.heap.size w w' -> Calls Tryz.prog F #[.pointer (some ⟨X, 0, none⟩), .bool j] w' fun r w'' => r = .returned (.bool false) /\ Below w'.heap.size w' w''
def YQ (F X : Nat) (j : Bool) (w : World) (Q : World -> Prop) : Prop := ∀ w', Below w.heap.size w w' -> Calls Tryz.prog F #[.pointer (some ⟨X, 0, none⟩), .bool j] w' fun r w'' => r = .returned (.bool true) /\ Q w''
theorem iP (F X Bx Bj : Nat) (j b : Bool) (w : World) (hx : w.cell? ⟨Bx, 0, none⟩ = some (.pointer (some ⟨X, 0, none⟩))) (hj : w.cell? ⟨Bj, 0, none⟩ = some (.bool j)) (Q : World -> Prop)
  (hc : Calls Tryz.prog F #[.pointer (some ⟨X, 0, none⟩), .bool j] w fun r w' => r = .returned (.bool b) /\ Q w') (hF : F = 81 \/ F = 82 \/ F = 83 \/ F = 84) :
  Calls Tryz.prog 89 #[.func (.func F) #[] #[], .pointer (some ⟨Bx, 0, none⟩), .pointer (some ⟨Bj, 0, none⟩)] w fun r w' => r = .returned (.bool b) /\ Q w' := by
 rcases hF with rfl | rfl | rfl | rfl
 all_goals go_enter Tryz.func89, Tryz.ntmps89
 all_goals go_wp2_with (first
  | (go_at_call 81; refine hc.mono ?_)
  | (go_at_call 82; refine hc.mono ?_)
  | (go_at_call 83; refine hc.mono ?_)
  | (go_at_call 84; refine hc.mono ?_))
 all_goals rintro e w' ⟨rfl, hQ⟩
 all_goals go_wp2
 all_goals go_ret
 all_goals exact ⟨rfl, hQ⟩
end Go.Proofs.YtgkhemnmcgicnaaGreatDoor
