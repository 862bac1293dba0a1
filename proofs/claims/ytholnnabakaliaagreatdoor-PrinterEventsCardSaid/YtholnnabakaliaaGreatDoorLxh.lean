/-
  A part of the proof that the law PrinterEvents (chapter 20) returns true for every event: walks of the program's functions, and runs of them in the kernel by the own evaluator.
-/
import Derived.Test.YtholnnabakaliaaGreatDoorLxt
import Derived.Lib.ItoaNum
namespace Go.Proofs.YtholnnabakaliaaGreatDoor
open Go.RowKit

/-- From offset a on, behind n tokens, the text has the tokens 'toks' (the last of them End); 'some b': at b begins a number that is too long. -/
inductive Lx (ls : List Int) (s : ByteArray) : Nat → Nat → List Tok → Option Nat → Prop
  | fin {a b n : Nat} (hu : Upto isBlank s a b) (hb : b = s.size) : Lx ls s a n [⟨0, s.extract b b, 0, ByteArray.empty, plL ls b, plC ls b, !decide (a < b) && decide (0 < n)⟩] none
  | word {a b c n : Nat} {toks : List Tok} {out : Option Nat} (hu : Upto isBlank s a b) (hb : b < s.size) (hc : isLetter s[b].toNat = true) (hw : Upto isInWord s b c) (hl : c ≤ b + 64) (h : Lx ls s c (n + 1) toks out) :
      Lx ls s a n (⟨1, s.extract b c, 0, ByteArray.empty, plL ls b, plC ls b, !decide (a < b) && decide (0 < n)⟩ :: toks) out
  | number {a b c n : Nat} {toks : List Tok} {out : Option Nat} (v : Int) (hu : Upto isBlank s a b) (hb : b < s.size) (hc : isDigit s[b].toNat = true) (hw : Upto isDigit s b c) (hl : c ≤ b + 15) (hv : Lib.atoi (s.extract b c).data.toList = some v) (h : Lx ls s c (n + 1) toks out) :
      Lx ls s a n (⟨2, s.extract b c, v, ByteArray.empty, plL ls b, plC ls b, !decide (a < b) && decide (0 < n)⟩ :: toks) out
  | long {a b c n : Nat} (hu : Upto isBlank s a b) (hb : b < s.size) (hc : isDigit s[b].toNat = true) (hw : Upto isDigit s b c) (hl : b + 15 < c) : Lx ls s a n [] (some b)
  | str {a b n : Nat} {toks : List Tok} {out : Option Nat} (hu : Upto isBlank s a b) (bytes rest : List UInt8) (hbl : bytes.length ≤ 4096) (hd : s.data.toList.drop b = quoteL bytes ++ rest) (h : Lx ls s (b + (quoteL bytes).length) (n + 1) toks out) :
      Lx ls s a n (⟨3, s.extract b (b + (quoteL bytes).length), 0, mk bytes, plL ls b, plC ls b, !decide (a < b) && decide (0 < n)⟩ :: toks) out
  | sym {a b n : Nat} {toks : List Tok} {out : Option Nat} (hu : Upto isBlank s a b) (hb : b < s.size) (h1 : isLetter s[b].toNat = false) (h2 : isDigit s[b].toNat = false) (h3 : s[b].toNat ≠ 34) (hc : 0 ≤ Lib.indexByte symbols s[b].toNat.toUInt8) (h : Lx ls s (b + 1) (n + 1) toks out) :
      Lx ls s a n (⟨4, s.extract b (b + 1), 0, ByteArray.empty, plL ls b, plC ls b, !decide (a < b) && decide (0 < n)⟩ :: toks) out

def cellsOf (l : List Tok) : List Value := l.flatMap Tok.cells

/-- What is behind one step. -/
def After (ls : List Int) (B X : Nat) (ks : List (Nat × Obj)) (s : ByteArray) (lines : Value) (b n : Nat) (lv : Value) (xs : List Value) (wr : Int) (w0 : World) (toks : List Tok) (out : Option Nat) (w : World) : Prop :=
  (∃ t toks' lv' c, toks = t :: toks' ∧ Lx ls s c (n + 1) toks' out ∧ Scn B X ks s lines (c : Nat) lv' (n + 1) (xs ++ t.cells) 0 wr w0 w) ∨
  (∃ b' : Nat, toks = [] ∧ out = some b' ∧ Scn B X ks s lines b lv n xs 5 b' w0 w)

theorem letter_no {c : Nat} (h : isLetter c = true) : ((c : Nat) : Int) ≠ 37 := by
  intro e; have : c = 37 := by omega
  subst this; simp [isLetter] at h
theorem digit_no {c : Nat} (h : isDigit c = true) : ((c : Nat) : Int) ≠ 37 ∧ isLetter c = false := by
  simp only [isDigit, Bool.and_eq_true, decide_eq_true_eq] at h
  refine ⟨by omega, ?_⟩
  have h1 : ¬ 97 ≤ c := by omega
  have h2 : ¬ 65 ≤ c := by omega
  simp [isLetter, h1, h2]
theorem sym_no {c : UInt8} (h : 0 ≤ Lib.indexByte symbols c) : c ≠ 37 := by
  rintro rfl
  revert h; decide

theorem lx_step {ls : List Int} (gL : Lines ls) {s : ByteArray} {a n : Nat} {toks : List Tok} {out : Option Nat} (h : Lx ls s a n toks out) (hsz : s.size ≤ 1048576) (hn : n ≤ 1048576) :
    (∃ b, Upto isBlank s a b ∧ b = s.size ∧ toks = [⟨0, s.extract b b, 0, ByteArray.empty, plL ls b, plC ls b, !decide (a < b) && decide (0 < n)⟩] ∧ out = none) ∨
    (∃ b p, Upto isBlank s a b ∧ b < s.size ∧ (∀ h : b < s.size, ((s[b].toNat : Nat) : Int) ≠ 37) ∧ p < 4 ∧
      ∀ (B X : Nat) (ks : List (Nat × Obj)) (LN lv : Value) (xs : List Value) (wr : Int) (w0 w : World), LinesAt LN ls ks → Scn B X ks s LN b lv n xs 0 wr w0 w →
        (∀ i, i < p → Misses (95 + i) X (!decide (a < b)) w) ∧ Hits (95 + p) X (!decide (a < b)) w (After ls B X ks s LN b n lv xs wr w0 toks out)) := by
  cases h with
  | fin hu hb => exact .inl ⟨_, hu, hb, rfl, rfl⟩
  | @word _ b c _ toks' _ hu hb hc hw hl h =>
    refine .inr ⟨b, 0, hu, hb, fun _ => letter_no hc, by omega, fun B X ks LN lv xs wr w0 w hL hS => ⟨fun i hi => absurd hi (by omega), fun w' b' => ?_⟩⟩
    refine (word_hit (hS.step b') hL gL hsz hn hb hc c hw hl _).mono ?_
    rintro e w'' ⟨rfl, lv', hS'⟩
    exact ⟨rfl, .inl ⟨_, _, lv', c, rfl, h, hS'⟩⟩
  | @number _ b c _ toks' _ v hu hb hc hw hl hv h =>
    refine .inr ⟨b, 1, hu, hb, fun _ => (digit_no hc).1, by omega, fun B X ks LN lv xs wr w0 w hL hS => ⟨fun i hi => ?_, fun w' b' => ?_⟩⟩
    · obtain rfl : i = 0 := by omega
      exact fun w' b' => word_miss (hS.step b') hb (digit_no hc).2 _
    · refine (number_hit (hS.step b') hL gL hsz hn hb hc c hw hl v hv _).mono ?_
      rintro e w'' ⟨rfl, lv', hS'⟩
      exact ⟨rfl, .inl ⟨_, _, lv', c, rfl, h, hS'⟩⟩
  | @long _ b c _ hu hb hc hw hl =>
    refine .inr ⟨b, 1, hu, hb, fun _ => (digit_no hc).1, by omega, fun B X ks LN lv xs wr w0 w hL hS => ⟨fun i hi => ?_, fun w' b' => ?_⟩⟩
    · obtain rfl : i = 0 := by omega
      exact fun w' b' => word_miss (hS.step b') hb (digit_no hc).2 _
    · refine (number_long (hS.step b') hsz hb hc c hw hl _).mono ?_
      rintro e w'' ⟨rfl, hS'⟩
      exact ⟨rfl, .inr ⟨b, rfl, rfl, hS'⟩⟩
  | @str _ b _ toks' _ hu bytes rest hbl hd h =>
    obtain ⟨hb0, hc⟩ : ∃ h : b < s.size, s[b] = 34 := byte_at hd 0 (x := 34) rfl
    have hc' : s[b].toNat = 34 := by rw [hc]; rfl
    refine .inr ⟨b, 2, hu, hb0, fun _ => by rw [hc']; decide, by omega, fun B X ks LN lv xs wr w0 w hL hS => ⟨fun i hi => ?_, fun w' b' => ?_⟩⟩
    · rcases (by omega : i = 0 ∨ i = 1) with rfl | rfl
      · exact fun w' b' => word_miss (hS.step b') hb0 (by rw [hc']; decide) _
      · exact fun w' b' => number_miss (hS.step b') hb0 (by rw [hc']; decide) _
    · refine (text_hit (hS.step b') hL gL hsz hn bytes rest hbl hd _).mono ?_
      rintro e w'' ⟨rfl, lv', hS'⟩
      exact ⟨rfl, .inl ⟨_, _, lv', _, rfl, h, hS'⟩⟩
  | @sym _ b _ toks' _ hu hb h1 h2 h3 hc h =>
    refine .inr ⟨b, 3, hu, hb, fun _ => ?_, by omega, fun B X ks LN lv xs wr w0 w hL hS => ⟨fun i hi => ?_, fun w' b' => ?_⟩⟩
    · intro e
      have h37 := sym_no hc
      apply h37
      have : s[b].toNat = 37 := by omega
      rw [this]; rfl
    · rcases (by omega : i = 0 ∨ i = 1 ∨ i = 2) with rfl | rfl | rfl
      · exact fun w' b' => word_miss (hS.step b') hb h1 _
      · exact fun w' b' => number_miss (hS.step b') hb h2 _
      · exact fun w' b' => text_miss (hS.step b') hb (by omega) _
    · refine (symbol_hit (hS.step b') hL gL hsz hn hb hc _).mono ?_
      rintro e w'' ⟨rfl, lv', hS'⟩
      exact ⟨rfl, .inl ⟨_, _, lv', b + 1, rfl, h, hS'⟩⟩
end Go.Proofs.YtholnnabakaliaaGreatDoor

namespace Go.Proofs.YtholnnabakaliaaGreatDoor
open Go.RowKit

section
variable {B X : Nat} {ks : List (Nat × Obj)} {s : ByteArray} {lines : Value} {pos : Int} {lv : Value} {n : Nat} {xs : List Value} {e wr : Int} {w0 w : World}

theorem LinesAt.more {LN : Value} {ls : List Int} {ks : List (Nat × Obj)} {p : Nat × Obj} (h : LinesAt LN ls ks) : LinesAt LN ls (p :: ks) := by
  obtain ⟨L, cap, cs, h1, h2, h3⟩ := h
  exact ⟨L, cap, cs, h1, List.mem_cons_of_mem _ h2, h3⟩

theorem Scn.more (h : Scn B X ks s lines pos lv n xs e wr w0 w) {k : Nat} {o : Obj} (hk : w.heap[k]? = some o) (hX : k ≠ X) (hB : B ≤ k) (ho : ∀ cs fr, o ≠ .cells cs 100 fr) : Scn B X ((k, o) :: ks) s lines pos lv n xs e wr w0 w :=
  ⟨h.hX, h.hB, h.blk, h.own, fun p hp => by
    rcases List.mem_cons.1 hp with rfl | hp
    · exact ⟨hk, hX, hB, ho⟩
    · exact h.keep p hp, h.below⟩

theorem Scn.less {p : Nat × Obj} (h : Scn B X (p :: ks) s lines pos lv n xs e wr w0 w) : Scn B X ks s lines pos lv n xs e wr w0 w :=
  ⟨h.hX, h.hB, h.blk, h.own, fun q hq => h.keep q (List.mem_cons_of_mem _ hq), h.below⟩
end

theorem Scn.box {B X : Nat} {ks : List (Nat × Obj)} {s : ByteArray} {lines : Value} {pos : Int} {lv : Value} {n : Nat} {xs : List Value} {e wr : Int} {w0 w : World} (h : Scn B X ks s lines pos lv n xs e wr w0 w) {k : Nat} {v : Value} {T : TypeId} (hk : (k, Obj.cells #[v] T (0, 0)) ∈ ks) : w.cell? ⟨k, 0, none⟩ = some v := by
  rw [Lib.cell_of_heap (h.keep _ hk).1]; rfl

/-- How far the loop is: it goes on, or a number was too long. -/
inductive Going (ls : List Int) (B X : Nat) (ks : List (Nat × Obj)) (s : ByteArray) (lines : Value) (wr : Int) (w0 : World) (N : Nat) (all : List Value) (out : Option Nat) (g : Nat) (w : World) : Prop
  | on (a n : Nat) (toks : List Tok) (lv : Value) (xs : List Value) (h : Lx ls s a n toks out) (hS : Scn B X ks s lines a lv n xs 0 wr w0 w) (hN : n + toks.length = N) (hall : xs ++ cellsOf toks = all) (hg : toks.length < g)
  | failed (b n : Nat) (pos : Nat) (lv : Value) (xs : List Value) (hout : out = some b) (hS : Scn B X ks s lines pos lv n xs 5 b w0 w)

/-- How it ends. -/
def Ended (B X : Nat) (ks : List (Nat × Obj)) (s : ByteArray) (lines : Value) (wr : Int) (w0 : World) (N : Nat) (all : List Value) (out : Option Nat) (w : World) : Prop :=
  (out = none ∧ ∃ (pos : Nat) (lv : Value), Scn B X ks s lines pos lv N all 0 wr w0 w) ∨
  (∃ (b pos n : Nat) (lv : Value) (xs : List Value), out = some b ∧ Scn B X ks s lines pos lv n xs 5 b w0 w)

section
variable {LN : Value} {ls : List Int} {B X : Nat} {ks : List (Nat × Obj)} {s : ByteArray} {lv : Value} {n a : Nat} {xs : List Value} {wz : Int} {w0 w : World} {toks : List Tok} {out : Option Nat}

set_option maxHeartbeats 16000000 in
set_option maxRecDepth 100000 in
theorem scan_walk (hx : Lx ls s a n toks out) (h : Scn B X ks s LN a lv n xs 0 wz w0 w) (hL : LinesAt LN ls ks) (gL : Lines ls) (hsz : s.size ≤ 1048576) (hn : n + toks.length ≤ 262143) :
    Calls Tryz.prog 70 #[.pointer (some ⟨X, 0, none⟩)] w fun r w' => r = .returned (.tuple #[]) ∧ Ended B X ks s LN wz w0 (n + toks.length) (xs ++ cellsOf toks) out w' := by
  have hlt := h.lt
  have hBw := h.hB
  have hW : Scn B X ((w.heap.size + 1, takersRow) :: (w.heap.size, .cells #[.pointer (some ⟨X, 0, none⟩)] 120 (0, 0)) :: ks) s LN a lv n xs 0 wz w0 ((w.alloc (.cells #[.pointer (some ⟨X, 0, none⟩)] 120)).alloc takersRow) := by
    refine Scn.more (Scn.more (h.step (((Below.refl _ w).alloc (Nat.le_refl _) _).alloc (by simp) _)) ?_ (by omega) hBw (by intro cs fr hc; injection hc with _ h2 _; exact absurd h2 (by decide))) ?_ (by omega) (by omega) (by intro cs fr hc; injection hc with _ h2 _; exact absurd h2 (by decide))
    · exact (Lib.alloc_old _ _ _ (by simp)).trans (heap_alloc_new w _)
    · have := heap_alloc_new (w.alloc (.cells #[.pointer (some ⟨X, 0, none⟩)] 120)) takersRow
      simpa using this
  generalize hBx : w.heap.size = Bx at hW hlt hBw
  go_enter Tryz.func70, Tryz.ntmps70
  go_wp2
  generalize hV : ((w.alloc (.cells #[.pointer (some ⟨X, 0, none⟩)] 120)).alloc (.cells #[.func (.func 95) #[] #[], .func (.func 96) #[] #[], .func (.func 97) #[] #[], .func (.func 98) #[] #[]] 149)) = V
  have hW' : Scn B X ((Bx + 1, takersRow) :: (Bx, .cells #[.pointer (some ⟨X, 0, none⟩)] 120 (0, 0)) :: ks) s LN a lv n xs 0 wz w0 V := by rw [← hV]; exact hW
  clear hW hV h hlt hBw hBx
  go_loopg [3] (toks.length + 1) (fun g v wr' => Going ls B X ((Bx + 1, takersRow) :: (Bx, .cells #[.pointer (some ⟨X, 0, none⟩)] 120 (0, 0)) :: ks) s LN wz w0 (n + toks.length) (xs ++ cellsOf toks) out g wr')
  case atStart => exact .on a n toks lv xs hx hW' rfl rfl (by omega)
  case round =>
    clear hW' hx
    cases hrel with
    | failed b n' pos lv' xs' hout hS =>
      have d4 := hS.c4
      have k1 : wr.cell? ⟨Bx, 0, none⟩ = some (.pointer (some ⟨X, 0, none⟩)) := hS.box (T := 120) (by simp)
      have hfin : Ended B X ks s LN wz w0 (n + toks.length) (xs ++ cellsOf toks) out wr := .inr ⟨b, pos, n', lv', xs', hout, hS.less.less⟩
      clear hS
      go_wp2
      go_end0
      exact ⟨rfl, hfin⟩
    | on a n' toks' lv' xs' hx' hS hN hall hg =>
      have d4 := hS.c4
      have k1 : wr.cell? ⟨Bx, 0, none⟩ = some (.pointer (some ⟨X, 0, none⟩)) := hS.box (T := 120) (by simp)
      rcases lx_step gL hx' hsz (by omega) with ⟨b, hu, hb, htoks, hout⟩ | ⟨b, p, hu, hb, hnp, hp, hstep⟩
      · have hsk := skip_walk hS hsz b hu (fun h => absurd h (by omega))
        clear hS
        go_wp2_with (go_at_call 99; refine hsk.mono ?_)
        rintro e w2 ⟨rfl, hS2⟩
        have k2 : w2.cell? ⟨Bx, 0, none⟩ = some (.pointer (some ⟨X, 0, none⟩)) := hS2.box (T := 120) (by simp)
        clear d4 k1
        subst hb
        go_wp2
        have hj3 : (w2.alloc (.cells #[.bool (!decide (a < s.size))] 4)).cell? ⟨w2.heap.size, 0, none⟩ = some (.bool (!decide (a < s.size))) := by rw [Lib.cell_of_heap (heap_alloc_new w2 _)]; rfl
        have hS3 := hS2.step ((Below.refl _ w2).alloc (Nat.le_refl _) (.cells #[.bool (!decide (a < s.size))] 4))
        generalize hV3 : w2.alloc (.cells #[.bool (!decide (a < s.size))] 4) = V3 at hS3 hj3 ⊢
        generalize w2.heap.size = Bj at hj3 ⊢
        clear hV3 hS2 k2
        have k3 : V3.cell? ⟨Bx, 0, none⟩ = some (.pointer (some ⟨X, 0, none⟩)) := hS3.box (T := 120) (by simp)
        have c30 := hS3.c0
        have c31 := hS3.c1
        go_quiet (fail)
        have hS4 := hS3.step (belowDrewN (Below.refl _ V3) nq)
        have j4 : (V3.drewN nq).cell? ⟨Bj, 0, none⟩ = some (.bool (!decide (a < s.size))) := hj3
        generalize V3.drewN nq = V4 at hS4 j4 ⊢
        have k4 : V4.cell? ⟨Bx, 0, none⟩ = some (.pointer (some ⟨X, 0, none⟩)) := hS4.box (T := 120) (by simp)
        have c41 := hS4.c1
        clear hS3 hj3 k3 c30 c31
        go_wp2
        go_still_tail 7, (by kernel_rfl)
        change wpList _ _ _ _ _ V4.drew
        have hS5 := hS4.step ((Below.refl _ V4).drew)
        generalize V4.drew = V5 at hS5 ⊢
        clear k4 c41 j4 hS4
        have hadd := add_walk hS5 hL.more.more gL hsz (by omega) s.size (Nat.le_refl _) (Nat.le_refl _) 0 0 ByteArray.empty (!decide (a < s.size))
        go_wp2_with (go_at_call 100; refine hadd.mono ?_)
        rintro e w6 ⟨rfl, lv6, hS6⟩
        go_wp2
        refine bodyPost_ret (results_none rfl _ _ _) rfl ?_
        refine ⟨rfl, .inl ⟨hout, s.size, lv6, ?_⟩⟩
        subst htoks
        have e1 : n + toks.length = n' + 1 := by rw [← hN]; rfl
        rw [e1, ← hall]
        simpa [cellsOf] using hS6.less.less
      · have hj : p < 4 := hp
        have hsk := skip_walk hS hsz b hu hnp
        clear hS
        go_wp2_with (go_at_call 99; refine hsk.mono ?_)
        rintro e w2 ⟨rfl, hS2⟩
        have k2 : w2.cell? ⟨Bx, 0, none⟩ = some (.pointer (some ⟨X, 0, none⟩)) := hS2.box (T := 120) (by simp)
        clear d4 k1
        go_wp2
        have hj3 : (w2.alloc (.cells #[.bool (!decide (a < b))] 4)).cell? ⟨w2.heap.size, 0, none⟩ = some (.bool (!decide (a < b))) := by rw [Lib.cell_of_heap (heap_alloc_new w2 _)]; rfl
        have hS3 := hS2.step ((Below.refl _ w2).alloc (Nat.le_refl _) (.cells #[.bool (!decide (a < b))] 4))
        generalize hV3 : w2.alloc (.cells #[.bool (!decide (a < b))] 4) = V3 at hS3 hj3 ⊢
        generalize w2.heap.size = Bj at hj3 ⊢
        clear hV3 hS2 k2
        have k3 : V3.cell? ⟨Bx, 0, none⟩ = some (.pointer (some ⟨X, 0, none⟩)) := hS3.box (T := 120) (by simp)
        have c30 := hS3.c0
        have c31 := hS3.c1
        have hne : ¬ ((b : Int) = (s.size : Int)) := by omega
        go_quiet (fail)
        have hS4 := hS3.step (belowDrewN (Below.refl _ V3) nq)
        have j4 : (V3.drewN nq).cell? ⟨Bj, 0, none⟩ = some (.bool (!decide (a < b))) := hj3
        generalize V3.drewN nq = V4 at hS4 j4 ⊢
        have k4 : V4.cell? ⟨Bx, 0, none⟩ = some (.pointer (some ⟨X, 0, none⟩)) := hS4.box (T := 120) (by simp)
        obtain ⟨ao, cp, rfl⟩ := hS4.lvIs
        have c43 := hS4.c3
        have hne2 : ¬ ((n' : Int) = 262144) := by omega
        obtain ⟨hmiss, hhit⟩ := hstep B X _ _ _ _ wz w0 _ hL.more.more hS4
        have hK : V4.heap[Bx + 1]? = some takersRow := (hS4.keep (Bx + 1, takersRow) (by simp)).1
        have htk := takes_walk p hp hK k4 j4 hmiss hhit
        clear hS3 hj3 k3 c30 c31 hmiss hhit hsk hS4 hstep
        go_wp2_with (go_at_call 102; refine htk.mono ?_)
        rintro e w6 ⟨rfl, hA⟩
        go_wp2
        rcases hA with ⟨t, tk, lv2, c, rfl, hx2, hS2⟩ | ⟨b', rfl, hout, hS2⟩
        · go_roundg (gk - 1)
          case measure => simp only [List.length_cons] at hg; omega
          case rel =>
            refine .on c (n' + 1) tk lv2 _ hx2 hS2 ?_ ?_ ?_
            · rw [← hN]; simp only [List.length_cons]; omega
            · rw [← hall]; simp [cellsOf]
            · simp only [List.length_cons] at hg; omega
        · go_roundg 0
          case measure => simp only [List.length_nil] at hg; omega
          case rel => exact .failed b' n' b _ _ hout hS2
end
end Go.Proofs.YtholnnabakaliaaGreatDoor

namespace Go.Proofs.YtholnnabakaliaaGreatDoor
open Go.RowKit

/-- Where the lines of the first k bytes begin. -/
def linesOf (s : ByteArray) : Nat → List Int
  | 0 => [0]
  | k + 1 => linesOf s k ++ (if s.data.toList[k]? = some 10 then [(k : Int) + 1] else [])
theorem linesOf_succ (s : ByteArray) (k : Nat) : linesOf s (k + 1) = linesOf s k ++ (if s.data.toList[k]? = some 10 then [(k : Int) + 1] else []) := rfl
theorem linesOf_len (s : ByteArray) (k : Nat) : (linesOf s k).length ≤ k + 1 := by
  induction k with
  | zero => simp [linesOf]
  | succ k ih =>
    rw [linesOf_succ, List.length_append]
    split <;> simp <;> omega
theorem linesOf_pos (s : ByteArray) (k : Nat) : 0 < (linesOf s k).length ∧ (linesOf s k).getD 0 0 = 0 := by
  induction k with
  | zero => simp [linesOf]
  | succ k ih =>
    rw [linesOf_succ]
    obtain ⟨h, e⟩ := ih
    refine ⟨by rw [List.length_append]; omega, ?_⟩
    rw [List.getD, List.getElem?_append_left h]
    exact e
theorem linesOf_mem (s : ByteArray) (k : Nat) : ∀ x ∈ linesOf s k, 0 ≤ x ∧ x ≤ (k : Int) := by
  induction k with
  | zero => intro x hx; simp [linesOf] at hx; omega
  | succ k ih =>
    intro x hx
    rw [linesOf_succ, List.mem_append] at hx
    rcases hx with hx | hx
    · have := ih x hx; omega
    · split at hx
      · simp at hx; omega
      · cases hx
theorem linesOf_sorted (s : ByteArray) (k : Nat) : (linesOf s k).Pairwise (· ≤ ·) := by
  induction k with
  | zero => simp [linesOf]
  | succ k ih =>
    rw [linesOf_succ]
    split
    · rw [List.pairwise_append]
      refine ⟨ih, by simp, fun x hx y hy => ?_⟩
      have := (linesOf_mem s k x hx).2
      simp at hy
      omega
    · simpa using ih
theorem linesOf_lines (s : ByteArray) (h : s.size ≤ 1048576) : Lines (linesOf s s.size) := by
  refine ⟨linesOf_pos s _, linesOf_sorted _ _, fun x hx => (linesOf_mem _ _ x hx).1, fun x hx => ?_, ?_⟩
  · have := (linesOf_mem _ _ x hx).2
    omega
  · have := linesOf_len s s.size
    omega

/-- What Scan returns, and leaves. -/
def Scanned (toks : List Tok) (out : Option Nat) (w : World) (r : Ending) (w' : World) : Prop :=
  Below w.heap.size w w' ∧
  ((out = none ∧ ∃ lv, r = .returned (.tuple #[lv, .int .i64 0, .int .i64 0, .int .i64 0]) ∧ w'.ownsRow w.heap.size 100 7 lv toks.length (cellsOf toks)) ∨
   (∃ (b : Nat) (l c : Int), out = some b ∧ r = .returned (.tuple #[.slice none 0 0, .int .i64 l, .int .i64 c, .int .i64 5])))

theorem results_tmp4 {fn : Func} {t u v x : Tmp} (h : fn.results = #[.tmp t, .tmp u, .tmp v, .tmp x]) (tmps : Array Value) (P : Program) (w : World) :
    (results fn tmps).run P w = .ok (.tuple #[tmps.getD t undef, tmps.getD u undef, tmps.getD v undef, tmps.getD x undef]) w := by
  simp [results, h]

theorem Tryz.infoInt : (Tryz.prog.info? 3).map (fun i => (i.zero, i.size, i.bytes)) = some (some (.int .i64 0), 1, 8) := by kernel_rfl

/-- The scanner while the lines are looked for. -/
structure LnSt (B X : Nat) (s : ByteArray) (lv : Value) (ls : List Int) (w0 w : World) : Prop where
  hX : w.heap[X]? = some (.cells #[.string s, .int .i64 0, lv, .slice none 0 0, .int .i64 0, .int .i64 0] 123 (0, 0))
  own : w.ownsRow B 3 1 lv ls.length (ls.map fun x => .int .i64 x)
  bel : Below B w0 w
  hBX : B ≤ X
  hB : B ≤ w.heap.size

theorem LnSt.push {B X : Nat} {s : ByteArray} {lv : Value} {ls : List Int} {w0 w w' : World} (h : LnSt B X s lv ls w0 w) {g cap : Nat} {x : Int} (hg : (w.alloc (.cells #[.int .i64 x] 3)).grownBy w' lv.ownBlock)
    (hown : w'.ownsRow B 3 1 (.slice (some ⟨g, 0, none⟩) (ls.length + 1) cap) (ls.length + 1) ((ls.map fun x => .int .i64 x) ++ [.int .i64 x])) :
    LnSt B X s (.slice (some ⟨g, 0, none⟩) (ls.length + 1) cap) (ls ++ [x]) w0 (w'.setCell ⟨X, 2, none⟩ (.slice (some ⟨g, 0, none⟩) (ls.length + 1) cap)) ∧ w'.heap[X]? = some (.cells #[.string s, .int .i64 0, lv, .slice none 0 0, .int .i64 0, .int .i64 0] 123 (0, 0)) := by
  have lX : X < w.heap.size := (Array.getElem?_eq_some_iff.1 h.hX).1
  have hne : lv.ownBlock ≠ some X := own_ne h.own h.hX (by intro cs fr hc; injection hc with _ h2 _; exact absurd h2 (by decide))
  have hX' : w'.heap[X]? = some (.cells #[.string s, .int .i64 0, lv, .slice none 0 0, .int .i64 0, .int .i64 0] 123 (0, 0)) := (hg.block X (by simp; omega) (fun e => hne e.symm)).trans ((Lib.alloc_old w _ X lX).trans h.hX)
  have hn2 : (Value.slice (some ⟨g, 0, none⟩) (ls.length + 1) cap).ownBlock ≠ some X := own_ne hown hX' (by intro cs fr hc; injection hc with _ h2 _; exact absurd h2 (by decide))
  have hbel : Below B w0 w' := (h.bel.alloc h.hB _).grown hg (by have := h.hB; simp; omega) (fun k hk => (h.own.lt k hk).1)
  refine ⟨⟨?_, ?_, hbel.setCell (p := ⟨X, 2, none⟩) h.hBX _, h.hBX, ?_⟩, hX'⟩
  · rw [Lib.heap_setCell_same hX']; rfl
  · have := own_step hown fun k hk => Below.heap_setCell w' ⟨X, 2, none⟩ (.slice (some ⟨g, 0, none⟩) (ls.length + 1) cap) k (fun e => hn2 (by rw [hk, e]))
    simpa using this
  · have h1 := h.hB
    have h2 := hg.size
    simp [World.setCell] at *
    omega

set_option maxHeartbeats 16000000 in
set_option maxRecDepth 100000 in
theorem lexScan {s : ByteArray} {toks : List Tok} {out : Option Nat} (hx : Lx (linesOf s s.size) s 0 0 toks out) (hsz : s.size ≤ 1048576) (hlong : ∀ b, out = some b → b ≤ 1048576) (hn : toks.length ≤ 262143) (w : World) :
    Calls Tryz.prog 45 #[.string s] w (Scanned toks out w) := by
  have gL := linesOf_lines s hsz
  have h0 : LnSt w.heap.size (w.heap.size + 1) s (.slice (some ⟨w.heap.size, 0, none⟩) 1 1) (linesOf s 0) w ((w.alloc (.cells #[.int .i64 0] 3)).alloc (.cells #[.string s, .int .i64 0, .slice (some ⟨w.heap.size, 0, none⟩) 1 1, .slice none 0 0, .int .i64 0, .int .i64 0] 123)) := by
    refine ⟨?_, ?_, ((Below.refl _ w).alloc (Nat.le_refl _) _).alloc (by simp) _, by omega, by simp; omega⟩
    · have := heap_alloc_new (w.alloc (.cells #[.int .i64 0] 3)) (.cells #[.string s, .int .i64 0, .slice (some ⟨w.heap.size, 0, none⟩) 1 1, .slice none 0 0, .int .i64 0, .int .i64 0] 123)
      simpa using this
    · exact (World.ownsRow_lit w #[.int .i64 0] 1 (Nat.le_refl _) (by decide) rfl).alloc _
  have hs1 : ¬ (1048576 : Int) < s.size := by omega
  obtain ⟨i0, hi0, hz0, hz1, hz2⟩ := info_parts Tryz.infoInt
  generalize hL : w.heap.size = L at h0
  go_enter Tryz.func45, Tryz.ntmps45
  go_wp2
  generalize hV : ((w.alloc (.cells #[.int .i64 0] 3)).alloc (.cells #[.string s, .int .i64 0, .slice (some ⟨L, 0, none⟩) 1 1, .slice none 0 0, .int .i64 0, .int .i64 0] 123)) = V at h0 ⊢
  clear hV
  go_loopg [17] (s.size + 1) (fun g v wr => ∃ (k : Nat) (lv : Value), k ≤ s.size ∧ g = s.size + 1 - k ∧ v = .int .i64 (k : Nat) ∧ LnSt L (L + 1) s lv (linesOf s k) w wr)
  case atStart => exact ⟨0, _, Nat.zero_le _, rfl, rfl, h0⟩
  case round =>
    clear h0
    obtain ⟨k, lv, hk, hg, rfl, h1⟩ := hrel
    have hll := linesOf_len s k
    by_cases hlt : k < s.size
    · have hlt' : (k : Int) < s.size := by omega
      have hk0 : (0 : Int) ≤ (k : Int) := by omega
      have hw2 : IntKind.i64.wrap ((k : Int) + 1) = (k : Int) + 1 := IntWalk.i64_in _ (by omega)
      have hsucc := linesOf_succ s k
      rw [at_list k hlt] at hsucc
      by_cases hnl : ((s[k].toNat : Nat) : Int) = 10
      · have h10 : s[k] = 10 := UInt8.toNat_inj.1 (by show _ = 10; omega)
        rw [h10, if_pos rfl] at hsucc
        have c2 : wr.cell? ⟨L + 1, 2, none⟩ = some lv := by rw [Lib.cell_of_heap h1.hX]; rfl
        have lX : L + 1 < wr.heap.size := (Array.getElem?_eq_some_iff.1 h1.hX).1
        have own1 := h1.own
        have hB1 := h1.hB
        rcases own1.2 with ⟨rfl, h00⟩ | ⟨g, cap, cur, rfl, -⟩
        · have := (linesOf_pos s k).1; omega
        go_wp2_with (at_builtin; refine wpList_append_lies _ rfl _ _ 121 rfl L 3 i0 _ 1 8 Tryz.underlying121 hi0 hz0 hz1 hz2 rfl (by omega) _ (linesOf s k).length _ rfl (own1.alloc _) ⟨wr.heap.size, 0, none⟩ 1 1 [.int .i64 ((k : Int) + 1)] rfl rfl (World.news_of_block (cs := #[.int .i64 ((k : Int) + 1)]) (t := 3) (fr := (0, 0)) (heap_alloc_new _ _)) (by simp [Value.oneCell']) (by omega) (by unfold maxLen; omega) (by omega) (by simp; omega) (wr.heap.size + 1) (by simp) ?_; intro gg wcap w2 hown1 hgrow hat hgl; obtain ⟨h2, hX2⟩ := h1.push hgrow hown1; have c22 : w2.cell? ⟨L + 1, 2, none⟩ = some (.slice (some ⟨g, 0, none⟩) (linesOf s k).length cap) := (by rw [Lib.cell_of_heap hX2]; rfl); have f22 : w2.frozen? ⟨L + 1, 2, none⟩ = false := Lib.frozen_of_heap hX2 2)
        go_roundg (s.size + 1 - (k + 1))
        case measure => omega
        case rel => exact ⟨k + 1, _, by omega, rfl, by simp, by rw [hsucc]; exact h2⟩
      · have h10 : ¬ s[k] = 10 := fun e => hnl (by rw [e]; rfl)
        rw [if_neg (by simpa using h10), List.append_nil] at hsucc
        go_wp2
        go_roundg (s.size + 1 - (k + 1))
        case measure => omega
        case rel => exact ⟨k + 1, lv, by omega, rfl, by simp, by rw [hsucc]; exact h1⟩
    · obtain rfl : k = s.size := by omega
      have hlt' : ¬ ((s.size : Nat) : Int) < s.size := by omega
      obtain ⟨g, cap, cur, rfl, hbg, hgc, hnc, hcm, hcs, htk⟩ : ∃ g cap cur, lv = .slice (some ⟨g, 0, none⟩) (linesOf s s.size).length cap ∧ L ≤ g ∧ wr.heap[g]? = some (.cells cur 3 (0, 0)) ∧ (linesOf s s.size).length ≤ cap ∧ cap ≤ maxLen ∧ cur.size = cap * 1 ∧ cur.toList.take ((linesOf s s.size).length * 1) = (linesOf s s.size).map fun x => .int .i64 x := by
        rcases h1.own.2 with ⟨rfl, h00⟩ | ⟨g, cap, cur, e1, e2, e3, e4, e5, e6, e7⟩
        · have := (linesOf_pos s s.size).1; omega
        · exact ⟨g, cap, cur, e1, e2, e3, e4, e5, e6, e7⟩
      have hLA : LinesAt (.slice (some ⟨g, 0, none⟩) (linesOf s s.size).length cap) (linesOf s s.size) [(g, .cells cur 3 (0, 0))] := by
        refine ⟨g, cap, cur, rfl, by simp, fun j hj => ?_⟩
        have := congrArg (fun l => l[j]?) htk
        simp only [Nat.mul_one, List.getElem?_take, if_pos hj, List.getElem?_map] at this
        rw [Array.getElem?_toList] at this
        rw [this]
        simp [List.getD, hj]
      have hgX : g ≠ L + 1 := by
        rintro rfl
        rw [h1.hX] at hgc
        injection hgc with hgc
        injection hgc with _ h2 _
        exact absurd h2 (by decide)
      have hW : Scn L (L + 1) [(g, .cells cur 3 (0, 0))] s (.slice (some ⟨g, 0, none⟩) (linesOf s s.size).length cap) (0 : Nat) (.slice none 0 0) 0 [] 0 0 w wr := by
        refine ⟨h1.hBX, h1.hB, h1.hX, World.ownsRow_nil _ _ _ _, fun p hp => ?_, h1.bel⟩
        obtain rfl := List.mem_singleton.1 hp
        exact ⟨hgc, hgX, hbg, by intro cs fr hc; injection hc with _ h2 _; exact absurd h2 (by decide)⟩
      have hsc := scan_walk hx hW hLA gL hsz (by omega)
      clear hW h1
      go_wp2_with (go_at_call 70; refine hsc.mono ?_)
      rintro e w2 rfl hE
      rcases hE with ⟨rfl, pos, lv, hS⟩ | ⟨b, pos, n, lv, xs, rfl, hS⟩
      · have c4 := hS.c4
        have c3 := hS.c3
        have hown : w2.ownsRow L 100 7 lv toks.length (cellsOf toks) := by simpa using hS.own
        have hbel := hS.below
        clear hS
        go_wp2
        refine bodyPost_ret (results_tmp4 rfl _ _ _) rfl ?_
        exact ⟨by rw [hL]; exact hbel, .inl ⟨rfl, lv, rfl, by rw [hL]; exact hown⟩⟩
      · have c4 := hS.c4
        have c5 := hS.c5
        have hbel := hS.below
        have hpl := place_walk hS hLA gL b (hlong b rfl)
        have hst := fun w' (h : Below w2.heap.size w2 w') => hS.step h
        clear hS
        go_wp2_with (go_at_call 71; refine hpl.mono ?_)
        rintro e w3 ⟨rfl, b3⟩
        have hS3 := hst _ b3
        have d4 := hS3.c4
        have hbel3 := hS3.below
        clear hS3 hst hpl
        go_wp2
        go_region
        all_goals go_wp2
        all_goals refine bodyPost_ret (results_tmp4 rfl _ _ _) rfl ?_
        all_goals exact ⟨by rw [hL]; exact hbel3.drew, .inr ⟨b, _, _, rfl, rfl⟩⟩
end Go.Proofs.YtholnnabakaliaaGreatDoor

namespace Go.Proofs.YtholnnabakaliaaGreatDoor
open Go.RowKit

structure Piece where
  kind : Int
  bl : List UInt8
  body : List UInt8
  value : Int
  bytes : List UInt8

def flat (ps : List Piece) : List UInt8 := ps.flatMap fun p => p.bl ++ p.body
def ptoks (ls : List Int) (a n : Nat) : List Piece → List Tok
  | [] => []
  | p :: ps => ⟨p.kind, ⟨p.body.toArray⟩, p.value, mk p.bytes, plL ls (a + p.bl.length), plC ls (a + p.bl.length), !decide (a < a + p.bl.length) && decide (0 < n)⟩ :: ptoks ls (a + p.bl.length + p.body.length) (n + 1) ps

def Ends (q : Nat → Bool) (rest : List UInt8) : Prop := ∀ x r, rest = x :: r → q x.toNat = false

def Piece.Ok (p : Piece) (rest : List UInt8) : Prop :=
  (∀ x ∈ p.bl, isBlank x.toNat = true) ∧
  ((p.kind = 1 ∧ p.value = 0 ∧ p.bytes = [] ∧ (∃ c t, p.body = c :: t ∧ isLetter c.toNat = true) ∧ (∀ x ∈ p.body, isInWord x.toNat = true) ∧ p.body.length ≤ 64 ∧ Ends isInWord rest) ∨
   (p.kind = 2 ∧ p.bytes = [] ∧ Lib.atoi p.body = some p.value ∧ p.body ≠ [] ∧ (∀ x ∈ p.body, isDigit x.toNat = true) ∧ p.body.length ≤ 15 ∧ Ends isDigit rest) ∨
   (p.kind = 3 ∧ p.value = 0 ∧ p.body = quoteL p.bytes ∧ p.bytes.length ≤ 4096) ∨
   (p.kind = 4 ∧ p.value = 0 ∧ p.bytes = [] ∧ ∃ c, p.body = [c] ∧ isLetter c.toNat = false ∧ isDigit c.toNat = false ∧ c.toNat ≠ 34 ∧ 0 ≤ Lib.indexByte symbols c ∧ isBlank c.toNat = false))

def GoodP (rest : List UInt8) : List Piece → Prop
  | [] => True
  | p :: ps => p.Ok (flat ps ++ rest) ∧ GoodP rest ps

theorem drop_get {l u rest : List UInt8} {a : Nat} (h : l.drop a = u ++ rest) (i : Nat) (hi : i < u.length) : l[a + i]? = some u[i] := by
  rw [← List.getElem?_drop, h, List.getElem?_append_left hi, List.getElem?_eq_getElem hi]
theorem drop_more {l u rest : List UInt8} {a : Nat} (h : l.drop a = u ++ rest) : l.drop (a + u.length) = rest := by
  rw [← List.drop_drop, h]; simp

section
variable {s : ByteArray} {a n : Nat} {q : Nat → Bool} {u rest : List UInt8}

theorem drop_len (h : s.data.toList.drop a = u ++ rest) (ha : a ≤ s.size) : a + u.length + rest.length = s.size := by
  have := congrArg List.length h
  rw [List.length_drop, size_list, List.length_append] at this
  omega

theorem upto_list (h : s.data.toList.drop a = u ++ rest) (ha : a ≤ s.size) (hall : ∀ x ∈ u, q x.toNat = true) (hst : Ends q rest) : Upto q s a (a + u.length) := by
  have hl := drop_len h ha
  refine ⟨by omega, by omega, fun k hk h1 h2 => ?_, fun hk => ?_⟩
  · have hg := drop_get h (k - a) (by omega)
    rw [show a + (k - a) = k by omega, at_list k hk] at hg
    rw [Option.some.inj hg]
    exact hall _ (List.getElem_mem _)
  · have hr := drop_more h
    cases rest with
    | nil => simp at hl; omega
    | cons x r =>
      have hg := drop_get (u := [x]) (rest := r) (by simpa using hr) 0 (by simp)
      rw [Nat.add_zero, at_list _ hk] at hg
      rw [Option.some.inj hg]
      exact hst x r rfl

theorem head_list {x : UInt8} (h : s.data.toList.drop a = x :: rest) : ∃ hk : a < s.size, s[a] = x := by
  have hk : a < s.size := by
    have := congrArg List.length h
    rw [List.length_drop, size_list, List.length_cons] at this
    omega
  have hg := drop_get (u := [x]) (rest := rest) (by simpa using h) 0 (by simp)
  rw [Nat.add_zero, at_list _ hk] at hg
  exact ⟨hk, Option.some.inj hg⟩

theorem extract_list (h : s.data.toList.drop a = u ++ rest) : s.extract a (a + u.length) = ⟨u.toArray⟩ := by
  apply ByteArray.ext
  apply Array.ext'
  rw [ByteArray.data_extract, Array.toList_extract, List.extract_eq_take_drop, h]
  simp

end

theorem blank_letter {c : UInt8} (h : isLetter c.toNat = true) : isBlank c.toNat = false := by
  simp only [isLetter, isBlank, Bool.or_eq_true, Bool.and_eq_true, decide_eq_true_eq, Bool.or_eq_false_iff, decide_eq_false_iff_not] at *
  omega
theorem blank_digit {c : UInt8} (h : isDigit c.toNat = true) : isBlank c.toNat = false := by
  simp only [isDigit, isBlank, Bool.and_eq_true, decide_eq_true_eq, Bool.or_eq_false_iff, decide_eq_false_iff_not] at *
  omega

theorem Piece.Ok.first {p : Piece} {rest : List UInt8} (h : p.Ok rest) : Ends isBlank (p.body ++ rest) := by
  rcases h.2 with ⟨_, _, _, ⟨c, t, e, hl⟩, _⟩ | ⟨_, _, _, hne, hd, _⟩ | ⟨_, _, e, _⟩ | ⟨_, _, _, c, e, _, _, _, _, hb⟩
  · intro x r he
    rw [e] at he; injection he with he; subst he; exact blank_letter hl
  · intro x r he
    cases hb : p.body with
    | nil => exact absurd hb hne
    | cons y t =>
      rw [hb] at he; injection he with he; subst he
      exact blank_digit (hd y (by rw [hb]; simp))
  · intro x r he
    rw [e] at he; injection he with he; subst he; decide
  · intro x r he
    rw [e] at he; injection he with he; subst he; exact hb

theorem mk_nil : mk [] = ByteArray.empty := rfl

theorem lx_pieces {ls : List Int} {s : ByteArray} {rest : List UInt8} {toks : List Tok} {out : Option Nat} : ∀ (ps : List Piece) (a n : Nat), a ≤ s.size → s.data.toList.drop a = flat ps ++ rest → GoodP rest ps →
    Lx ls s (a + (flat ps).length) (n + ps.length) toks out → Lx ls s a n (ptoks ls a n ps ++ toks) out
  | [], a, n, _, _, _, h => by simpa [ptoks, flat] using h
  | p :: ps, a, n, ha, hd, hg, h => by
    obtain ⟨hp, hgs⟩ := hg
    have hd0 : s.data.toList.drop a = p.bl ++ (p.body ++ (flat ps ++ rest)) := by rw [hd]; simp [flat]
    have hl := drop_len hd0 ha
    have hu : Upto isBlank s a (a + p.bl.length) := upto_list hd0 ha hp.1 hp.first
    have hd1 := drop_more hd0
    have hd2 := drop_more hd1
    have ha1 : a + p.bl.length + p.body.length ≤ s.size := by
      have := drop_len hd1 (by omega); omega
    have h' := lx_pieces ps (a + p.bl.length + p.body.length) (n + 1) ha1 hd2 hgs (by
      have e1 : a + p.bl.length + p.body.length + (flat ps).length = a + (flat (p :: ps)).length := by simp [flat]; omega
      have e2 : n + 1 + ps.length = n + (p :: ps).length := by simp; omega
      rw [e1, e2]; exact h)
    have hx := extract_list hd1
    rcases hp.2 with ⟨hk, hv, hby, ⟨c, t, e, hc⟩, hw, hlen, hst⟩ | ⟨hk, hby, hv, hne, hdg, hlen, hst⟩ | ⟨hk, hv, e, h4⟩ | ⟨hk, hv, hby, c, e, n1, n2, n3, n4, _⟩
    · obtain ⟨hb, hbe⟩ := head_list (x := c) (rest := t ++ (flat ps ++ rest)) (by rw [hd1, e]; rfl)
      have := Lx.word (n := n) hu hb (by rw [hbe]; exact hc) (upto_list hd1 (by omega) hw hst) (by omega) h'
      rw [hx] at this
      simpa [ptoks, hk, hv, hby, mk_nil] using this
    · obtain ⟨c, t, e⟩ : ∃ c t, p.body = c :: t := by
        cases hb : p.body with
        | nil => exact absurd hb hne
        | cons c t => exact ⟨c, t, rfl⟩
      obtain ⟨hb, hbe⟩ := head_list (x := c) (rest := t ++ (flat ps ++ rest)) (by rw [hd1, e]; rfl)
      have := Lx.number (n := n) p.value hu hb (by rw [hbe]; exact hdg c (by rw [e]; simp)) (upto_list hd1 (by omega) hdg hst) (by omega) (by rw [hx]; exact hv) h'
      rw [hx] at this
      simpa [ptoks, hk, hby, mk_nil] using this
    · rw [e] at hd1 h' hx
      have := Lx.str (n := n) hu p.bytes (flat ps ++ rest) h4 hd1 h'
      rw [hx] at this
      simpa [ptoks, hk, hv, e] using this
    · have he1 : p.body.length = 1 := by rw [e]; rfl
      obtain ⟨hb, hbe⟩ := head_list (x := c) (rest := flat ps ++ rest) (by rw [hd1, e]; rfl)
      rw [he1] at h' hx
      have := Lx.sym (n := n) hu hb (by rw [hbe]; exact n1) (by rw [hbe]; exact n2) (by rw [hbe]; exact n3) (by rw [hbe]; simpa using n4) h'
      rw [hx] at this
      simpa [ptoks, hk, hv, he1, hby, mk_nil] using this

theorem ptoks_length (ls : List Int) (ps : List Piece) : ∀ (a n : Nat), (ptoks ls a n ps).length = ps.length := by
  induction ps with
  | nil => intro a n; rfl
  | cons p ps ih => intro a n; simp [ptoks, ih]

/-- A token of a piece. -/
def IsOf (p : Piece) (t : Tok) : Prop := t.kind = p.kind ∧ t.text = mk p.body ∧ t.value = p.value ∧ t.joined = p.bl.isEmpty ∧ t.bytes = mk p.bytes

/-- The tokens are those of the pieces. -/
def Toks (ps : List Piece) (toks : List Tok) : Prop := toks.length = ps.length ∧ ∀ (i : Nat) (p : Piece), ps[i]? = some p → ∃ t, toks[i]? = some t ∧ IsOf p t

theorem ptoks_of (ls : List Int) (ps : List Piece) : ∀ (a n i : Nat) (p : Piece), ps[i]? = some p → ∃ l c, (ptoks ls a n ps)[i]? = some ⟨p.kind, mk p.body, p.value, mk p.bytes, l, c, p.bl.isEmpty && decide (0 < n + i)⟩ := by
  induction ps with
  | nil => intro a n i p h; simp at h
  | cons p0 ps ih =>
    intro a n i p h
    cases i with
    | zero =>
      simp only [List.getElem?_cons_zero, Option.some.injEq] at h
      subst h
      refine ⟨plL ls (a + p0.bl.length), plC ls (a + p0.bl.length), ?_⟩
      have hb : (!decide (a < a + p0.bl.length)) = p0.bl.isEmpty := by
        cases h : p0.bl with
        | nil => simp
        | cons x r => simp
      simp only [ptoks, List.getElem?_cons_zero, Nat.add_zero, hb, mk]
    | succ i =>
      simp only [List.getElem?_cons_succ] at h
      obtain ⟨l, c, h1⟩ := ih (a + p0.bl.length + p0.body.length) (n + 1) i p h
      refine ⟨l, c, ?_⟩
      simp only [ptoks, List.getElem?_cons_succ, h1]
      rw [show n + 1 + i = n + (i + 1) by omega]

/-- The end's piece, behind blanks. -/
def endP (bl : List UInt8) : Piece := ⟨0, bl, [], 0, []⟩

/-- The lexer divides a text into its pieces; the first of them, and the end, may have blanks ahead of them. -/
theorem lx_toks (ls : List Int) (s : ByteArray) (p : Piece) (ps : List Piece) (bl : List UInt8) (hs : s.data.toList = flat (p :: ps) ++ bl) (hg : GoodP bl (p :: ps)) (hbl : ∀ x ∈ bl, isBlank x.toNat = true) :
    ∃ toks, Lx ls s 0 0 toks none ∧ toks.length = ps.length + 2 ∧ (∃ t, toks[0]? = some t ∧ t.kind = p.kind ∧ t.text = mk p.body ∧ t.value = p.value ∧ t.bytes = mk p.bytes ∧ t.joined = false) ∧
      ∀ (i : Nat) (q : Piece), (ps ++ [endP bl])[i]? = some q → ∃ t, toks[i + 1]? = some t ∧ IsOf q t := by
  have hsz : s.size = (flat (p :: ps)).length + bl.length := by rw [← size_list, hs]; simp
  have hu : Upto isBlank s (flat (p :: ps)).length s.size := by
    have := upto_list (s := s) (a := (flat (p :: ps)).length) (q := isBlank) (u := bl) (rest := []) (by rw [hs]; simp) (by omega) hbl (by intro x r e; cases e)
    rw [hsz]; exact this
  have hf := Lx.fin (ls := ls) (n := (p :: ps).length) hu rfl
  have hx := lx_pieces (ls := ls) (s := s) (rest := bl) (out := none) (p :: ps) 0 0 (by omega) (by simpa using hs) hg (by simpa using hf)
  refine ⟨_, hx, by rw [List.length_append, ptoks_length]; rfl, ?_, ?_⟩
  · obtain ⟨l, c, hc⟩ := ptoks_of ls (p :: ps) 0 0 0 p rfl
    refine ⟨_, by rw [List.getElem?_append_left (by rw [ptoks_length]; simp)]; exact hc, rfl, rfl, rfl, rfl, by simp⟩
  · intro i q hi
    by_cases hlt : i < ps.length
    · rw [List.getElem?_append_left hlt] at hi
      obtain ⟨l, c, hc⟩ := ptoks_of ls (p :: ps) 0 0 (i + 1) q (by simpa using hi)
      refine ⟨_, by rw [List.getElem?_append_left (by rw [ptoks_length]; simp; omega)]; exact hc, rfl, rfl, rfl, by simp, rfl⟩
    · have hi' : i = ps.length := by
        have := (List.getElem?_eq_some_iff.1 hi).1
        simp at this
        omega
      subst hi'
      rw [List.getElem?_append_right (Nat.le_refl _), Nat.sub_self] at hi
      simp only [List.getElem?_cons_zero, Option.some.injEq] at hi
      subst hi
      refine ⟨_, by rw [List.getElem?_append_right (by rw [ptoks_length]; simp), ptoks_length]; simp; rfl, rfl, ?_, rfl, ?_, rfl⟩
      · apply ByteArray.ext
        simp [mk, endP]
      · show (!decide ((flat (p :: ps)).length < s.size)) = bl.isEmpty
        cases bl with
        | nil => simp at hsz; simp [hsz]
        | cons x r => simp at hsz; simp [hsz]
end Go.Proofs.YtholnnabakaliaaGreatDoor

namespace Go.Proofs.YtholnnabakaliaaGreatDoor
open Go.RowKit

def symP (bl : List UInt8) (c : UInt8) : Piece := ⟨4, bl, [c], 0, []⟩
def wordP (bl l : List UInt8) : Piece := ⟨1, bl, l, 0, []⟩
def numP (bl l : List UInt8) (v : Int) : Piece := ⟨2, bl, l, v, []⟩
def strP (bl b : List UInt8) : Piece := ⟨3, bl, quoteL b, 0, b⟩

def wordOfP (p : PitchV) : List UInt8 := letterOf p.st :: ((if p.al = -2 then [98, 98] else if p.al = -1 then [98] else []) ++ (if p.al ≤ 0 ∧ p.oc ≠ -1 then octL p.oc else []))
def extraPs (p : PitchV) : List Piece :=
  (if p.al = 2 then [symP [] 35, symP [] 35] else if p.al = 1 then [symP [] 35] else []) ++ (if p.oc = -1 then [symP [] 45, numP [] [49] 1] else if 0 < p.al then [numP [] (octL p.oc) p.oc] else [])
def pitchPs (bl : List UInt8) (p : PitchV) : List Piece := wordP bl (wordOfP p) :: extraPs p
def headPs (bl : List UInt8) (h : HeadV) : List Piece :=
  pitchPs bl h.p ++ (if h.tied = true then [symP [] 126] else []) ++ (if h.sh = 1 then [symP [] 33] else if h.sh = 2 then [symP [] 63] else [])
def gracePs (bl : List UInt8) (g : GraceV) : List Piece :=
  (if g.sl = true then symP bl 47 :: pitchPs [] g.p else pitchPs bl g.p) ++ [symP [] 58, numP [] (powL g.lg) (2 ^ g.lg.toNat)]
def sepPs {α : Type} (f : List UInt8 → α → List Piece) : List UInt8 → List α → List Piece
  | _, [] => []
  | bl, x :: r => f bl x ++ sepPs f [32] r
def valPs (bl : List UInt8) (lg dt : Int) : List Piece := (if lg = -1 then wordP bl [98] else numP bl (powL lg) (2 ^ lg.toNat)) :: List.replicate dt.toNat (symP [] 46)
def headsPs (l : List HeadV) : List Piece := if l.length = 1 then sepPs headPs [32] l else symP [32] 60 :: (sepPs headPs [] l ++ [symP [] 62])
def bodyPs (x : EvV) : List Piece :=
  if x.kind = 3 then [wordP [32] [82]]
  else (if x.kind = 2 then [wordP [32] [114]] else if x.kind = 4 then [wordP [32] [115]] else headsPs x.heads) ++ (symP [] 58 :: valPs [] x.lg x.dt)
def gracesPs (l : List GraceV) : List Piece := if l = [] then [] else wordP [32] [103, 114, 97, 99, 101] :: symP [32] 40 :: (sepPs gracePs [] l ++ [symP [] 41])
def wPs (bl y : List UInt8) : List Piece := [wordP bl y]
def attrPs (l : List (List UInt8)) : List Piece := if l = [] then [] else symP [32] 91 :: (sepPs wPs [] l ++ [symP [] 93])
def syllPs (bl : List UInt8) (y : SyllV) : List Piece :=
  if y.tx.toList.isEmpty = true ∧ y.ln = 2 then [symP bl 95] else strP bl y.tx.data.toList :: (if y.ln = 0 then [] else if y.ln = 1 then [symP [] 45] else [symP [] 95])
def evPs (x : EvV) : List Piece := gracesPs x.graces ++ (bodyPs x ++ (attrPs (wordsB x.ar x.orn x.dy x.stem x.beam) ++ sepPs syllPs [32] x.lyr))

theorem flat_app (a b : List Piece) : flat (a ++ b) = flat a ++ flat b := List.flatMap_append
theorem flat_cons (p : Piece) (b : List Piece) : flat (p :: b) = p.bl ++ p.body ++ flat b := by simp [flat]
theorem flat_nil : flat [] = [] := rfl

theorem al_cases {p : PitchV} (h : pitchE p = 0) : p.al = -2 ∨ p.al = -1 ∨ p.al = 0 ∨ p.al = 1 ∨ p.al = 2 := by
  unfold pitchE at h
  split at h
  · cases h
  · rename_i ho; unfold pitchOut at ho; omega
theorem oc_cases {p : PitchV} (h : pitchE p = 0) : -1 ≤ p.oc ∧ p.oc ≤ 9 ∧ 0 ≤ p.st ∧ p.st ≤ 6 := by
  unfold pitchE at h
  split at h
  · cases h
  · rename_i ho; unfold pitchOut at ho; omega

theorem flat_pitch {p : PitchV} (h : pitchE p = 0) (bl : List UInt8) : flat (pitchPs bl p) = bl ++ pitchL p := by
  have ha := al_cases h
  unfold pitchPs extraPs wordOfP pitchL signL
  by_cases hm : p.oc = -1
  · rcases ha with ha | ha | ha | ha | ha <;> simp [ha, hm, flat, symP, wordP, numP, octL]
  · rcases ha with ha | ha | ha | ha | ha <;> simp [ha, hm, flat, symP, wordP, numP, octL]
theorem flat_head {x : HeadV} (h : HeadOk x) (bl : List UInt8) : flat (headPs bl x) = bl ++ headL x := by
  have hs := h.2
  unfold headPs headL showL
  rw [flat_app, flat_app, flat_pitch h.1]
  cases x.tied <;> rcases hs with hs | hs | hs <;> simp [hs, flat, symP]
theorem flat_grace {x : GraceV} (h : GraceOk x) (bl : List UInt8) : flat (gracePs bl x) = bl ++ graceL x := by
  unfold gracePs graceL
  cases hs : x.sl <;> simp [flat_app, flat_pitch h.1, flat_cons, flat_nil, symP, numP]
theorem flat_val (bl : List UInt8) (lg dt : Int) : flat (valPs bl lg dt) = bl ++ valueL lg dt := by
  have hr : ∀ n, flat (List.replicate n (symP [] 46)) = List.replicate n 46 := by
    intro n
    induction n with
    | zero => rfl
    | succ k ih => rw [List.replicate_succ, flat_cons, ih]; rfl
  unfold valPs valueL
  rw [flat_cons, hr]
  split <;> simp [wordP, numP]
theorem flat_syll (x : SyllV) (bl : List UInt8) : flat (syllPs bl x) = bl ++ syllL x := by
  unfold syllPs syllL linkL
  split
  · simp [flat, symP]
  · repeat' split
    all_goals simp [flat, symP, strP]
theorem flat_sep {α : Type} {f : List UInt8 → α → List Piece} {g : α → List UInt8} : ∀ (l : List α), (∀ x ∈ l, ∀ bl, flat (f bl x) = bl ++ g x) → flat (sepPs f [32] l) = blanks (l.map g)
  | [], _ => rfl
  | x :: r, h => by
    rw [sepPs, flat_app, h x List.mem_cons_self, flat_sep r fun y hy => h y (List.mem_cons_of_mem _ hy)]
    simp [blanks]
theorem flat_sep0 {α : Type} {f : List UInt8 → α → List Piece} {g : α → List UInt8} (l : List α) (h : ∀ x ∈ l, ∀ bl, flat (f bl x) = bl ++ g x) : flat (sepPs f [] l) = joinL (l.map g) := by
  cases l with
  | nil => rfl
  | cons x r =>
    rw [sepPs, flat_app, h x List.mem_cons_self, flat_sep r fun y hy => h y (List.mem_cons_of_mem _ hy)]
    simp [joinL, blanks]
theorem flat_sep1 {α : Type} {f : List UInt8 → α → List Piece} {g : α → List UInt8} (l : List α) (h : ∀ x ∈ l, ∀ bl, flat (f bl x) = bl ++ g x) (hn : l ≠ []) : flat (sepPs f [32] l) = 32 :: joinL (l.map g) := by
  rw [flat_sep l h, blanks_join (by simpa using hn)]
theorem flat_w (y bl : List UInt8) : flat (wPs bl y) = bl ++ y := by simp [flat, wPs, wordP]

theorem flat_body {x : EvV} (h : EvOk x) : flat (bodyPs x) = 32 :: bodyL x := by
  have hf : ∀ y ∈ x.heads, ∀ bl, flat (headPs bl y) = bl ++ headL y := fun y hy bl => flat_head (h.hok y hy) bl
  have hk := h.kd
  unfold bodyPs bodyL
  rcases hk with hk | hk | hk | hk
  · have hp := h.hp hk
    have hn : x.heads ≠ [] := by intro e; rw [e] at hp; cases hp
    simp only [hk, Int.reduceEq, if_false]
    rw [flat_app, flat_cons, flat_val]
    unfold headsPs headsTextL
    split
    · rw [flat_sep1 _ hf hn]; simp [symP]
    · rw [flat_cons, flat_app, flat_sep0 _ hf, flat_cons, flat_nil]; simp [symP]
  · simp [hk, flat_cons, flat_val, symP, wordP]
  · simp [hk, flat_cons, flat_nil, wordP]
  · simp [hk, flat_cons, flat_val, symP, wordP]

/-- The pieces of an event's text, with a blank ahead of it. -/
theorem flat_ev {x : EvV} (h : EvOk x) : flat (evPs x) = 32 :: textL x := by
  rw [textL, ← blanks_join (parts_ne x)]
  unfold evPs partsL
  rw [blanks_append, blanks_append, blanks_append, flat_app, flat_app, flat_app, flat_body h]
  have e1 : flat (gracesPs x.graces) = blanks (if x.graces = [] then [] else [[103, 114, 97, 99, 101], [40] ++ joinL (x.graces.map graceL) ++ [41]]) := by
    unfold gracesPs
    split
    · rfl
    · rw [flat_cons, flat_cons, flat_app, flat_sep0 (g := graceL) _ fun y hy bl => flat_grace (h.gok y hy) bl, flat_cons, flat_nil]
      simp [wordP, symP, blanks]
  have e2 : flat (attrPs (wordsB x.ar x.orn x.dy x.stem x.beam)) = blanks (if wordsB x.ar x.orn x.dy x.stem x.beam = [] then [] else [[91] ++ joinL (wordsB x.ar x.orn x.dy x.stem x.beam) ++ [93]]) := by
    unfold attrPs
    split
    · rfl
    · rw [flat_cons, flat_app, flat_sep0 (g := id) _ fun y _ bl => flat_w y bl, flat_cons, flat_nil, List.map_id]
      simp [symP, blanks]
  rw [e1, e2, flat_sep (g := syllL) _ fun y _ bl => flat_syll y bl]
  simp [blanks]
end Go.Proofs.YtholnnabakaliaaGreatDoor
