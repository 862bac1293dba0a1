/- Towards the law ParserEvents, true for every text (no condition): one part of the proof. -/
import Derived.Test.YtgkhemnmcgicnaaGreatDoorG05
import Derived.Test.YtgkhemnmcgicnaaGreatDoorG06
import Derived.Test.YtgkhemnmcgicnaaGreatDoorG01
import Derived.Laws.Rows
import Derived.Laws.Tables
namespace Go.Proofs.YtgkhemnmcgicnaaGreatDoor
open Go.RowKit
inductive Lx (ls : List Int) (s : ByteArray) : Nat -> Nat -> List Tok -> Option (Nat × Int) -> Prop
 | fin {a b n : Nat} (hu : Skip s a b) (hb : b = s.size) : Lx ls s a n [⟨0, s.extract b b, 0, ByteArray.empty, plL ls b, plC ls b, !decide (a < b) && decide (0 < n)⟩] none
 | word {a b c n : Nat} {toks : List Tok} {out : Option (Nat × Int)} (hu : Skip s a b) (hb : b < s.size) (hc : isLetter s[b].toNat = true) (hw : Upto isInWord s b c) (hl : c <= b + 64) (h : Lx ls s c (n + 1) toks out) :
   Lx ls s a n (⟨1, s.extract b c, 0, ByteArray.empty, plL ls b, plC ls b, !decide (a < b) && decide (0 < n)⟩ :: toks) out
 | wordLong {a b c n : Nat} (hu : Skip s a b) (hb : b < s.size) (hc : isLetter s[b].toNat = true) (hw : Upto isInWord s b c) (hl : b + 64 < c) : Lx ls s a n [] (some (b, 5))
 | number {a b c n : Nat} {toks : List Tok} {out : Option (Nat × Int)} (v : Int) (hu : Skip s a b) (hb : b < s.size) (hc : isDigit s[b].toNat = true) (hw : Upto isDigit s b c) (hl : c <= b + 15) (hv : Lib.atoi (s.extract b c).data.toList = some v) (h : Lx ls s c (n + 1) toks out) :
   Lx ls s a n (⟨2, s.extract b c, v, ByteArray.empty, plL ls b, plC ls b, !decide (a < b) && decide (0 < n)⟩ :: toks) out
 | long {a b c n : Nat} (hu : Skip s a b) (hb : b < s.size) (hc : isDigit s[b].toNat = true) (hw : Upto isDigit s b c) (hl : b + 15 < c) : Lx ls s a n [] (some (b, 5))
 | str {a b c n : Nat} {toks : List Tok} {out : Option (Nat × Int)} {bytes : List UInt8} (hu : Skip s a b) (hb : b < s.size) (hc : s[b].toNat = 34) (hR : StrR s (b + 1) [] (.hit c bytes)) (h : Lx ls s c (n + 1) toks out) :
   Lx ls s a n (⟨3, s.extract b c, 0, mk bytes, plL ls b, plC ls b, !decide (a < b) && decide (0 < n)⟩ :: toks) out
 | strShort {a b n : Nat} (hu : Skip s a b) (hb : b < s.size) (hc : s[b].toNat = 34) (hR : StrR s (b + 1) [] .short) : Lx ls s a n [] (some (b, 4))
 | strWrong {a b n p : Nat} (hu : Skip s a b) (hb : b < s.size) (hc : s[b].toNat = 34) (hR : StrR s (b + 1) [] (.wrong p)) : Lx ls s a n [] (some (p, 6))
 | sym {a b n : Nat} {toks : List Tok} {out : Option (Nat × Int)} (hu : Skip s a b) (hb : b < s.size) (h1 : isLetter s[b].toNat = false) (h2 : isDigit s[b].toNat = false) (h3 : s[b].toNat ≠ 34) (hc : 0 <= Lib.indexByte symbols s[b].toNat.toUInt8) (h : Lx ls s (b + 1) (n + 1) toks out) :
   Lx ls s a n (⟨4, s.extract b (b + 1), 0, ByteArray.empty, plL ls b, plC ls b, !decide (a < b) && decide (0 < n)⟩ :: toks) out
 | none {a b n : Nat} (hu : Skip s a b) (hb : b < s.size) (h1 : isLetter s[b].toNat = false) (h2 : isDigit s[b].toNat = false) (h3 : s[b].toNat ≠ 34) (hc : Lib.indexByte symbols s[b].toNat.toUInt8 = -1) : Lx ls s a n [] (some (b, 6))
def cellsOf (l : List Tok) : List Value := l.flatMap Tok.cells
def After (ls : List Int) (B X : Nat) (ks : List (Nat × Obj)) (s : ByteArray) (lines : Value) (_b n : Nat) (_lv : Value) (xs : List Value) (wr : Int) (w0 : World) (toks : List Tok) (out : Option (Nat × Int)) (w : World) : Prop :=
 (∃ t toks' lv' c, toks = t :: toks' /\ Lx ls s c (n + 1) toks' out /\ Scn B X ks s lines (c : Nat) lv' (n + 1) (xs ++ t.cells) 0 wr w0 w) \/
 (∃ (b' pos' n' : Nat) (e' : Int) (lv' : Value) (xs' : List Value), toks = [] /\ out = some (b', e') /\ e' ≠ 0 /\ Scn B X ks s lines (pos' : Nat) lv' n' xs' e' (b' : Nat) w0 w)
theorem digit_no {c : Nat} (h : isDigit c = true) : ((c : Nat) : Int) ≠ 37 /\ isLetter c = false := by
 simp only [isDigit, Bool.and_eq_true, decide_eq_true_eq] at h
 refine ⟨by omega, ?_⟩
 have h1 : ¬ 97 <= c := by omega
 have h2 : ¬ 65 <= c := by omega
 simp [isLetter, h1, h2]
def Step (ls : List Int) (s : ByteArray) (a n : Nat) (toks : List Tok) (out : Option (Nat × Int)) : Prop :=
 (∃ b, Skip s a b /\ b = s.size /\ toks = [⟨0, s.extract b b, 0, ByteArray.empty, plL ls b, plC ls b, !decide (a < b) && decide (0 < n)⟩] /\ out = none) \/
  (∃ b p, Skip s a b /\ b < s.size /\ p < 4 /\
   ∀ (B X : Nat) (ks : List (Nat × Obj)) (LN lv : Value) (xs : List Value) (wr : Int) (w0 w : World), LinesAt LN ls ks -> Scn B X ks s LN b lv n xs 0 wr w0 w ->
    (∀ i, i < p -> Misses (81 + i) X (!decide (a < b)) w) /\ Hits (81 + p) X (!decide (a < b)) w (After ls B X ks s LN b n lv xs wr w0 toks out)) \/
  (∃ b, Skip s a b /\ b < s.size /\ toks = [] /\ out = some (b, 6) /\
   ∀ (B X : Nat) (ks : List (Nat × Obj)) (LN lv : Value) (xs : List Value) (wr : Int) (w0 w : World), LinesAt LN ls ks -> Scn B X ks s LN b lv n xs 0 wr w0 w ->
    (∀ i, i < 4 -> Misses (81 + i) X (!decide (a < b)) w))
theorem lx_step {ls : List Int} (gL : Lines ls) {s : ByteArray} {a n : Nat} {toks : List Tok} {out : Option (Nat × Int)} (h : Lx ls s a n toks out) (hsz : s.size <= 4000) (hn : n <= 1048576) : Step ls s a n toks out := by
 cases h with
 | fin hu hb => exact .inl ⟨_, hu, hb, rfl, rfl⟩
 | @word _ b c _ toks' _ hu hb hc hw hl h =>
  refine .inr (.inl ⟨b, 0, hu, hb, by omega, fun B X ks LN lv xs wr w0 w hL hS => ⟨fun i hi => absurd hi (by omega), fun w' b' => ?_⟩⟩)
  refine (word_hit (hS.step b') hL gL (by omega) hn hb hc c hw hl _).mono ?_
  rintro e w'' ⟨rfl, lv', hS'⟩
  exact ⟨rfl, .inl ⟨_, _, lv', c, rfl, h, hS'⟩⟩
 | @wordLong _ b c _ hu hb hc hw hl =>
  refine .inr (.inl ⟨b, 0, hu, hb, by omega, fun B X ks LN lv xs wr w0 w hL hS => ⟨fun i hi => absurd hi (by omega), fun w' b' => ?_⟩⟩)
  refine (word_long (hS.step b') hL gL (by omega) hn hb hc c hw hl _).mono ?_
  rintro e w'' ⟨rfl, lv', xs', hS'⟩
  exact ⟨rfl, .inr ⟨b, c, _, 5, lv', xs', rfl, rfl, by decide, hS'⟩⟩
 | @number _ b c _ toks' _ v hu hb hc hw hl hv h =>
  refine .inr (.inl ⟨b, 1, hu, hb, by omega, fun B X ks LN lv xs wr w0 w hL hS => ⟨fun i hi => ?_, fun w' b' => ?_⟩⟩)
  ·obtain rfl : i = 0 := by omega
   exact fun w' b' => word_miss (hS.step b') hb (digit_no hc).2 _
  ·refine (number_hit (hS.step b') hL gL (by omega) hn hb hc c hw hl v hv _).mono ?_
   rintro e w'' ⟨rfl, lv', hS'⟩
   exact ⟨rfl, .inl ⟨_, _, lv', c, rfl, h, hS'⟩⟩
 | @long _ b c _ hu hb hc hw hl =>
  refine .inr (.inl ⟨b, 1, hu, hb, by omega, fun B X ks LN lv xs wr w0 w hL hS => ⟨fun i hi => ?_, fun w' b' => ?_⟩⟩)
  ·obtain rfl : i = 0 := by omega
   exact fun w' b' => word_miss (hS.step b') hb (digit_no hc).2 _
  ·refine (number_long (hS.step b') (by omega) hb hc c hw hl _).mono ?_
   rintro e w'' ⟨rfl, hS'⟩
   exact ⟨rfl, .inr ⟨b, b, _, 5, lv, xs, rfl, rfl, by decide, hS'⟩⟩
 | @str _ b c _ toks' _ bytes hu hb hc hR h =>
  refine .inr (.inl ⟨b, 2, hu, hb, by omega, fun B X ks LN lv xs wr w0 w hL hS => ⟨fun i hi => ?_, fun w' b' => ?_⟩⟩)
  ·rcases (by omega : i = 0 \/ i = 1) with rfl | rfl
   ·exact fun w' b' => word_miss (hS.step b') hb (by rw [hc]; decide) _
   ·exact fun w' b' => number_miss (hS.step b') hb (by rw [hc]; decide) _
  ·refine (text_any (hS.step b') hL gL hsz hn hb hc hR _).mono ?_
   rintro e w'' ⟨rfl, lv', hS'⟩
   exact ⟨rfl, .inl ⟨_, _, lv', c, rfl, h, hS'⟩⟩
 | @strShort _ b _ hu hb hc hR =>
  refine .inr (.inl ⟨b, 2, hu, hb, by omega, fun B X ks LN lv xs wr w0 w hL hS => ⟨fun i hi => ?_, fun w' b' => ?_⟩⟩)
  ·rcases (by omega : i = 0 \/ i = 1) with rfl | rfl
   ·exact fun w' b' => word_miss (hS.step b') hb (by rw [hc]; decide) _
   ·exact fun w' b' => number_miss (hS.step b') hb (by rw [hc]; decide) _
  ·refine (text_any (hS.step b') hL gL hsz hn hb hc hR _).mono ?_
   rintro e w'' ⟨rfl, hS'⟩
   exact ⟨rfl, .inr ⟨b, b, _, 4, lv, xs, rfl, rfl, by decide, hS'⟩⟩
 | @strWrong _ b _ p hu hb hc hR =>
  refine .inr (.inl ⟨b, 2, hu, hb, by omega, fun B X ks LN lv xs wr w0 w hL hS => ⟨fun i hi => ?_, fun w' b' => ?_⟩⟩)
  ·rcases (by omega : i = 0 \/ i = 1) with rfl | rfl
   ·exact fun w' b' => word_miss (hS.step b') hb (by rw [hc]; decide) _
   ·exact fun w' b' => number_miss (hS.step b') hb (by rw [hc]; decide) _
  ·refine (text_any (hS.step b') hL gL hsz hn hb hc hR _).mono ?_
   rintro e w'' ⟨rfl, hS'⟩
   exact ⟨rfl, .inr ⟨p, b, _, 6, lv, xs, rfl, rfl, by decide, hS'⟩⟩
 | @sym _ b _ toks' _ hu hb h1 h2 h3 hc h =>
  refine .inr (.inl ⟨b, 3, hu, hb, by omega, fun B X ks LN lv xs wr w0 w hL hS => ⟨fun i hi => ?_, fun w' b' => ?_⟩⟩)
  ·rcases (by omega : i = 0 \/ i = 1 \/ i = 2) with rfl | rfl | rfl
   ·exact fun w' b' => word_miss (hS.step b') hb h1 _
   ·exact fun w' b' => number_miss (hS.step b') hb h2 _
   ·exact fun w' b' => text_miss (hS.step b') hb (by omega) _
  ·refine (symbol_hit (hS.step b') hL gL (by omega) hn hb hc _).mono ?_
   rintro e w'' ⟨rfl, lv', hS'⟩
   exact ⟨rfl, .inl ⟨_, _, lv', b + 1, rfl, h, hS'⟩⟩
 | @none _ b _ hu hb h1 h2 h3 hc =>
  refine .inr (.inr ⟨b, hu, hb, rfl, rfl, fun B X ks LN lv xs wr w0 w hL hS i hi => ?_⟩)
  rcases (by omega : i = 0 \/ i = 1 \/ i = 2 \/ i = 3) with rfl | rfl | rfl | rfl
  ·exact fun w' b' => word_miss (hS.step b') hb h1 _
  ·exact fun w' b' => number_miss (hS.step b') hb h2 _
  ·exact fun w' b' => text_miss (hS.step b') hb (by omega) _
  ·exact fun w' b' => symbol_miss (hS.step b') hb hc _
theorem sym_all : (List.range 256).all (fun n => decide (Lib.indexByte symbols n.toUInt8 = -1) || decide (0 <= Lib.indexByte symbols n.toUInt8)) = true := by decide +kernel
theorem sym_cases (c : Nat) (hc : c < 256) : Lib.indexByte symbols c.toUInt8 = -1 \/ 0 <= Lib.indexByte symbols c.toUInt8 := by
 have h := List.all_eq_true.1 sym_all c (List.mem_range.2 hc)
 simpa only [Bool.or_eq_true, decide_eq_true_eq] using h
theorem lx_ex (ls : List Int) (s : ByteArray) (hat : ∀ b c, b < c -> c <= b + 15 -> c <= s.size -> (∀ k (h : k < s.size), b <= k -> k < c -> isDigit s[k].toNat = true) -> ∃ v, Lib.atoi (s.extract b c).data.toList = some v) :
  ∀ (m a n : Nat), s.size - a <= m -> a <= s.size -> ∃ toks out, Lx ls s a n toks out
 | 0, a, n, hm, ha => ⟨_, _, .fin (.stop ha fun h => by omega) (by omega)⟩
 | m + 1, a, n, hm, ha => by
  obtain ⟨b, hu⟩ := skip_ex s _ a (Nat.le_refl _) ha
  have hle := hu.le
  by_cases hb : b < s.size
  ·cases h1 : isLetter s[b].toNat with
   | true =>
    obtain ⟨c, hw⟩ := upto_ex isInWord s _ b rfl hle.2
    have hlt := upto_lt hw hb (by unfold isInWord; rw [h1]; rfl)
    by_cases hl : c <= b + 64
    ·obtain ⟨toks, out, h⟩ := lx_ex ls s hat m c (n + 1) (by omega) hw.bs
     exact ⟨_, _, .word hu hb h1 hw hl h⟩
    ·exact ⟨_, _, .wordLong hu hb h1 hw (by omega)⟩
   | false =>
    cases h2 : isDigit s[b].toNat with
    | true =>
     obtain ⟨c, hw⟩ := upto_ex isDigit s _ b rfl hle.2
     have hlt := upto_lt hw hb h2
     by_cases hl : c <= b + 15
     ·obtain ⟨toks, out, h⟩ := lx_ex ls s hat m c (n + 1) (by omega) hw.bs
      obtain ⟨v, hv⟩ := hat b c hlt hl hw.bs (fun k h h3 h4 => hw.ins k h h3 h4)
      exact ⟨_, _, .number v hu hb h2 hw hl hv h⟩
     ·exact ⟨_, _, .long hu hb h2 hw (by omega)⟩
    | false =>
     by_cases h3 : s[b].toNat = 34
     ·obtain ⟨o, hR⟩ := str_ex s _ (b + 1) [] (Nat.le_refl _)
      cases o with
      | hit c bytes =>
       have hc := hR.le c bytes rfl
       obtain ⟨toks, out, h⟩ := lx_ex ls s hat m c (n + 1) (by omega) hc.2
       exact ⟨_, _, .str hu hb h3 hR h⟩
      | short => exact ⟨_, _, .strShort hu hb h3 hR⟩
      | wrong p => exact ⟨_, _, .strWrong hu hb h3 hR⟩
     ·rcases sym_cases s[b].toNat s[b].toNat_lt with hc | hc
      ·exact ⟨_, _, .none hu hb h1 h2 h3 hc⟩
      ·obtain ⟨toks, out, h⟩ := lx_ex ls s hat m (b + 1) (n + 1) (by omega) (by omega)
       exact ⟨_, _, .sym hu hb h1 h2 h3 hc h⟩
  ·exact ⟨_, _, .fin hu (by omega)⟩
set_option maxHeartbeats 16000000
set_option maxRecDepth 100000
section
variable {B X : Nat} {ks : List (Nat × Obj)} {s : ByteArray} {lines : Value} {pos : Int} {lv : Value} {n : Nat} {xs : List Value} {e wr : Int} {w0 w : World}
theorem LinesAt.more {LN : Value} {ls : List Int} {ks : List (Nat × Obj)} {p : Nat × Obj} (h : LinesAt LN ls ks) : LinesAt LN ls (p :: ks) := by
 obtain ⟨L, cap, cs, h1, h2, h3⟩ := h
 exact ⟨L, cap, cs, h1, List.mem_cons_of_mem _ h2, h3⟩
theorem Scn.more (h : Scn B X ks s lines pos lv n xs e wr w0 w) {k : Nat} {o : Obj} (hk : w.heap[k]? = some o) (hX : k ≠ X) (hB : B <= k) (ho : ∀ cs fr, o ≠ .cells cs 59 fr) : Scn B X ((k, o) :: ks) s lines pos lv n xs e wr w0 w :=
 ⟨h.hX, h.hB, h.blk, h.own, fun p hp => by
  rcases List.mem_cons.1 hp with rfl | hp
  ·exact ⟨hk, hX, hB, ho⟩
  ·exact h.keep p hp, h.below⟩
theorem Scn.less {p : Nat × Obj} (h : Scn B X (p :: ks) s lines pos lv n xs e wr w0 w) : Scn B X ks s lines pos lv n xs e wr w0 w :=
 ⟨h.hX, h.hB, h.blk, h.own, fun q hq => h.keep q (List.mem_cons_of_mem _ hq), h.below⟩
end
theorem Scn.box {B X : Nat} {ks : List (Nat × Obj)} {s : ByteArray} {lines : Value} {pos : Int} {lv : Value} {n : Nat} {xs : List Value} {e wr : Int} {w0 w : World} (h : Scn B X ks s lines pos lv n xs e wr w0 w) {k : Nat} {v : Value} {T : TypeId} (hk : (k, Obj.cells #[v] T (0, 0)) ∈ ks) : w.cell? ⟨k, 0, none⟩ = some v := by
 rw [Lib.cell_of_heap (h.keep _ hk).1]; rfl
inductive Going (ls : List Int) (B X : Nat) (ks : List (Nat × Obj)) (s : ByteArray) (lines : Value) (wr : Int) (w0 : World) (N : Nat) (all : List Value) (out : Option (Nat × Int)) (g : Nat) (w : World) : Prop
 | on (a n : Nat) (toks : List Tok) (lv : Value) (xs : List Value) (h : Lx ls s a n toks out) (hS : Scn B X ks s lines a lv n xs 0 wr w0 w) (hN : n + toks.length = N) (hall : xs ++ cellsOf toks = all) (hg : toks.length < g)
 | failed (b n : Nat) (e : Int) (he : e ≠ 0) (pos : Nat) (lv : Value) (xs : List Value) (hout : out = some (b, e)) (hS : Scn B X ks s lines pos lv n xs e b w0 w)
def Ended (B X : Nat) (ks : List (Nat × Obj)) (s : ByteArray) (lines : Value) (wr : Int) (w0 : World) (N : Nat) (all : List Value) (out : Option (Nat × Int)) (w : World) : Prop :=
 (out = none /\ ∃ (pos : Nat) (lv : Value), Scn B X ks s lines pos lv N all 0 wr w0 w) \/
 (∃ (b pos n : Nat) (e : Int) (lv : Value) (xs : List Value), e ≠ 0 /\ out = some (b, e) /\ Scn B X ks s lines pos lv n xs e b w0 w)
section
variable {LN : Value} {ls : List Int} {B X : Nat} {ks : List (Nat × Obj)} {s : ByteArray} {lv : Value} {n a : Nat} {xs : List Value} {wz : Int} {w0 w : World} {toks : List Tok} {out : Option (Nat × Int)}
theorem scan_walk (hx : Lx ls s a n toks out) (h : Scn B X ks s LN a lv n xs 0 wz w0 w) (hL : LinesAt LN ls ks) (gL : Lines ls) (hsz : s.size <= 4000) (hn : n + toks.length <= 262143) :
  Calls Tryz.prog 41 #[.pointer (some ⟨X, 0, none⟩)] w fun r w' => r = .returned (.tuple #[]) /\ Ended B X ks s LN wz w0 (n + toks.length) (xs ++ cellsOf toks) out w' := by
 have hlt := h.lt
 have hBw := h.hB
 have hW : Scn B X ((w.heap.size + 1, takersRow) :: (w.heap.size, .cells #[.pointer (some ⟨X, 0, none⟩)] 105 (0, 0)) :: ks) s LN a lv n xs 0 wz w0 ((w.alloc (.cells #[.pointer (some ⟨X, 0, none⟩)] 105)).alloc takersRow) := by
  refine Scn.more (Scn.more (h.step (((Below.refl _ w).alloc (Nat.le_refl _) _).alloc (by simp) _)) ?_ (by omega) hBw (by intro cs fr hc; injection hc with _ h2 _; exact absurd h2 (by decide))) ?_ (by omega) (by omega) (by intro cs fr hc; injection hc with _ h2 _; exact absurd h2 (by decide))
  ·exact (Lib.alloc_old _ _ _ (by simp)).trans (heap_alloc_new w _)
  ·have := heap_alloc_new (w.alloc (.cells #[.pointer (some ⟨X, 0, none⟩)] 105)) takersRow
   simpa using this
 generalize hBx : w.heap.size = Bx at hW hlt hBw
 go_enter Tryz.func41, Tryz.ntmps41
 go_wp2
 generalize hV : ((w.alloc (.cells #[.pointer (some ⟨X, 0, none⟩)] 105)).alloc (.cells #[.func (.func 81) #[] #[], .func (.func 82) #[] #[], .func (.func 83) #[] #[], .func (.func 84) #[] #[]] 153)) = V
 have hW' : Scn B X ((Bx + 1, takersRow) :: (Bx, .cells #[.pointer (some ⟨X, 0, none⟩)] 105 (0, 0)) :: ks) s LN a lv n xs 0 wz w0 V := by rw [<- hV]; exact hW
 clear hW hV h hlt hBw hBx
 go_loopg [3] (toks.length + 1) (fun g v wr' => Going ls B X ((Bx + 1, takersRow) :: (Bx, .cells #[.pointer (some ⟨X, 0, none⟩)] 105 (0, 0)) :: ks) s LN wz w0 (n + toks.length) (xs ++ cellsOf toks) out g wr')
 case atStart => exact .on a n toks lv xs hx hW' rfl rfl (by omega)
 case round =>
  clear hW' hx
  cases hrel with
  | failed b n' e he pos lv' xs' hout hS =>
   have d4 := hS.c4
   have k1 : wr.cell? ⟨Bx, 0, none⟩ = some (.pointer (some ⟨X, 0, none⟩)) := hS.box (T := 105) (by simp)
   have hfin : Ended B X ks s LN wz w0 (n + toks.length) (xs ++ cellsOf toks) out wr := .inr ⟨b, pos, n', e, lv', xs', he, hout, hS.less.less⟩
   clear hS
   go_wp2
   go_end0
   exact ⟨rfl, hfin⟩
  | on a n' toks' lv' xs' hx' hS hN hall hg =>
   have d4 := hS.c4
   have k1 : wr.cell? ⟨Bx, 0, none⟩ = some (.pointer (some ⟨X, 0, none⟩)) := hS.box (T := 105) (by simp)
   rcases lx_step gL hx' hsz (by omega) with ⟨b, hu, hb, htoks, hout⟩ | ⟨b, p, hu, hb, hp, hstep⟩ | ⟨b, hu, hb, rfl, hout, hstep⟩
   ·have hsk := skip_any hS (by omega) b hu
    clear hS
    go_wp2_with (go_at_call 85; refine hsk.mono ?_)
    rintro e w2 ⟨rfl, hS2⟩
    have k2 : w2.cell? ⟨Bx, 0, none⟩ = some (.pointer (some ⟨X, 0, none⟩)) := hS2.box (T := 105) (by simp)
    clear d4 k1
    subst hb
    go_wp2
    have hj3 : (w2.alloc (.cells #[.bool (!decide (a < s.size))] 4)).cell? ⟨w2.heap.size, 0, none⟩ = some (.bool (!decide (a < s.size))) := by rw [Lib.cell_of_heap (heap_alloc_new w2 _)]; rfl
    have hS3 := hS2.step ((Below.refl _ w2).alloc (Nat.le_refl _) (.cells #[.bool (!decide (a < s.size))] 4))
    generalize hV3 : w2.alloc (.cells #[.bool (!decide (a < s.size))] 4) = V3 at hS3 hj3 ⊢
    generalize w2.heap.size = Bj at hj3 ⊢
    clear hV3 hS2 k2
    have k3 : V3.cell? ⟨Bx, 0, none⟩ = some (.pointer (some ⟨X, 0, none⟩)) := hS3.box (T := 105) (by simp)
    have c30 := hS3.c0
    have c31 := hS3.c1
    go_quiet (fail)
    have hS4 := hS3.step (belowDrewN (Below.refl _ V3) nq)
    have j4 : (V3.drewN nq).cell? ⟨Bj, 0, none⟩ = some (.bool (!decide (a < s.size))) := hj3
    generalize V3.drewN nq = V4 at hS4 j4 ⊢
    have k4 : V4.cell? ⟨Bx, 0, none⟩ = some (.pointer (some ⟨X, 0, none⟩)) := hS4.box (T := 105) (by simp)
    have c41 := hS4.c1
    clear hS3 hj3 k3 c30 c31
    go_wp2
    go_still_tail 7, (by kernel_rfl)
    change wpList _ _ _ _ _ V4.drew
    have hS5 := hS4.step ((Below.refl _ V4).drew)
    generalize V4.drew = V5 at hS5 ⊢
    clear k4 c41 j4 hS4
    have hadd := add_walk hS5 hL.more.more gL (by omega) (by omega) s.size (Nat.le_refl _) (Nat.le_refl _) 0 0 ByteArray.empty (!decide (a < s.size))
    go_wp2_with (go_at_call 86; refine hadd.mono ?_)
    rintro e w6 ⟨rfl, lv6, hS6⟩
    go_wp2
    refine bodyPost_ret (results_none rfl _ _ _) rfl ?_
    refine ⟨rfl, .inl ⟨hout, s.size, lv6, ?_⟩⟩
    subst htoks
    have e1 : n + toks.length = n' + 1 := by rw [<- hN]; rfl
    rw [e1, <- hall]
    simpa [cellsOf] using hS6.less.less
   ·have hj : p < 4 := hp
    have hsk := skip_any hS (by omega) b hu
    clear hS
    go_wp2_with (go_at_call 85; refine hsk.mono ?_)
    rintro e w2 ⟨rfl, hS2⟩
    have k2 : w2.cell? ⟨Bx, 0, none⟩ = some (.pointer (some ⟨X, 0, none⟩)) := hS2.box (T := 105) (by simp)
    clear d4 k1
    go_wp2
    have hj3 : (w2.alloc (.cells #[.bool (!decide (a < b))] 4)).cell? ⟨w2.heap.size, 0, none⟩ = some (.bool (!decide (a < b))) := by rw [Lib.cell_of_heap (heap_alloc_new w2 _)]; rfl
    have hS3 := hS2.step ((Below.refl _ w2).alloc (Nat.le_refl _) (.cells #[.bool (!decide (a < b))] 4))
    generalize hV3 : w2.alloc (.cells #[.bool (!decide (a < b))] 4) = V3 at hS3 hj3 ⊢
    generalize w2.heap.size = Bj at hj3 ⊢
    clear hV3 hS2 k2
    have k3 : V3.cell? ⟨Bx, 0, none⟩ = some (.pointer (some ⟨X, 0, none⟩)) := hS3.box (T := 105) (by simp)
    have c30 := hS3.c0
    have c31 := hS3.c1
    have hne : ¬ ((b : Int) = (s.size : Int)) := by omega
    go_quiet (fail)
    have hS4 := hS3.step (belowDrewN (Below.refl _ V3) nq)
    have j4 : (V3.drewN nq).cell? ⟨Bj, 0, none⟩ = some (.bool (!decide (a < b))) := hj3
    generalize V3.drewN nq = V4 at hS4 j4 ⊢
    have k4 : V4.cell? ⟨Bx, 0, none⟩ = some (.pointer (some ⟨X, 0, none⟩)) := hS4.box (T := 105) (by simp)
    obtain ⟨ao, cp, rfl⟩ := hS4.lvIs
    have c43 := hS4.c3
    have hne2 : ¬ ((n' : Int) = 262144) := by omega
    obtain ⟨hmiss, hhit⟩ := hstep B X _ _ _ _ wz w0 _ hL.more.more hS4
    have hK : V4.heap[Bx + 1]? = some takersRow := (hS4.keep (Bx + 1, takersRow) (by simp)).1
    have htk := takes_walk p hp hK k4 j4 hmiss hhit
    clear hS3 hj3 k3 c30 c31 hmiss hhit hsk hS4 hstep
    go_wp2_with (go_at_call 88; refine htk.mono ?_)
    rintro e w6 ⟨rfl, hA⟩
    go_wp2
    rcases hA with ⟨t, tk, lv2, c, rfl, hx2, hS2⟩ | ⟨b', pos', n2, e', lv2, xs2, rfl, hout, he', hS2⟩
    ·go_roundg (gk - 1)
     case measure => simp only [List.length_cons] at hg; omega
     case rel =>
      refine .on c (n' + 1) tk lv2 _ hx2 hS2 ?_ ?_ ?_
      ·rw [<- hN]; simp only [List.length_cons]; omega
      ·rw [<- hall]; simp [cellsOf]
      ·simp only [List.length_cons] at hg; omega
    ·go_roundg 0
     case measure => simp only [List.length_nil] at hg; omega
     case rel => exact .failed b' n2 e' he' pos' _ _ hout hS2
   ·have hsk := skip_any hS (by omega) b hu
    clear hS
    go_wp2_with (go_at_call 85; refine hsk.mono ?_)
    rintro e w2 ⟨rfl, hS2⟩
    have k2 : w2.cell? ⟨Bx, 0, none⟩ = some (.pointer (some ⟨X, 0, none⟩)) := hS2.box (T := 105) (by simp)
    clear d4 k1
    go_wp2
    have hj3 : (w2.alloc (.cells #[.bool (!decide (a < b))] 4)).cell? ⟨w2.heap.size, 0, none⟩ = some (.bool (!decide (a < b))) := by rw [Lib.cell_of_heap (heap_alloc_new w2 _)]; rfl
    have hS3 := hS2.step ((Below.refl _ w2).alloc (Nat.le_refl _) (.cells #[.bool (!decide (a < b))] 4))
    generalize hV3 : w2.alloc (.cells #[.bool (!decide (a < b))] 4) = V3 at hS3 hj3 ⊢
    generalize w2.heap.size = Bj at hj3 ⊢
    clear hV3 hS2 k2
    have k3 : V3.cell? ⟨Bx, 0, none⟩ = some (.pointer (some ⟨X, 0, none⟩)) := hS3.box (T := 105) (by simp)
    have c30 := hS3.c0
    have c31 := hS3.c1
    have hne : ¬ ((b : Int) = (s.size : Int)) := by omega
    go_quiet (fail)
    have hS4 := hS3.step (belowDrewN (Below.refl _ V3) nq)
    have j4 : (V3.drewN nq).cell? ⟨Bj, 0, none⟩ = some (.bool (!decide (a < b))) := hj3
    generalize V3.drewN nq = V4 at hS4 j4 ⊢
    have k4 : V4.cell? ⟨Bx, 0, none⟩ = some (.pointer (some ⟨X, 0, none⟩)) := hS4.box (T := 105) (by simp)
    obtain ⟨ao, cp, rfl⟩ := hS4.lvIs
    have c43 := hS4.c3
    have hne2 : ¬ ((n' : Int) = 262144) := by omega
    have hmiss := hstep B X _ _ _ _ wz w0 _ hL.more.more hS4
    have hK : V4.heap[Bx + 1]? = some takersRow := (hS4.keep (Bx + 1, takersRow) (by simp)).1
    have htk := takes_none hK k4 j4 hmiss
    have hst4 := fun w' (b : Below V4.heap.size V4 w') => hS4.step b
    clear hS3 hj3 k3 c30 c31 hmiss hsk hS4 hstep
    go_wp2_with (go_at_call 88; refine htk.mono ?_)
    rintro e w6 ⟨rfl, b6⟩
    have hS6 := hst4 _ b6
    have k6 : w6.cell? ⟨Bx, 0, none⟩ = some (.pointer (some ⟨X, 0, none⟩)) := hS6.box (T := 105) (by simp)
    have c61 := hS6.c1
    clear hst4 htk k4 j4 c43
    go_wp2
    go_still_tail 5, (by kernel_rfl)
    change wpList _ _ _ _ _ w6.drew
    have hS7 := hS6.step ((Below.refl _ w6).drew)
    generalize w6.drew = V7 at hS7 ⊢
    have hfl := fail_walk hS7 b 6
    clear hS6 k6 c61
    go_wp2_with (go_at_call 87; refine hfl.mono ?_)
    rintro e w8 ⟨rfl, hS8⟩
    go_wp2
    go_roundg 0
    case measure => simp only [List.length_nil] at hg; omega
    case rel => exact .failed b n' 6 (by decide) b _ _ hout hS8
end
def linesOf (s : ByteArray) : Nat -> List Int
 | 0 => [0]
 | k + 1 => linesOf s k ++ (if s.data.toList[k]? = some 10 then [(k : Int) + 1] else [])
theorem linesOf_succ (s : ByteArray) (k : Nat) : linesOf s (k + 1) = linesOf s k ++ (if s.data.toList[k]? = some 10 then [(k : Int) + 1] else []) := rfl
theorem linesOf_len (s : ByteArray) (k : Nat) : (linesOf s k).length <= k + 1 := by
 induction k with
 | zero => simp [linesOf]
 | succ k ih =>
  rw [linesOf_succ, List.length_append]
  split <;> simp <;> omega
theorem linesOf_pos (s : ByteArray) (k : Nat) : 0 < (linesOf s k).length /\ (linesOf s k).getD 0 0 = 0 := by
 induction k with
 | zero => simp [linesOf]
 | succ k ih =>
  rw [linesOf_succ]
  obtain ⟨h, e⟩ := ih
  refine ⟨by rw [List.length_append]; omega, ?_⟩
  rw [List.getD, List.getElem?_append_left h]
  exact e
theorem linesOf_mem (s : ByteArray) (k : Nat) : ∀ x ∈ linesOf s k, 0 <= x /\ x <= (k : Int) := by
 induction k with
 | zero => intro x hx; simp [linesOf] at hx; omega
 | succ k ih =>
  intro x hx
  rw [linesOf_succ, List.mem_append] at hx
  rcases hx with hx | hx
  ·have := ih x hx; omega
  ·split at hx
   ·simp at hx; omega
   ·cases hx
theorem linesOf_sorted (s : ByteArray) (k : Nat) : (linesOf s k).Pairwise (· <= ·) := by
 induction k with
 | zero => simp [linesOf]
 | succ k ih =>
  rw [linesOf_succ]
  split
  ·rw [List.pairwise_append]
   refine ⟨ih, by simp, fun x hx y hy => ?_⟩
   have := (linesOf_mem s k x hx).2
   simp at hy
   omega
  ·simpa using ih
theorem linesOf_lines (s : ByteArray) (h : s.size <= 1048576) : Lines (linesOf s s.size) := by
 refine ⟨linesOf_pos s _, linesOf_sorted _ _, fun x hx => (linesOf_mem _ _ x hx).1, fun x hx => ?_, ?_⟩
 ·have := (linesOf_mem _ _ x hx).2
  omega
 ·have := linesOf_len s s.size
  omega
def Scanned (L : List Int) (toks : List Tok) (out : Option (Nat × Int)) (w : World) (r : Ending) (w' : World) : Prop :=
 Below w.heap.size w w' /\
 ((out = none /\ ∃ lv, r = .returned (.tuple #[lv, I 0, I 0, I 0]) /\ w'.ownsRow w.heap.size 59 7 lv toks.length (cellsOf toks)) \/
  (∃ (b : Nat) (e : Int), e ≠ 0 /\ out = some (b, e) /\ r = .returned (.tuple #[.slice none 0 0, I (plL L b), I (plC L b), I e])))
theorem results_tmp4 {fn : Func} {t u v x : Tmp} (h : fn.results = #[.tmp t, .tmp u, .tmp v, .tmp x]) (tmps : Array Value) (P : Program) (w : World) :
  (results fn tmps).run P w = .ok (.tuple #[tmps.getD t undef, tmps.getD u undef, tmps.getD v undef, tmps.getD x undef]) w := by
 simp [results, h]
theorem Tryz.infoInt : (Tryz.prog.info? 3).map (fun i => (i.zero, i.size, i.bytes)) = some (some (I 0), 1, 8) := by kernel_rfl
structure LnSt (B X : Nat) (s : ByteArray) (lv : Value) (ls : List Int) (w0 w : World) : Prop where
 hX : w.heap[X]? = some (.cells #[.string s, I 0, lv, .slice none 0 0, I 0, I 0] 108 (0, 0))
 own : w.ownsRow B 3 1 lv ls.length (ls.map fun x => I x)
 bel : Below B w0 w
 hBX : B <= X
 hB : B <= w.heap.size
theorem LnSt.push {B X : Nat} {s : ByteArray} {lv : Value} {ls : List Int} {w0 w w' : World} (h : LnSt B X s lv ls w0 w) {g cap : Nat} {x : Int} (hg : (w.alloc (.cells #[I x] 3)).grownBy w' lv.ownBlock)
  (hown : w'.ownsRow B 3 1 (.slice (some ⟨g, 0, none⟩) (ls.length + 1) cap) (ls.length + 1) ((ls.map fun x => I x) ++ [I x])) :
  LnSt B X s (.slice (some ⟨g, 0, none⟩) (ls.length + 1) cap) (ls ++ [x]) w0 (w'.setCell ⟨X, 2, none⟩ (.slice (some ⟨g, 0, none⟩) (ls.length + 1) cap)) /\ w'.heap[X]? = some (.cells #[.string s, I 0, lv, .slice none 0 0, I 0, I 0] 108 (0, 0)) := by
 have lX : X < w.heap.size := (Array.getElem?_eq_some_iff.1 h.hX).1
 have hne : lv.ownBlock ≠ some X := own_ne h.own h.hX (by intro cs fr hc; injection hc with _ h2 _; exact absurd h2 (by decide))
 have hX' : w'.heap[X]? = some (.cells #[.string s, I 0, lv, .slice none 0 0, I 0, I 0] 108 (0, 0)) := (hg.block X (by simp; omega) (fun e => hne e.symm)).trans ((Lib.alloc_old w _ X lX).trans h.hX)
 have hn2 : (Value.slice (some ⟨g, 0, none⟩) (ls.length + 1) cap).ownBlock ≠ some X := own_ne hown hX' (by intro cs fr hc; injection hc with _ h2 _; exact absurd h2 (by decide))
 have hbel : Below B w0 w' := (h.bel.alloc h.hB _).grown hg (by have := h.hB; simp; omega) (fun k hk => (h.own.lt k hk).1)
 refine ⟨⟨?_, ?_, hbel.setCell (p := ⟨X, 2, none⟩) h.hBX _, h.hBX, ?_⟩, hX'⟩
 ·rw [Lib.heap_setCell_same hX']; rfl
 ·have := own_step hown fun k hk => Below.heap_setCell w' ⟨X, 2, none⟩ (.slice (some ⟨g, 0, none⟩) (ls.length + 1) cap) k (fun e => hn2 (by rw [hk, e]))
  simpa using this
 ·have h1 := h.hB
  have h2 := hg.size
  simp [World.setCell] at *
  omega
theorem lexScan {s : ByteArray} {toks : List Tok} {out : Option (Nat × Int)} (hx : Lx (linesOf s s.size) s 0 0 toks out) (hsz : s.size <= 4000) (hlong : ∀ b e, out = some (b, e) -> b <= 1048576) (hn : toks.length <= 262143) (w : World) :
  Calls Tryz.prog 16 #[.string s] w (Scanned (linesOf s s.size) toks out w) := by
 have gL := linesOf_lines s (by omega)
 have h0 : LnSt w.heap.size (w.heap.size + 1) s (.slice (some ⟨w.heap.size, 0, none⟩) 1 1) (linesOf s 0) w ((w.alloc (.cells #[I 0] 3)).alloc (.cells #[.string s, I 0, .slice (some ⟨w.heap.size, 0, none⟩) 1 1, .slice none 0 0, I 0, I 0] 108)) := by
  refine ⟨?_, ?_, ((Below.refl _ w).alloc (Nat.le_refl _) _).alloc (by simp) _, by omega, by simp; omega⟩
  ·have := heap_alloc_new (w.alloc (.cells #[I 0] 3)) (.cells #[.string s, I 0, .slice (some ⟨w.heap.size, 0, none⟩) 1 1, .slice none 0 0, I 0, I 0] 108)
   simpa using this
  ·exact (World.ownsRow_lit w #[I 0] 1 (Nat.le_refl _) (by decide) rfl).alloc _
 have hs1 : ¬ (1048576 : Int) < s.size := by omega
 obtain ⟨i0, hi0, hz0, hz1, hz2⟩ := info_parts Tryz.infoInt
 generalize hL : w.heap.size = L at h0
 go_enter Tryz.func16, Tryz.ntmps16
 go_wp2
 generalize hV : ((w.alloc (.cells #[I 0] 3)).alloc (.cells #[.string s, I 0, .slice (some ⟨L, 0, none⟩) 1 1, .slice none 0 0, I 0, I 0] 108)) = V at h0 ⊢
 clear hV
 go_loopg [17] (s.size + 1) (fun g v wr => ∃ (k : Nat) (lv : Value), k <= s.size /\ g = s.size + 1 - k /\ v = I (k : Nat) /\ LnSt L (L + 1) s lv (linesOf s k) w wr)
 case atStart => exact ⟨0, _, Nat.zero_le _, rfl, rfl, h0⟩
 case round =>
  clear h0
  obtain ⟨k, lv, hk, hg, rfl, h1⟩ := hrel
  have hll := linesOf_len s k
  by_cases hlt : k < s.size
  ·have hlt' : (k : Int) < s.size := by omega
   have hk0 : (0 : Int) <= (k : Int) := by omega
   have hw2 : IntKind.i64.wrap ((k : Int) + 1) = (k : Int) + 1 := IntWalk.i64_in _ (by omega)
   have hsucc := linesOf_succ s k
   rw [at_list k hlt] at hsucc
   by_cases hnl : ((s[k].toNat : Nat) : Int) = 10
   ·have h10 : s[k] = 10 := UInt8.toNat_inj.1 (by show _ = 10; omega)
    rw [h10, if_pos rfl] at hsucc
    have c2 : wr.cell? ⟨L + 1, 2, none⟩ = some lv := by rw [Lib.cell_of_heap h1.hX]; rfl
    have lX : L + 1 < wr.heap.size := (Array.getElem?_eq_some_iff.1 h1.hX).1
    have own1 := h1.own
    have hB1 := h1.hB
    rcases own1.2 with ⟨rfl, h00⟩ | ⟨g, cap, cur, rfl, -⟩
    ·have := (linesOf_pos s k).1; omega
    go_wp2_with (at_builtin; refine wpList_append_lies _ rfl _ _ 106 rfl L 3 i0 _ 1 8 Tryz.underlying106 hi0 hz0 hz1 hz2 rfl (by omega) _ (linesOf s k).length _ rfl (own1.alloc _) ⟨wr.heap.size, 0, none⟩ 1 1 [I ((k : Int) + 1)] rfl rfl (World.news_of_block (cs := #[I ((k : Int) + 1)]) (t := 3) (fr := (0, 0)) (heap_alloc_new _ _)) (by simp [Value.oneCell']) (by omega) (by unfold maxLen; omega) (by omega) (by simp; omega) (wr.heap.size + 1) (by simp) ?_; intro gg wcap w2 hown1 hgrow hat hgl; obtain ⟨h2, hX2⟩ := h1.push hgrow hown1; have c22 : w2.cell? ⟨L + 1, 2, none⟩ = some (.slice (some ⟨g, 0, none⟩) (linesOf s k).length cap) := (by rw [Lib.cell_of_heap hX2]; rfl); have f22 : w2.frozen? ⟨L + 1, 2, none⟩ = false := Lib.frozen_of_heap hX2 2)
    go_roundg (s.size + 1 - (k + 1))
    case measure => omega
    case rel => exact ⟨k + 1, _, by omega, rfl, by simp, by rw [hsucc]; exact h2⟩
   ·have h10 : ¬ s[k] = 10 := fun e => hnl (by rw [e]; rfl)
    rw [if_neg (by simpa using h10), List.append_nil] at hsucc
    go_wp2
    go_roundg (s.size + 1 - (k + 1))
    case measure => omega
    case rel => exact ⟨k + 1, lv, by omega, rfl, by simp, by rw [hsucc]; exact h1⟩
  ·obtain rfl : k = s.size := by omega
   have hlt' : ¬ ((s.size : Nat) : Int) < s.size := by omega
   obtain ⟨g, cap, cur, rfl, hbg, hgc, hnc, hcm, hcs, htk⟩ : ∃ g cap cur, lv = .slice (some ⟨g, 0, none⟩) (linesOf s s.size).length cap /\ L <= g /\ wr.heap[g]? = some (.cells cur 3 (0, 0)) /\ (linesOf s s.size).length <= cap /\ cap <= maxLen /\ cur.size = cap * 1 /\ cur.toList.take ((linesOf s s.size).length * 1) = (linesOf s s.size).map fun x => I x := by
    rcases h1.own.2 with ⟨rfl, h00⟩ | ⟨g, cap, cur, e1, e2, e3, e4, e5, e6, e7⟩
    ·have := (linesOf_pos s s.size).1; omega
    ·exact ⟨g, cap, cur, e1, e2, e3, e4, e5, e6, e7⟩
   have hLA : LinesAt (.slice (some ⟨g, 0, none⟩) (linesOf s s.size).length cap) (linesOf s s.size) [(g, .cells cur 3 (0, 0))] := by
    refine ⟨g, cap, cur, rfl, by simp, fun j hj => ?_⟩
    have := congrArg (fun l => l[j]?) htk
    simp only [Nat.mul_one, List.getElem?_take, if_pos hj, List.getElem?_map] at this
    rw [Array.getElem?_toList] at this
    rw [this]
    simp [List.getD, hj]
   have hgX : g ≠ L + 1 := by
    rintro rfl
    rw [h1.hX] at hgc
    injection hgc with hgc
    injection hgc with _ h2 _
    exact absurd h2 (by decide)
   have hW : Scn L (L + 1) [(g, .cells cur 3 (0, 0))] s (.slice (some ⟨g, 0, none⟩) (linesOf s s.size).length cap) (0 : Nat) (.slice none 0 0) 0 [] 0 0 w wr := by
    refine ⟨h1.hBX, h1.hB, h1.hX, World.ownsRow_nil _ _ _ _, fun p hp => ?_, h1.bel⟩
    obtain rfl := List.mem_singleton.1 hp
    exact ⟨hgc, hgX, hbg, by intro cs fr hc; injection hc with _ h2 _; exact absurd h2 (by decide)⟩
   have hsc := scan_walk hx hW hLA gL hsz (by omega)
   clear hW h1
   go_wp2_with (go_at_call 41; refine hsc.mono ?_)
   rintro r w2 rfl hE
   rcases hE with ⟨rfl, pos, lv, hS⟩ | ⟨b, pos, n, e, lv, xs, he, rfl, hS⟩
   ·have c4 := hS.c4
    have c3 := hS.c3
    have hown : w2.ownsRow L 59 7 lv toks.length (cellsOf toks) := by simpa using hS.own
    have hbel := hS.below
    clear hS
    go_wp2
    refine bodyPost_ret (results_tmp4 rfl _ _ _) rfl ?_
    exact ⟨by rw [hL]; exact hbel, .inl ⟨rfl, lv, rfl, by rw [hL]; exact hown⟩⟩
   ·have c4 := hS.c4
    have c5 := hS.c5
    have hbel := hS.below
    have hpl := place_walk hS hLA gL b (hlong b e rfl)
    have hst := fun w' (h : Below w2.heap.size w2 w') => hS.step h
    clear hS
    go_wp2_with (go_at_call 42; refine hpl.mono ?_)
    rintro r w3 ⟨rfl, b3⟩
    have hS3 := hst _ b3
    have d4 := hS3.c4
    have hbel3 := hS3.below
    clear hS3 hst hpl
    go_wp2
    go_region
    all_goals go_wp2
    all_goals refine bodyPost_ret (results_tmp4 rfl _ _ _) rfl ?_
    all_goals exact ⟨by rw [hL]; exact hbel3.drew, .inr ⟨b, e, he, rfl, rfl⟩⟩
theorem Tryz.sizeTok : (Tryz.prog.info? 59).map (·.size) = some 7 := by kernel_rfl
structure Away (bs : List Nat) (w w' : World) : Prop where
 os : w'.os = w.os
 tape : w'.tape = w.tape
 output : w'.output = w.output
 size : w.heap.size <= w'.heap.size
 block : ∀ k, k < w.heap.size -> k ∉ bs -> w'.heap[k]? = w.heap[k]?
theorem Away.refl (bs : List Nat) (w : World) : Away bs w w := ⟨rfl, rfl, rfl, Nat.le_refl _, fun _ _ _ => rfl⟩
theorem Away.trans {bs : List Nat} {a b c : World} (h : Away bs a b) (k : Away bs b c) : Away bs a c :=
 ⟨k.os.trans h.os, k.tape.trans h.tape, k.output.trans h.output, Nat.le_trans h.size k.size, fun i hi hb => (k.block i (Nat.lt_of_lt_of_le hi h.size) hb).trans (h.block i hi hb)⟩
theorem Away.of_below {bs : List Nat} {w w' : World} (h : Below w.heap.size w w') : Away bs w w' := ⟨h.os, h.tape, h.output, h.size, fun k hk _ => h.block k hk⟩
theorem Away.more {bs cs : List Nat} {w w' : World} (h : Away bs w w') (hs : ∀ k ∈ bs, k ∈ cs) : Away cs w w' := ⟨h.os, h.tape, h.output, h.size, fun k hk hb => h.block k hk fun hc => hb (hs k hc)⟩
theorem Away.drew {bs : List Nat} {a w : World} (h : Away bs a w) : Away bs a w.drew := ⟨h.os, h.tape, h.output, h.size, h.block⟩
theorem Away.alloc {bs : List Nat} {a w : World} (h : Away bs a w) (o : Obj) : Away bs a (w.alloc o) :=
 ⟨h.os, h.tape, h.output, Nat.le_trans h.size (by simp), fun k hk hb => (Below.heap_alloc _ _ _ (Nat.lt_of_lt_of_le hk h.size)).trans (h.block k hk hb)⟩
theorem Away.setCell {bs : List Nat} {a w : World} (h : Away bs a w) {p : Addr} (hp : p.block ∈ bs \/ a.heap.size <= p.block) (u : Value) : Away bs a (w.setCell p u) :=
 ⟨h.os, h.tape, h.output, Nat.le_trans h.size (by simp [World.setCell]), fun k hk hb => (Below.heap_setCell _ _ _ _ (fun e => by
  rcases hp with hp | hp
  ·exact hb (e ▸ hp)
  ·omega)).trans (h.block k hk hb)⟩
structure Prs (Y M : Nat) (tv : Value) (toks : List Tok) (pos : Nat) (line col e : Int) (free : Bool) (ls ln : Int) (es : Array MapEntry) (clk : Nat) (w : World) : Prop where
 blk : w.heap[Y]? = some (.cells #[tv, I pos, I line, I col, I e, .bool free, I ls, I ln, .map (some M)] 133 (0, 0))
 map : w.heap[M]? = some (.map es clk)
 row : e = 0 -> w.ownsRow 0 59 7 tv toks.length (cellsOf toks)
section
variable {Y M : Nat} {tv : Value} {toks : List Tok} {pos : Nat} {line col e : Int} {free : Bool} {ls ln : Int} {es : Array MapEntry} {clk : Nat} {w : World}
theorem Prs.lt (h : Prs Y M tv toks pos line col e free ls ln es clk w) : Y < w.heap.size := (Array.getElem?_eq_some_iff.1 h.blk).1
theorem Prs.ltM (h : Prs Y M tv toks pos line col e free ls ln es clk w) : M < w.heap.size := (Array.getElem?_eq_some_iff.1 h.map).1
theorem Prs.ne (h : Prs Y M tv toks pos line col e free ls ln es clk w) : Y ≠ M := by
 rintro rfl
 have := h.blk.symm.trans h.map
 injection this with this
 cases this
theorem Prs.step (h : Prs Y M tv toks pos line col e free ls ln es clk w) {w' : World} (hb : Below w.heap.size w w') : Prs Y M tv toks pos line col e free ls ln es clk w' :=
 ⟨(hb.block Y h.lt).trans h.blk, (hb.block M h.ltM).trans h.map, fun he => own_step (h.row he) fun k hk => hb.block k ((h.row he).lt k hk).2⟩
theorem Prs.put (h : Prs Y M tv toks pos line col e free ls ln es clk w) (i : Nat) (u : Value) {pos' : Nat} {line' col' e' ls' ln' : Int} (he : e' = 0 -> e = 0)
  (hu : (#[tv, I pos, I line, I col, I e, .bool free, I ls, I ln, .map (some M)] : Array Value).setIfInBounds i u = #[tv, I pos', I line', I col', I e', .bool free, I ls', I ln', .map (some M)]) :
  Prs Y M tv toks pos' line' col' e' free ls' ln' es clk (w.setCell ⟨Y, i, none⟩ u) := by
 refine ⟨by rw [Lib.heap_setCell_same h.blk, hu], (Below.heap_setCell _ _ _ _ (fun e => h.ne e.symm)).trans h.map, fun h0 => ?_⟩
 have hr := h.row (he h0)
 exact own_step hr fun k hk => Below.heap_setCell _ _ _ _ (fun e => own_ne hr h.blk (by intro cs fr hc; injection hc with _ h2 _; exact absurd h2 (by decide)) (by rw [hk, e]))
theorem Prs.c0 (h : Prs Y M tv toks pos line col e free ls ln es clk w) : w.cell? ⟨Y, 0, none⟩ = some tv := by rw [Lib.cell_of_heap h.blk]; rfl
theorem Prs.c1 (h : Prs Y M tv toks pos line col e free ls ln es clk w) : w.cell? ⟨Y, 1, none⟩ = some (I pos) := by rw [Lib.cell_of_heap h.blk]; rfl
theorem Prs.c2 (h : Prs Y M tv toks pos line col e free ls ln es clk w) : w.cell? ⟨Y, 2, none⟩ = some (I line) := by rw [Lib.cell_of_heap h.blk]; rfl
theorem Prs.c3 (h : Prs Y M tv toks pos line col e free ls ln es clk w) : w.cell? ⟨Y, 3, none⟩ = some (I col) := by rw [Lib.cell_of_heap h.blk]; rfl
theorem Prs.c4 (h : Prs Y M tv toks pos line col e free ls ln es clk w) : w.cell? ⟨Y, 4, none⟩ = some (I e) := by rw [Lib.cell_of_heap h.blk]; rfl
theorem Prs.c5 (h : Prs Y M tv toks pos line col e free ls ln es clk w) : w.cell? ⟨Y, 5, none⟩ = some (.bool free) := by rw [Lib.cell_of_heap h.blk]; rfl
theorem Prs.c6 (h : Prs Y M tv toks pos line col e free ls ln es clk w) : w.cell? ⟨Y, 6, none⟩ = some (I ls) := by rw [Lib.cell_of_heap h.blk]; rfl
theorem Prs.c7 (h : Prs Y M tv toks pos line col e free ls ln es clk w) : w.cell? ⟨Y, 7, none⟩ = some (I ln) := by rw [Lib.cell_of_heap h.blk]; rfl
theorem Prs.c8 (h : Prs Y M tv toks pos line col e free ls ln es clk w) : w.cell? ⟨Y, 8, none⟩ = some (.map (some M)) := by rw [Lib.cell_of_heap h.blk]; rfl
theorem Prs.fz (h : Prs Y M tv toks pos line col e free ls ln es clk w) (i : Nat) : w.frozen? ⟨Y, i, none⟩ = false := Lib.frozen_of_heap h.blk i
theorem cells_at : ∀ (l : List Tok) (i : Nat) (t : Tok) (j : Nat) (u : Value), l[i]? = some t -> t.cells[j]? = some u -> (cellsOf l)[i * 7 + j]? = some u
 | a :: l, 0, t, j, u, h, hj => by
  obtain rfl : a = t := by simpa using h
  have hlt : j < a.cells.length := (List.getElem?_eq_some_iff.1 hj).1
  simp only [cellsOf, List.flatMap_cons, Nat.zero_mul, Nat.zero_add]
  rw [List.getElem?_append_left hlt]; exact hj
 | a :: l, i + 1, t, j, u, h, hj => by
  have h' : l[i]? = some t := by simpa using h
  have := cells_at l i t j u h' hj
  have e7 : a.cells.length = 7 := rfl
  simp only [cellsOf, List.flatMap_cons] at this ⊢
  rw [List.getElem?_append_right (by rw [e7]; omega), e7]
  rw [show (i + 1) * 7 + j - 7 = i * 7 + j by omega]; exact this
 | [], i, t, j, u, h, _ => by simp at h
theorem Prs.tok (h : Prs Y M tv toks pos line col 0 free ls ln es clk w) {t : Tok} (ht : toks[pos]? = some t) :
  ∃ G cap, tv = .slice (some ⟨G, 0, none⟩) toks.length cap /\ ∀ j u, t.cells[j]? = some u -> w.cell? ⟨G, pos * 7 + j, none⟩ = some u := by
 have hr := h.row rfl
 have hp : pos < toks.length := (List.getElem?_eq_some_iff.1 ht).1
 obtain ⟨G, cap, rfl, _, _⟩ := hr.form (by omega)
 refine ⟨G, cap, rfl, fun j u hj => ?_⟩
 have := hr.cells (g := G) rfl (pos * 7 + j) u (cells_at _ _ _ _ _ ht hj)
 have hadd : (⟨G, 0, none⟩ : Addr).add (pos * 7 + j) = ⟨G, pos * 7 + j, none⟩ := by unfold Addr.add; split <;> simp_all
 rwa [hadd] at this
theorem peek_ok (h : Prs Y M tv toks pos line col 0 free ls ln es clk w) {t : Tok} (ht : toks[pos]? = some t) :
  Calls Tryz.prog 62 #[.pointer (some ⟨Y, 0, none⟩)] w fun r w' => r = .returned (.agg #[I t.kind, .string t.text, I t.value, .string t.bytes, I t.line, I t.col, .bool t.joined]) /\ Below w.heap.size w w' := by
 obtain ⟨G, cap, rfl, hc⟩ := h.tok ht
 have hp : pos < toks.length := (List.getElem?_eq_some_iff.1 ht).1
 have c0 := h.c0
 have c1 := h.c1
 have c4 := h.c4
 have t0 : w.cell? ⟨G, pos * 7, none⟩ = some (I t.kind) := hc 0 _ rfl
 have t1 := hc 1 _ rfl
 have t2 := hc 2 _ rfl
 have t3 := hc 3 _ rfl
 have t4 := hc 4 _ rfl
 have t5 := hc 5 _ rfl
 have t6 := hc 6 _ rfl
 have hp0 : (0 : Int) <= (pos : Int) := by omega
 have hp1 : (pos : Int) < (toks.length : Int) := by omega
 have n0 := World.new_ne w _ c0
 have n1 := World.new_ne w _ t0
 have l0 := World.block_lt_of_cell? w _ c0
 have l1 := World.block_lt_of_cell? w _ t0
 simp only at l0 l1
 clear h hc ht
 go_enter Tryz.func62, Tryz.ntmps62
 go_wp2
 go_region_held3 (fun w' => w'.cell? ⟨Y, 0, none⟩ = some (.slice (some ⟨G, 0, none⟩) toks.length cap) /\ w'.cell? ⟨Y, 1, none⟩ = some (I pos) /\
   w'.cell? ⟨G, pos * 7, none⟩ = some (I t.kind) /\ w'.cell? ⟨G, pos * 7 + 1, none⟩ = some (.string t.text) /\ w'.cell? ⟨G, pos * 7 + 2, none⟩ = some (I t.value) /\
   w'.cell? ⟨G, pos * 7 + 3, none⟩ = some (.string t.bytes) /\ w'.cell? ⟨G, pos * 7 + 4, none⟩ = some (I t.line) /\ w'.cell? ⟨G, pos * 7 + 5, none⟩ = some (I t.col) /\ w'.cell? ⟨G, pos * 7 + 6, none⟩ = some (.bool t.joined)) (go_keep) (fail)
 go_wp2
 refine bodyPost_ret (results_cell_row rfl _ _ w.heap.size 59 _ (0, 0) _ rfl (heap_alloc_new w _) Tryz.underlying59 rfl Tryz.sizeTok) rfl ?_
 exact ⟨rfl, ((Below.refl _ w).alloc (Nat.le_refl _) _).drew⟩
theorem peek_err (h : Prs Y M tv toks pos line col e free ls ln es clk w) (he : e ≠ 0) :
  Calls Tryz.prog 62 #[.pointer (some ⟨Y, 0, none⟩)] w fun r w' => r = .returned (.agg #[I (-1), .string ByteArray.empty, I 0, .string ByteArray.empty, I 0, I 0, .bool false]) /\ Below w.heap.size w w' := by
 have c4 := h.c4
 have n0 := World.new_ne w _ c4
 have l0 := h.lt
 clear h
 go_enter Tryz.func62, Tryz.ntmps62
 go_wp2
 refine bodyPost_ret (results_cell_row rfl _ _ w.heap.size 59 _ (0, 0) _ rfl (heap_alloc_new w _) Tryz.underlying59 rfl Tryz.sizeTok) rfl ?_
 exact ⟨rfl, ((Below.refl _ w).alloc (Nat.le_refl _) _)⟩
end
def Els (w : World) (s : Nat) (v : Value) (rows : List (Array Value)) : Prop :=
 (rows = [] /\ v = .slice none 0 0) \/
 ∃ g o cap, v = .slice (some ⟨g, o, none⟩) rows.length cap /\ ∀ (j : Nat) (r : Array Value), rows[j]? = some r -> r.size = s /\ r.all (·.oneCell') = true /\ ∀ (k : Nat) (u : Value), r[k]? = some u -> w.cell? ⟨g, o + j * s + k, none⟩ = some u
theorem Els.is {w : World} {s : Nat} {v : Value} {rows : List (Array Value)} (h : Els w s v rows) : ∃ ao cap, v = .slice ao rows.length cap := by
 rcases h with ⟨rfl, rfl⟩ | ⟨g, o, cap, rfl, _⟩
 ·exact ⟨_, _, rfl⟩
 ·exact ⟨_, _, rfl⟩
theorem Els.at {w : World} {s : Nat} {ao : Option Addr} {n cap : Nat} {rows : List (Array Value)} (h : Els w s (.slice ao n cap) rows) {j : Nat} (hj : j < rows.length) :
  ∃ g o r, ao = some ⟨g, o, none⟩ /\ rows[j]? = some r /\ r.size = s /\ r.all (·.oneCell') = true /\ ∀ (k : Nat) (u : Value), r[k]? = some u -> w.cell? ⟨g, o + j * s + k, none⟩ = some u := by
 rcases h with ⟨rfl, _⟩ | ⟨g, o, cap', e, h⟩
 ·simp at hj
 ·injection e with e1 e2 e3
  have hr : rows[j]? = some rows[j] := List.getElem?_eq_getElem hj
  obtain ⟨h1, h2, h3⟩ := h j _ hr
  exact ⟨g, o, rows[j], e1, hr, h1, h2, h3⟩
theorem Els.step {w w' : World} {s : Nat} {v : Value} {rows : List (Array Value)} (h : Els w s v rows) (b : Below w.heap.size w w') : Els w' s v rows := by
 rcases h with h | ⟨g, o, cap, rfl, h⟩
 ·exact .inl h
 ·refine .inr ⟨g, o, cap, rfl, fun j r hr => ?_⟩
  obtain ⟨h1, h2, h3⟩ := h j r hr
  exact ⟨h1, h2, fun k u hu => (b.cell (World.block_lt_of_cell? w _ (h3 k u hu))).trans (h3 k u hu)⟩
theorem flat_at {rows : List (Array Value)} {s : Nat} (hs : ∀ r ∈ rows, r.size = s) : ∀ (j : Nat) (r : Array Value), rows[j]? = some r -> ∀ (k : Nat) (u : Value), r[k]? = some u -> (rows.flatMap (·.toList))[j * s + k]? = some u := by
 induction rows with
 | nil => intro j r hr; simp at hr
 | cons a rows ih =>
  intro j r hr k u hu
  have ha := hs a (by simp)
  cases j with
  | zero =>
   obtain rfl : a = r := by simpa using hr
   have hk : k < a.size := (Array.getElem?_eq_some_iff.1 hu).1
   rw [List.flatMap_cons, Nat.zero_mul, Nat.zero_add, List.getElem?_append_left (by simpa using hk)]
   simpa using hu
  | succ j =>
   have hr' : rows[j]? = some r := by simpa using hr
   have := ih (fun x hx => hs x (by simp [hx])) j r hr' k u hu
   rw [List.flatMap_cons, List.getElem?_append_right (by rw [Array.length_toList, ha, Nat.add_mul]; omega), Array.length_toList, ha, show (j + 1) * s + k - s = j * s + k by rw [Nat.add_mul]; omega]
   exact this
theorem Els.of_own {w : World} {B : Nat} {T : TypeId} {s : Nat} {v : Value} {rows : List (Array Value)} {xs : List Value} (h : w.ownsRow B T s v rows.length xs) (hx : xs = rows.flatMap (·.toList)) (hs : ∀ r ∈ rows, r.size = s /\ r.all (·.oneCell') = true) : Els w s v rows := by
 subst hx
 rcases h.2 with ⟨hv, h0⟩ | ⟨g, cap, cur, hv, _⟩
 ·exact .inl ⟨List.length_eq_zero_iff.1 h0, hv⟩
 ·subst hv
  refine .inr ⟨g, 0, cap, rfl, fun j r hr => ?_⟩
  obtain ⟨h1, h2⟩ := hs r (List.mem_of_getElem? hr)
  refine ⟨h1, h2, fun k u hu => ?_⟩
  have := h.cells (g := g) rfl (j * s + k) u (flat_at (fun r hr => (hs r hr).1) j r hr k u hu)
  have hadd : (⟨g, 0, none⟩ : Addr).add (j * s + k) = ⟨g, j * s + k, none⟩ := by unfold Addr.add; split <;> simp_all
  rw [Nat.zero_add]
  rwa [hadd] at this
structure PitchV where
 st : Int
 al : Int
 oc : Int
structure HeadV where
 p : PitchV
 tied : Bool
 sh : Int
structure GraceV where
 p : PitchV
 lg : Int
 sl : Bool
structure SyllV where
 tx : ByteArray
 ln : Int
structure EvV where
 site : Int
 num : Int
 kind : Int
 lg : Int
 dt : Int
 heads : List HeadV
 graces : List GraceV
 ar : Int
 orn : Int
 dy : Int
 lyr : List SyllV
 stem : Int
 beam : Int
def HeadV.cells (h : HeadV) : Array Value := #[I h.p.st, I h.p.al, I h.p.oc, .bool h.tied, I h.sh]
def GraceV.cells (g : GraceV) : Array Value := #[I g.p.st, I g.p.al, I g.p.oc, I g.lg, .bool g.sl]
def SyllV.cells (x : SyllV) : Array Value := #[.string x.tx, I x.ln]
def EvV.cells (x : EvV) (hv gv lv : Value) : Array Value :=
 #[I x.site, I x.num, I x.kind, I x.lg, I x.dt, hv, gv, I x.ar, I x.orn, I x.dy, lv, I x.stem, I x.beam]
def semi (i : Int) : Int := if i = 0 then 0 else if i = 1 then 2 else if i = 2 then 4 else if i = 3 then 5 else if i = 4 then 7 else if i = 5 then 9 else 11
def numOf (p : PitchV) : Int := 12 * (p.oc + 1) + semi p.st + p.al
def pitchOut (p : PitchV) : Prop := p.st < 0 \/ 6 < p.st \/ p.al < -2 \/ 2 < p.al \/ p.oc < -1 \/ 9 < p.oc
instance (p : PitchV) : Decidable (pitchOut p) := by unfold pitchOut; infer_instance
def pitchE (p : PitchV) : Int := if pitchOut p then 18 else if numOf p < 0 \/ 127 < numOf p then 18 else 0
def memB (x : ByteArray) (sy : List ByteArray) : Bool := sy.any fun y => decide (x = y)
def Joins (nu : Bool) (sy : List ByteArray) (t : Tok) : Bool := t.joined && ((nu && decide (t.kind = 2)) || (decide (t.kind = 4) && memB t.text sy))
def catT : List Tok -> ByteArray -> ByteArray
 | [], s => s
 | t :: r, s => catT r (s ++ t.text)
def IsTok (t : Tok) (tx : ByteArray) : Bool := (decide (t.kind = 1) || decide (t.kind = 4)) && decide (t.text = tx)
def noTok : Tok := ⟨-1, ByteArray.empty, 0, ByteArray.empty, 0, 0, false⟩
inductive Stt
 | ok (p : Nat)
 | bad (e l c : Int)
def Stt.good : Stt -> Bool
 | .ok _ => true
 | .bad .. => false
def Stt.next (k : Nat) : Stt -> Stt
 | .ok p => .ok (p + k)
 | .bad e l c => .bad e l c
def firstB (x : ByteArray) : Nat := (x.data.toList.headD 0).toNat
structure Orc where
 pit : ByteArray -> Option PitchV
 val : ByteArray -> Option (Int × Int)
structure A5 where
 ar : Int
 orn : Int
 dy : Int
 st : Int
 be : Int
def setA (A : A5) (i : Nat) : A5 :=
 if 20 <= i then { A with be := (i : Int) - 19 } else if 18 <= i then { A with st := (i : Int) - 17 } else if 9 <= i then { A with dy := (i : Int) - 8 } else if 5 <= i then { A with orn := (i : Int) - 4 } else { A with ar := A.ar + 2 ^ i }
def grp (i : Int) : Int := if 20 <= i then 1 else if 18 <= i then 2 else if 9 <= i then 3 else if 5 <= i then 4 else 0
def attrWL : List ByteArray := [⟨#[115, 116, 97, 99, 99, 97, 116, 111]⟩, ⟨#[116, 101, 110, 117, 116, 111]⟩, ⟨#[97, 99, 99, 101, 110, 116]⟩, ⟨#[109, 97, 114, 99, 97, 116, 111]⟩, ⟨#[102, 101, 114, 109, 97, 116, 97]⟩,
 ⟨#[116, 114, 105, 108, 108]⟩, ⟨#[109, 111, 114, 100, 101, 110, 116]⟩, ⟨#[105, 110, 118, 101, 114, 115, 101]⟩, ⟨#[116, 117, 114, 110]⟩,
 ⟨#[112, 112, 112]⟩, ⟨#[112, 112]⟩, ⟨#[112]⟩, ⟨#[109, 112]⟩, ⟨#[109, 102]⟩, ⟨#[102]⟩, ⟨#[102, 102]⟩, ⟨#[102, 102, 102]⟩, ⟨#[115, 102, 122]⟩,
 ⟨#[117, 112]⟩, ⟨#[100, 111, 119, 110]⟩, ⟨#[97, 112, 97, 114, 116]⟩, ⟨#[106, 111, 105, 110]⟩]
def wordIdx (x : ByteArray) : List ByteArray -> Option Nat
 | [] => none
 | y :: r => if x = y then some 0 else (wordIdx x r).map (· + 1)
section
variable (O : Orc) (T : List Tok)
def tokS : Stt -> Tok
 | .ok p => T.getD p noTok
 | .bad .. => noTok
def failS (c : Int) : Stt -> Stt
 | .ok p => .bad c (T.getD p noTok).line (T.getD p noTok).col
 | .bad e l c => .bad e l c
def isS (x : ByteArray) (s : Stt) : Bool := IsTok (tokS T s) x
def accS (x : ByteArray) (s : Stt) : Stt := if isS T x s = true then s.next 1 else s
def expS (x : ByteArray) (s : Stt) : Stt := if isS T x s = true then s.next 1 else failS T 13 s
def strF (s : Stt) : ByteArray × Stt := if (tokS T s).kind = 3 then ((tokS T s).bytes, s.next 1) else (ByteArray.empty, failS T 13 s)
def numF (lo hi : Int) (s : Stt) : Int × Stt :=
 if (tokS T s).kind ≠ 2 then (0, failS T 13 s) else if (tokS T s).value < lo \/ hi < (tokS T s).value then (0, failS T 2 s) else ((tokS T s).value, s.next 1)
def isPitchS (s : Stt) : Bool := decide ((tokS T s).kind = 1) && (decide (65 <= firstB (tokS T s).text) && decide (firstB (tokS T s).text <= 71))
def runS (nu : Bool) (sy : List ByteArray) : Stt -> List Tok
 | .ok p => (T.drop (p + 1)).takeWhile (Joins nu sy)
 | .bad .. => []
def compF (nu : Bool) (sy : List ByteArray) (s : Stt) : ByteArray := catT (runS T nu sy s) (tokS T s).text
def signsS : List ByteArray := [⟨#[35]⟩, ⟨#[45]⟩]
def dotsS : List ByteArray := [⟨#[46]⟩]
def pitchF (s : Stt) : PitchV × Stt :=
 if isPitchS T s = true then
  match O.pit (compF T true signsS s) with
  | none => (⟨0, 0, 0⟩, failS T 18 s)
  | some p => (p, s.next ((runS T true signsS s).length + 1))
 else (⟨0, 0, 0⟩, failS T 13 s)
def valueB (s : Stt) : Bool := decide ((tokS T s).kind = 2) || isS T ⟨#[98]⟩ s
def valueF (s : Stt) : (Int × Int) × Stt :=
 if valueB T s = true then
  match O.val (compF T false dotsS s) with
  | none => ((0, 0), failS T 17 s)
  | some p => (p, s.next ((runS T false dotsS s).length + 1))
 else ((0, 0), failS T 13 s)
def writtenF (s : Stt) : (Int × Int) × Stt :=
 let a := numF T 0 99 (expS T ⟨#[64]⟩ s)
 let b := numF T 1 1073741824 (expS T ⟨#[46]⟩ a.2)
 ((a.1, b.1), b.2)
def objF (s : Stt) : (Int × Int) × Stt := if isS T ⟨#[64]⟩ s = true then writtenF T s else ((0, 0), s)
def headF (s : Stt) : HeadV × Stt :=
 let r := pitchF O T s
 let s1 := accS T ⟨#[126]⟩ r.2
 let td := isS T ⟨#[126]⟩ r.2
 if isS T ⟨#[33]⟩ s1 = true then (⟨r.1, td, 1⟩, s1.next 1) else if isS T ⟨#[63]⟩ s1 = true then (⟨r.1, td, 2⟩, s1.next 1) else (⟨r.1, td, 0⟩, s1)
def logOf (v : Int) : Int := if v = 2 then 1 else if v = 4 then 2 else if v = 8 then 3 else if v = 16 then 4 else if v = 32 then 5 else if v = 64 then 6 else 0
def graceF (q : Int) (s : Stt) : GraceV × Stt :=
 let sl := isS T ⟨#[47]⟩ s
 let r := pitchF O T (accS T ⟨#[47]⟩ s)
 let s2 := expS T ⟨#[58]⟩ r.2
 if (tokS T s2).kind ≠ 2 then (⟨r.1, 0, sl⟩, failS T 13 s2)
 else if logOf (tokS T s2).value = 0 then (⟨r.1, q, sl⟩, failS T 2 s2) else (⟨r.1, logOf (tokS T s2).value, sl⟩, s2.next 1)
def moreF {α : Type} (f : Stt -> α × Stt) (cl : ByteArray) : Nat -> Stt -> List α × Stt
 | 0, s => ([], s)
 | k + 1, s => if s.good = true /\ isS T cl s = false then ((f s).1 :: (moreF f cl k (f s).2).1, (moreF f cl k (f s).2).2) else ([], s)
def sevF {α : Type} (f : Stt -> α × Stt) (cl : ByteArray) (s : Stt) : List α × Stt :=
 let m := moreF T f cl T.length (f s).2
 ((f s).1 :: m.1, expS T cl m.2)
def wordF (l : List ByteArray) (s : Stt) : Option Nat × Stt :=
 if (tokS T s).kind ≠ 1 then (none, failS T 13 s)
 else match wordIdx (tokS T s).text l with
  | none => (none, failS T 32 s)
  | some i => (some i, s.next 1)
def attrBad (last i : Int) : Bool := decide (0 <= last) && (decide (i <= last) || (decide (0 < grp i) && decide (grp i = grp last)))
def attrStep (last : Int) (A : A5) (s : Stt) : Int × A5 × Stt :=
 match wordF T attrWL s with
 | (none, s') => (0, A, s')
 | (some i, s') => if attrBad last i = true then (0, A, failS T 13 s) else ((i : Int), setA A i, s')
def attrMore : Nat -> Int -> A5 -> Stt -> A5 × Stt
 | 0, _, A, s => (A, s)
 | k + 1, last, A, s => if s.good = true /\ isS T ⟨#[93]⟩ s = false then attrMore k (attrStep T last A s).1 (attrStep T last A s).2.1 (attrStep T last A s).2.2 else (A, s)
def attrF (s : Stt) : A5 × Stt :=
 let r := attrStep T (-1) ⟨0, 0, 0, 0, 0⟩ s
 let m := attrMore T T.length r.1 r.2.1 r.2.2
 (m.1, expS T ⟨#[93]⟩ m.2)
def syllB (s : Stt) : Bool := decide ((tokS T s).kind = 3) || isS T ⟨#[95]⟩ s
def syllF (s : Stt) : SyllV × Stt :=
 if isS T ⟨#[95]⟩ s = true then (⟨ByteArray.empty, 2⟩, s.next 1)
 else
  let y := (strF T s).1
  let s1 := (strF T s).2
  if (tokS T s1).joined = true then
   (if isS T ⟨#[45]⟩ s1 = true then (⟨y, 1⟩, s1.next 1) else if isS T ⟨#[95]⟩ s1 = true then (⟨y, 2⟩, s1.next 1) else (⟨y, 0⟩, s1))
  else (⟨y, 0⟩, s1)
def lyrF : Nat -> Stt -> List SyllV × Stt
 | 0, s => ([], s)
 | k + 1, s => if syllB T s = true then ((syllF T s).1 :: (lyrF k (syllF T s).2).1, (lyrF k (syllF T s).2).2) else ([], s)
def gracesF (q : Int) (s : Stt) : List GraceV × Stt :=
 if isS T ⟨#[103, 114, 97, 99, 101]⟩ s = true then sevF T (graceF O T q) ⟨#[41]⟩ (expS T ⟨#[40]⟩ (s.next 1)) else ([], s)
def bodyF (s : Stt) : (Int × List HeadV) × Stt :=
 if isS T ⟨#[82]⟩ s = true then ((3, []), s.next 1)
 else if isS T ⟨#[114]⟩ s = true then ((2, []), s.next 1)
 else if isS T ⟨#[115]⟩ s = true then ((4, []), s.next 1)
 else if isS T ⟨#[60]⟩ s = true then ((1, (sevF T (headF O T) ⟨#[62]⟩ (s.next 1)).1), (sevF T (headF O T) ⟨#[62]⟩ (s.next 1)).2)
 else ((1, [(headF O T s).1]), (headF O T s).2)
def lenF (kd : Int) (s : Stt) : (Int × Int) × Stt := if kd = 3 then ((0, 0), s) else valueF O T (expS T ⟨#[58]⟩ s)
def attrsF (s : Stt) : A5 × Stt := if isS T ⟨#[91]⟩ s = true then attrF T (s.next 1) else (⟨0, 0, 0, 0, 0⟩, s)
def eventF (q : Int) (s : Stt) : EvV × Stt :=
 let o := objF T s
 let g := gracesF O T q o.2
 let b := bodyF O T g.2
 let v := lenF O T b.1.1 b.2
 let a := attrsF T v.2
 let y := lyrF T T.length a.2
 (⟨o.1.1, o.1.2, b.1.1, v.1.1, v.1.2, b.1.2, g.1, a.1.ar, a.1.orn, a.1.dy, y.1, a.1.st, a.1.be⟩, y.2)
def endF (s : Stt) : Stt := if (tokS T s).kind = 0 then s else failS T 13 s
end
theorem toList_ne {a b : ByteArray} (h : ¬ a = b) : ¬ a.toList = b.toList := by
 intro e
 rw [Go.ByteArray.toList_eq, Go.ByteArray.toList_eq] at e
 exact h (ByteArray.ext (Array.ext' e))
section
variable {Y M : Nat} {tv : Value} {toks : List Tok} {pos : Nat} {line col e : Int} {free : Bool} {ls ln : Int} {es : Array MapEntry} {clk : Nat} {w : World} {t : Tok}
theorem is_ok (h : Prs Y M tv toks pos line col 0 free ls ln es clk w) (ht : toks[pos]? = some t) (tx : ByteArray) {b : Bool} (hb : IsTok t tx = b) :
  Calls Tryz.prog 76 #[.pointer (some ⟨Y, 0, none⟩), .string tx] w fun r w' => r = .returned (.bool b) /\ Below w.heap.size w w' := by
 have hp := peek_ok h ht
 obtain ⟨kd, text, v, bt, lin, cl, j⟩ := t
 simp only [IsTok] at hb hp
 clear h ht
 by_cases h1 : kd = 1
 ·subst h1
  by_cases hx : text = tx
  ·subst hx
   go_enter Tryz.func76, Tryz.ntmps76
   go_wp2_with (go_at_call 62; refine hp.mono ?_)
   intro r w1; first | (intro he b1; subst he) | rintro ⟨rfl, b1⟩
   go_wp2
   go_ret
   refine ⟨?_, b1.alloc b1.size _⟩
   first | (rw [<- hb]; simp; done) | simp_all
  ·try have hx' := toList_ne hx
   go_enter Tryz.func76, Tryz.ntmps76
   go_wp2_with (go_at_call 62; refine hp.mono ?_)
   intro r w1; first | (intro he b1; subst he) | rintro ⟨rfl, b1⟩
   go_wp2
   go_ret
   refine ⟨?_, b1.alloc b1.size _⟩
   first | (rw [<- hb]; simp; done) | simp_all
 ·by_cases h4 : kd = 4
  ·subst h4
   by_cases hx : text = tx
   ·subst hx
    go_enter Tryz.func76, Tryz.ntmps76
    go_wp2_with (go_at_call 62; refine hp.mono ?_)
    intro r w1; first | (intro he b1; subst he) | rintro ⟨rfl, b1⟩
    go_wp2
    go_ret
    refine ⟨?_, b1.alloc b1.size _⟩
    first | (rw [<- hb]; simp; done) | simp_all
   ·have hx' := toList_ne hx
    go_enter Tryz.func76, Tryz.ntmps76
    go_wp2_with (go_at_call 62; refine hp.mono ?_)
    intro r w1; first | (intro he b1; subst he) | rintro ⟨rfl, b1⟩
    go_wp2
    go_ret
    refine ⟨?_, b1.alloc b1.size _⟩
    first | (rw [<- hb]; simp; done) | simp_all
  ·try have hx' := toList_ne hx
   go_enter Tryz.func76, Tryz.ntmps76
   go_wp2_with (go_at_call 62; refine hp.mono ?_)
   intro r w1; first | (intro he b1; subst he) | rintro ⟨rfl, b1⟩
   go_wp2
   go_ret
   refine ⟨?_, b1.alloc b1.size _⟩
   first | (rw [<- hb]; simp; done) | simp_all
theorem is_err (h : Prs Y M tv toks pos line col e free ls ln es clk w) (he : e ≠ 0) (tx : ByteArray) :
  Calls Tryz.prog 76 #[.pointer (some ⟨Y, 0, none⟩), .string tx] w fun r w' => r = .returned (.bool false) /\ Below w.heap.size w w' := by
 have hp := peek_err h he
 clear h
 go_enter Tryz.func76, Tryz.ntmps76
 go_wp2_with (go_at_call 62; refine hp.mono ?_)
 intro r w1; first | (intro he b1; subst he) | rintro ⟨rfl, b1⟩
 go_wp2
 go_ret
 exact ⟨rfl, b1.alloc b1.size _⟩
theorem Prs.next (h : Prs Y M tv toks pos line col e free ls ln es clk w) : Prs Y M tv toks (pos + 1) line col e free ls ln es clk (w.setCell ⟨Y, 1, none⟩ (I ((pos : Int) + 1))) :=
 h.put 1 _ (fun h => h) (by rw [show ((pos + 1 : Nat) : Int) = (pos : Int) + 1 by omega]; rfl)
theorem accept_yes (h : Prs Y M tv toks pos line col 0 free ls ln es clk w) (ht : toks[pos]? = some t) (tx : ByteArray) (hb : IsTok t tx = true) (hpos : pos <= 1048576) :
  Calls Tryz.prog 53 #[.pointer (some ⟨Y, 0, none⟩), .string tx] w fun r w' => r = .returned (.bool true) /\ Prs Y M tv toks (pos + 1) line col 0 free ls ln es clk w' /\ Away [Y] w w' := by
 have hi := is_ok h ht tx hb
 have hst := fun w' (b : Below w.heap.size w w') => h.step b
 clear h ht hb
 have hw : IntKind.i64.wrap ((pos : Int) + 1) = (pos : Int) + 1 := IntWalk.i64_in _ (by omega)
 go_enter Tryz.func53, Tryz.ntmps53
 go_wp2_with (go_at_call 76; refine hi.mono ?_)
 intro r w1; first | (intro he b1; subst he) | rintro ⟨rfl, b1⟩
 have hS := hst _ b1
 have c1 := hS.c1
 have f1 := hS.fz 1
 have hN := hS.next
 clear hS hst hi
 go_wp2
 go_ret
 exact ⟨rfl, hN, (Away.of_below b1).setCell (.inl (by simp)) _⟩
theorem accept_of (tx : ByteArray) (hi : Calls Tryz.prog 76 #[.pointer (some ⟨Y, 0, none⟩), .string tx] w fun r w' => r = .returned (.bool false) /\ Below w.heap.size w w') :
  Calls Tryz.prog 53 #[.pointer (some ⟨Y, 0, none⟩), .string tx] w fun r w' => r = .returned (.bool false) /\ Below w.heap.size w w' := by
 go_enter Tryz.func53, Tryz.ntmps53
 go_wp2_with (go_at_call 76; refine hi.mono ?_)
 intro r w1; first | (intro he b1; subst he) | rintro ⟨rfl, b1⟩
 go_wp2
 go_ret
 exact ⟨rfl, b1⟩
theorem accept_no (h : Prs Y M tv toks pos line col 0 free ls ln es clk w) (ht : toks[pos]? = some t) (tx : ByteArray) (hb : IsTok t tx = false) :
  Calls Tryz.prog 53 #[.pointer (some ⟨Y, 0, none⟩), .string tx] w fun r w' => r = .returned (.bool false) /\ Below w.heap.size w w' := accept_of tx (is_ok h ht tx hb)
theorem accept_err (h : Prs Y M tv toks pos line col e free ls ln es clk w) (he : e ≠ 0) (tx : ByteArray) :
  Calls Tryz.prog 53 #[.pointer (some ⟨Y, 0, none⟩), .string tx] w fun r w' => r = .returned (.bool false) /\ Below w.heap.size w w' := accept_of tx (is_err h he tx)
theorem fail_err (h : Prs Y M tv toks pos line col e free ls ln es clk w) (he : e ≠ 0) (c : Int) :
  Calls Tryz.prog 63 #[.pointer (some ⟨Y, 0, none⟩), I c] w fun r w' => r = .returned (.tuple #[]) /\ Below w.heap.size w w' := by
 have c4 := h.c4
 clear h
 go_enter Tryz.func63, Tryz.ntmps63
 go_wp2
 go_end0
 exact ⟨rfl, Below.refl _ _⟩
end
end Go.Proofs.YtgkhemnmcgicnaaGreatDoor
