/- Towards the law ParserVoices, true for every text (no condition): one part of the proof. -/
import Derived.Test.YtgkhemnmcgicnaaGreatDoorG01
import Derived.Test.YtgkhemnmcgicnaaGreatDoorG02
import Derived.Test.YtgkhemnmcgicnaaGreatDoorG05
import Derived.Test.YtgkhemnmcgicnaaGreatDoorG06
namespace Go.Proofs.YtgkhemnmcgicnaaGreatDoor
set_option maxHeartbeats 4000000
set_option maxRecDepth 100000
open Go.RowKit
def L4 (c : Nat) : Bool := decide (c ≠ 10)
theorem PK (c : Int) (w : World) : Calls Tryz.prog 128 #[.int .u8 c] w fun e w' => e = .returned (.bool (decide (c ≠ 10))) /\ w' = w := by
 go_enter Tryz.func128, Tryz.ntmps128
 by_cases h1 : c = 10
 all_goals (try subst h1)
 all_goals go_wp2
 all_goals go_ret
 all_goals simp_all
theorem L5 (c : Nat) (w : World) {b : Bool} (h : L4 c = b) : Calls Tryz.prog 128 #[.int .u8 c] w fun e w' => e = .returned (.bool b) /\ w' = w := by
 refine (PK c w).mono ?_
 rintro e w' ⟨rfl, rfl⟩
 refine ⟨?_, rfl⟩
 rw [<- h]; unfold L4
 congr 2
 exact decide_eq_decide.2 (by omega)
theorem SC (X : Nat) (s : ByteArray) (a b : Nat) (w : World) (c0 : w.cell? ⟨X, 0, none⟩ = some (.string s)) (hsz : s.size <= 1048576) (hu : xD L4 s a b) :
  Calls Tryz.prog 118 #[.pointer (some ⟨X, 0, none⟩), I a, .func (.func 128) #[] #[]] w fun e w' => e = .returned (I b) /\ w' = w := by
 obtain ⟨hab, hbs, hin, hout⟩ := hu
 go_enter Tryz.func118, Tryz.ntmps118
 go_wp2
 go_loop [1] (fun v => ∃ k : Nat, a <= k /\ k <= b /\ v = I k) (fun v => b - (intOf v).toNat)
 case atStart => exact ⟨a, qb _, hab, rfl⟩
 case round =>
  obtain ⟨k, hk1, hk2, rfl⟩ := hrel
  by_cases hlt : k < s.size
  ·by_cases hkb : k < b
   ·have hd := hin k hlt hk1 hkb
    go_wp2_with (go_at_call 128; refine (L5 _ _ hd).mono ?_; rintro e w2 ⟨rfl, rfl⟩)
    go_round
    case rel => exact ⟨k + 1, by omega, hkb, by go_num⟩
    case measure => simp [intOf]; omega
   ·obtain rfl : k = b := by omega
    have hd := hout hlt
    go_wp2_with (go_at_call 128; refine (L5 _ _ hd).mono ?_; rintro e w2 ⟨rfl, rfl⟩)
    go_ret
    exact ⟨rfl, rfl⟩
  ·obtain rfl : k = b := by omega
   go_wp2
   go_ret
   exact ⟨rfl, rfl⟩
inductive nZ (s : ByteArray) : Nat -> Nat -> Prop
 | stop {a : Nat} (ha : a <= s.size) (h : ∀ h : a < s.size, qL s[a].toNat = false /\ s[a].toNat ≠ 37) : nZ s a a
 | blank {a b : Nat} (ha : a < s.size) (h : qL s[a].toNat = true) (r : nZ s (a + 1) b) : nZ s a b
 | comment {a c b : Nat} (ha : a < s.size) (h : s[a].toNat = 37) (hc : a < c) (u : xD L4 s a c) (r : nZ s c b) : nZ s a b
theorem nZ.le {s : ByteArray} {a b : Nat} (h : nZ s a b) : a <= b /\ b <= s.size := by
 induction h with
 | stop ha _ => exact ⟨qb _, ha⟩
 | blank _ _ _ ih => omega
 | comment _ _ hc _ _ ih => omega
theorem BK (p : Nat -> Bool) (s : ByteArray) : ∀ (n a : Nat), s.size - a = n -> a <= s.size -> ∃ b, xD p s a b
 | 0, a, hn, ha => ⟨a, qb _, ha, fun k h h1 h2 => by omega, fun h => by omega⟩
 | n + 1, a, hn, ha => by
  have hlt : a < s.size := by omega
  cases hp : p s[a].toNat with
  | false => exact ⟨a, qb _, ha, fun k h h1 h2 => by omega, fun _ => hp⟩
  | true =>
   obtain ⟨b, h1, h2, h3, h4⟩ := BK p s n (a + 1) (by omega) (by omega)
   refine ⟨b, by omega, h2, fun k h hk1 hk2 => ?_, h4⟩
   by_cases he : k = a
   ·subst he; exact hp
   ·exact h3 k h (by omega) hk2
theorem qS {p : Nat -> Bool} {s : ByteArray} {a b : Nat} (u : xD p s a b) (ha : a < s.size) (h : p s[a].toNat = true) : a < b := by
 have h1 := u.ab
 rcases Nat.lt_or_ge a b with h2 | h2
 ·exact h2
 ·obtain rfl : a = b := by omega
  rw [u.out ha] at h; cases h
theorem JL (s : ByteArray) : ∀ (n a : Nat), s.size - a <= n -> a <= s.size -> ∃ b, nZ s a b
 | 0, a, hn, ha => ⟨a, .stop ha fun h => by omega⟩
 | n + 1, a, hn, ha => by
  by_cases hlt : a < s.size
  ·cases hb : qL s[a].toNat with
   | true =>
    obtain ⟨b, hr⟩ := JL s n (a + 1) (by omega) (by omega)
    exact ⟨b, .blank hlt hb hr⟩
   | false =>
    by_cases h37 : s[a].toNat = 37
    ·obtain ⟨c, hu⟩ := BK L4 s _ a rfl ha
     have hac := qS hu hlt (by rw [h37]; decide)
     obtain ⟨b, hr⟩ := JL s n c (by omega) hu.bs
     exact ⟨b, .comment hlt h37 hac hu hr⟩
    ·exact ⟨a, .stop ha fun _ => ⟨hb, h37⟩⟩
  ·exact ⟨a, .stop ha fun h => absurd h hlt⟩
section
variable {B X : Nat} {ks : List (Nat × Obj)} {s : ByteArray} {lines : Value} {lv : Value} {n : Nat} {xs : List Value} {wr : Int} {w0 w : World}
theorem DG {a : Nat} (h : gG B X ks s lines a lv n xs 0 wr w0 w) (hsz : s.size <= 1048576) (b : Nat) (hu : nZ s a b) :
  Calls Tryz.prog 85 #[.pointer (some ⟨X, 0, none⟩)] w fun e w' => e = .returned (.bool (decide (a < b))) /\ gG B X ks s lines b lv n xs 0 wr w0 w' := by
 have c1 := h.c1
 have hab := hu.le.1
 go_enter Tryz.func85, Tryz.ntmps85
 go_wp2
 go_step3
 go_wp2
 go_step3
 go_wp2
 go_loopg [4] (b - a) (fun g v wr' => ∃ k : Nat, nZ s k b /\ b - k <= g /\ gG B X ks s lines k lv n xs 0 wr w0 wr')
 case atStart => exact ⟨a, hu, qb _, h⟩
 case round =>
  clear h c1 hu
  obtain ⟨k, hu, hg, hS⟩ := hrel
  have d0 := hS.c0
  have d1 := hS.c1
  have f1 := hS.fz 1
  have e1 : ((k + 1 : Nat) : Int) = (k : Int) + 1 := by omega
  have hle := hu.le
  cases hu with
  | blank hlt hd hr =>
   have hne := K5 hd
   have hlt' : (k : Int) < s.size := by omega
   have hle2 := hr.le
   go_wp2
   go_quiet (fail)
   go_wp2
   go_quiet (fail)
   go_wp2_with (go_at_call 129; refine (K4 _ _ hd).mono ?_; rintro e w2 ⟨rfl, rfl⟩)
   go_roundg (b - (k + 1))
   case measure => omega
   case rel =>
    refine ⟨k + 1, hr, qb _, ?_⟩
    rw [e1]
    exact (hS.step (cD (qa _ _) _)).at _
  | @comment _ c _ hlt h37 hkc hun hr =>
   have h37' : ((s[k].toNat : Nat) : Int) = 37 := by omega
   have hlt' : (k : Int) < s.size := by omega
   have hle2 := hr.le
   clear e1
   go_wp2
   go_quiet (fail)
   go_wp2
   go_quiet (fail)
   have hrn := fun w' (q0 : w'.cell? ⟨X, 0, none⟩ = some (.string s)) => SC X s k c w' q0 hsz hun
   go_wp2_with (go_at_call 118; refine (hrn _ (by assumption)).mono ?_; rintro e w2 ⟨rfl, rfl⟩)
   go_roundg (b - c)
   case measure => omega
   case rel => exact ⟨c, hr, qb _, (hS.step (cD (qa _ _) _)).at _⟩
  | stop hle' hst =>
   clear e1
   by_cases hlt : b < s.size
   ·obtain ⟨hd, hne0⟩ := hst hlt
    have hne : ¬ ((s[b].toNat : Nat) : Int) = 37 := by omega
    have hlt' : (b : Int) < s.size := by omega
    go_wp2
    go_quiet (fail)
    go_wp2
    go_quiet (fail)
    go_wp2_with (go_at_call 129; refine (K4 _ _ hd).mono ?_; rintro e w2 ⟨rfl, rfl⟩)
    rw [Exit.noGoto_ret]
    go_ret
    refine ⟨?_, hS.step (cD (qa _ _) _)⟩
    first | rfl | simp
   ·have hlt' : ¬ (b : Int) < s.size := by omega
    go_wp2
    go_quiet (fail)
    go_wp2
    rw [Exit.noGoto_ret]
    go_ret
    refine ⟨?_, hS.step (cD (qa _ _) _)⟩
    first | rfl | simp
end
inductive Lx (ls : List Int) (s : ByteArray) : Nat -> Nat -> List bD -> Option (Nat × Int) -> Prop
 | fin {a b n : Nat} (hu : nZ s a b) (hb : b = s.size) : Lx ls s a n [⟨0, s.extract b b, 0, ByteArray.empty, rN ls b, rP ls b, !decide (a < b) && decide (0 < n)⟩] none
 | word {a b c n : Nat} {toks : List bD} {out : Option (Nat × Int)} (hu : nZ s a b) (hb : b < s.size) (hc : eP s[b].toNat = true) (hw : xD iQ s b c) (hl : c <= b + 64) (h : Lx ls s c (n + 1) toks out) :
   Lx ls s a n (⟨1, s.extract b c, 0, ByteArray.empty, rN ls b, rP ls b, !decide (a < b) && decide (0 < n)⟩ :: toks) out
 | wordLong {a b c n : Nat} (hu : nZ s a b) (hb : b < s.size) (hc : eP s[b].toNat = true) (hw : xD iQ s b c) (hl : b + 64 < c) : Lx ls s a n [] (some (b, 5))
 | number {a b c n : Nat} {toks : List bD} {out : Option (Nat × Int)} (v : Int) (hu : nZ s a b) (hb : b < s.size) (hc : dC s[b].toNat = true) (hw : xD dC s b c) (hl : c <= b + 15) (hv : Lib.atoi (s.extract b c).data.toList = some v) (h : Lx ls s c (n + 1) toks out) :
   Lx ls s a n (⟨2, s.extract b c, v, ByteArray.empty, rN ls b, rP ls b, !decide (a < b) && decide (0 < n)⟩ :: toks) out
 | long {a b c n : Nat} (hu : nZ s a b) (hb : b < s.size) (hc : dC s[b].toNat = true) (hw : xD dC s b c) (hl : b + 15 < c) : Lx ls s a n [] (some (b, 5))
 | str {a b c n : Nat} {toks : List bD} {out : Option (Nat × Int)} {bytes : List UInt8} (hu : nZ s a b) (hb : b < s.size) (hc : s[b].toNat = 34) (hR : rL s (b + 1) [] (.hit c bytes)) (h : Lx ls s c (n + 1) toks out) :
   Lx ls s a n (⟨3, s.extract b c, 0, mk bytes, rN ls b, rP ls b, !decide (a < b) && decide (0 < n)⟩ :: toks) out
 | strShort {a b n : Nat} (hu : nZ s a b) (hb : b < s.size) (hc : s[b].toNat = 34) (hR : rL s (b + 1) [] .short) : Lx ls s a n [] (some (b, 4))
 | strWrong {a b n p : Nat} (hu : nZ s a b) (hb : b < s.size) (hc : s[b].toNat = 34) (hR : rL s (b + 1) [] (.wrong p)) : Lx ls s a n [] (some (p, 6))
 | sym {a b n : Nat} {toks : List bD} {out : Option (Nat × Int)} (hu : nZ s a b) (hb : b < s.size) (h1 : eP s[b].toNat = false) (h2 : dC s[b].toNat = false) (h3 : s[b].toNat ≠ 34) (hc : 0 <= Lib.indexByte jM s[b].toNat.toUInt8) (h : Lx ls s (b + 1) (n + 1) toks out) :
   Lx ls s a n (⟨4, s.extract b (b + 1), 0, ByteArray.empty, rN ls b, rP ls b, !decide (a < b) && decide (0 < n)⟩ :: toks) out
 | none {a b n : Nat} (hu : nZ s a b) (hb : b < s.size) (h1 : eP s[b].toNat = false) (h2 : dC s[b].toNat = false) (h3 : s[b].toNat ≠ 34) (hc : Lib.indexByte jM s[b].toNat.toUInt8 = -1) : Lx ls s a n [] (some (b, 6))
def cellsOf (l : List bD) : List Value := l.flatMap bD.cells
def gF (ls : List Int) (B X : Nat) (ks : List (Nat × Obj)) (s : ByteArray) (lines : Value) (_b n : Nat) (_lv : Value) (xs : List Value) (wr : Int) (w0 : World) (toks : List bD) (out : Option (Nat × Int)) (w : World) : Prop :=
 (∃ t toks' lv' c, toks = t :: toks' /\ Lx ls s c (n + 1) toks' out /\ gG B X ks s lines (c : Nat) lv' (n + 1) (xs ++ t.cells) 0 wr w0 w) \/
 (∃ (b' pos' n' : Nat) (e' : Int) (lv' : Value) (xs' : List Value), toks = [] /\ out = some (b', e') /\ e' ≠ 0 /\ gG B X ks s lines (pos' : Nat) lv' n' xs' e' (b' : Nat) w0 w)
theorem K7 {c : Nat} (h : dC c = true) : ((c : Nat) : Int) ≠ 37 /\ eP c = false := by
 simp only [dC, qqx, decide_eq_true_eq] at h
 refine ⟨by omega, ?_⟩
 have h1 : ¬ 97 <= c := by omega
 have h2 : ¬ 65 <= c := by omega
 simp [eP, h1, h2]
def aAQ (ls : List Int) (s : ByteArray) (a n : Nat) (toks : List bD) (out : Option (Nat × Int)) : Prop :=
 (∃ b, nZ s a b /\ b = s.size /\ toks = [⟨0, s.extract b b, 0, ByteArray.empty, rN ls b, rP ls b, !decide (a < b) && decide (0 < n)⟩] /\ out = none) \/
  (∃ b p, nZ s a b /\ b < s.size /\ p < 4 /\
   ∀ (B X : Nat) (ks : List (Nat × Obj)) (LN lv : Value) (xs : List Value) (wr : Int) (w0 w : World), hG LN ls ks -> gG B X ks s LN b lv n xs 0 wr w0 w ->
    (∀ i, i < p -> yT (81 + i) X (!decide (a < b)) w) /\ YQ (81 + p) X (!decide (a < b)) w (gF ls B X ks s LN b n lv xs wr w0 toks out)) \/
  (∃ b, nZ s a b /\ b < s.size /\ toks = [] /\ out = some (b, 6) /\
   ∀ (B X : Nat) (ks : List (Nat × Obj)) (LN lv : Value) (xs : List Value) (wr : Int) (w0 w : World), hG LN ls ks -> gG B X ks s LN b lv n xs 0 wr w0 w ->
    (∀ i, i < 4 -> yT (81 + i) X (!decide (a < b)) w))
theorem WQ {ls : List Int} (gL : oL ls) {s : ByteArray} {a n : Nat} {toks : List bD} {out : Option (Nat × Int)} (h : Lx ls s a n toks out) (hsz : s.size <= 4000) (hn : n <= 1048576) : aAQ ls s a n toks out := by
 cases h with
 | fin hu hb => exact .inl ⟨_, hu, hb, rfl, rfl⟩
 | @word _ b c _ toks' _ hu hb hc hw hl h =>
  refine .inr (.inl ⟨b, 0, hu, hb, by omega, fun B X ks LN lv xs wr w0 w hL hS => ⟨fun i hi => absurd hi (by omega), fun w' b' => ?_⟩⟩)
  refine (TQ (hS.step b') hL gL (by omega) hn hb hc c hw hl _).mono ?_
  rintro e w'' ⟨rfl, lv', hS'⟩
  exact ⟨rfl, .inl ⟨_, _, lv', c, rfl, h, hS'⟩⟩
 | @wordLong _ b c _ hu hb hc hw hl =>
  refine .inr (.inl ⟨b, 0, hu, hb, by omega, fun B X ks LN lv xs wr w0 w hL hS => ⟨fun i hi => absurd hi (by omega), fun w' b' => ?_⟩⟩)
  refine (RV (hS.step b') hL gL (by omega) hn hb hc c hw hl _).mono ?_
  rintro e w'' ⟨rfl, lv', xs', hS'⟩
  exact ⟨rfl, .inr ⟨b, c, _, 5, lv', xs', rfl, rfl, by decide, hS'⟩⟩
 | @number _ b c _ toks' _ v hu hb hc hw hl hv h =>
  refine .inr (.inl ⟨b, 1, hu, hb, by omega, fun B X ks LN lv xs wr w0 w hL hS => ⟨fun i hi => ?_, fun w' b' => ?_⟩⟩)
  ·obtain rfl : i = 0 := by omega
   exact fun w' b' => lF (hS.step b') hb (K7 hc).2 _
  ·refine (NN (hS.step b') hL gL (by omega) hn hb hc c hw hl v hv _).mono ?_
   rintro e w'' ⟨rfl, lv', hS'⟩
   exact ⟨rfl, .inl ⟨_, _, lv', c, rfl, h, hS'⟩⟩
 | @long _ b c _ hu hb hc hw hl =>
  refine .inr (.inl ⟨b, 1, hu, hb, by omega, fun B X ks LN lv xs wr w0 w hL hS => ⟨fun i hi => ?_, fun w' b' => ?_⟩⟩)
  ·obtain rfl : i = 0 := by omega
   exact fun w' b' => lF (hS.step b') hb (K7 hc).2 _
  ·refine (K6 (hS.step b') (by omega) hb hc c hw hl _).mono ?_
   rintro e w'' ⟨rfl, hS'⟩
   exact ⟨rfl, .inr ⟨b, b, _, 5, lv, xs, rfl, rfl, by decide, hS'⟩⟩
 | @str _ b c _ toks' _ bytes hu hb hc hR h =>
  refine .inr (.inl ⟨b, 2, hu, hb, by omega, fun B X ks LN lv xs wr w0 w hL hS => ⟨fun i hi => ?_, fun w' b' => ?_⟩⟩)
  ·rcases (by omega : i = 0 \/ i = 1) with rfl | rfl
   ·exact fun w' b' => lF (hS.step b') hb (by rw [hc]; decide) _
   ·exact fun w' b' => mF (hS.step b') hb (by rw [hc]; decide) _
  ·refine (DK (hS.step b') hL gL hsz hn hb hc hR _).mono ?_
   rintro e w'' ⟨rfl, lv', hS'⟩
   exact ⟨rfl, .inl ⟨_, _, lv', c, rfl, h, hS'⟩⟩
 | @strShort _ b _ hu hb hc hR =>
  refine .inr (.inl ⟨b, 2, hu, hb, by omega, fun B X ks LN lv xs wr w0 w hL hS => ⟨fun i hi => ?_, fun w' b' => ?_⟩⟩)
  ·rcases (by omega : i = 0 \/ i = 1) with rfl | rfl
   ·exact fun w' b' => lF (hS.step b') hb (by rw [hc]; decide) _
   ·exact fun w' b' => mF (hS.step b') hb (by rw [hc]; decide) _
  ·refine (DK (hS.step b') hL gL hsz hn hb hc hR _).mono ?_
   rintro e w'' ⟨rfl, hS'⟩
   exact ⟨rfl, .inr ⟨b, b, _, 4, lv, xs, rfl, rfl, by decide, hS'⟩⟩
 | @strWrong _ b _ p hu hb hc hR =>
  refine .inr (.inl ⟨b, 2, hu, hb, by omega, fun B X ks LN lv xs wr w0 w hL hS => ⟨fun i hi => ?_, fun w' b' => ?_⟩⟩)
  ·rcases (by omega : i = 0 \/ i = 1) with rfl | rfl
   ·exact fun w' b' => lF (hS.step b') hb (by rw [hc]; decide) _
   ·exact fun w' b' => mF (hS.step b') hb (by rw [hc]; decide) _
  ·refine (DK (hS.step b') hL gL hsz hn hb hc hR _).mono ?_
   rintro e w'' ⟨rfl, hS'⟩
   exact ⟨rfl, .inr ⟨p, b, _, 6, lv, xs, rfl, rfl, by decide, hS'⟩⟩
 | @sym _ b _ toks' _ hu hb h1 h2 h3 hc h =>
  refine .inr (.inl ⟨b, 3, hu, hb, by omega, fun B X ks LN lv xs wr w0 w hL hS => ⟨fun i hi => ?_, fun w' b' => ?_⟩⟩)
  ·rcases (by omega : i = 0 \/ i = 1 \/ i = 2) with rfl | rfl | rfl
   ·exact fun w' b' => lF (hS.step b') hb h1 _
   ·exact fun w' b' => mF (hS.step b') hb h2 _
   ·exact fun w' b' => FL (hS.step b') hb (by omega) _
  ·refine (NP (hS.step b') hL gL (by omega) hn hb hc _).mono ?_
   rintro e w'' ⟨rfl, lv', hS'⟩
   exact ⟨rfl, .inl ⟨_, _, lv', b + 1, rfl, h, hS'⟩⟩
 | @none _ b _ hu hb h1 h2 h3 hc =>
  refine .inr (.inr ⟨b, hu, hb, rfl, rfl, fun B X ks LN lv xs wr w0 w hL hS i hi => ?_⟩)
  rcases (by omega : i = 0 \/ i = 1 \/ i = 2 \/ i = 3) with rfl | rfl | rfl | rfl
  ·exact fun w' b' => lF (hS.step b') hb h1 _
  ·exact fun w' b' => mF (hS.step b') hb h2 _
  ·exact fun w' b' => FL (hS.step b') hb (by omega) _
  ·exact fun w' b' => LJ (hS.step b') hb hc _
theorem WR : (List.range 256).all (fun n => decide (Lib.indexByte jM n.toUInt8 = -1) || decide (0 <= Lib.indexByte jM n.toUInt8)) = true := by decide +kernel
theorem RM (c : Nat) (hc : c < 256) : Lib.indexByte jM c.toUInt8 = -1 \/ 0 <= Lib.indexByte jM c.toUInt8 := by
 have h := qqn.1 WR c (List.mem_range.2 hc)
 simpa only [Bool.or_eq_true, decide_eq_true_eq] using h
theorem K8 (ls : List Int) (s : ByteArray) (hat : ∀ b c, b < c -> c <= b + 15 -> c <= s.size -> (∀ k (h : k < s.size), b <= k -> k < c -> dC s[k].toNat = true) -> ∃ v, Lib.atoi (s.extract b c).data.toList = some v) :
  ∀ (m a n : Nat), s.size - a <= m -> a <= s.size -> ∃ toks out, Lx ls s a n toks out
 | 0, a, n, hm, ha => ⟨_, _, .fin (.stop ha fun h => by omega) (by omega)⟩
 | m + 1, a, n, hm, ha => by
  obtain ⟨b, hu⟩ := JL s _ a (qb _) ha
  have hle := hu.le
  by_cases hb : b < s.size
  ·cases h1 : eP s[b].toNat with
   | true =>
    obtain ⟨c, hw⟩ := BK iQ s _ b rfl hle.2
    have hlt := qS hw hb (by unfold iQ; rw [h1]; rfl)
    by_cases hl : c <= b + 64
    ·obtain ⟨toks, out, h⟩ := K8 ls s hat m c (n + 1) (by omega) hw.bs
     exact ⟨_, _, .word hu hb h1 hw hl h⟩
    ·exact ⟨_, _, .wordLong hu hb h1 hw (by omega)⟩
   | false =>
    cases h2 : dC s[b].toNat with
    | true =>
     obtain ⟨c, hw⟩ := BK dC s _ b rfl hle.2
     have hlt := qS hw hb h2
     by_cases hl : c <= b + 15
     ·obtain ⟨toks, out, h⟩ := K8 ls s hat m c (n + 1) (by omega) hw.bs
      obtain ⟨v, hv⟩ := hat b c hlt hl hw.bs (fun k h h3 h4 => hw.ins k h h3 h4)
      exact ⟨_, _, .number v hu hb h2 hw hl hv h⟩
     ·exact ⟨_, _, .long hu hb h2 hw (by omega)⟩
    | false =>
     by_cases h3 : s[b].toNat = 34
     ·obtain ⟨o, hR⟩ := PN s _ (b + 1) [] (qb _)
      cases o with
      | hit c bytes =>
       have hc := hR.le c bytes rfl
       obtain ⟨toks, out, h⟩ := K8 ls s hat m c (n + 1) (by omega) hc.2
       exact ⟨_, _, .str hu hb h3 hR h⟩
      | short => exact ⟨_, _, .strShort hu hb h3 hR⟩
      | wrong p => exact ⟨_, _, .strWrong hu hb h3 hR⟩
     ·rcases RM s[b].toNat s[b].toNat_lt with hc | hc
      ·exact ⟨_, _, .none hu hb h1 h2 h3 hc⟩
      ·obtain ⟨toks, out, h⟩ := K8 ls s hat m (b + 1) (n + 1) (by omega) (by omega)
       exact ⟨_, _, .sym hu hb h1 h2 h3 hc h⟩
  ·exact ⟨_, _, .fin hu (by omega)⟩
set_option maxHeartbeats 16000000
section
variable {B X : Nat} {ks : List (Nat × Obj)} {s : ByteArray} {lines : Value} {pos : Int} {lv : Value} {n : Nat} {xs : List Value} {e wr : Int} {w0 w : World}
theorem hG.more {LN : Value} {ls : List Int} {ks : List (Nat × Obj)} {p : Nat × Obj} (h : hG LN ls ks) : hG LN ls (p :: ks) := by
 obtain ⟨L, cap, cs, h1, h2, h3⟩ := h
 exact ⟨L, cap, cs, h1, List.mem_cons_of_mem _ h2, h3⟩
theorem gG.more (h : gG B X ks s lines pos lv n xs e wr w0 w) {k : Nat} {o : Obj} (hk : w.heap[k]? = some o) (hX : k ≠ X) (hB : B <= k) (ho : ∀ cs fr, o ≠ .cells cs 59 fr) : gG B X ((k, o) :: ks) s lines pos lv n xs e wr w0 w :=
 ⟨h.hX, h.hB, h.blk, h.own, fun p hp => by
  rcases qqj.1 hp with rfl | hp
  ·exact ⟨hk, hX, hB, ho⟩
  ·exact h.keep p hp, h.below⟩
theorem gG.less {p : Nat × Obj} (h : gG B X (p :: ks) s lines pos lv n xs e wr w0 w) : gG B X ks s lines pos lv n xs e wr w0 w :=
 ⟨h.hX, h.hB, h.blk, h.own, fun q hq => h.keep q (List.mem_cons_of_mem _ hq), h.below⟩
end
theorem gG.box {B X : Nat} {ks : List (Nat × Obj)} {s : ByteArray} {lines : Value} {pos : Int} {lv : Value} {n : Nat} {xs : List Value} {e wr : Int} {w0 w : World} (h : gG B X ks s lines pos lv n xs e wr w0 w) {k : Nat} {v : Value} {T : TypeId} (hk : (k, Obj.cells #[v] T (0, 0)) ∈ ks) : w.cell? ⟨k, 0, none⟩ = some v := by
 rw [Lib.cell_of_heap (h.keep _ hk).1]; rfl
inductive Z1 (ls : List Int) (B X : Nat) (ks : List (Nat × Obj)) (s : ByteArray) (lines : Value) (wr : Int) (w0 : World) (N : Nat) (all : List Value) (out : Option (Nat × Int)) (g : Nat) (w : World) : Prop
 | on (a n : Nat) (toks : List bD) (lv : Value) (xs : List Value) (h : Lx ls s a n toks out) (hS : gG B X ks s lines a lv n xs 0 wr w0 w) (hN : n + toks.length = N) (hall : xs ++ cellsOf toks = all) (hg : toks.length < g)
 | failed (b n : Nat) (e : Int) (he : e ≠ 0) (pos : Nat) (lv : Value) (xs : List Value) (hout : out = some (b, e)) (hS : gG B X ks s lines pos lv n xs e b w0 w)
def XV (B X : Nat) (ks : List (Nat × Obj)) (s : ByteArray) (lines : Value) (wr : Int) (w0 : World) (N : Nat) (all : List Value) (out : Option (Nat × Int)) (w : World) : Prop :=
 (out = none /\ ∃ (pos : Nat) (lv : Value), gG B X ks s lines pos lv N all 0 wr w0 w) \/
 (∃ (b pos n : Nat) (e : Int) (lv : Value) (xs : List Value), e ≠ 0 /\ out = some (b, e) /\ gG B X ks s lines pos lv n xs e b w0 w)
section
variable {LN : Value} {ls : List Int} {B X : Nat} {ks : List (Nat × Obj)} {s : ByteArray} {lv : Value} {n a : Nat} {xs : List Value} {wz : Int} {w0 w : World} {toks : List bD} {out : Option (Nat × Int)}
theorem RN (hx : Lx ls s a n toks out) (h : gG B X ks s LN a lv n xs 0 wz w0 w) (hL : hG LN ls ks) (gL : oL ls) (hsz : s.size <= 4000) (hn : n + toks.length <= 262143) :
  Calls Tryz.prog 41 #[.pointer (some ⟨X, 0, none⟩)] w fun r w' => r = .returned (.tuple #[]) /\ XV B X ks s LN wz w0 (n + toks.length) (xs ++ cellsOf toks) out w' := by
 have hlt := h.lt
 have hBw := h.hB
 have hW : gG B X ((w.heap.size + 1, eZ) :: (w.heap.size, .cells #[.pointer (some ⟨X, 0, none⟩)] 105 (0, 0)) :: ks) s LN a lv n xs 0 wz w0 ((w.alloc (.cells #[.pointer (some ⟨X, 0, none⟩)] 105)).alloc eZ) := by
  refine gG.more (gG.more (h.step (((qa _ w).alloc (qb _) _).alloc (by simp) _)) ?_ (by omega) hBw (by intro cs fr hc; injection hc with _ h2 _; exact absurd h2 (by decide))) ?_ (by omega) (by omega) (by intro cs fr hc; injection hc with _ h2 _; exact absurd h2 (by decide))
  ·exact (Lib.alloc_old _ _ _ (by simp)).trans (qc w _)
  ·have := qc (w.alloc (.cells #[.pointer (some ⟨X, 0, none⟩)] 105)) eZ
   simpa using this
 generalize hBx : w.heap.size = Bx at hW hlt hBw
 go_enter Tryz.func41, Tryz.ntmps41
 go_wp2
 generalize hV : ((w.alloc (.cells #[.pointer (some ⟨X, 0, none⟩)] 105)).alloc (.cells #[.func (.func 81) #[] #[], .func (.func 82) #[] #[], .func (.func 83) #[] #[], .func (.func 84) #[] #[]] 153)) = V
 have hW' : gG B X ((Bx + 1, eZ) :: (Bx, .cells #[.pointer (some ⟨X, 0, none⟩)] 105 (0, 0)) :: ks) s LN a lv n xs 0 wz w0 V := by rw [<- hV]; exact hW
 clear hW hV h hlt hBw hBx
 go_loopg [3] (toks.length + 1) (fun g v wr' => Z1 ls B X ((Bx + 1, eZ) :: (Bx, .cells #[.pointer (some ⟨X, 0, none⟩)] 105 (0, 0)) :: ks) s LN wz w0 (n + toks.length) (xs ++ cellsOf toks) out g wr')
 case atStart => exact .on a n toks lv xs hx hW' rfl rfl (by omega)
 case round =>
  clear hW' hx
  cases hrel with
  | failed b n' e he pos lv' xs' hout hS =>
   have d4 := hS.c4
   have k1 : wr.cell? ⟨Bx, 0, none⟩ = some (.pointer (some ⟨X, 0, none⟩)) := hS.box (T := 105) (by simp)
   have hfin : XV B X ks s LN wz w0 (n + toks.length) (xs ++ cellsOf toks) out wr := .inr ⟨b, pos, n', e, lv', xs', he, hout, hS.less.less⟩
   clear hS
   go_wp2
   go_end0
   exact ⟨rfl, hfin⟩
  | on a n' toks' lv' xs' hx' hS hN hall hg =>
   have d4 := hS.c4
   have k1 : wr.cell? ⟨Bx, 0, none⟩ = some (.pointer (some ⟨X, 0, none⟩)) := hS.box (T := 105) (by simp)
   rcases WQ gL hx' hsz (by omega) with ⟨b, hu, hb, htoks, hout⟩ | ⟨b, p, hu, hb, hp, hstep⟩ | ⟨b, hu, hb, rfl, hout, hstep⟩
   ·have hsk := DG hS (by omega) b hu
    clear hS
    go_wp2_with (go_at_call 85; refine hsk.mono ?_)
    rintro e w2 ⟨rfl, hS2⟩
    have k2 : w2.cell? ⟨Bx, 0, none⟩ = some (.pointer (some ⟨X, 0, none⟩)) := hS2.box (T := 105) (by simp)
    clear d4 k1
    subst hb
    go_wp2
    have hj3 : (w2.alloc (.cells #[.bool (!decide (a < s.size))] 4)).cell? ⟨w2.heap.size, 0, none⟩ = some (.bool (!decide (a < s.size))) := by rw [Lib.cell_of_heap (qc w2 _)]; rfl
    have hS3 := hS2.step ((qa _ w2).alloc (qb _) (.cells #[.bool (!decide (a < s.size))] 4))
    generalize hV3 : w2.alloc (.cells #[.bool (!decide (a < s.size))] 4) = V3 at hS3 hj3 |-
    generalize w2.heap.size = Bj at hj3 |-
    clear hV3 hS2 k2
    have k3 : V3.cell? ⟨Bx, 0, none⟩ = some (.pointer (some ⟨X, 0, none⟩)) := hS3.box (T := 105) (by simp)
    have c30 := hS3.c0
    have c31 := hS3.c1
    go_quiet (fail)
    have hS4 := hS3.step (cD (qa _ V3) nq)
    have j4 : (V3.drewN nq).cell? ⟨Bj, 0, none⟩ = some (.bool (!decide (a < s.size))) := hj3
    generalize V3.drewN nq = V4 at hS4 j4 |-
    have k4 : V4.cell? ⟨Bx, 0, none⟩ = some (.pointer (some ⟨X, 0, none⟩)) := hS4.box (T := 105) (by simp)
    have c41 := hS4.c1
    clear hS3 hj3 k3 c30 c31
    go_wp2
    go_still_tail 7, (by kernel_rfl)
    change wpList _ _ _ _ _ V4.drew
    have hS5 := hS4.step ((qa _ V4).drew)
    generalize V4.drew = V5 at hS5 |-
    clear k4 c41 j4 hS4
    have hadd := pP hS5 hL.more.more gL (by omega) (by omega) s.size (qb _) (qb _) 0 0 ByteArray.empty (!decide (a < s.size))
    go_wp2_with (go_at_call 86; refine hadd.mono ?_)
    rintro e w6 ⟨rfl, lv6, hS6⟩
    go_wp2
    refine qf (results_none rfl _ _ _) rfl ?_
    refine ⟨rfl, .inl ⟨hout, s.size, lv6, ?_⟩⟩
    subst htoks
    have e1 : n + toks.length = n' + 1 := by rw [<- hN]; rfl
    rw [e1, <- hall]
    simpa [cellsOf] using hS6.less.less
   ·have hj : p < 4 := hp
    have hsk := DG hS (by omega) b hu
    clear hS
    go_wp2_with (go_at_call 85; refine hsk.mono ?_)
    rintro e w2 ⟨rfl, hS2⟩
    have k2 : w2.cell? ⟨Bx, 0, none⟩ = some (.pointer (some ⟨X, 0, none⟩)) := hS2.box (T := 105) (by simp)
    clear d4 k1
    go_wp2
    have hj3 : (w2.alloc (.cells #[.bool (!decide (a < b))] 4)).cell? ⟨w2.heap.size, 0, none⟩ = some (.bool (!decide (a < b))) := by rw [Lib.cell_of_heap (qc w2 _)]; rfl
    have hS3 := hS2.step ((qa _ w2).alloc (qb _) (.cells #[.bool (!decide (a < b))] 4))
    generalize hV3 : w2.alloc (.cells #[.bool (!decide (a < b))] 4) = V3 at hS3 hj3 |-
    generalize w2.heap.size = Bj at hj3 |-
    clear hV3 hS2 k2
    have k3 : V3.cell? ⟨Bx, 0, none⟩ = some (.pointer (some ⟨X, 0, none⟩)) := hS3.box (T := 105) (by simp)
    have c30 := hS3.c0
    have c31 := hS3.c1
    have hne : ¬ ((b : Int) = (s.size : Int)) := by omega
    go_quiet (fail)
    have hS4 := hS3.step (cD (qa _ V3) nq)
    have j4 : (V3.drewN nq).cell? ⟨Bj, 0, none⟩ = some (.bool (!decide (a < b))) := hj3
    generalize V3.drewN nq = V4 at hS4 j4 |-
    have k4 : V4.cell? ⟨Bx, 0, none⟩ = some (.pointer (some ⟨X, 0, none⟩)) := hS4.box (T := 105) (by simp)
    obtain ⟨ao, cp, rfl⟩ := hS4.lvIs
    have c43 := hS4.c3
    have hne2 : ¬ ((n' : Int) = 262144) := by omega
    obtain ⟨hmiss, hhit⟩ := hstep B X _ _ _ _ wz w0 _ hL.more.more hS4
    have hK : V4.heap[Bx + 1]? = some eZ := (hS4.keep (Bx + 1, eZ) (by simp)).1
    have htk := NQ p hp hK k4 j4 hmiss hhit
    clear hS3 hj3 k3 c30 c31 hmiss hhit hsk hS4 hstep
    go_wp2_with (go_at_call 88; refine htk.mono ?_)
    rintro e w6 ⟨rfl, hA⟩
    go_wp2
    rcases hA with ⟨t, tk, lv2, c, rfl, hx2, hS2⟩ | ⟨b', pos', n2, e', lv2, xs2, rfl, hout, he', hS2⟩
    ·go_roundg (gk - 1)
     case measure => simp only [qj] at hg; omega
     case rel =>
      refine .on c (n' + 1) tk lv2 _ hx2 hS2 ?_ ?_ ?_
      ·rw [<- hN]; simp only [qj]; omega
      ·rw [<- hall]; simp [cellsOf]
      ·simp only [qj] at hg; omega
    ·go_roundg 0
     case measure => simp only [qqi] at hg; omega
     case rel => exact .failed b' n2 e' he' pos' _ _ hout hS2
   ·have hsk := DG hS (by omega) b hu
    clear hS
    go_wp2_with (go_at_call 85; refine hsk.mono ?_)
    rintro e w2 ⟨rfl, hS2⟩
    have k2 : w2.cell? ⟨Bx, 0, none⟩ = some (.pointer (some ⟨X, 0, none⟩)) := hS2.box (T := 105) (by simp)
    clear d4 k1
    go_wp2
    have hj3 : (w2.alloc (.cells #[.bool (!decide (a < b))] 4)).cell? ⟨w2.heap.size, 0, none⟩ = some (.bool (!decide (a < b))) := by rw [Lib.cell_of_heap (qc w2 _)]; rfl
    have hS3 := hS2.step ((qa _ w2).alloc (qb _) (.cells #[.bool (!decide (a < b))] 4))
    generalize hV3 : w2.alloc (.cells #[.bool (!decide (a < b))] 4) = V3 at hS3 hj3 |-
    generalize w2.heap.size = Bj at hj3 |-
    clear hV3 hS2 k2
    have k3 : V3.cell? ⟨Bx, 0, none⟩ = some (.pointer (some ⟨X, 0, none⟩)) := hS3.box (T := 105) (by simp)
    have c30 := hS3.c0
    have c31 := hS3.c1
    have hne : ¬ ((b : Int) = (s.size : Int)) := by omega
    go_quiet (fail)
    have hS4 := hS3.step (cD (qa _ V3) nq)
    have j4 : (V3.drewN nq).cell? ⟨Bj, 0, none⟩ = some (.bool (!decide (a < b))) := hj3
    generalize V3.drewN nq = V4 at hS4 j4 |-
    have k4 : V4.cell? ⟨Bx, 0, none⟩ = some (.pointer (some ⟨X, 0, none⟩)) := hS4.box (T := 105) (by simp)
    obtain ⟨ao, cp, rfl⟩ := hS4.lvIs
    have c43 := hS4.c3
    have hne2 : ¬ ((n' : Int) = 262144) := by omega
    have hmiss := hstep B X _ _ _ _ wz w0 _ hL.more.more hS4
    have hK : V4.heap[Bx + 1]? = some eZ := (hS4.keep (Bx + 1, eZ) (by simp)).1
    have htk := NW hK k4 j4 hmiss
    have hst4 := fun w' (b : Below V4.heap.size V4 w') => hS4.step b
    clear hS3 hj3 k3 c30 c31 hmiss hsk hS4 hstep
    go_wp2_with (go_at_call 88; refine htk.mono ?_)
    rintro e w6 ⟨rfl, b6⟩
    have hS6 := hst4 _ b6
    have k6 : w6.cell? ⟨Bx, 0, none⟩ = some (.pointer (some ⟨X, 0, none⟩)) := hS6.box (T := 105) (by simp)
    have c61 := hS6.c1
    clear hst4 htk k4 j4 c43
    go_wp2
    go_still_tail 5, (by kernel_rfl)
    change wpList _ _ _ _ _ w6.drew
    have hS7 := hS6.step ((qa _ w6).drew)
    generalize w6.drew = V7 at hS7 |-
    have hfl := lD hS7 b 6
    clear hS6 k6 c61
    go_wp2_with (go_at_call 87; refine hfl.mono ?_)
    rintro e w8 ⟨rfl, hS8⟩
    go_wp2
    go_roundg 0
    case measure => simp only [qqi] at hg; omega
    case rel => exact .failed b n' 6 (by decide) b _ _ hout hS8
end
end Go.Proofs.YtgkhemnmcgicnaaGreatDoor
