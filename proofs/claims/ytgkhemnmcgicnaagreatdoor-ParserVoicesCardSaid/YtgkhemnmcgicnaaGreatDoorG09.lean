/- Towards the law ParserVoices, true for every text (no condition): one part of the proof. -/
import Derived.Test.YtgkhemnmcgicnaaGreatDoorG01
import Derived.Test.YtgkhemnmcgicnaaGreatDoorG08
import Derived.Test.YtgkhemnmcgicnaaGreatDoorG07
import Derived.Deep.QuietTactic
import Derived.BigQuiet
namespace Go.Proofs.YtgkhemnmcgicnaaGreatDoor
set_option maxHeartbeats 8000000
set_option maxRecDepth 100000
open Go.RowKit
section
variable {Y M : Nat} {tv : Value} {toks : List bD} {pos : Nat} {line col e : Int} {free : Bool} {ls ln : Int} {es : Array MapEntry} {clk : Nat} {w : World} {t : bD}
theorem jP.failed (h : jP Y M tv toks pos line col e free ls ln es clk w) (l c x : Int) (hx : x ≠ 0) :
  jP Y M tv toks pos l c x free ls ln es clk (((w.setCell ⟨Y, 4, none⟩ (I x)).setCell ⟨Y, 2, none⟩ (I l)).setCell ⟨Y, 3, none⟩ (I c)) :=
 ((h.put (e' := x) (pos' := pos) (line' := line) (col' := col) (ls' := ls) (ln' := ln) 4 _ (fun h0 => absurd h0 hx) rfl).put (e' := x) (pos' := pos) (line' := l) (col' := col) (ls' := ls) (ln' := ln) 2 _ (fun h => h) rfl).put (e' := x) (pos' := pos) (line' := l) (col' := c) (ls' := ls) (ln' := ln) 3 _ (fun h => h) rfl
theorem QT (h : jP Y M tv toks pos line col 0 free ls ln es clk w) (ht : toks[pos]? = some t) (c : Int) (hc : c ≠ 0) :
  Calls Tryz.prog 63 #[.pointer (some ⟨Y, 0, none⟩), I c] w fun r w' => r = .returned (.tuple #[]) /\ jP Y M tv toks pos t.line t.col c free ls ln es clk w' /\ aB [Y] w w' := by
 have hp := qQ h ht
 have hst := fun w' (b : Below w.heap.size w w') => h.step b
 have c4 := h.c4
 clear h ht
 go_enter Tryz.func63, Tryz.ntmps63
 go_wp2_with (go_at_call 62; refine hp.mono ?_)
 intro r w1; first | (intro he b1; subst he) | rintro ⟨rfl, b1⟩
 go_wp2
 have hT := qc w1 (.cells #[I t.kind, .string t.text, I t.value, .string t.bytes, I t.line, I t.col, .bool t.joined] 59)
 have b2 := b1.alloc b1.size (.cells #[I t.kind, .string t.text, I t.value, .string t.bytes, I t.line, I t.col, .bool t.joined] 59)
 generalize w1.alloc (.cells #[I t.kind, .string t.text, I t.value, .string t.bytes, I t.line, I t.col, .bool t.joined] 59) = w2 at hT b2 |-
 generalize w1.heap.size = T at hT |-
 have hS := hst _ b2
 have d4 := hS.c4
 have d2 := hS.c2
 have d3 := hS.c3
 have f4 := hS.fz 4
 have f2 := hS.fz 2
 have f3 := hS.fz 3
 have k4 : w2.cell? ⟨T, 4, none⟩ = some (I t.line) := by rw [Lib.cell_of_heap hT]; rfl
 have k5 : w2.cell? ⟨T, 5, none⟩ = some (I t.col) := by rw [Lib.cell_of_heap hT]; rfl
 have hTY : T ≠ Y := by
  rintro rfl
  rw [hS.blk] at hT
  injection hT with hT
  injection hT with _ h2 _
  exact absurd h2 (by decide)
 have hfin := (hS.step (qa _ _).drew).failed t.line t.col c hc
 clear hS hst c4 hp hT
 go_region
 all_goals go_end0
 all_goals exact ⟨rfl, hfin, (((aB.of_below b2).drew.setCell (.inl (by simp)) _).setCell (.inl (by simp)) _).setCell (.inl (by simp)) _⟩
theorem Y5 (h : jP Y M tv toks pos line col 0 free ls ln es clk w) (ht : toks[pos]? = some t) (hk : t.kind = 3) (hpos : pos <= 1048576) :
  Calls Tryz.prog 91 #[.pointer (some ⟨Y, 0, none⟩)] w fun r w' => r = .returned (.string t.bytes) /\ jP Y M tv toks (pos + 1) line col 0 free ls ln es clk w' /\ aB [Y] w w' := by
 have hp := qQ h ht
 have hst := fun w' (b : Below w.heap.size w w') => h.step b
 clear h ht
 rw [hk] at hp
 have hw : IntKind.i64.wrap ((pos : Int) + 1) = (pos : Int) + 1 := IntWalk.i64_in _ (by omega)
 go_enter Tryz.func91, Tryz.ntmps91
 go_wp2_with (go_at_call 62; refine hp.mono ?_)
 intro r w1; first | (intro he b1; subst he) | rintro ⟨rfl, b1⟩
 have hS1 := hst _ b1
 have d1 := hS1.c1
 have l1 := hS1.lt
 have n1 := qr w1 _ d1
 have f1 := hS1.fz 1
 have hN := hS1.next.step ((qa _ _).alloc (qb _) (.cells #[I 3, .string t.text, I t.value, .string t.bytes, I t.line, I t.col, .bool t.joined] 59))
 clear hst hp hS1
 go_wp2
 go_ret
 exact ⟨rfl, hN, ((aB.of_below b1).setCell (.inl (by simp)) _).alloc _⟩
theorem R8 (h : jP Y M tv toks pos line col 0 free ls ln es clk w) (ht : toks[pos]? = some t) (hk : t.kind = 2) (hpos : pos <= 1048576) (lo hi : Int) (hlo : lo <= t.value) (hhi : t.value <= hi) :
  Calls Tryz.prog 114 #[.pointer (some ⟨Y, 0, none⟩), I lo, I hi] w fun r w' => r = .returned (I t.value) /\ jP Y M tv toks (pos + 1) line col 0 free ls ln es clk w' /\ aB [Y] w w' := by
 have hp := qQ h ht
 have hst := fun w' (b : Below w.heap.size w w') => h.step b
 clear h ht
 obtain ⟨kd, text, v, bt, lin, cl, j⟩ := t
 simp only at hk hlo hhi hp |-
 subst hk
 have hw : IntKind.i64.wrap ((pos : Int) + 1) = (pos : Int) + 1 := IntWalk.i64_in _ (by omega)
 have hl1 : decide (v < lo) = false := qt (by omega)
 have hl2 : decide (hi < v) = false := qt (by omega)
 go_enter Tryz.func114, Tryz.ntmps114
 go_wp2_with (go_at_call 62; refine hp.mono ?_)
 intro r w1; first | (intro he b1; subst he) | rintro ⟨rfl, b1⟩
 have hS1 := hst _ b1
 have d1 := hS1.c1
 have l1 := hS1.lt
 have n1 := qr w1 _ d1
 have f1 := hS1.fz 1
 have hN := hS1.next.step ((qa _ _).alloc (qb _) (.cells #[I 2, .string text, I v, .string bt, I lin, I cl, .bool j] 59))
 clear hst hp hS1
 go_wp2
 go_ret
 exact ⟨rfl, hN, ((aB.of_below b1).setCell (.inl (by simp)) _).alloc _⟩
theorem JF (h : jP Y M tv toks pos line col 0 free ls ln es clk w) (ht : toks[pos]? = some t) (hk : t.kind = 2) (lo hi : Int) (hr : t.value < lo \/ hi < t.value) :
  Calls Tryz.prog 114 #[.pointer (some ⟨Y, 0, none⟩), I lo, I hi] w fun r w' => r = .returned (I 0) /\ jP Y M tv toks pos t.line t.col 2 free ls ln es clk w' /\ aB [Y] w w' := by
 have hp := qQ h ht
 have hf := fun w' (b : Below w.heap.size w w') => QT (h.step b) ht 2 (by decide)
 clear h ht
 obtain ⟨kd, text, v, bt, lin, cl, j⟩ := t
 simp only at hk hr hp hf |-
 subst hk
 by_cases hl : v < lo
 ·go_enter Tryz.func114, Tryz.ntmps114
  go_wp2_with (go_at_call 62; refine hp.mono ?_)
  intro r w1; first | (intro he b1; subst he) | rintro ⟨rfl, b1⟩
  have b2 := b1.alloc b1.size (.cells #[I 2, .string text, I v, .string bt, I lin, I cl, .bool j] 59)
  have hf1 := hf _ b2
  go_wp2_with (go_at_call 63; refine hf1.mono ?_)
  intro r w3; first | (intro he hS b3; subst he) | rintro ⟨rfl, hS, b3⟩
  go_wp2
  go_ret
  exact ⟨rfl, hS, (aB.of_below b2).trans b3⟩
 ·have hl1 : decide (v < lo) = false := qt hl
  have hl2 : hi < v := by omega
  go_enter Tryz.func114, Tryz.ntmps114
  go_wp2_with (go_at_call 62; refine hp.mono ?_)
  intro r w1; first | (intro he b1; subst he) | rintro ⟨rfl, b1⟩
  have b2 := b1.alloc b1.size (.cells #[I 2, .string text, I v, .string bt, I lin, I cl, .bool j] 59)
  have hf1 := hf _ b2
  go_wp2_with (go_at_call 63; refine hf1.mono ?_)
  intro r w3; first | (intro he hS b3; subst he) | rintro ⟨rfl, hS, b3⟩
  go_wp2
  go_ret
  exact ⟨rfl, hS, (aB.of_below b2).trans b3⟩
end
structure XU (t : bD) : Prop where
 kd : t.kind = 1 \/ t.kind = 2 \/ t.kind = 3 \/ t.kind = 4
 word : t.kind = 1 -> 0 < t.text.size
 v0 : 0 <= t.value
 v1 : t.value <= 1000000000000000
 sz : t.text.size <= 4000
structure i6 (T : List bD) : Prop where
 len : 0 < T.length
 max : T.length <= 4001
 last : (T.getD (T.length - 1) dA).kind = 0 /\ (T.getD (T.length - 1) dA).text.size <= 4000
 ok : ∀ i, i + 1 < T.length -> XU (T.getD i dA)
theorem i6.cons {t : bD} {T : List bD} (ht : XU t) (h : i6 T) (hm : (t :: T).length <= 4001) : i6 (t :: T) := by
 refine ⟨by simp, hm, ?_, fun i hi => ?_⟩
 ·have h0 := h.len
  have e : (t :: T).length - 1 = (T.length - 1) + 1 := by rw [qj]; omega
  rw [e, List.getD_cons_succ]
  exact h.last
 ·cases i with
  | zero => exact ht
  | succ i =>
   rw [List.getD_cons_succ]
   exact h.ok i (by rw [qj] at hi; omega)
theorem K1 : ∀ (l : List UInt8) (acc : Nat), (∀ x ∈ l, dC x.toNat = true) -> ∃ n, Lib.decFrom acc l = some n /\ n < (acc + 1) * 10 ^ l.length
 | [], acc, _ => ⟨acc, rfl, by simp⟩
 | x :: r, acc, h => by
  have hx := h x List.mem_cons_self
  simp only [dC, qqx, decide_eq_true_eq] at hx
  have hv : Lib.digitVal x = some (x.toNat - 48) := by
   unfold Lib.digitVal
   rw [if_pos hx]
  obtain ⟨n, hn, hlt⟩ := K1 r (acc * 10 + (x.toNat - 48)) fun y hy => h y (List.mem_cons_of_mem _ hy)
  refine ⟨n, by simp only [Lib.decFrom, hv]; exact hn, qk hlt ?_⟩
  rw [qj, Nat.pow_succ, Nat.mul_comm (10 ^ r.length) 10, <- Nat.mul_assoc]
  exact Nat.mul_le_mul_right _ (by omega)
theorem sY (s : ByteArray) (b c : Nat) (_hc : c <= s.size) : (s.extract b c).data.toList = (s.data.toList.drop b).take (c - b) := by
 rw [ByteArray.data_extract, Array.toList_extract, List.extract_eq_take_drop]
theorem K2 {s : ByteArray} {b c : Nat} (hc : c <= s.size) {p : Nat -> Bool} (h : ∀ k (h : k < s.size), b <= k -> k < c -> p s[k].toNat = true) : ∀ x ∈ (s.extract b c).data.toList, p x.toNat = true := by
 intro x hx
 rw [sY s b c hc] at hx
 obtain ⟨i, hi, rfl⟩ := List.mem_iff_getElem.1 hx
 rw [List.length_take, List.length_drop, kF] at hi
 have := h (b + i) (by omega) (by omega) (by omega)
 rw [List.getElem_take, List.getElem_drop]
 have e := HD (s := s) (b + i) (by omega)
 rw [qo (by rw [kF]; omega)] at e
 rw [qqz e]
 exact this
theorem QH {s : ByteArray} {b c : Nat} (hbc : b < c) (hl : c <= b + 15) (hc : c <= s.size) (h : ∀ k (h : k < s.size), b <= k -> k < c -> dC s[k].toNat = true) :
  ∃ v, Lib.atoi (s.extract b c).data.toList = some v /\ 0 <= v /\ v <= 1000000000000000 := by
 have hd := K2 hc h
 have hlen : (s.extract b c).data.toList.length = c - b := by rw [sY s b c hc, List.length_take, List.length_drop, kF]; omega
 generalize (s.extract b c).data.toList = l at hd hlen
 cases l with
 | nil => simp at hlen; omega
 | cons x r =>
  have hx := hd x List.mem_cons_self
  simp only [dC, qqx, decide_eq_true_eq] at hx
  obtain ⟨n, hn, hlt⟩ := K1 (x :: r) 0 hd
  have e1 : (x == 45) = false := by
   rw [beq_eq_false_iff_ne]; rintro rfl; exact absurd hx.1 (by decide)
  have e2 : (x == 43) = false := by
   rw [beq_eq_false_iff_ne]; rintro rfl; exact absurd hx.1 (by decide)
  refine ⟨(n : Int), ?_, by omega, ?_⟩
  ·unfold Lib.atoi
   simp only [e1, e2, Bool.false_eq_true, if_false]
   have : Lib.decNat (x :: r) = some n := by unfold Lib.decNat; simpa using hn
   rw [this]; rfl
  ·rw [hlen] at hlt
   have : (0 + 1) * 10 ^ (c - b) <= 1 * 10 ^ 15 := by
    rw [Nat.zero_add]
    exact Nat.mul_le_mul_left _ (Nat.pow_le_pow_right (by decide) (by omega))
   omega
theorem YN (s : ByteArray) (ls : List Int) : ∃ toks out, Lx ls s 0 0 toks out :=
 K8 ls s (fun b c h1 h2 h3 h4 => by obtain ⟨v, hv, _⟩ := QH h1 h2 h3 h4; exact ⟨v, hv⟩) _ 0 0 (qb _) (qn _)
theorem nQ (s : ByteArray) (b c : Nat) : (s.extract b c).size <= s.size := by rw [ByteArray.size_extract]; omega
theorem WP {ls : List Int} {s : ByteArray} {a n : Nat} {toks : List bD} {out : Option (Nat × Int)} (h : Lx ls s a n toks out) (hs : s.size <= 4000) (ha : a <= s.size) (ho : out = none) : i6 toks /\ toks.length <= s.size - a + 1 := by
 induction h with
 | @fin a b n hu hb =>
  refine ⟨⟨by simp, by simp, ⟨rfl, ?_⟩, fun i hi => by simp at hi⟩, by simp⟩
  exact qv (nQ s b b) hs
 | @word a b c n toks out hu hb hc hw hl h ih =>
  obtain ⟨h1, h2⟩ := ih hw.bs ho
  have hlt := qS hw hb (by unfold iQ; rw [hc]; rfl)
  have hle := hu.le
  have hbs := hw.bs
  refine ⟨h1.cons ⟨.inl rfl, fun _ => ?_, (show (0 : Int) <= 0 by decide), (show (0 : Int) <= 1000000000000000 by decide), qv (nQ s b c) hs⟩ (by rw [qj]; omega), by rw [qj]; omega⟩
  show 0 < (s.extract b c).size
  rw [ByteArray.size_extract]; omega
 | @number a b c n toks out v hu hb hc hw hl hv h ih =>
  obtain ⟨h1, h2⟩ := ih hw.bs ho
  have hlt := qS hw hb hc
  have hle := hu.le
  have hbs := hw.bs
  obtain ⟨v', hv', b0, b1⟩ := QH hlt hl hw.bs fun k h h3 h4 => hw.ins k h h3 h4
  obtain rfl : v = v' := qqz (hv.symm.trans hv')
  exact ⟨h1.cons ⟨.inr (.inl rfl), fun h => absurd (show (2 : Int) = 1 from h) (by decide), b0, b1, qv (nQ s b c) hs⟩ (by rw [qj]; omega), by rw [qj]; omega⟩
 | @str a b c n toks out bytes hu hb hc hR h ih =>
  obtain ⟨g1, g2⟩ := hR.le c bytes rfl
  obtain ⟨h1, h2⟩ := ih g2 ho
  have hle := hu.le
  exact ⟨h1.cons ⟨.inr (.inr (.inl rfl)), fun h => absurd (show (3 : Int) = 1 from h) (by decide), (show (0 : Int) <= 0 by decide), (show (0 : Int) <= 1000000000000000 by decide), qv (nQ s b c) hs⟩ (by rw [qj]; omega), by rw [qj]; omega⟩
 | @sym a b n toks out hu hb h1 h2 h3 hc h ih =>
  obtain ⟨g1, g2⟩ := ih (by omega) ho
  have hle := hu.le
  exact ⟨g1.cons ⟨.inr (.inr (.inr rfl)), fun h => absurd (show (4 : Int) = 1 from h) (by decide), (show (0 : Int) <= 0 by decide), (show (0 : Int) <= 1000000000000000 by decide), qv (nQ s b (b + 1)) hs⟩ (by rw [qj]; omega), by rw [qj]; omega⟩
 | wordLong => cases ho
 | long => cases ho
 | strShort => cases ho
 | strWrong => cases ho
 | none => cases ho
theorem TK {ls : List Int} {s : ByteArray} {a n : Nat} {toks : List bD} {out : Option (Nat × Int)} (h : Lx ls s a n toks out) : ∀ b e, out = some (b, e) -> b <= s.size + 8 := by
 have key : ∀ (i : Nat) (acc : List UInt8) (o : PM), rL s i acc o -> ∀ p, o = .wrong p -> p <= s.size + 8 := by
  intro i acc o h
  induction h with
  | eof _ => intro p e; cases e
  | close _ _ => intro p e; cases e
  | char _ _ _ ih => exact ih
  | esc _ _ _ _ ih => exact ih
  | escShort => intro p e; cases e
  | escWrong h _ hE _ => intro p e; injection e with e; have := hE.n_le; omega
  | bad h _ _ _ => intro p e; injection e with e; omega
 induction h with
 | fin => intro b e h; cases h
 | word _ _ _ _ _ _ ih => exact ih
 | number _ _ _ _ _ _ _ _ ih => exact ih
 | str _ _ _ _ _ ih => exact ih
 | sym _ _ _ _ _ _ _ ih => exact ih
 | wordLong _ hb => intro b e h; injection h with h; injection h with h1 _; omega
 | long _ hb => intro b e h; injection h with h; injection h with h1 _; omega
 | strShort _ hb => intro b e h; injection h with h; injection h with h1 _; omega
 | strWrong _ _ _ hR => intro b e h; injection h with h; injection h with h1 _; have := key _ _ _ hR _ rfl; omega
 | none _ hb => intro b e h; injection h with h; injection h with h1 _; omega
def fK (t : bD) : Value := .agg #[I t.kind, .string t.text, I t.value, .string t.bytes, I t.line, I t.col, .bool t.joined]
def UX (es : Array MapEntry) : Prop := ∀ e ∈ es.toList, ∃ k v : Int, e.key = I k /\ e.val = I v
def XD (T : List bD) (st : aU) (pos : Nat) (line col e : Int) : Prop :=
 match st with
 | .ok p => p = pos /\ e = 0 /\ line = 0 /\ col = 0 /\ pos < T.length
 | .bad e' l c => e' = e /\ e ≠ 0 /\ line = l /\ col = c /\ pos <= 1000000
structure PS (T : List bD) (Y M : Nat) (free : Bool) (st : aU) (w : World) : Prop where
 good : i6 T
 ex : ∃ tv pos line col e ls ln es clk, jP Y M tv T pos line col e free ls ln es clk w /\ UX es /\ XD T st pos line col e
section
variable {T : List bD} {Y M : Nat} {free : Bool} {st : aU} {w : World}
theorem PS.step (h : PS T Y M free st w) {w' : World} (b : Below w.heap.size w w') : PS T Y M free st w' := by
 obtain ⟨g, tv, pos, line, col, e, ls, ln, es, clk, h1, h2, h3⟩ := h
 exact ⟨g, tv, pos, line, col, e, ls, ln, es, clk, h1.step b, h2, h3⟩
theorem getD_some {T : List bD} {p : Nat} (h : p < T.length) : T[p]? = some (T.getD p dA) := by
 rw [qqm, qo h]; rfl
theorem PS.lt (h : PS T Y M free st w) : Y < w.heap.size := by
 obtain ⟨_, tv, pos, line, col, e, ls, ln, es, clk, h1, _, _⟩ := h
 exact h1.lt
theorem PS.ltM (h : PS T Y M free st w) : M < w.heap.size := by
 obtain ⟨_, tv, pos, line, col, e, ls, ln, es, clk, h1, _, _⟩ := h
 exact h1.ltM
theorem i6.more {T : List bD} (h : i6 T) {p : Nat} (hp : p < T.length) (hk : (T.getD p dA).kind ≠ 0) : p + 1 < T.length := by
 have h1 := h.last.1
 rcases Nat.lt_or_ge (p + 1) T.length with h2 | h2
 ·exact h2
 ·exact absurd (by rw [show p = T.length - 1 by omega]; exact h1) hk
theorem vQ {t : bD} {x : ByteArray} (h : pS t x = true) : t.kind = 1 \/ t.kind = 4 := by
 unfold pS at h
 simp only [qqx, Bool.or_eq_true, decide_eq_true_eq] at h
 exact h.1
theorem pA (h : PS T Y M free st w) : Calls Tryz.prog 62 #[.pointer (some ⟨Y, 0, none⟩)] w fun r w' => r = .returned (fK (aW T st)) /\ Below w.heap.size w w' := by
 obtain ⟨g, tv, pos, line, col, e, ls, ln, es, clk, h1, h2, h3⟩ := h
 cases st with
 | ok p =>
  obtain ⟨rfl, rfl, rfl, rfl, hp⟩ := h3
  exact qQ h1 (getD_some hp)
 | bad e' l c =>
  obtain ⟨rfl, he, rfl, rfl, _⟩ := h3
  exact LX h1 he
theorem LY (h : PS T Y M free st w) (x : ByteArray) : Calls Tryz.prog 76 #[.pointer (some ⟨Y, 0, none⟩), .string x] w fun r w' => r = .returned (.bool (isS T x st)) /\ Below w.heap.size w w' := by
 obtain ⟨g, tv, pos, line, col, e, ls, ln, es, clk, h1, h2, h3⟩ := h
 cases st with
 | ok p =>
  obtain ⟨rfl, rfl, rfl, rfl, hp⟩ := h3
  exact UU h1 (getD_some hp) x rfl
 | bad e' l c =>
  obtain ⟨rfl, he, rfl, rfl, _⟩ := h3
  exact UV h1 he x
theorem fU (h : PS T Y M free st w) (x : ByteArray) : Calls Tryz.prog 53 #[.pointer (some ⟨Y, 0, none⟩), .string x] w fun r w' => r = .returned (.bool (isS T x st)) /\ PS T Y M free (aS T x st) w' /\ aB [Y, M] w w' := by
 have h0 := h
 obtain ⟨g, tv, pos, line, col, e, ls, ln, es, clk, h1, h2, h3⟩ := h
 cases st with
 | ok p =>
  obtain ⟨rfl, rfl, rfl, rfl, hp⟩ := h3
  have hm := g.max
  cases hb : isS T x (.ok p) with
  | true =>
   have hk := vQ hb
   have hlt := g.more hp (by rcases hk with hk | hk <;> rw [show (T.getD p dA).kind = _ from hk] <;> decide)
   refine (N9 h1 (getD_some hp) x hb (by omega)).mono ?_
   rintro r w' ⟨rfl, hS, ha⟩
   refine ⟨rfl, ⟨g, tv, p + 1, 0, 0, 0, ls, ln, es, clk, hS, h2, ?_⟩, ha.more (by simp)⟩
   unfold aS
   rw [if_pos hb]
   exact ⟨rfl, rfl, rfl, rfl, hlt⟩
  | false =>
   refine (R7 h1 (getD_some hp) x hb).mono ?_
   rintro r w' ⟨rfl, hb'⟩
   refine ⟨rfl, ?_, aB.of_below hb'⟩
   unfold aS
   rw [if_neg (by rw [hb]; decide)]
   exact h0.step hb'
 | bad e' l c =>
  obtain ⟨rfl, he, rfl, rfl, _⟩ := h3
  refine (PA h1 he x).mono ?_
  rintro r w' ⟨rfl, hb'⟩
  exact ⟨rfl, h0.step hb', aB.of_below hb'⟩
theorem kV (h : PS T Y M free st w) (c : Int) (hc : c ≠ 0) : Calls Tryz.prog 63 #[.pointer (some ⟨Y, 0, none⟩), I c] w fun r w' => r = .returned (.tuple #[]) /\ PS T Y M free (bF T c st) w' /\ aB [Y, M] w w' := by
 have h0 := h
 obtain ⟨g, tv, pos, line, col, e, ls, ln, es, clk, h1, h2, h3⟩ := h
 cases st with
 | ok p =>
  obtain ⟨rfl, rfl, rfl, rfl, hp⟩ := h3
  have hm := g.max
  refine (QT h1 (getD_some hp) c hc).mono ?_
  rintro r w' ⟨rfl, hS, ha⟩
  exact ⟨rfl, ⟨g, tv, p, _, _, c, ls, ln, es, clk, hS, h2, rfl, hc, rfl, rfl, by omega⟩, ha.more (by simp)⟩
 | bad e' l c' =>
  obtain ⟨rfl, he, rfl, rfl, _⟩ := h3
  refine (UW h1 he c).mono ?_
  rintro r w' ⟨rfl, hb'⟩
  exact ⟨rfl, h0.step hb', aB.of_below hb'⟩
theorem iR (h : PS T Y M free st w) (x : ByteArray) : Calls Tryz.prog 54 #[.pointer (some ⟨Y, 0, none⟩), .string x] w fun r w' => r = .returned (.tuple #[]) /\ PS T Y M free (bE T x st) w' /\ aB [Y, M] w w' := by
 have ha := fU h x
 cases hb : isS T x st with
 | true =>
  rw [hb] at ha
  have e1 : aS T x st = bE T x st := by unfold aS bE; rw [if_pos hb, if_pos hb]
  rw [e1] at ha
  clear h hb e1
  go_enter Tryz.func54, Tryz.ntmps54
  go_wp2_with (go_at_call 53; refine ha.mono ?_)
  intro r w1; first | (intro he hS b1; subst he) | rintro ⟨rfl, hS, b1⟩
  go_wp2
  go_end0
  exact ⟨rfl, hS, b1⟩
 | false =>
  rw [hb] at ha
  have e1 : aS T x st = st := by unfold aS; rw [if_neg (by rw [hb]; decide)]
  have e2 : bE T x st = bF T 13 st := by unfold bE; rw [if_neg (by rw [hb]; decide)]
  rw [e1] at ha
  rw [e2]
  have hf := fun w' (h : PS T Y M free st w') => kV h 13 (by decide)
  clear h hb e1 e2
  go_enter Tryz.func54, Tryz.ntmps54
  go_wp2_with (go_at_call 53; refine ha.mono ?_)
  intro r w1; first | (intro he hS b1; subst he) | rintro ⟨rfl, hS, b1⟩
  have hf1 := hf _ hS
  go_wp2_with (go_at_call 63; refine hf1.mono ?_)
  intro r w2; first | (intro he hS2 b2; subst he) | rintro ⟨rfl, hS2, b2⟩
  go_wp2
  go_end0
  exact ⟨rfl, hS2, b1.trans b2⟩
theorem XE (h : PS T Y M free st w) (hk : (aW T st).kind ≠ 3) : Calls Tryz.prog 91 #[.pointer (some ⟨Y, 0, none⟩)] w fun r w' => r = .returned (.string ByteArray.empty) /\ PS T Y M free (bF T 13 st) w' /\ aB [Y, M] w w' := by
 have hp := pA h
 have hst := fun w' (b : Below w.heap.size w w') => kV (h.step b) 13 (by decide)
 generalize aW T st = t at hk hp
 obtain ⟨kd, text, v, bt, lin, cl, j⟩ := t
 simp only [fK] at hk hp
 clear h
 go_enter Tryz.func91, Tryz.ntmps91
 go_wp2_with (go_at_call 62; refine hp.mono ?_)
 intro r w1; first | (intro he b1; subst he) | rintro ⟨rfl, b1⟩
 have b2 := b1.alloc b1.size (.cells #[I kd, .string text, I v, .string bt, I lin, I cl, .bool j] 59)
 have hf1 := hst _ b2
 go_wp2_with (go_at_call 63; refine hf1.mono ?_)
 intro r w3; first | (intro he hS b3; subst he) | rintro ⟨rfl, hS, b3⟩
 go_wp2
 go_ret
 exact ⟨rfl, hS, (aB.of_below b2).trans b3⟩
theorem Z5 (h : PS T Y M free st w) : Calls Tryz.prog 91 #[.pointer (some ⟨Y, 0, none⟩)] w fun r w' => r = .returned (.string (jZ T st).1) /\ PS T Y M free (jZ T st).2 w' /\ aB [Y, M] w w' := by
 unfold jZ
 by_cases hk : (aW T st).kind = 3
 ·rw [if_pos hk]
  obtain ⟨g, tv, pos, line, col, e, ls, ln, es, clk, h1, h2, h3⟩ := h
  cases st with
  | ok p =>
   obtain ⟨rfl, rfl, rfl, rfl, hp⟩ := h3
   have hm := g.max
   have hlt := g.more hp (by rw [show (T.getD p dA).kind = _ from hk]; decide)
   refine (Y5 h1 (getD_some hp) hk (by omega)).mono ?_
   rintro r w' ⟨rfl, hS, ha⟩
   exact ⟨rfl, ⟨g, tv, p + 1, 0, 0, 0, ls, ln, es, clk, hS, h2, rfl, rfl, rfl, rfl, hlt⟩, ha.more (by simp)⟩
  | bad e' l c => exact absurd hk (by simp [aW, dA])
 ·rw [if_neg hk]
  exact XE h hk
theorem PB (h : PS T Y M free st w) (lo hi : Int) (hk : (aW T st).kind ≠ 2) : Calls Tryz.prog 114 #[.pointer (some ⟨Y, 0, none⟩), I lo, I hi] w fun r w' => r = .returned (I 0) /\ PS T Y M free (bF T 13 st) w' /\ aB [Y, M] w w' := by
 have hp := pA h
 have hst := fun w' (b : Below w.heap.size w w') => kV (h.step b) 13 (by decide)
 generalize aW T st = t at hk hp
 obtain ⟨kd, text, v, bt, lin, cl, j⟩ := t
 simp only [fK] at hk hp
 clear h
 go_enter Tryz.func114, Tryz.ntmps114
 go_wp2_with (go_at_call 62; refine hp.mono ?_)
 intro r w1; first | (intro he b1; subst he) | rintro ⟨rfl, b1⟩
 have b2 := b1.alloc b1.size (.cells #[I kd, .string text, I v, .string bt, I lin, I cl, .bool j] 59)
 have hf1 := hst _ b2
 go_wp2_with (go_at_call 63; refine hf1.mono ?_)
 intro r w3; first | (intro he hS b3; subst he) | rintro ⟨rfl, hS, b3⟩
 go_wp2
 go_ret
 exact ⟨rfl, hS, (aB.of_below b2).trans b3⟩
theorem xN (h : PS T Y M free st w) (lo hi : Int) : Calls Tryz.prog 114 #[.pointer (some ⟨Y, 0, none⟩), I lo, I hi] w fun r w' => r = .returned (I (bS T lo hi st).1) /\ PS T Y M free (bS T lo hi st).2 w' /\ aB [Y, M] w w' := by
 unfold bS
 by_cases hk : (aW T st).kind = 2
 ·rw [if_neg (by simpa using hk)]
  obtain ⟨g, tv, pos, line, col, e, ls, ln, es, clk, h1, h2, h3⟩ := h
  cases st with
  | ok p =>
   obtain ⟨rfl, rfl, rfl, rfl, hp⟩ := h3
   have hm := g.max
   have hlt := g.more hp (by rw [show (T.getD p dA).kind = _ from hk]; decide)
   by_cases hr : (aW T (.ok p)).value < lo \/ hi < (aW T (.ok p)).value
   ·rw [if_pos hr]
    refine (JF h1 (getD_some hp) hk lo hi hr).mono ?_
    rintro r w' ⟨rfl, hS, ha⟩
    exact ⟨rfl, ⟨g, tv, p, _, _, 2, ls, ln, es, clk, hS, h2, rfl, by decide, rfl, rfl, by omega⟩, ha.more (by simp)⟩
   ·rw [if_neg hr]
    refine (R8 h1 (getD_some hp) hk (by omega) lo hi (by show lo <= (aW T (.ok p)).value; omega) (by show (aW T (.ok p)).value <= hi; omega)).mono ?_
    rintro r w' ⟨rfl, hS, ha⟩
    exact ⟨rfl, ⟨g, tv, p + 1, 0, 0, 0, ls, ln, es, clk, hS, h2, rfl, rfl, rfl, rfl, hlt⟩, ha.more (by simp)⟩
  | bad e' l c => exact absurd hk (by simp [aW, dA])
 ·rw [if_pos hk]
  exact PB h lo hi hk
end
structure mJ (X : Nat) (lv iv : Value) (T : List bD) (pos : Nat) (free : Bool) (is im : Int) (n : Nat) (xs : List Value) (e line col : Int) (w : World) : Prop where
 blk : w.heap[X]? = some (.cells #[lv, I pos, .bool free, I is, I im, iv, I e, I line, I col] 42 (0, 0))
 row : e = 0 -> w.ownsRow 0 59 7 lv T.length (cellsOf T)
 ids : w.ownsRow 0 24 2 iv n xs
 lvB : ∀ g, lv.ownBlock = some g -> g < w.heap.size
section
variable {X : Nat} {lv iv : Value} {T : List bD} {pos : Nat} {free : Bool} {is im : Int} {n : Nat} {xs : List Value} {e line col : Int} {w : World}
theorem mJ.lt (h : mJ X lv iv T pos free is im n xs e line col w) : X < w.heap.size := (qd.1 h.blk).1
theorem mJ.step (h : mJ X lv iv T pos free is im n xs e line col w) {w' : World} (hb : Below w.heap.size w w') : mJ X lv iv T pos free is im n xs e line col w' :=
 ⟨(hb.block X h.lt).trans h.blk, fun he => aC (h.row he) fun k hk => hb.block k ((h.row he).lt k hk).2, aC h.ids fun k hk => hb.block k (h.ids.lt k hk).2, fun g hg => qk (h.lvB g hg) hb.size⟩
theorem mJ.put (h : mJ X lv iv T pos free is im n xs e line col w) (i : Nat) (u : Value) {pos' : Nat} {is' im' e' line' col' : Int} (he : e' = 0 -> e = 0)
  (hu : (#[lv, I pos, .bool free, I is, I im, iv, I e, I line, I col] : Array Value).setIfInBounds i u = #[lv, I pos', .bool free, I is', I im', iv, I e', I line', I col']) :
  mJ X lv iv T pos' free is' im' n xs e' line' col' (w.setCell ⟨X, i, none⟩ u) := by
 refine ⟨by rw [Lib.heap_setCell_same h.blk, hu], fun h0 => ?_, ?_, fun g hg => by have := h.lvB g hg; simpa [World.setCell] using this⟩
 ·have hr := h.row (he h0)
  exact aC hr fun k hk => qg _ _ _ _ (fun e => dF hr h.blk (by intro cs fr hc; injection hc with _ h2 _; exact absurd h2 (by decide)) (by rw [hk, e]))
 ·exact aC h.ids fun k hk => qg _ _ _ _ (fun e => dF h.ids h.blk (by intro cs fr hc; injection hc with _ h2 _; exact absurd h2 (by decide)) (by rw [hk, e]))
theorem mJ.c0 (h : mJ X lv iv T pos free is im n xs e line col w) : w.cell? ⟨X, 0, none⟩ = some lv := by rw [Lib.cell_of_heap h.blk]; rfl
theorem mJ.c1 (h : mJ X lv iv T pos free is im n xs e line col w) : w.cell? ⟨X, 1, none⟩ = some (I pos) := by rw [Lib.cell_of_heap h.blk]; rfl
theorem mJ.c2 (h : mJ X lv iv T pos free is im n xs e line col w) : w.cell? ⟨X, 2, none⟩ = some (.bool free) := by rw [Lib.cell_of_heap h.blk]; rfl
theorem mJ.c3 (h : mJ X lv iv T pos free is im n xs e line col w) : w.cell? ⟨X, 3, none⟩ = some (I is) := by rw [Lib.cell_of_heap h.blk]; rfl
theorem mJ.c4 (h : mJ X lv iv T pos free is im n xs e line col w) : w.cell? ⟨X, 4, none⟩ = some (I im) := by rw [Lib.cell_of_heap h.blk]; rfl
theorem mJ.c5 (h : mJ X lv iv T pos free is im n xs e line col w) : w.cell? ⟨X, 5, none⟩ = some iv := by rw [Lib.cell_of_heap h.blk]; rfl
theorem mJ.c6 (h : mJ X lv iv T pos free is im n xs e line col w) : w.cell? ⟨X, 6, none⟩ = some (I e) := by rw [Lib.cell_of_heap h.blk]; rfl
theorem mJ.c7 (h : mJ X lv iv T pos free is im n xs e line col w) : w.cell? ⟨X, 7, none⟩ = some (I line) := by rw [Lib.cell_of_heap h.blk]; rfl
theorem mJ.c8 (h : mJ X lv iv T pos free is im n xs e line col w) : w.cell? ⟨X, 8, none⟩ = some (I col) := by rw [Lib.cell_of_heap h.blk]; rfl
theorem mJ.fz (h : mJ X lv iv T pos free is im n xs e line col w) (i : Nat) : w.frozen? ⟨X, i, none⟩ = false := Lib.frozen_of_heap h.blk i
theorem mJ.tok (h : mJ X lv iv T pos free is im n xs 0 line col w) (i : Nat) {t : bD} (ht : T[i]? = some t) :
  ∃ G cap, lv = .slice (some ⟨G, 0, none⟩) T.length cap /\ ∀ j u, t.cells[j]? = some u -> w.cell? ⟨G, i * 7 + j, none⟩ = some u := by
 have hr := h.row rfl
 have hp : i < T.length := (qqd.1 ht).1
 obtain ⟨G, cap, rfl, _, _⟩ := hr.form (by omega)
 refine ⟨G, cap, rfl, fun j u hj => ?_⟩
 have := hr.cells (g := G) rfl (i * 7 + j) u (xM _ _ _ _ _ ht hj)
 have hadd : (⟨G, 0, none⟩ : Addr).add (i * 7 + j) = ⟨G, i * 7 + j, none⟩ := by unfold Addr.add; split <;> simp_all
 rwa [hadd] at this
theorem TU (h : mJ X lv iv T pos free is im n xs 0 line col w) {t : bD} (ht : T[pos]? = some t) :
  Calls Tryz.prog 31 #[.pointer (some ⟨X, 0, none⟩)] w fun r w' => r = .returned (fK t) /\ Below w.heap.size w w' := by
 obtain ⟨G, cap, rfl, hc⟩ := h.tok pos ht
 have hp : pos < T.length := (qqd.1 ht).1
 have c0 := h.c0
 have c1 := h.c1
 have c6 := h.c6
 have t0 : w.cell? ⟨G, pos * 7, none⟩ = some (I t.kind) := hc 0 _ rfl
 have t1 := hc 1 _ rfl
 have t2 := hc 2 _ rfl
 have t3 := hc 3 _ rfl
 have t4 := hc 4 _ rfl
 have t5 := hc 5 _ rfl
 have t6 := hc 6 _ rfl
 have hp0 : (0 : Int) <= (pos : Int) := by omega
 have hp1 : (pos : Int) < (T.length : Int) := by omega
 have hp2 : ¬ (T.length : Int) <= (pos : Int) := by omega
 have n0 := qr w _ c0
 have n1 := qr w _ t0
 have l0 := ql w _ c0
 have l1 := ql w _ t0
 simp only at l0 l1
 clear h hc ht
 unfold fK
 go_enter Tryz.func31, Tryz.ntmps31
 go_wp2
 go_region_held3 (fun w' => w'.cell? ⟨X, 0, none⟩ = some (.slice (some ⟨G, 0, none⟩) T.length cap) /\ w'.cell? ⟨X, 1, none⟩ = some (I pos) /\ w'.cell? ⟨X, 6, none⟩ = some (I 0) /\
   w'.cell? ⟨G, pos * 7, none⟩ = some (I t.kind) /\ w'.cell? ⟨G, pos * 7 + 1, none⟩ = some (.string t.text) /\ w'.cell? ⟨G, pos * 7 + 2, none⟩ = some (I t.value) /\
   w'.cell? ⟨G, pos * 7 + 3, none⟩ = some (.string t.bytes) /\ w'.cell? ⟨G, pos * 7 + 4, none⟩ = some (I t.line) /\ w'.cell? ⟨G, pos * 7 + 5, none⟩ = some (I t.col) /\ w'.cell? ⟨G, pos * 7 + 6, none⟩ = some (.bool t.joined)) (go_keep) (fail)
 go_wp2
 go_region_held3 (fun w' => w'.cell? ⟨X, 0, none⟩ = some (.slice (some ⟨G, 0, none⟩) T.length cap) /\ w'.cell? ⟨X, 1, none⟩ = some (I pos) /\
   w'.cell? ⟨G, pos * 7, none⟩ = some (I t.kind) /\ w'.cell? ⟨G, pos * 7 + 1, none⟩ = some (.string t.text) /\ w'.cell? ⟨G, pos * 7 + 2, none⟩ = some (I t.value) /\
   w'.cell? ⟨G, pos * 7 + 3, none⟩ = some (.string t.bytes) /\ w'.cell? ⟨G, pos * 7 + 4, none⟩ = some (I t.line) /\ w'.cell? ⟨G, pos * 7 + 5, none⟩ = some (I t.col) /\ w'.cell? ⟨G, pos * 7 + 6, none⟩ = some (.bool t.joined)) (go_keep) (fail)
 go_wp2
 refine qf (qh rfl _ _ w.heap.size 59 _ (0, 0) _ rfl (qc w _) Tryz.underlying59 rfl Tryz.sizeTok) rfl ?_
 exact ⟨rfl, ((qa _ w).alloc (qb _) _).drew.drew⟩
theorem WU (h : mJ X lv iv T pos free is im n xs e line col w) (he : e ≠ 0) :
  Calls Tryz.prog 31 #[.pointer (some ⟨X, 0, none⟩)] w fun r w' => r = .returned (fK dA) /\ Below w.heap.size w w' := by
 have c6 := h.c6
 have n0 := qr w _ c6
 have l0 := h.lt
 clear h
 unfold fK
 go_enter Tryz.func31, Tryz.ntmps31
 go_wp2
 refine qx ?_
 refine qp (S := fun w' => w'.cell? ⟨X, 6, none⟩ = some (I e)) (by kernel_rfl) ((((qa w.heap.size w).alloc (qb _) _).drew.cell (p := ⟨X, 6, none⟩) l0).trans c6) (fun hHeld => ?_)
 refine gA 0 ?v0 rfl ?hy0 ?_
 case hy0 => (intro wq hSw; go_simp; try (with_reducible rfl))
 try simp only [ap, nm]
 refine gA 1 ?v1 rfl ?hy1 ?_
 case hy1 => (intro wq hSw; go_simp; try (with_reducible rfl))
 try simp only [ap, nm]
 refine gA 2 ?v2 rfl ?hy2 ?_
 case hy2 => (intro wq hSw; go_simp; try (with_reducible rfl))
 try simp only [ap, nm]
 refine bZ 3 (I e) rfl ?_
 try simp only [ap, nm]
 refine bZ 4 (.bool true) rfl ?_
 try simp only [ap, nm]
 refine bZ 5 (.bool true) rfl ?_
 try simp only [ap, nm]
 refine dU 6 rfl ?_
 try simp only [ap, nm]
 refine dU 7 rfl ?_
 try simp only [ap, nm]
 refine dU 8 rfl ?_
 try simp only [ap, nm]
 refine dU 9 rfl ?_
 try simp only [ap, nm]
 refine dU 10 rfl ?_
 try simp only [ap, nm]
 refine dU 11 rfl ?_
 try simp only [ap, nm]
 refine dU 12 rfl ?_
 try simp only [ap, nm]
 refine dU 13 rfl ?_
 try simp only [ap, nm]
 refine dU 14 rfl ?_
 try simp only [ap, nm]
 refine dU 15 rfl ?_
 try simp only [ap, nm]
 refine bZ 16 (.bool true) rfl ?_
 try simp only [ap, nm]
 refine qqr (by kernel_rfl) ?_ _
 refine qqf ?_
 go_wp2
 refine qf (qh rfl _ _ w.heap.size 59 _ (0, 0) _ rfl (qc w _) Tryz.underlying59 rfl Tryz.sizeTok) rfl ?_
 exact ⟨rfl, ((qa _ w).alloc (qb _) _).drew⟩
end
end Go.Proofs.YtgkhemnmcgicnaaGreatDoor
