/-
  A part of the proof that the law ParserSheets (chapter 19) returns true for every sheet: walks of the program's functions, and runs of them in the kernel by the own evaluator.
-/
import Derived.Test.YtjnkppneilmpbaaGreatDoorLxd
import Derived.Test.YtjnkppneilmpbaaGreatDoorScb
namespace Go.Proofs.YtjnkppneilmpbaaGreatDoor
open Go.RowKit

def PosIs (p q : Nat) : Prop := p = q
theorem tail_is {s : ByteArray} {p : Nat} {y : List UInt8} (hd : s.data.toList.drop p = y) : s.extract p s.size = mk y := by
  apply ByteArray.ext
  apply Array.ext'
  rw [ByteArray.data_extract, Array.toList_extract, List.extract_eq_take_drop, hd]
  have hl := congrArg List.length hd
  rw [List.length_drop, size_list] at hl
  rw [List.take_of_length_le (by omega)]
  simp [mk]
theorem mk_size (l : List UInt8) : (mk l).size = l.length := by
  show l.toArray.size = _
  simp
theorem byteCells_snoc (l : List UInt8) (c : UInt8) : Lib.byteCells (l ++ [c]) = Lib.byteCells l ++ [.int .u8 c.toNat] := by simp [Lib.byteCells]

section
variable {B X : Nat} {ks : List (Nat × Obj)} {s : ByteArray} {lv : Value} {n : Nat} {xs : List Value} {wz : Int} {w0 w : World} {LN : Value} {ls : List Int}

set_option maxHeartbeats 32000000 in
set_option maxRecDepth 100000 in
theorem text_hit {a : Nat} (h : Scn B X ks s LN a lv n xs 0 wz w0 w) (hL : LinesAt LN ls ks) (gL : Lines ls) (hsz : s.size ≤ 1048576) (hn : n ≤ 1048576) (bytes rest : List UInt8) (hbl : bytes.length ≤ 4096) (hd : s.data.toList.drop a = quoteL bytes ++ rest) (j : Bool) :
    Calls Tryz.prog 65 #[.pointer (some ⟨X, 0, none⟩), .bool j] w fun r w' => r = .returned (.bool true) ∧
      ∃ lv', Scn B X ks s LN (a + (quoteL bytes).length : Nat) lv' (n + 1) (xs ++ Tok.cells ⟨3, s.extract a (a + (quoteL bytes).length), 0, mk bytes, plL ls a, plC ls a, j && decide (0 < n)⟩) 0 wz w0 w' := by
  obtain ⟨ha, hc⟩ : ∃ h : a < s.size, s[a] = 34 := byte_at hd 0 (x := 34) rfl
  have hc' : ((s[a].toNat : Nat) : Int) = 34 := by rw [hc]; rfl
  have c0 := h.c0
  have c1 := h.c1
  have ha0 : (0 : Int) ≤ (a : Int) := by omega
  have ha' : (a : Int) < s.size := by omega
  have hw1 : IntKind.i64.wrap ((a : Int) + 1) = ((a + 1 : Nat) : Int) := by rw [show ((a + 1 : Nat) : Int) = (a : Int) + 1 by omega]; exact IntWalk.i64_in _ (by omega)
  obtain ⟨q0, hq0⟩ : ∃ q0, PosIs q0 (a + 1) := ⟨_, rfl⟩
  rw [show (a + 1 : Nat) = q0 from hq0.symm] at hw1
  go_enter Tryz.func65, Tryz.ntmps65
  go_wp2
  go_quiet (fail)
  have hm := h.step (below_drewN (Below.refl _ _) nq)
  generalize w.drewN nq = W at hm ⊢
  have d0 := hm.c0
  have d1 := hm.c1
  have hXl := hm.lt
  have neX := World.new_ne W _ d0
  clear c0 c1 h
  go_wp2
  have hb0 : Lib.IsBuilder 120 5 W.heap.size W.heap.size (Lib.byteCells (bytes.take 0)) (W.alloc (.cells #[.pointer none, .slice none 0 0] 120)) := Lib.fresh_isBuilder 120 5 W
  have bel0 := (Below.refl W.heap.size W).alloc (Nat.le_refl _) (.cells #[.pointer none, .slice none 0 0] 120)
  generalize hbb : W.heap.size = bb at hb0 bel0 ⊢
  generalize (W.alloc (.cells #[.pointer none, .slice none 0 0] 120)) = V at hb0 bel0 ⊢
  clear d0 d1 neX
  have hlenq : (quoteL bytes).length = encLen bytes bytes.length + 2 := by
    unfold quoteL encLen
    rw [List.take_length]
    simp
  go_loopg [6] (bytes.length + 1) (fun g v wr' => ∃ k p : Nat, k ≤ bytes.length ∧ g = bytes.length + 1 - k ∧ PosIs p (a + 1 + encLen bytes k) ∧ v = .int .i64 p ∧ Lib.IsBuilder 120 5 bb bb (Lib.byteCells (bytes.take k)) wr' ∧ Below bb W wr')
  case atStart => exact ⟨0, q0, Nat.zero_le _, rfl, by unfold PosIs at *; simp [encLen]; exact hq0, rfl, hb0, bel0⟩
  case round =>
    clear hb0 bel0 hw1
    obtain ⟨k, p, hk, hg, hp, rfl, hI, hb⟩ := hrel
    have hdp := enc_drop hd k
    rw [show a + 1 + encLen bytes k = p from hp.symm] at hdp
    have hsb : bb ≤ wr.heap.size := by rw [← hbb]; exact hbb ▸ hb.size
    have hS := hm.step (hbb.symm ▸ hb)
    have hlk : (Lib.byteCells (bytes.take k)).length = k := by rw [Lib.byteCells_length, List.length_take]; omega
    have d0 := hS.c0
    have d1 := hS.c1
    have hp0 : (0 : Int) ≤ (p : Int) := by omega
    by_cases hlt : k < bytes.length
    · obtain ⟨c, hcE⟩ : ∃ c, bytes[k] = c := ⟨_, rfl⟩
      have hdk : bytes.drop k = c :: bytes.drop (k + 1) := by rw [List.drop_eq_getElem_cons hlt, hcE]
      have htk : bytes.take (k + 1) = bytes.take k ++ [c] := by rw [List.take_succ_eq_append_getElem hlt, hcE]
      have hel := encLen_succ hlt
      rw [hcE] at hel
      rw [hdk, List.flatMap_cons, List.append_assoc] at hdp
      have hc256 : c.toNat < 256 := c.toNat_lt
      generalize hTail : (bytes.drop (k + 1)).flatMap esc ++ 34 :: rest = tl at hdp
      rcases esc_form c with ⟨he, e1, e2, e3, e4⟩ | ⟨x, he, hx⟩ | he
      · rw [he] at hdp hel
        obtain ⟨hps, hpc⟩ : ∃ h : p < s.size, s[p] = c := byte_at hdp 0 (x := c) rfl
        obtain ⟨m, hm0⟩ : ∃ m : Int, m = (c.toNat : Int) := ⟨_, rfl⟩
        have hq : ((s[p].toNat : Nat) : Int) = m := by rw [hpc, hm0]
        have hps' : (p : Int) < (s.size : Int) := by omega
        have hn34 : ¬ m = 34 := by omega
        have hst : standsB m = true := by
          have g1 : (32 : Int) ≤ m := by omega
          have g2 : m ≠ 127 := by omega
          have g4 : m ≠ 92 := by omega
          simp [standsB, g1, g2, hn34, g4]
        have xs1 := fun w => stands_is m w true hst
        have xw := writeByte bb bb _ m wr hI (by rw [hlk]; omega) hsb
        have hw2 : IntKind.i64.wrap ((p : Int) + 1) = ((p + 1 : Nat) : Int) := by rw [show ((p + 1 : Nat) : Int) = (p : Int) + 1 by omega]; exact IntWalk.i64_in _ (by omega)
        obtain ⟨q1, hq1⟩ : ∃ q1, PosIs q1 (p + 1) := ⟨_, rfl⟩
        rw [show (p + 1 : Nat) = q1 from hq1.symm] at hw2
        have hcells : Lib.byteCells (bytes.take k) ++ [.int .u8 m] = Lib.byteCells (bytes.take (k + 1)) := by rw [htk, byteCells_snoc, hm0]
        rw [hcells] at xw
        clear hm0 hpc hdp hI hTail htk hdk hcE hcells e1 e2 e3 e4
        go_wp2_with (first
          | (go_at_call 41; refine (xs1 _).mono ?_; rintro e w2 ⟨rfl, rfl⟩)
          | (go_at_call 38; refine xw.mono ?_))
        rintro e w3 ⟨rfl, hI3, b3⟩
        go_wp2
        go_roundg (bytes.length + 1 - (k + 1))
        case measure => omega
        case rel => exact ⟨k + 1, q1, by omega, rfl, by unfold PosIs at *; simp only [List.length_cons, List.length_nil] at hel; omega, rfl, .inr hI3, hb.trans b3⟩
      · rw [he] at hdp hel
        obtain ⟨hps, hpc⟩ : ∃ h : p < s.size, s[p] = 92 := byte_at hdp 0 (x := 92) rfl
        have hq : ((s[p].toNat : Nat) : Int) = 92 := by rw [hpc]; rfl
        have hps' : (p : Int) < (s.size : Int) := by omega
        have hst : standsB 92 = false := by decide
        have xs1 := fun w => stands_is 92 w false hst
        have hw2 : IntKind.i64.wrap ((p : Int) + 1) = ((p + 1 : Nat) : Int) := by rw [show ((p + 1 : Nat) : Int) = (p : Int) + 1 by omega]; exact IntWalk.i64_in _ (by omega)
        obtain ⟨q1, hq1⟩ : ∃ q1, PosIs q1 (p + 1) := ⟨_, rfl⟩
        have hd2 : s.data.toList.drop (p + 1) = x :: tl := by rw [← List.drop_drop, hdp]; rfl
        have ht := tail_is hd2
        have hq1s : p + 1 ≤ s.size := by omega
        rw [show (p + 1 : Nat) = q1 from hq1.symm] at hw2 ht hq1s
        have hq10 : (0 : Int) ≤ (q1 : Int) := by omega
        have hq11 : (q1 : Int) ≤ (s.size : Int) := by omega
        have hw3 : IntKind.i64.wrap ((p : Int) + 2) = ((p + 2 : Nat) : Int) := by rw [show ((p + 2 : Nat) : Int) = (p : Int) + 2 by omega]; exact IntWalk.i64_in _ (by omega)
        obtain ⟨q2, hq2⟩ : ∃ q2, PosIs q2 (p + 2) := ⟨_, rfl⟩
        rw [show (p + 2 : Nat) = q2 from hq2.symm] at hw3
        have hcells : Lib.byteCells (bytes.take k) ++ [.int .u8 c.toNat] = Lib.byteCells (bytes.take (k + 1)) := by rw [htk, byteCells_snoc]
        have xe := escape_two bb bb _ (mk (x :: tl)) wr hI (by rw [hlk]; omega) hsb (by rw [mk_size]; simp) (c.toNat : Int) (by
          have e0 : (mk (x :: tl))[0]'(by rw [mk_size]; simp) = x := rfl
          rw [e0]
          rcases hx with ⟨rfl, h1⟩ | ⟨rfl, h1⟩ | ⟨rfl, h1⟩ | ⟨rfl, h1⟩
          · exact .inl ⟨rfl, by omega⟩
          · exact .inr (.inl ⟨rfl, by omega⟩)
          · exact .inr (.inr (.inl ⟨rfl, by omega⟩))
          · exact .inr (.inr (.inr ⟨rfl, by omega⟩)))
        rw [hcells] at xe
        clear hpc hdp hI hTail htk hdk hcE hcells hd2
        go_wp2_with (first
          | (go_at_call 41; refine (xs1 _).mono ?_; rintro e w2 ⟨rfl, rfl⟩)
          | (go_at_call 105; refine xe.mono ?_))
        rintro e w3 ⟨rfl, hI3, b3⟩
        go_wp2
        go_roundg (bytes.length + 1 - (k + 1))
        case measure => omega
        case rel => exact ⟨k + 1, q2, by omega, rfl, by unfold PosIs at *; simp only [List.length_cons, List.length_nil] at hel; omega, rfl, .inr hI3, hb.trans b3⟩
      · rw [he] at hdp hel
        obtain ⟨hps, hpc⟩ : ∃ h : p < s.size, s[p] = 92 := byte_at hdp 0 (x := 92) rfl
        have hq : ((s[p].toNat : Nat) : Int) = 92 := by rw [hpc]; rfl
        have hps' : (p : Int) < (s.size : Int) := by omega
        have hst : standsB 92 = false := by decide
        have xs1 := fun w => stands_is 92 w false hst
        have hw2 : IntKind.i64.wrap ((p : Int) + 1) = ((p + 1 : Nat) : Int) := by rw [show ((p + 1 : Nat) : Int) = (p : Int) + 1 by omega]; exact IntWalk.i64_in _ (by omega)
        obtain ⟨q1, hq1⟩ : ∃ q1, PosIs q1 (p + 1) := ⟨_, rfl⟩
        have hd2 : s.data.toList.drop (p + 1) = 120 :: hexDigit (c.toNat / 16) :: hexDigit (c.toNat % 16) :: tl := by rw [← List.drop_drop, hdp]; rfl
        have ht := tail_is hd2
        have hq1s : p + 1 ≤ s.size := by omega
        rw [show (p + 1 : Nat) = q1 from hq1.symm] at hw2 ht hq1s
        have hq10 : (0 : Int) ≤ (q1 : Int) := by omega
        have hq11 : (q1 : Int) ≤ (s.size : Int) := by omega
        have hw3 : IntKind.i64.wrap ((p : Int) + 4) = ((p + 4 : Nat) : Int) := by rw [show ((p + 4 : Nat) : Int) = (p : Int) + 4 by omega]; exact IntWalk.i64_in _ (by omega)
        obtain ⟨q2, hq2⟩ : ∃ q2, PosIs q2 (p + 4) := ⟨_, rfl⟩
        rw [show (p + 4 : Nat) = q2 from hq2.symm] at hw3
        have hcells : Lib.byteCells (bytes.take k) ++ [.int .u8 c.toNat] = Lib.byteCells (bytes.take (k + 1)) := by rw [htk, byteCells_snoc]
        have xe := escape_hex bb bb _ (mk (120 :: hexDigit (c.toNat / 16) :: hexDigit (c.toNat % 16) :: tl)) wr hI (by rw [hlk]; omega) hsb (by rw [mk_size]; simp) (c.toNat / 16) (c.toNat % 16) (by omega) (by omega) rfl rfl rfl
        rw [show (16 * ((c.toNat / 16 : Nat) : Int) + ((c.toNat % 16 : Nat) : Int)) = (c.toNat : Int) by omega] at xe
        rw [hcells] at xe
        clear hpc hdp hI hTail htk hdk hcE hcells hd2
        go_wp2_with (first
          | (go_at_call 41; refine (xs1 _).mono ?_; rintro e w2 ⟨rfl, rfl⟩)
          | (go_at_call 105; refine xe.mono ?_))
        rintro e w3 ⟨rfl, hI3, b3⟩
        go_wp2
        go_roundg (bytes.length + 1 - (k + 1))
        case measure => omega
        case rel => exact ⟨k + 1, q2, by omega, rfl, by unfold PosIs at *; simp only [List.length_cons, List.length_nil] at hel; omega, rfl, .inr hI3, hb.trans b3⟩
    · obtain rfl : k = bytes.length := by omega
      rw [List.drop_length, List.flatMap_nil, List.nil_append] at hdp
      obtain ⟨hps, hpc⟩ : ∃ h : p < s.size, s[p] = 34 := byte_at hdp 0 (x := 34) rfl
      have hq : ((s[p].toNat : Nat) : Int) = 34 := by rw [hpc]; rfl
      have hps' : (p : Int) < (s.size : Int) := by omega
      rw [List.take_length] at hI hlk
      have xl := bld_len bb bb _ wr hI
      rw [hlk] at xl
      have hlen4 : ¬ (4096 : Int) < (bytes.length : Int) := by omega
      have xst := Tryz.Builder_String_any bb bb bytes wr hI hsb
      have hw2 : IntKind.i64.wrap ((p : Int) + 1) = ((p + 1 : Nat) : Int) := by rw [show ((p + 1 : Nat) : Int) = (p : Int) + 1 by omega]; exact IntWalk.i64_in _ (by omega)
      have hpa : p + 1 = a + (quoteL bytes).length := by unfold PosIs at hp; omega
      have hstep := fun w' (b : Below bb wr w') => hm.step (hbb.symm ▸ hb.trans b)
      have hadd := fun w' (hS' : Scn B X ks s LN a lv n xs 0 wz w0 w') => add_walk hS' hL gL hsz hn (p + 1) (by omega) (by omega) 3 0 (mk bytes) j
      rw [hpa] at hadd hw2
      obtain ⟨q1, hq1⟩ : ∃ q1, PosIs q1 (a + (quoteL bytes).length) := ⟨_, rfl⟩
      rw [show a + (quoteL bytes).length = q1 from hq1.symm] at hadd hw2
      clear hpc hdp hI hpa hlenq
      go_wp2_with (first
        | (go_at_call 104; refine xl.mono ?_; rintro e w2 ⟨rfl, rfl⟩)
        | (go_at_call 42; refine xst.mono ?_))
      rintro e w3 ⟨rfl, b3⟩
      have hS3 := hstep _ b3
      have hadd3 := hadd _ hS3
      clear hstep hadd xst xl hS hS3
      go_wp2_with (first
        | (go_at_call 68; refine hadd3.mono ?_))
      rintro e w4 ⟨rfl, lv', hS4⟩
      go_wp2
      go_ret
      exact ⟨rfl, lv', by rw [show a + (quoteL bytes).length = q1 from hq1.symm]; exact hS4⟩
end
end Go.Proofs.YtjnkppneilmpbaaGreatDoor

namespace Go.Proofs.YtjnkppneilmpbaaGreatDoor
open Go.RowKit

/-- From offset a on, behind n tokens, the text has the tokens 'toks' (the last of them End); 'some b': at b begins a number that is too long. -/
inductive Lx (ls : List Int) (s : ByteArray) : Nat → Nat → List Tok → Option Nat → Prop
  | fin {a b n : Nat} (hu : Upto isBlank s a b) (hb : b = s.size) : Lx ls s a n [⟨0, s.extract b b, 0, ByteArray.empty, plL ls b, plC ls b, !decide (a < b) && decide (0 < n)⟩] none
  | word {a b c n : Nat} {toks : List Tok} {out : Option Nat} (hu : Upto isBlank s a b) (hb : b < s.size) (hc : isLetter s[b].toNat = true) (hw : Upto isInWord s b c) (hl : c ≤ b + 64) (h : Lx ls s c (n + 1) toks out) :
      Lx ls s a n (⟨1, s.extract b c, 0, ByteArray.empty, plL ls b, plC ls b, !decide (a < b) && decide (0 < n)⟩ :: toks) out
  | number {a b c n : Nat} {toks : List Tok} {out : Option Nat} (v : Int) (hu : Upto isBlank s a b) (hb : b < s.size) (hc : isDigit s[b].toNat = true) (hw : Upto isDigit s b c) (hl : c ≤ b + 15) (hv : Lib.atoi (s.extract b c).data.toList = some v) (h : Lx ls s c (n + 1) toks out) :
      Lx ls s a n (⟨2, s.extract b c, v, ByteArray.empty, plL ls b, plC ls b, !decide (a < b) && decide (0 < n)⟩ :: toks) out
  | long {a b c n : Nat} (hu : Upto isBlank s a b) (hb : b < s.size) (hc : isDigit s[b].toNat = true) (hw : Upto isDigit s b c) (hl : b + 15 < c) : Lx ls s a n [] (some b)
  | str {a b n : Nat} {toks : List Tok} {out : Option Nat} (hu : Upto isBlank s a b) (bytes rest : List UInt8) (hbl : bytes.length ≤ 4096) (hd : s.data.toList.drop b = quoteL bytes ++ rest) (h : Lx ls s (b + (quoteL bytes).length) (n + 1) toks out) :
      Lx ls s a n (⟨3, s.extract b (b + (quoteL bytes).length), 0, mk bytes, plL ls b, plC ls b, !decide (a < b) && decide (0 < n)⟩ :: toks) out
  | sym {a b n : Nat} {toks : List Tok} {out : Option Nat} (hu : Upto isBlank s a b) (hb : b < s.size) (h1 : isLetter s[b].toNat = false) (h2 : isDigit s[b].toNat = false) (h3 : s[b].toNat ≠ 34) (hc : 0 ≤ Lib.indexByte symbols s[b].toNat.toUInt8) (h : Lx ls s (b + 1) (n + 1) toks out) :
      Lx ls s a n (⟨4, s.extract b (b + 1), 0, ByteArray.empty, plL ls b, plC ls b, !decide (a < b) && decide (0 < n)⟩ :: toks) out

def cellsOf (l : List Tok) : List Value := l.flatMap Tok.cells

/-- What is behind one step. -/
def After (ls : List Int) (B X : Nat) (ks : List (Nat × Obj)) (s : ByteArray) (lines : Value) (b n : Nat) (lv : Value) (xs : List Value) (wr : Int) (w0 : World) (toks : List Tok) (out : Option Nat) (w : World) : Prop :=
  (∃ t toks' lv' c, toks = t :: toks' ∧ Lx ls s c (n + 1) toks' out ∧ Scn B X ks s lines (c : Nat) lv' (n + 1) (xs ++ t.cells) 0 wr w0 w) ∨
  (∃ b' : Nat, toks = [] ∧ out = some b' ∧ Scn B X ks s lines b lv n xs 5 b' w0 w)

theorem letter_no {c : Nat} (h : isLetter c = true) : ((c : Nat) : Int) ≠ 37 := by
  intro e; have : c = 37 := by omega
  subst this; simp [isLetter] at h
theorem digit_no {c : Nat} (h : isDigit c = true) : ((c : Nat) : Int) ≠ 37 ∧ isLetter c = false := by
  simp only [isDigit, Bool.and_eq_true, decide_eq_true_eq] at h
  refine ⟨by omega, ?_⟩
  have h1 : ¬ 97 ≤ c := by omega
  have h2 : ¬ 65 ≤ c := by omega
  simp [isLetter, h1, h2]
theorem sym_no {c : UInt8} (h : 0 ≤ Lib.indexByte symbols c) : c ≠ 37 := by
  rintro rfl
  revert h; decide

theorem lx_step {ls : List Int} (gL : Lines ls) {s : ByteArray} {a n : Nat} {toks : List Tok} {out : Option Nat} (h : Lx ls s a n toks out) (hsz : s.size ≤ 1048576) (hn : n ≤ 1048576) :
    (∃ b, Upto isBlank s a b ∧ b = s.size ∧ toks = [⟨0, s.extract b b, 0, ByteArray.empty, plL ls b, plC ls b, !decide (a < b) && decide (0 < n)⟩] ∧ out = none) ∨
    (∃ b p, Upto isBlank s a b ∧ b < s.size ∧ (∀ h : b < s.size, ((s[b].toNat : Nat) : Int) ≠ 37) ∧ p < 4 ∧
      ∀ (B X : Nat) (ks : List (Nat × Obj)) (LN lv : Value) (xs : List Value) (wr : Int) (w0 w : World), LinesAt LN ls ks → Scn B X ks s LN b lv n xs 0 wr w0 w →
        (∀ i, i < p → Misses (63 + i) X (!decide (a < b)) w) ∧ Hits (63 + p) X (!decide (a < b)) w (After ls B X ks s LN b n lv xs wr w0 toks out)) := by
  cases h with
  | fin hu hb => exact .inl ⟨_, hu, hb, rfl, rfl⟩
  | @word _ b c _ toks' _ hu hb hc hw hl h =>
    refine .inr ⟨b, 0, hu, hb, fun _ => letter_no hc, by omega, fun B X ks LN lv xs wr w0 w hL hS => ⟨fun i hi => absurd hi (by omega), fun w' b' => ?_⟩⟩
    refine (word_hit (hS.step b') hL gL hsz hn hb hc c hw hl _).mono ?_
    rintro e w'' ⟨rfl, lv', hS'⟩
    exact ⟨rfl, .inl ⟨_, _, lv', c, rfl, h, hS'⟩⟩
  | @number _ b c _ toks' _ v hu hb hc hw hl hv h =>
    refine .inr ⟨b, 1, hu, hb, fun _ => (digit_no hc).1, by omega, fun B X ks LN lv xs wr w0 w hL hS => ⟨fun i hi => ?_, fun w' b' => ?_⟩⟩
    · obtain rfl : i = 0 := by omega
      exact fun w' b' => word_miss (hS.step b') hb (digit_no hc).2 _
    · refine (number_hit (hS.step b') hL gL hsz hn hb hc c hw hl v hv _).mono ?_
      rintro e w'' ⟨rfl, lv', hS'⟩
      exact ⟨rfl, .inl ⟨_, _, lv', c, rfl, h, hS'⟩⟩
  | @long _ b c _ hu hb hc hw hl =>
    refine .inr ⟨b, 1, hu, hb, fun _ => (digit_no hc).1, by omega, fun B X ks LN lv xs wr w0 w hL hS => ⟨fun i hi => ?_, fun w' b' => ?_⟩⟩
    · obtain rfl : i = 0 := by omega
      exact fun w' b' => word_miss (hS.step b') hb (digit_no hc).2 _
    · refine (number_long (hS.step b') hsz hb hc c hw hl _).mono ?_
      rintro e w'' ⟨rfl, hS'⟩
      exact ⟨rfl, .inr ⟨b, rfl, rfl, hS'⟩⟩
  | @str _ b _ toks' _ hu bytes rest hbl hd h =>
    obtain ⟨hb0, hc⟩ : ∃ h : b < s.size, s[b] = 34 := byte_at hd 0 (x := 34) rfl
    have hc' : s[b].toNat = 34 := by rw [hc]; rfl
    refine .inr ⟨b, 2, hu, hb0, fun _ => by rw [hc']; decide, by omega, fun B X ks LN lv xs wr w0 w hL hS => ⟨fun i hi => ?_, fun w' b' => ?_⟩⟩
    · rcases (by omega : i = 0 ∨ i = 1) with rfl | rfl
      · exact fun w' b' => word_miss (hS.step b') hb0 (by rw [hc']; decide) _
      · exact fun w' b' => number_miss (hS.step b') hb0 (by rw [hc']; decide) _
    · refine (text_hit (hS.step b') hL gL hsz hn bytes rest hbl hd _).mono ?_
      rintro e w'' ⟨rfl, lv', hS'⟩
      exact ⟨rfl, .inl ⟨_, _, lv', _, rfl, h, hS'⟩⟩
  | @sym _ b _ toks' _ hu hb h1 h2 h3 hc h =>
    refine .inr ⟨b, 3, hu, hb, fun _ => ?_, by omega, fun B X ks LN lv xs wr w0 w hL hS => ⟨fun i hi => ?_, fun w' b' => ?_⟩⟩
    · intro e
      have h37 := sym_no hc
      apply h37
      have : s[b].toNat = 37 := by omega
      rw [this]; rfl
    · rcases (by omega : i = 0 ∨ i = 1 ∨ i = 2) with rfl | rfl | rfl
      · exact fun w' b' => word_miss (hS.step b') hb h1 _
      · exact fun w' b' => number_miss (hS.step b') hb h2 _
      · exact fun w' b' => text_miss (hS.step b') hb (by omega) _
    · refine (symbol_hit (hS.step b') hL gL hsz hn hb hc _).mono ?_
      rintro e w'' ⟨rfl, lv', hS'⟩
      exact ⟨rfl, .inl ⟨_, _, lv', b + 1, rfl, h, hS'⟩⟩
end Go.Proofs.YtjnkppneilmpbaaGreatDoor

namespace Go.Proofs.YtjnkppneilmpbaaGreatDoor
open Go.RowKit

section
variable {B X : Nat} {ks : List (Nat × Obj)} {s : ByteArray} {lines : Value} {pos : Int} {lv : Value} {n : Nat} {xs : List Value} {e wr : Int} {w0 w : World}

theorem LinesAt.more {LN : Value} {ls : List Int} {ks : List (Nat × Obj)} {p : Nat × Obj} (h : LinesAt LN ls ks) : LinesAt LN ls (p :: ks) := by
  obtain ⟨L, cap, cs, h1, h2, h3⟩ := h
  exact ⟨L, cap, cs, h1, List.mem_cons_of_mem _ h2, h3⟩

theorem Scn.more (h : Scn B X ks s lines pos lv n xs e wr w0 w) {k : Nat} {o : Obj} (hk : w.heap[k]? = some o) (hX : k ≠ X) (hB : B ≤ k) (ho : ∀ cs fr, o ≠ .cells cs 111 fr) : Scn B X ((k, o) :: ks) s lines pos lv n xs e wr w0 w :=
  ⟨h.hX, h.hB, h.blk, h.own, fun p hp => by
    rcases List.mem_cons.1 hp with rfl | hp
    · exact ⟨hk, hX, hB, ho⟩
    · exact h.keep p hp, h.below⟩

theorem Scn.less {p : Nat × Obj} (h : Scn B X (p :: ks) s lines pos lv n xs e wr w0 w) : Scn B X ks s lines pos lv n xs e wr w0 w :=
  ⟨h.hX, h.hB, h.blk, h.own, fun q hq => h.keep q (List.mem_cons_of_mem _ hq), h.below⟩
end

theorem Scn.box {B X : Nat} {ks : List (Nat × Obj)} {s : ByteArray} {lines : Value} {pos : Int} {lv : Value} {n : Nat} {xs : List Value} {e wr : Int} {w0 w : World} (h : Scn B X ks s lines pos lv n xs e wr w0 w) {k : Nat} {v : Value} {T : TypeId} (hk : (k, Obj.cells #[v] T (0, 0)) ∈ ks) : w.cell? ⟨k, 0, none⟩ = some v := by
  rw [Lib.cell_of_heap (h.keep _ hk).1]; rfl

/-- How far the loop is: it goes on, or a number was too long. -/
inductive Going (ls : List Int) (B X : Nat) (ks : List (Nat × Obj)) (s : ByteArray) (lines : Value) (wr : Int) (w0 : World) (N : Nat) (all : List Value) (out : Option Nat) (g : Nat) (w : World) : Prop
  | on (a n : Nat) (toks : List Tok) (lv : Value) (xs : List Value) (h : Lx ls s a n toks out) (hS : Scn B X ks s lines a lv n xs 0 wr w0 w) (hN : n + toks.length = N) (hall : xs ++ cellsOf toks = all) (hg : toks.length < g)
  | failed (b n : Nat) (pos : Nat) (lv : Value) (xs : List Value) (hout : out = some b) (hS : Scn B X ks s lines pos lv n xs 5 b w0 w)

/-- How it ends. -/
def Ended (B X : Nat) (ks : List (Nat × Obj)) (s : ByteArray) (lines : Value) (wr : Int) (w0 : World) (N : Nat) (all : List Value) (out : Option Nat) (w : World) : Prop :=
  (out = none ∧ ∃ (pos : Nat) (lv : Value), Scn B X ks s lines pos lv N all 0 wr w0 w) ∨
  (∃ (b pos n : Nat) (lv : Value) (xs : List Value), out = some b ∧ Scn B X ks s lines pos lv n xs 5 b w0 w)

section
variable {LN : Value} {ls : List Int} {B X : Nat} {ks : List (Nat × Obj)} {s : ByteArray} {lv : Value} {n a : Nat} {xs : List Value} {wz : Int} {w0 w : World} {toks : List Tok} {out : Option Nat}

set_option maxHeartbeats 16000000 in
set_option maxRecDepth 100000 in
theorem scan_walk (hx : Lx ls s a n toks out) (h : Scn B X ks s LN a lv n xs 0 wz w0 w) (hL : LinesAt LN ls ks) (gL : Lines ls) (hsz : s.size ≤ 1048576) (hn : n + toks.length ≤ 262143) :
    Calls Tryz.prog 47 #[.pointer (some ⟨X, 0, none⟩)] w fun r w' => r = .returned (.tuple #[]) ∧ Ended B X ks s LN wz w0 (n + toks.length) (xs ++ cellsOf toks) out w' := by
  have hlt := h.lt
  have hBw := h.hB
  have hW : Scn B X ((w.heap.size + 1, takersRow) :: (w.heap.size, .cells #[.pointer (some ⟨X, 0, none⟩)] 137 (0, 0)) :: ks) s LN a lv n xs 0 wz w0 ((w.alloc (.cells #[.pointer (some ⟨X, 0, none⟩)] 137)).alloc takersRow) := by
    refine Scn.more (Scn.more (h.step (((Below.refl _ w).alloc (Nat.le_refl _) _).alloc (by simp) _)) ?_ (by omega) hBw (by intro cs fr hc; injection hc with _ h2 _; exact absurd h2 (by decide))) ?_ (by omega) (by omega) (by intro cs fr hc; injection hc with _ h2 _; exact absurd h2 (by decide))
    · exact (Lib.alloc_old _ _ _ (by simp)).trans (heap_alloc_new w _)
    · have := heap_alloc_new (w.alloc (.cells #[.pointer (some ⟨X, 0, none⟩)] 137)) takersRow
      simpa using this
  generalize hBx : w.heap.size = Bx at hW hlt hBw
  go_enter Tryz.func47, Tryz.ntmps47
  go_wp2
  generalize hV : ((w.alloc (.cells #[.pointer (some ⟨X, 0, none⟩)] 137)).alloc (.cells #[.func (.func 63) #[] #[], .func (.func 64) #[] #[], .func (.func 65) #[] #[], .func (.func 66) #[] #[]] 161)) = V
  have hW' : Scn B X ((Bx + 1, takersRow) :: (Bx, .cells #[.pointer (some ⟨X, 0, none⟩)] 137 (0, 0)) :: ks) s LN a lv n xs 0 wz w0 V := by rw [← hV]; exact hW
  clear hW hV h hlt hBw hBx
  go_loopg [3] (toks.length + 1) (fun g v wr' => Going ls B X ((Bx + 1, takersRow) :: (Bx, .cells #[.pointer (some ⟨X, 0, none⟩)] 137 (0, 0)) :: ks) s LN wz w0 (n + toks.length) (xs ++ cellsOf toks) out g wr')
  case atStart => exact .on a n toks lv xs hx hW' rfl rfl (by omega)
  case round =>
    clear hW' hx
    cases hrel with
    | failed b n' pos lv' xs' hout hS =>
      have d4 := hS.c4
      have k1 : wr.cell? ⟨Bx, 0, none⟩ = some (.pointer (some ⟨X, 0, none⟩)) := hS.box (T := 137) (by simp)
      have hfin : Ended B X ks s LN wz w0 (n + toks.length) (xs ++ cellsOf toks) out wr := .inr ⟨b, pos, n', lv', xs', hout, hS.less.less⟩
      clear hS
      go_wp2
      go_end0
      exact ⟨rfl, hfin⟩
    | on a n' toks' lv' xs' hx' hS hN hall hg =>
      have d4 := hS.c4
      have k1 : wr.cell? ⟨Bx, 0, none⟩ = some (.pointer (some ⟨X, 0, none⟩)) := hS.box (T := 137) (by simp)
      rcases lx_step gL hx' hsz (by omega) with ⟨b, hu, hb, htoks, hout⟩ | ⟨b, p, hu, hb, hnp, hp, hstep⟩
      · have hsk := skip_walk hS hsz b hu (fun h => absurd h (by omega))
        clear hS
        go_wp2_with (go_at_call 67; refine hsk.mono ?_)
        rintro e w2 ⟨rfl, hS2⟩
        have k2 : w2.cell? ⟨Bx, 0, none⟩ = some (.pointer (some ⟨X, 0, none⟩)) := hS2.box (T := 137) (by simp)
        clear d4 k1
        subst hb
        go_wp2
        have hj3 : (w2.alloc (.cells #[.bool (!decide (a < s.size))] 4)).cell? ⟨w2.heap.size, 0, none⟩ = some (.bool (!decide (a < s.size))) := by rw [Lib.cell_of_heap (heap_alloc_new w2 _)]; rfl
        have hS3 := hS2.step ((Below.refl _ w2).alloc (Nat.le_refl _) (.cells #[.bool (!decide (a < s.size))] 4))
        generalize hV3 : w2.alloc (.cells #[.bool (!decide (a < s.size))] 4) = V3 at hS3 hj3 ⊢
        generalize w2.heap.size = Bj at hj3 ⊢
        clear hV3 hS2 k2
        have k3 : V3.cell? ⟨Bx, 0, none⟩ = some (.pointer (some ⟨X, 0, none⟩)) := hS3.box (T := 137) (by simp)
        have c30 := hS3.c0
        have c31 := hS3.c1
        go_quiet (fail)
        have hS4 := hS3.step (below_drewN (Below.refl _ V3) nq)
        have j4 : (V3.drewN nq).cell? ⟨Bj, 0, none⟩ = some (.bool (!decide (a < s.size))) := hj3
        generalize V3.drewN nq = V4 at hS4 j4 ⊢
        have k4 : V4.cell? ⟨Bx, 0, none⟩ = some (.pointer (some ⟨X, 0, none⟩)) := hS4.box (T := 137) (by simp)
        have c41 := hS4.c1
        clear hS3 hj3 k3 c30 c31
        go_wp2
        go_still_tail 7, (by kernel_rfl)
        change wpList _ _ _ _ _ V4.drew
        have hS5 := hS4.step ((Below.refl _ V4).drew)
        generalize V4.drew = V5 at hS5 ⊢
        clear k4 c41 j4 hS4
        have hadd := add_walk hS5 hL.more.more gL hsz (by omega) s.size (Nat.le_refl _) (Nat.le_refl _) 0 0 ByteArray.empty (!decide (a < s.size))
        go_wp2_with (go_at_call 68; refine hadd.mono ?_)
        rintro e w6 ⟨rfl, lv6, hS6⟩
        go_wp2
        refine bodyPost_ret (results_none rfl _ _ _) rfl ?_
        refine ⟨rfl, .inl ⟨hout, s.size, lv6, ?_⟩⟩
        subst htoks
        have e1 : n + toks.length = n' + 1 := by rw [← hN]; rfl
        rw [e1, ← hall]
        simpa [cellsOf] using hS6.less.less
      · have hj : p < 4 := hp
        have hsk := skip_walk hS hsz b hu hnp
        clear hS
        go_wp2_with (go_at_call 67; refine hsk.mono ?_)
        rintro e w2 ⟨rfl, hS2⟩
        have k2 : w2.cell? ⟨Bx, 0, none⟩ = some (.pointer (some ⟨X, 0, none⟩)) := hS2.box (T := 137) (by simp)
        clear d4 k1
        go_wp2
        have hj3 : (w2.alloc (.cells #[.bool (!decide (a < b))] 4)).cell? ⟨w2.heap.size, 0, none⟩ = some (.bool (!decide (a < b))) := by rw [Lib.cell_of_heap (heap_alloc_new w2 _)]; rfl
        have hS3 := hS2.step ((Below.refl _ w2).alloc (Nat.le_refl _) (.cells #[.bool (!decide (a < b))] 4))
        generalize hV3 : w2.alloc (.cells #[.bool (!decide (a < b))] 4) = V3 at hS3 hj3 ⊢
        generalize w2.heap.size = Bj at hj3 ⊢
        clear hV3 hS2 k2
        have k3 : V3.cell? ⟨Bx, 0, none⟩ = some (.pointer (some ⟨X, 0, none⟩)) := hS3.box (T := 137) (by simp)
        have c30 := hS3.c0
        have c31 := hS3.c1
        have hne : ¬ ((b : Int) = (s.size : Int)) := by omega
        go_quiet (fail)
        have hS4 := hS3.step (below_drewN (Below.refl _ V3) nq)
        have j4 : (V3.drewN nq).cell? ⟨Bj, 0, none⟩ = some (.bool (!decide (a < b))) := hj3
        generalize V3.drewN nq = V4 at hS4 j4 ⊢
        have k4 : V4.cell? ⟨Bx, 0, none⟩ = some (.pointer (some ⟨X, 0, none⟩)) := hS4.box (T := 137) (by simp)
        obtain ⟨ao, cp, rfl⟩ := hS4.lvIs
        have c43 := hS4.c3
        have hne2 : ¬ ((n' : Int) = 262144) := by omega
        obtain ⟨hmiss, hhit⟩ := hstep B X _ _ _ _ wz w0 _ hL.more.more hS4
        have hK : V4.heap[Bx + 1]? = some takersRow := (hS4.keep (Bx + 1, takersRow) (by simp)).1
        have htk := takes_walk p hp hK k4 j4 hmiss hhit
        clear hS3 hj3 k3 c30 c31 hmiss hhit hsk hS4 hstep
        go_wp2_with (go_at_call 70; refine htk.mono ?_)
        rintro e w6 ⟨rfl, hA⟩
        go_wp2
        rcases hA with ⟨t, tk, lv2, c, rfl, hx2, hS2⟩ | ⟨b', rfl, hout, hS2⟩
        · go_roundg (gk - 1)
          case measure => simp only [List.length_cons] at hg; omega
          case rel =>
            refine .on c (n' + 1) tk lv2 _ hx2 hS2 ?_ ?_ ?_
            · rw [← hN]; simp only [List.length_cons]; omega
            · rw [← hall]; simp [cellsOf]
            · simp only [List.length_cons] at hg; omega
        · go_roundg 0
          case measure => simp only [List.length_nil] at hg; omega
          case rel => exact .failed b' n' b _ _ hout hS2
end
end Go.Proofs.YtjnkppneilmpbaaGreatDoor
