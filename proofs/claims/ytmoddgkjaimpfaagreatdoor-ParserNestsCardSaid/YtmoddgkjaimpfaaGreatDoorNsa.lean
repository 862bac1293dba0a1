/-
  A part of the proof that the law ParserNests (chapter 19) returns true for every depth and every list of notes: walks of the program's functions, and runs of them in the kernel by the own evaluator.
-/
import Derived.Test.YtmoddgkjaimpfaaGreatDoorPcs
import Derived.Test.YtmoddgkjaimpfaaGreatDoorPvk
namespace Go.Proofs.YtmoddgkjaimpfaaGreatDoor
open Go.RowKit

def mk (l : List UInt8) : ByteArray := ⟨l.toArray⟩
theorem mk_add (l m : List UInt8) : mk l ++ mk m = mk (l ++ m) := by
  apply ByteArray.ext
  simp [mk]
theorem mk_size (l : List UInt8) : (mk l).size = l.length := by
  show l.toArray.size = _
  simp

/-- The tuplets from the outermost on: how many notes each begins with, and whether one follows it. -/

def oW : List UInt8 := [40, 51, 58, 50, 32]
def cW : List UInt8 := [67, 52, 58, 56, 32]
def dW : List UInt8 := [68, 52, 58, 49, 54, 32]
def eW : List UInt8 := [69, 52, 58, 56, 46, 32]
def pW : List UInt8 := [41, 32]
def eIf (b : Bool) : List UInt8 := if b then eW else []
def notesT (k : Nat) : List UInt8 := (List.replicate k cW).flatten
theorem notesT_succ (k : Nat) : notesT (k + 1) = notesT k ++ cW := by
  unfold notesT
  rw [List.replicate_succ', List.flatten_append]
  simp
theorem notesT_len (k : Nat) : (notesT k).length = 5 * k := by
  induction k with
  | zero => rfl
  | succ k ih => rw [notesT_succ, List.length_append, ih]; simp [cW]; omega

def upT (l : List (Nat × Bool)) : List UInt8 := l.flatMap fun p => oW ++ notesT p.1
def nestT : List (Nat × Bool) → List UInt8
  | [] => dW
  | (c, b) :: l => oW ++ (notesT c ++ (nestT l ++ (pW ++ eIf b)))
/-- How many events there are in a tuplet behind its first notes. -/
def cnt : List (Nat × Bool) → Nat
  | [] => 1
  | (c, b) :: l => c + cnt l + (if b then 1 else 0)
def sumC (l : List (Nat × Bool)) : Nat := (l.map (·.1)).sum
def tups (a : Nat) : List (Nat × Bool) → List (Int × Int)
  | [] => []
  | (c, _) :: l => ((a : Int), ((c + cnt l : Nat) : Int)) :: tups (a + c) l
def ups (a : Nat) : List (Nat × Bool) → List (Int × Int)
  | [] => []
  | (c, _) :: l => ((a : Int), 0) :: ups (a + c) l

theorem tups_len (l : List (Nat × Bool)) : ∀ a, (tups a l).length = l.length := by
  induction l with
  | nil => intro a; rfl
  | cons p l ih => intro a; simp [tups, ih]
theorem ups_len (l : List (Nat × Bool)) : ∀ a, (ups a l).length = l.length := by
  induction l with
  | nil => intro a; rfl
  | cons p l ih => intro a; simp [ups, ih]
theorem sumC_more (l : List (Nat × Bool)) (p : Nat × Bool) : sumC (l ++ [p]) = sumC l + p.1 := by simp [sumC]
theorem upT_more (l : List (Nat × Bool)) (p : Nat × Bool) : upT (l ++ [p]) = upT l ++ (oW ++ notesT p.1) := by simp [upT]
theorem ups_more (p : Nat × Bool) (l : List (Nat × Bool)) : ∀ a, ups a (l ++ [p]) = ups a l ++ [(((a + sumC l : Nat) : Int), 0)] := by
  induction l with
  | nil => intro a; simp [ups, sumC]
  | cons q l ih =>
    intro a
    simp only [List.cons_append, ups, ih, sumC, List.map_cons, List.sum_cons]
    rw [show a + q.1 + (l.map (·.1)).sum = a + (q.1 + (l.map (·.1)).sum) by omega]

/-- Blanks wander from behind words to ahead of them. -/
def Sh (x X : List UInt8) : Prop := 32 :: x = X ++ [32]
theorem Sh.nil : Sh [] [] := rfl
theorem Sh.append {x X y Y : List UInt8} (h : Sh x X) (k : Sh y Y) : Sh (x ++ y) (X ++ Y) := by
  unfold Sh at *
  rw [show 32 :: (x ++ y) = (32 :: x) ++ y from rfl, h, List.append_assoc, show [32] ++ y = 32 :: y from rfl, k, List.append_assoc]

def opnP : List Piece := [⟨4, [32], [40], 0⟩, ⟨2, [], [51], 3⟩, ⟨4, [], [58], 0⟩, ⟨2, [], [50], 2⟩]
def cP : List Piece := [⟨1, [32], [67, 52], 0⟩, ⟨4, [], [58], 0⟩, ⟨2, [], [56], 8⟩]
def dP : List Piece := [⟨1, [32], [68, 52], 0⟩, ⟨4, [], [58], 0⟩, ⟨2, [], [49, 54], 16⟩]
def eP : List Piece := [⟨1, [32], [69, 52], 0⟩, ⟨4, [], [58], 0⟩, ⟨2, [], [56], 8⟩, ⟨4, [], [46], 0⟩]
def clP : List Piece := [⟨4, [32], [41], 0⟩]
def ePif (b : Bool) : List Piece := if b then eP else []
def notesP : Nat → List Piece
  | 0 => []
  | k + 1 => cP ++ notesP k
def nestP : List (Nat × Bool) → List Piece
  | [] => dP
  | (c, b) :: l => opnP ++ (notesP c ++ (nestP l ++ (clP ++ ePif b)))

theorem flat_append (x y : List Piece) : flat (x ++ y) = flat x ++ flat y := by simp [flat]

theorem sh_notes (k : Nat) : Sh (notesT k) (flat (notesP k)) := by
  induction k with
  | zero => rfl
  | succ k ih =>
    have : notesT (k + 1) = cW ++ notesT k := by simp [notesT, List.replicate_succ]
    rw [this, notesP, flat_append]
    exact Sh.append rfl ih
theorem sh_nest (l : List (Nat × Bool)) : Sh (nestT l) (flat (nestP l)) := by
  induction l with
  | nil => rfl
  | cons p l ih =>
    obtain ⟨c, b⟩ := p
    simp only [nestT, nestP, flat_append]
    refine Sh.append rfl (Sh.append (sh_notes c) (Sh.append ih (Sh.append rfl ?_)))
    cases b <;> rfl

/-- A row of pieces that is good ahead of a blank, and begins with one. -/
structure Blk (x : List Piece) : Prop where
  good : ∀ r, GoodP (32 :: r) x
  head : x = [] ∨ ∃ f, flat x = 32 :: f

theorem good_append {rest : List UInt8} : ∀ (x y : List Piece), GoodP (flat y ++ rest) x → GoodP rest y → GoodP rest (x ++ y)
  | [], _, _, h => h
  | p :: x, y, h, k => by
    refine ⟨?_, good_append x y h.2 k⟩
    have := h.1
    show p.Ok (flat (x ++ y) ++ rest)
    rwa [flat_append, List.append_assoc]
theorem Blk.append {x y : List Piece} (h : Blk x) (k : Blk y) : Blk (x ++ y) := by
  refine ⟨fun r => good_append x y ?_ (k.good r), ?_⟩
  · rcases k.head with rfl | ⟨f, hf⟩
    · exact h.good r
    · rw [hf]; exact h.good _
  · rcases h.head with rfl | ⟨f, hf⟩
    · exact k.head
    · exact .inr ⟨f ++ flat y, by rw [flat_append, hf]; rfl⟩
theorem Blk.nil : Blk [] := ⟨fun _ => trivial, .inl rfl⟩

theorem ends_cons {q : Nat → Bool} {x : UInt8} {r : List UInt8} (h : q x.toNat = false) : Ends q (x :: r) := by
  intro y s e; injection e with e _; subst e; exact h
theorem blanks_one : ∀ x ∈ ([32] : List UInt8), isBlank x.toNat = true := by decide
theorem blanks_no : ∀ x ∈ ([] : List UInt8), isBlank x.toNat = true := by decide

theorem ok_sym {bl : List UInt8} (hb : ∀ x ∈ bl, isBlank x.toNat = true) (c : UInt8) (h1 : isLetter c.toNat = false) (h2 : isDigit c.toNat = false) (h3 : c.toNat ≠ 34) (h4 : 0 ≤ Lib.indexByte symbols c) (h5 : isBlank c.toNat = false) (rest : List UInt8) : (⟨4, bl, [c], 0⟩ : Piece).Ok rest :=
  ⟨hb, .inr (.inr (.inr ⟨rfl, rfl, c, rfl, h1, h2, h3, h4, h5⟩))⟩
theorem ok_num (b : List UInt8) (v : Int) (h1 : Lib.atoi b = some v) (h2 : b ≠ []) (h3 : ∀ x ∈ b, isDigit x.toNat = true) (h4 : b.length ≤ 15) {x : UInt8} {r : List UInt8} (h5 : isDigit x.toNat = false) : (⟨2, [], b, v⟩ : Piece).Ok (x :: r) :=
  ⟨blanks_no, .inr (.inl ⟨rfl, h1, h2, h3, h4, ends_cons h5⟩)⟩
theorem ok_word (c d : UInt8) (h1 : isLetter c.toNat = true) (h2 : ∀ x ∈ [c, d], isInWord x.toNat = true) {x : UInt8} {r : List UInt8} (h3 : isInWord x.toNat = false) : (⟨1, [32], [c, d], 0⟩ : Piece).Ok (x :: r) :=
  ⟨blanks_one, .inl ⟨rfl, rfl, ⟨c, [d], rfl, h1⟩, h2, by show 2 ≤ 64; omega, ends_cons h3⟩⟩

theorem blk_opn : Blk opnP := ⟨fun r => ⟨ok_sym blanks_one 40 (by decide) (by decide) (by decide) (by decide) (by decide) _, ok_num [51] 3 (by rfl) (by decide) (by decide) (by decide) (by decide), ok_sym blanks_no 58 (by decide) (by decide) (by decide) (by decide) (by decide) _, ok_num [50] 2 (by rfl) (by decide) (by decide) (by decide) (by decide), trivial⟩, .inr ⟨_, rfl⟩⟩
theorem blk_c : Blk cP := ⟨fun r => ⟨ok_word 67 52 (by decide) (by decide) (by decide), ok_sym blanks_no 58 (by decide) (by decide) (by decide) (by decide) (by decide) _, ok_num [56] 8 (by rfl) (by decide) (by decide) (by decide) (by decide), trivial⟩, .inr ⟨_, rfl⟩⟩
theorem blk_d : Blk dP := ⟨fun r => ⟨ok_word 68 52 (by decide) (by decide) (by decide), ok_sym blanks_no 58 (by decide) (by decide) (by decide) (by decide) (by decide) _, ok_num [49, 54] 16 (by rfl) (by decide) (by decide) (by decide) (by decide), trivial⟩, .inr ⟨_, rfl⟩⟩
theorem blk_e : Blk eP := ⟨fun r => ⟨ok_word 69 52 (by decide) (by decide) (by decide), ok_sym blanks_no 58 (by decide) (by decide) (by decide) (by decide) (by decide) _, ok_num [56] 8 (by rfl) (by decide) (by decide) (by decide) (by decide), ok_sym blanks_no 46 (by decide) (by decide) (by decide) (by decide) (by decide) _, trivial⟩, .inr ⟨_, rfl⟩⟩
theorem blk_cl : Blk clP := ⟨fun r => ⟨ok_sym blanks_one 41 (by decide) (by decide) (by decide) (by decide) (by decide) _, trivial⟩, .inr ⟨_, rfl⟩⟩
theorem blk_notes (k : Nat) : Blk (notesP k) := by
  induction k with
  | zero => exact Blk.nil
  | succ k ih => exact blk_c.append ih
theorem blk_nest (l : List (Nat × Bool)) : Blk (nestP l) := by
  induction l with
  | nil => exact blk_d
  | cons p l ih =>
    obtain ⟨c, b⟩ := p
    refine blk_opn.append ((blk_notes c).append (ih.append (blk_cl.append ?_)))
    cases b
    · exact Blk.nil
    · exact blk_e

/-- The first piece without its blank. -/
def bare : List Piece → List Piece
  | [] => []
  | p :: ps => { p with bl := [] } :: ps

theorem notesP_len (k : Nat) : (notesP k).length = 3 * k := by
  induction k with
  | zero => rfl
  | succ k ih => rw [notesP, List.length_append, ih]; simp [cP]; omega

/-- All bytes of the text are fit. -/
theorem nest_bytes (l : List (Nat × Bool)) : ∀ x ∈ nestT l, x ≠ 10 := by
  have hn : ∀ k, ∀ x ∈ notesT k, x ≠ 10 := by
    intro k
    induction k with
    | zero => intro x hx; cases hx
    | succ k ih =>
      intro x hx
      rw [notesT_succ, List.mem_append] at hx
      rcases hx with hx | hx
      · exact ih x hx
      · revert x; decide
  induction l with
  | nil => decide
  | cons p l ih =>
    obtain ⟨c, b⟩ := p
    intro x hx
    simp only [nestT, List.mem_append] at hx
    rcases hx with hx | hx | hx | hx | hx
    · revert x; decide
    · exact hn c x hx
    · exact ih x hx
    · revert x; decide
    · cases b
      · cases hx
      · revert x; decide

theorem upT_len (l : List (Nat × Bool)) (h : ∀ p ∈ l, p.1 ≤ 3) : (upT l).length ≤ 20 * l.length := by
  induction l with
  | nil => simp [upT]
  | cons p l ih =>
    have := ih fun q hq => h q (List.mem_cons_of_mem _ hq)
    have h3 := h p (by simp)
    have hl := notesT_len p.1
    simp only [upT, List.flatMap_cons, List.length_append, List.length_cons] at this ⊢
    have : oW.length = 5 := rfl
    omega
theorem nestT_len (l : List (Nat × Bool)) (h : ∀ p ∈ l, p.1 ≤ 3) : (nestT l).length ≤ 28 * l.length + 6 := by
  induction l with
  | nil => simp [nestT, dW]
  | cons p l ih =>
    obtain ⟨c, b⟩ := p
    have := ih fun q hq => h q (List.mem_cons_of_mem _ hq)
    have h3 := h (c, b) (by simp)
    have hl := notesT_len c
    simp only [nestT, List.length_append, List.length_cons]
    have h1 : oW.length = 5 := rfl
    have h2 : pW.length = 2 := rfl
    have h4 : (eIf b).length ≤ 6 := by cases b <;> simp [eIf, eW]
    simp only at h3
    omega
theorem nestP_len (l : List (Nat × Bool)) (h : ∀ p ∈ l, p.1 ≤ 3) : (nestP l).length ≤ 18 * l.length + 3 := by
  induction l with
  | nil => simp [nestP, dP]
  | cons p l ih =>
    obtain ⟨c, b⟩ := p
    have := ih fun q hq => h q (List.mem_cons_of_mem _ hq)
    have h3 := h (c, b) (by simp)
    have hl := notesP_len c
    simp only [nestP, List.length_append, List.length_cons]
    have h1 : opnP.length = 4 := rfl
    have h2 : clP.length = 1 := rfl
    have h4 : (ePif b).length ≤ 4 := by cases b <;> simp [ePif, eP]
    simp only at h3
    omega
theorem cnt_le (l : List (Nat × Bool)) (h : ∀ p ∈ l, p.1 ≤ 3) : sumC l ≤ 3 * l.length ∧ cnt l ≤ 4 * l.length + 1 := by
  induction l with
  | nil => simp [sumC, cnt]
  | cons p l ih =>
    obtain ⟨c, b⟩ := p
    have := ih fun q hq => h q (List.mem_cons_of_mem _ hq)
    have h3 := h (c, b) (by simp)
    simp only at h3
    simp only [sumC, List.map_cons, List.sum_cons, cnt, List.length_cons] at *
    split <;> omega
end Go.Proofs.YtmoddgkjaimpfaaGreatDoor

namespace Go.Proofs.YtmoddgkjaimpfaaGreatDoor
open Go.RowKit

/-- A token of a piece. -/
def IsOf (p : Piece) (t : Tok) : Prop := t.kind = p.kind ∧ t.text = mk p.body ∧ t.value = p.value ∧ t.joined = p.bl.isEmpty

/-- The tokens are those of the pieces. -/
def Toks (ps : List Piece) (toks : List Tok) : Prop := toks.length = ps.length ∧ ∀ (i : Nat) (p : Piece), ps[i]? = some p → ∃ t, toks[i]? = some t ∧ IsOf p t

theorem ptoks_of (ps : List Piece) : ∀ (a n i : Nat) (p : Piece), ps[i]? = some p → ∃ c, (ptoks a n ps)[i]? = some ⟨p.kind, mk p.body, p.value, ByteArray.empty, c, p.bl.isEmpty && decide (0 < n + i)⟩ := by
  induction ps with
  | nil => intro a n i p h; simp at h
  | cons p0 ps ih =>
    intro a n i p h
    cases i with
    | zero =>
      simp only [List.getElem?_cons_zero, Option.some.injEq] at h
      subst h
      refine ⟨((a + p0.bl.length : Nat) : Int) + 1, ?_⟩
      have hb : (!decide (a < a + p0.bl.length)) = p0.bl.isEmpty := by
        cases h : p0.bl with
        | nil => simp
        | cons x r => simp
      simp only [ptoks, List.getElem?_cons_zero, Nat.add_zero, hb, mk]
    | succ i =>
      simp only [List.getElem?_cons_succ] at h
      obtain ⟨c, h1⟩ := ih (a + p0.bl.length + p0.body.length) (n + 1) i p h
      refine ⟨c, ?_⟩
      simp only [ptoks, List.getElem?_cons_succ, h1]
      rw [show n + 1 + i = n + (i + 1) by omega]

/-- The end's piece. -/
def endP : Piece := ⟨0, [32], [], 0⟩

theorem nest_head (l : List (Nat × Bool)) : ∃ p r, nestP l = p :: r ∧ p.bl = [32] := by
  cases l with
  | nil => exact ⟨_, _, rfl, rfl⟩
  | cons q l => exact ⟨_, _, rfl, rfl⟩

/-- The lexer divides the text into its pieces. -/
theorem nest_lx (l : List (Nat × Bool)) : ∃ toks, Lx (mk (nestT l)) 0 0 toks none ∧ Toks (nestP l ++ [endP]) toks := by
  obtain ⟨p, r, hp, hb⟩ := nest_head l
  have hsh := sh_nest l
  have hbk := (blk_nest l).good []
  unfold Sh at hsh
  rw [hp] at hsh hbk
  have hfl : flat (p :: r) = 32 :: (p.body ++ flat r) := by simp [flat, hb]
  rw [hfl, List.cons_append, List.cons.injEq] at hsh
  have hT : nestT l = flat (({ p with bl := [] } : Piece) :: r) ++ [32] := by rw [hsh.2]; simp [flat]
  have hg : GoodP [32] (({ p with bl := [] } : Piece) :: r) := by
    obtain ⟨⟨h1, h2⟩, h3⟩ := hbk
    exact ⟨⟨blanks_no, h2⟩, h3⟩
  have hd : (mk (nestT l)).data.toList = flat (({ p with bl := [] } : Piece) :: r) ++ [32] := by simp [mk, hT]
  have hsz : (mk (nestT l)).size = (flat (({ p with bl := [] } : Piece) :: r)).length + 1 := by rw [mk_size, hT]; simp
  generalize hS : mk (nestT l) = s at hd hsz
  generalize hQ : (({ p with bl := [] } : Piece) :: r) = ps at hd hsz hg
  have hu : Upto isBlank s (flat ps).length s.size := by
    have := upto_list (s := s) (a := (flat ps).length) (q := isBlank) (u := [32]) (rest := []) (by rw [hd]; simp) (by omega) (by decide) (by intro x r e; cases e)
    rw [hsz]; simpa using this
  have hf := Lx.fin (n := ps.length) hu rfl
  have hx := lx_pieces (s := s) (rest := [32]) (out := none) ps 0 0 (by omega) (by simpa using hd) hg (by simpa using hf)
  refine ⟨_, hx, ?_, ?_⟩
  · rw [List.length_append, ptoks_length, hp, ← hQ]; simp
  · intro i q hi
    have hlen : ps.length = r.length + 1 := by rw [← hQ]; simp
    by_cases hlt : i < r.length + 1
    · rw [List.getElem?_append_left (by rw [ptoks_length]; omega)]
      rw [List.getElem?_append_left (by rw [hp]; simpa using hlt), hp] at hi
      cases i with
      | zero =>
        simp only [List.getElem?_cons_zero, Option.some.injEq] at hi
        subst hi
        obtain ⟨c, hc⟩ := ptoks_of ps 0 0 0 { p with bl := [] } (by rw [← hQ]; rfl)
        refine ⟨_, hc, rfl, rfl, rfl, ?_⟩
        rw [hb]; rfl
      | succ i =>
        obtain ⟨c, hc⟩ := ptoks_of ps 0 0 (i + 1) q (by rw [← hQ]; exact hi)
        refine ⟨_, hc, rfl, rfl, rfl, ?_⟩
        simp
    · have hi' : i = r.length + 1 := by
        have := (List.getElem?_eq_some_iff.1 hi).1
        rw [hp] at this
        simp at this
        omega
      subst hi'
      rw [List.getElem?_append_right (by rw [ptoks_length]; omega), ptoks_length, hlen]
      rw [List.getElem?_append_right (by rw [hp]; simp), hp] at hi
      simp only [List.length_cons, Nat.sub_self, List.getElem?_cons_zero, Option.some.injEq] at hi
      subst hi
      refine ⟨_, by rw [Nat.sub_self]; rfl, rfl, ?_, rfl, ?_⟩
      · apply ByteArray.ext
        simp [mk, endP]
      · have : (flat ps).length < s.size := by omega
        simp [this, endP]
end Go.Proofs.YtmoddgkjaimpfaaGreatDoor

namespace Go.Proofs.YtmoddgkjaimpfaaGreatDoor
open Go.RowKit

theorem mk_inj {l m : List UInt8} (h : mk l = mk m) : l = m := by
  have := congrArg (fun b : ByteArray => b.data.toList) h
  simpa [mk] using this

theorem Toks.at {ps : List Piece} {toks : List Tok} (h : Toks ps toks) {pos : Nat} {y : List Piece} (hd : ps.drop pos = y) (j : Nat) {p : Piece} (hj : y[j]? = some p) : ∃ t, toks[pos + j]? = some t ∧ IsOf p t :=
  h.2 _ _ (by rw [← List.getElem?_drop, hd]; exact hj)

theorem IsOf.no {p : Piece} {t : Tok} (h : IsOf p t) {l : List UInt8} (hn : p.body ≠ l) : IsTok t (mk l) = false := tok_other h.2.1 fun e => hn (mk_inj e)
theorem IsOf.yes {p : Piece} {t : Tok} (h : IsOf p t) (hk : p.kind = 4) {l : List UInt8} (hn : p.body = l) : IsTok t (mk l) = true := by
  simp [IsTok, h.1, hk, h.2.1, hn]

/-- The next piece belongs to no event. -/
def NextOk (y : List Piece) : Prop := ∃ p r, y = p :: r ∧ p.bl = [32] ∧ p.kind ≠ 3 ∧ p.body ≠ [91] ∧ p.body ≠ [95]

theorem stops_of {ps : List Piece} {toks : List Tok} (h : Toks ps toks) {pos : Nat} {y : List Piece} (hd : ps.drop pos = y) (j : Nat) {r : List Piece} (hr : y.drop j = r) (hn : NextOk r) : ∃ t, toks[pos + j]? = some t ∧ Stops t := by
  obtain ⟨p, r', rfl, hb, hk, h1, h2⟩ := hn
  obtain ⟨t, ht, hi⟩ := h.at hd j (p := p) (by
    have := List.getElem?_drop (xs := y) (i := j) (j := 0)
    rw [hr] at this
    simpa using this.symm)
  exact ⟨t, ht, by rw [hi.2.2.2, hb]; rfl, by rw [hi.1]; exact hk, hi.no h1, hi.no h2⟩

theorem ev3 {ps : List Piece} {toks : List Tok} (h : Toks ps toks) {pos : Nat} {c : UInt8} {body : List UInt8} {v : Int} {r : List Piece} (hd : ps.drop pos = ⟨1, [32], [c, 52], 0⟩ :: ⟨4, [], [58], 0⟩ :: ⟨2, [], body, v⟩ :: r)
    (hc : c = 67 ∨ c = 68 ∨ c = 69) (hb : body = [56] ∨ body = [49, 54]) (hn : NextOk r) : EvAt toks pos 3 := by
  obtain ⟨t, ht, i0⟩ := h.at hd 0 rfl
  obtain ⟨t1, ht1, i1⟩ := h.at hd 1 rfl
  obtain ⟨t2, ht2, i2⟩ := h.at hd 2 rfl
  obtain ⟨t3, ht3, s3⟩ := stops_of h hd 3 rfl hn
  refine ⟨t, t1, t2, c, by simpa using ht, i0.1, i0.2.1, hc, ht1, i1.1, i1.2.1, ht2, i2.1, .inl ⟨rfl, ?_, t3, ht3, s3⟩⟩
  rcases hb with rfl | rfl
  · exact .inl i2.2.1
  · exact .inr i2.2.1

theorem ev4 {ps : List Piece} {toks : List Tok} (h : Toks ps toks) {pos : Nat} {r : List Piece} (hd : ps.drop pos = eP ++ r) (hn : NextOk r) : EvAt toks pos 4 := by
  obtain ⟨t, ht, i0⟩ := h.at hd 0 rfl
  obtain ⟨t1, ht1, i1⟩ := h.at hd 1 rfl
  obtain ⟨t2, ht2, i2⟩ := h.at hd 2 rfl
  obtain ⟨t3, ht3, i3⟩ := h.at hd 3 rfl
  obtain ⟨t4, ht4, s4⟩ := stops_of h hd 4 rfl hn
  exact ⟨t, t1, t2, 69, by simpa using ht, i0.1, i0.2.1, .inr (.inr rfl), ht1, i1.1, i1.2.1, ht2, i2.1, .inr ⟨rfl, i2.2.1, t3, t4, ht3, i3.2.2.2, i3.1, i3.2.1, ht4, s4⟩⟩

theorem Items.append {toks : List Tok} {n p a p1 a1 : Nat} {ts ts1 : List (Int × Int)} (h : Items toks n p a ts p1 a1 ts1) : ∀ {m p2 a2 : Nat} {ts2 : List (Int × Int)}, Items toks m p1 a1 ts1 p2 a2 ts2 → Items toks (n + m) p a ts p2 a2 ts2 := by
  induction h with
  | nil => intro m p2 a2 ts2 k; simpa using k
  | ev he hpos ha h ih =>
    intro m p2 a2 ts2 k
    rw [Nat.add_right_comm]
    exact .ev he hpos ha (ih k)
  | tup ht h ih =>
    intro m p2 a2 ts2 k
    rw [Nat.add_right_comm]
    exact .tup ht (ih k)

theorem drop_more' {ps x y : List Piece} {pos : Nat} (hd : ps.drop pos = x ++ y) : ps.drop (pos + x.length) = y := by
  rw [← List.drop_drop, hd]; simp
theorem drop_bound {ps x : List Piece} {pos : Nat} (hd : ps.drop pos = x) (hx : x ≠ []) : pos + x.length = ps.length := by
  have := congrArg List.length hd
  rw [List.length_drop] at this
  have : 0 < x.length := List.length_pos_iff.2 hx
  omega

theorem next_notes {k : Nat} {r : List Piece} (h : NextOk r) : NextOk (notesP k ++ r) := by
  cases k with
  | zero => exact h
  | succ k => exact ⟨_, _, rfl, rfl, by decide, by decide, by decide⟩
theorem next_nest (l : List (Nat × Bool)) (r : List Piece) : NextOk (nestP l ++ r) := by
  cases l with
  | nil => exact ⟨_, _, rfl, rfl, by decide, by decide, by decide⟩
  | cons q l => exact ⟨_, _, rfl, rfl, by decide, by decide, by decide⟩
theorem next_close (r : List Piece) : NextOk (clP ++ r) := ⟨_, _, rfl, rfl, by decide, by decide, by decide⟩

theorem notes_items {ps : List Piece} {toks : List Tok} (h : Toks ps toks) (hps : ps.length ≤ 1000) {r : List Piece} (hn : NextOk r) (ts : List (Int × Int)) : ∀ (c pos a : Nat), ps.drop pos = notesP c ++ r → a + c ≤ 10000 → Items toks c pos a ts (pos + 3 * c) (a + c) ts
  | 0, pos, a, _, _ => .nil pos a ts
  | c + 1, pos, a, hd, ha => by
    have hb := drop_bound hd (by simp [notesP, cP])
    have hd2 : ps.drop pos = cP ++ (notesP c ++ r) := by rw [hd, notesP, List.append_assoc]
    have h1 := ev3 h (c := 67) (body := [56]) (v := 8) (r := notesP c ++ r) hd2 (.inl rfl) (.inl rfl) (next_notes hn)
    have := notes_items h hps hn ts c (pos + 3) (a + 1) (drop_more' hd2) (by omega)
    have h2 := Items.ev h1 (by omega) (by omega) this
    rw [show pos + 3 + 3 * c = pos + 3 * (c + 1) by omega, show a + 1 + c = a + (c + 1) by omega] at h2
    exact h2

theorem close_stop {t : Tok} (h : IsOf ⟨4, [32], [41], 0⟩ t) : VStop t :=
  ⟨by rw [h.1]; decide, h.no (l := [40]) (by decide), h.no (l := [64]) (by decide), h.no (l := [103, 114, 97, 99, 101]) (by decide), h.no (l := [60]) (by decide), h.no (l := [114]) (by decide), h.no (l := [82]) (by decide), h.no (l := [115]) (by decide)⟩
theorem end_stop {t : Tok} (h : t.kind = 0) : VStop t := by
  have hn : ∀ y, IsTok t y = false := fun y => by simp [IsTok, h]
  exact ⟨by rw [h]; decide, hn _, hn _, hn _, hn _, hn _, hn _, hn _⟩

theorem nest_items {ps : List Piece} {toks : List Tok} (h : Toks ps toks) (hps : ps.length ≤ 1000) : ∀ (l : List (Nat × Bool)) (pos a : Nat) (ts : List (Int × Int)) (r : List Piece), ps.drop pos = nestP l ++ r → NextOk r → a + cnt l ≤ 10000 → ts.length + l.length ≤ 10000 →
    ∃ n, 1 ≤ n ∧ n ≤ (nestP l).length ∧ Items toks n pos a ts (pos + (nestP l).length) (a + cnt l) (ts ++ tups a l)
  | [], pos, a, ts, r, hd, hn, ha, _ => by
    have hb := drop_bound hd (by simp [nestP, dP])
    refine ⟨1, Nat.le_refl _, by decide, ?_⟩
    have h1 := ev3 h (c := 68) (body := [49, 54]) (v := 16) (r := r) hd (.inr (.inl rfl)) (.inr rfl) hn
    have := Items.ev (ts := ts) (a := a) h1 (by omega) (by simp [cnt] at ha; omega) (.nil _ _ _)
    simpa [tups, cnt, nestP, dP] using this
  | (c, b) :: l, pos, a, ts, r, hd, hn, ha, hl => by
    have hb := drop_bound hd (by simp [nestP, opnP])
    have hd1 : ps.drop pos = opnP ++ (notesP c ++ (nestP l ++ (clP ++ (ePif b ++ r)))) := by rw [hd, nestP]; simp
    have hd2 := drop_more' hd1
    have hd3 := drop_more' hd2
    have hd4 := drop_more' hd3
    have hd5 := drop_more' hd4
    have hlen : (nestP ((c, b) :: l)).length = 4 + (3 * c + ((nestP l).length + (1 + (ePif b).length))) := by
      simp only [nestP, List.length_append, notesP_len]
      rfl
    have eo : opnP.length = 4 := rfl
    have ec : clP.length = 1 := rfl
    rw [eo] at hd2 hd3 hd4 hd5
    rw [notesP_len] at hd3 hd4 hd5
    rw [ec] at hd5
    rw [List.length_append, hlen] at hb
    have hcnt : cnt ((c, b) :: l) = c + cnt l + (if b then 1 else 0) := rfl
    have hif : (if b then 1 else 0) ≤ 1 := by cases b <;> simp
    rw [hcnt] at ha
    simp only [List.length_cons] at hl
    have i1 := notes_items h hps (next_nest l (clP ++ (ePif b ++ r))) (ts ++ [((a : Int), 0)]) c (pos + 4) a hd2 (by omega)
    obtain ⟨n2, g1, g2, i2⟩ := nest_items h hps l (pos + 4 + 3 * c) (a + c) (ts ++ [((a : Int), 0)]) (clP ++ (ePif b ++ r)) hd3 (next_close _) (by omega) (by simp; omega)
    have i12 := i1.append i2
    rw [List.append_assoc] at i12
    obtain ⟨t0, ht0, o0⟩ := h.at hd1 0 (p := ⟨4, [32], [40], 0⟩) rfl
    obtain ⟨t1, ht1, o1⟩ := h.at hd1 1 (p := ⟨2, [], [51], 3⟩) rfl
    obtain ⟨t2, ht2, o2⟩ := h.at hd1 2 (p := ⟨4, [], [58], 0⟩) rfl
    obtain ⟨t3, ht3, o3⟩ := h.at hd1 3 (p := ⟨2, [], [50], 2⟩) rfl
    obtain ⟨tc, htc, oc⟩ := h.at hd4 0 (p := ⟨4, [32], [41], 0⟩) rfl
    have ht := tuplet_walk (n := c + n2) (by omega) (by omega) (by omega) (by omega) (by omega) (by omega) (by omega) ht0 (o0.yes rfl rfl) ht1 o1.1 o1.2.2.1 ht2 (o2.yes rfl rfl) ht3 o3.1 o3.2.2.1 i12 htc (oc.yes rfl rfl) (close_stop oc)
    have e1 : ((a + c + cnt l : Nat) : Int) - (a : Int) = ((c + cnt l : Nat) : Int) := by omega
    rw [e1] at ht
    have hts : ts ++ tups a ((c, b) :: l) = ts ++ ((a : Int), ((c + cnt l : Nat) : Int)) :: tups (a + c) l := rfl
    rw [hts, hcnt, hlen]
    cases b with
    | false =>
      refine ⟨1, Nat.le_refl _, by omega, ?_⟩
      have := Items.tup ht (.nil _ _ _)
      have e : pos + (4 + (3 * c + ((nestP l).length + (1 + (ePif false).length)))) = pos + 4 + 3 * c + (nestP l).length + 1 := by simp [ePif]; omega
      rw [e]
      simpa [Nat.add_assoc] using this
    | true =>
      refine ⟨2, by omega, by omega, ?_⟩
      have h4 := ev4 h (r := r) hd5 hn
      have := Items.tup ht (Items.ev h4 (by omega) (by omega) (.nil _ _ _))
      have e : pos + (4 + (3 * c + ((nestP l).length + (1 + (ePif true).length)))) = pos + 4 + 3 * c + (nestP l).length + 1 + 4 := by simp [ePif, eP]; omega
      rw [e]
      simpa [Nat.add_assoc] using this
end Go.Proofs.YtmoddgkjaimpfaaGreatDoor
