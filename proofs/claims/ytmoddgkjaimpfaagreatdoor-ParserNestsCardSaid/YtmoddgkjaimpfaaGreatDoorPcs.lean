/-
  A part of the proof that the law ParserNests (chapter 19) returns true for every depth and every list of notes: walks of the program's functions, and runs of them in the kernel by the own evaluator.
-/
import Derived.Test.YtmoddgkjaimpfaaGreatDoorLxi
import Derived.Lib.ItoaNum
namespace Go.Proofs.YtmoddgkjaimpfaaGreatDoor
open Go.RowKit

structure Piece where
  kind : Int
  bl : List UInt8
  body : List UInt8
  value : Int

def flat (ps : List Piece) : List UInt8 := ps.flatMap fun p => p.bl ++ p.body
def ptoks (a n : Nat) : List Piece → List Tok
  | [] => []
  | p :: ps => ⟨p.kind, ⟨p.body.toArray⟩, p.value, ByteArray.empty, ((a + p.bl.length : Nat) : Int) + 1, !decide (a < a + p.bl.length) && decide (0 < n)⟩ :: ptoks (a + p.bl.length + p.body.length) (n + 1) ps

def Ends (q : Nat → Bool) (rest : List UInt8) : Prop := ∀ x r, rest = x :: r → q x.toNat = false

def Piece.Ok (p : Piece) (rest : List UInt8) : Prop :=
  (∀ x ∈ p.bl, isBlank x.toNat = true) ∧
  ((p.kind = 1 ∧ p.value = 0 ∧ (∃ c t, p.body = c :: t ∧ isLetter c.toNat = true) ∧ (∀ x ∈ p.body, isInWord x.toNat = true) ∧ p.body.length ≤ 64 ∧ Ends isInWord rest) ∨
   (p.kind = 2 ∧ Lib.atoi p.body = some p.value ∧ p.body ≠ [] ∧ (∀ x ∈ p.body, isDigit x.toNat = true) ∧ p.body.length ≤ 15 ∧ Ends isDigit rest) ∨
   (p.kind = 3 ∧ p.value = 0 ∧ p.body = [34, 34]) ∨
   (p.kind = 4 ∧ p.value = 0 ∧ ∃ c, p.body = [c] ∧ isLetter c.toNat = false ∧ isDigit c.toNat = false ∧ c.toNat ≠ 34 ∧ 0 ≤ Lib.indexByte symbols c ∧ isBlank c.toNat = false))

def GoodP (rest : List UInt8) : List Piece → Prop
  | [] => True
  | p :: ps => p.Ok (flat ps ++ rest) ∧ GoodP rest ps

theorem drop_get {l u rest : List UInt8} {a : Nat} (h : l.drop a = u ++ rest) (i : Nat) (hi : i < u.length) : l[a + i]? = some u[i] := by
  rw [← List.getElem?_drop, h, List.getElem?_append_left hi, List.getElem?_eq_getElem hi]
theorem drop_more {l u rest : List UInt8} {a : Nat} (h : l.drop a = u ++ rest) : l.drop (a + u.length) = rest := by
  rw [← List.drop_drop, h]; simp

section
variable {s : ByteArray} {a n : Nat} {q : Nat → Bool} {u rest : List UInt8}

theorem size_list (s : ByteArray) : s.data.toList.length = s.size := by rw [Array.length_toList]; rfl
theorem at_list (k : Nat) (h : k < s.size) : s.data.toList[k]? = some s[k] := by
  have hk : k < s.data.toList.length := by rw [size_list]; exact h
  rw [List.getElem?_eq_getElem hk]
  rfl
theorem drop_len (h : s.data.toList.drop a = u ++ rest) (ha : a ≤ s.size) : a + u.length + rest.length = s.size := by
  have := congrArg List.length h
  rw [List.length_drop, size_list, List.length_append] at this
  omega

theorem upto_list (h : s.data.toList.drop a = u ++ rest) (ha : a ≤ s.size) (hall : ∀ x ∈ u, q x.toNat = true) (hst : Ends q rest) : Upto q s a (a + u.length) := by
  have hl := drop_len h ha
  refine ⟨by omega, by omega, fun k hk h1 h2 => ?_, fun hk => ?_⟩
  · have hg := drop_get h (k - a) (by omega)
    rw [show a + (k - a) = k by omega, at_list k hk] at hg
    rw [Option.some.inj hg]
    exact hall _ (List.getElem_mem _)
  · have hr := drop_more h
    cases rest with
    | nil => simp at hl; omega
    | cons x r =>
      have hg := drop_get (u := [x]) (rest := r) (by simpa using hr) 0 (by simp)
      rw [Nat.add_zero, at_list _ hk] at hg
      rw [Option.some.inj hg]
      exact hst x r rfl

theorem head_list {x : UInt8} (h : s.data.toList.drop a = x :: rest) : ∃ hk : a < s.size, s[a] = x := by
  have hk : a < s.size := by
    have := congrArg List.length h
    rw [List.length_drop, size_list, List.length_cons] at this
    omega
  have hg := drop_get (u := [x]) (rest := rest) (by simpa using h) 0 (by simp)
  rw [Nat.add_zero, at_list _ hk] at hg
  exact ⟨hk, Option.some.inj hg⟩

theorem extract_list (h : s.data.toList.drop a = u ++ rest) : s.extract a (a + u.length) = ⟨u.toArray⟩ := by
  apply ByteArray.ext
  apply Array.ext'
  rw [ByteArray.data_extract, Array.toList_extract, List.extract_eq_take_drop, h]
  simp

end

theorem blank_letter {c : UInt8} (h : isLetter c.toNat = true) : isBlank c.toNat = false := by
  simp only [isLetter, isBlank, Bool.or_eq_true, Bool.and_eq_true, decide_eq_true_eq, Bool.or_eq_false_iff, decide_eq_false_iff_not] at *
  omega
theorem blank_digit {c : UInt8} (h : isDigit c.toNat = true) : isBlank c.toNat = false := by
  simp only [isDigit, isBlank, Bool.and_eq_true, decide_eq_true_eq, Bool.or_eq_false_iff, decide_eq_false_iff_not] at *
  omega

theorem Piece.Ok.first {p : Piece} {rest : List UInt8} (h : p.Ok rest) : Ends isBlank (p.body ++ rest) := by
  rcases h.2 with ⟨_, _, ⟨c, t, e, hl⟩, _⟩ | ⟨_, _, hne, hd, _⟩ | ⟨_, _, e⟩ | ⟨_, _, c, e, _, _, _, _, hb⟩
  · intro x r he
    rw [e] at he; injection he with he; subst he; exact blank_letter hl
  · intro x r he
    cases hb : p.body with
    | nil => exact absurd hb hne
    | cons y t =>
      rw [hb] at he; injection he with he; subst he
      exact blank_digit (hd y (by rw [hb]; simp))
  · intro x r he
    rw [e] at he; injection he with he; subst he; decide
  · intro x r he
    rw [e] at he; injection he with he; subst he; exact hb

theorem lx_pieces {s : ByteArray} {rest : List UInt8} {toks : List Tok} {out : Option Nat} : ∀ (ps : List Piece) (a n : Nat), a ≤ s.size → s.data.toList.drop a = flat ps ++ rest → GoodP rest ps →
    Lx s (a + (flat ps).length) (n + ps.length) toks out → Lx s a n (ptoks a n ps ++ toks) out
  | [], a, n, _, _, _, h => by simpa [ptoks, flat] using h
  | p :: ps, a, n, ha, hd, hg, h => by
    obtain ⟨hp, hgs⟩ := hg
    have hd0 : s.data.toList.drop a = p.bl ++ (p.body ++ (flat ps ++ rest)) := by rw [hd]; simp [flat]
    have hl := drop_len hd0 ha
    have hu : Upto isBlank s a (a + p.bl.length) := upto_list hd0 ha hp.1 hp.first
    have hd1 := drop_more hd0
    have hd2 := drop_more hd1
    have ha1 : a + p.bl.length + p.body.length ≤ s.size := by
      have := drop_len hd1 (by omega); omega
    have h' := lx_pieces ps (a + p.bl.length + p.body.length) (n + 1) ha1 hd2 hgs (by
      have e1 : a + p.bl.length + p.body.length + (flat ps).length = a + (flat (p :: ps)).length := by simp [flat]; omega
      have e2 : n + 1 + ps.length = n + (p :: ps).length := by simp; omega
      rw [e1, e2]; exact h)
    have hx := extract_list hd1
    rcases hp.2 with ⟨hk, hv, ⟨c, t, e, hc⟩, hw, hlen, hst⟩ | ⟨hk, hv, hne, hdg, hlen, hst⟩ | ⟨hk, hv, e⟩ | ⟨hk, hv, c, e, n1, n2, n3, n4, _⟩
    · obtain ⟨hb, hbe⟩ := head_list (x := c) (rest := t ++ (flat ps ++ rest)) (by rw [hd1, e]; rfl)
      have := Lx.word (n := n) hu hb (by rw [hbe]; exact hc) (upto_list hd1 (by omega) hw hst) (by omega) h'
      rw [hx] at this
      simpa [ptoks, hk, hv] using this
    · obtain ⟨c, t, e⟩ : ∃ c t, p.body = c :: t := by
        cases hb : p.body with
        | nil => exact absurd hb hne
        | cons c t => exact ⟨c, t, rfl⟩
      obtain ⟨hb, hbe⟩ := head_list (x := c) (rest := t ++ (flat ps ++ rest)) (by rw [hd1, e]; rfl)
      have := Lx.number (n := n) p.value hu hb (by rw [hbe]; exact hdg c (by rw [e]; simp)) (upto_list hd1 (by omega) hdg hst) (by omega) (by rw [hx]; exact hv) h'
      rw [hx] at this
      simpa [ptoks, hk] using this
    · have he2 : p.body.length = 2 := by rw [e]; rfl
      obtain ⟨hb, hbe⟩ := head_list (x := 34) (rest := 34 :: (flat ps ++ rest)) (by rw [hd1, e]; rfl)
      obtain ⟨hb1, hbe1⟩ := head_list (s := s) (a := a + p.bl.length + 1) (x := 34) (rest := flat ps ++ rest) (by
        rw [← List.drop_drop, hd1, e]; rfl)
      rw [he2] at h' hx
      have := Lx.str (n := n) hu hb1 (by rw [hbe]; rfl) (by rw [hbe1]; rfl) h'
      rw [hx] at this
      simpa [ptoks, hk, hv, he2] using this
    · have he1 : p.body.length = 1 := by rw [e]; rfl
      obtain ⟨hb, hbe⟩ := head_list (x := c) (rest := flat ps ++ rest) (by rw [hd1, e]; rfl)
      rw [he1] at h' hx
      have := Lx.sym (n := n) hu hb (by rw [hbe]; exact n1) (by rw [hbe]; exact n2) (by rw [hbe]; exact n3) (by rw [hbe]; simpa using n4) h'
      rw [hx] at this
      simpa [ptoks, hk, hv, he1] using this

theorem ptoks_length (ps : List Piece) : ∀ (a n : Nat), (ptoks a n ps).length = ps.length := by
  induction ps with
  | nil => intro a n; rfl
  | cons p ps ih => intro a n; simp [ptoks, ih]

/-- The token at place i. -/
theorem ptoks_get (ps : List Piece) : ∀ (a n i : Nat) (p : Piece), ps[i]? = some p → ∃ j, (ptoks a n ps)[i]? = some ⟨p.kind, ⟨p.body.toArray⟩, p.value, ByteArray.empty, ((a + (flat (ps.take i)).length + p.bl.length : Nat) : Int) + 1, j⟩ := by
  induction ps with
  | nil => intro a n i p h; simp at h
  | cons p0 ps ih =>
    intro a n i p h
    cases i with
    | zero =>
      simp only [List.getElem?_cons_zero, Option.some.injEq] at h
      subst h
      exact ⟨!decide (a < a + p0.bl.length) && decide (0 < n), by simp [ptoks, flat]⟩
    | succ i =>
      simp only [List.getElem?_cons_succ] at h
      obtain ⟨j, h1⟩ := ih (a + p0.bl.length + p0.body.length) (n + 1) i p h
      refine ⟨j, ?_⟩
      simp only [ptoks, List.getElem?_cons_succ, h1, List.take_succ_cons]
      simp [flat]; omega

/-- A whole text. -/
theorem lx_whole {s : ByteArray} (ps : List Piece) (hs : s.data.toList = flat ps) (hg : GoodP [] ps) : Lx s 0 0 (ptoks 0 0 ps ++ [⟨0, ByteArray.empty, 0, ByteArray.empty, (s.size : Int) + 1, false || !decide (s.size < s.size) && decide (0 < ps.length)⟩]) none := by
  have hsz : (flat ps).length = s.size := by rw [← hs, size_list]
  refine lx_pieces (rest := []) ps 0 0 (by omega) (by simp [hs]) hg ?_
  have hu : Upto isBlank s s.size s.size := ⟨by omega, by omega, fun k _ h1 h2 => by omega, fun h => by omega⟩
  have := Lx.fin (n := ps.length) hu rfl
  have he : s.extract s.size s.size = ByteArray.empty := by
    apply ByteArray.ext
    simp
  rw [he] at this
  simpa [hsz] using this

/-- A text that breaks off at a long numeral. -/
theorem lx_broken {s : ByteArray} (ps : List Piece) (num rest : List UInt8) (hs : s.data.toList = flat ps ++ (num ++ rest)) (hg : GoodP (num ++ rest) ps) (hd : ∀ x ∈ num, isDigit x.toNat = true) (hl : 15 < num.length) (hst : Ends isDigit rest) :
    Lx s 0 0 (ptoks 0 0 ps) (some (flat ps).length) := by
  have hsz : (flat ps).length + num.length + rest.length = s.size := by rw [← size_list, hs]; simp; omega
  have hd1 : s.data.toList.drop (flat ps).length = num ++ rest := by rw [hs]; simp
  have := lx_pieces (toks := []) (out := some (flat ps).length) (rest := num ++ rest) ps 0 0 (by omega) (by simpa using hs) hg (by
    have hu : Upto isBlank s (flat ps).length (flat ps).length := by
      have := upto_list (u := []) (rest := num ++ rest) (q := isBlank) (s := s) (a := (flat ps).length) (by simpa using hd1) (by omega) (by simp) (by
        intro x r he
        cases num with
        | nil => simp at hl
        | cons y t => injection he with he; subst he; exact blank_digit (hd y (by simp)))
      simpa using this
    obtain ⟨c, t, e⟩ : ∃ c t, num = c :: t := by
      cases num with
      | nil => simp at hl
      | cons c t => exact ⟨c, t, rfl⟩
    obtain ⟨hb, hbe⟩ := head_list (x := c) (rest := t ++ rest) (by rw [hd1, e]; rfl)
    have := Lx.long (n := ps.length) hu hb (by rw [hbe]; exact hd c (by rw [e]; simp)) (upto_list hd1 (by omega) hd hst) (by omega)
    simpa using this)
  simpa using this
end Go.Proofs.YtmoddgkjaimpfaaGreatDoor
