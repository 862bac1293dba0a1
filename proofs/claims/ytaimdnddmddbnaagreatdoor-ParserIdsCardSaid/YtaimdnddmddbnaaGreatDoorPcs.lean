/-
  A part of the proof that the law ParserIds (chapter 19) returns true for every site, number and count: walks of the program's functions, and runs of them in the kernel by the own evaluator.
-/
import Derived.Test.YtaimdnddmddbnaaGreatDoorLxi
import Derived.Lib.ItoaNum
import Derived.Test.YtaimdnddmddbnaaGreatDoorRea
import Derived.Test.YtaimdnddmddbnaaGreatDoorPrl
namespace Go.Proofs.YtaimdnddmddbnaaGreatDoor
open Go.RowKit

structure Piece where
  kind : Int
  bl : List UInt8
  body : List UInt8
  value : Int

def flat (ps : List Piece) : List UInt8 := ps.flatMap fun p => p.bl ++ p.body
def ptoks (a n : Nat) : List Piece → List Tok
  | [] => []
  | p :: ps => ⟨p.kind, ⟨p.body.toArray⟩, p.value, ByteArray.empty, ((a + p.bl.length : Nat) : Int) + 1, !decide (a < a + p.bl.length) && decide (0 < n)⟩ :: ptoks (a + p.bl.length + p.body.length) (n + 1) ps

def Ends (q : Nat → Bool) (rest : List UInt8) : Prop := ∀ x r, rest = x :: r → q x.toNat = false

def Piece.Ok (p : Piece) (rest : List UInt8) : Prop :=
  (∀ x ∈ p.bl, isBlank x.toNat = true) ∧
  ((p.kind = 1 ∧ p.value = 0 ∧ (∃ c t, p.body = c :: t ∧ isLetter c.toNat = true) ∧ (∀ x ∈ p.body, isInWord x.toNat = true) ∧ p.body.length ≤ 64 ∧ Ends isInWord rest) ∨
   (p.kind = 2 ∧ Lib.atoi p.body = some p.value ∧ p.body ≠ [] ∧ (∀ x ∈ p.body, isDigit x.toNat = true) ∧ p.body.length ≤ 15 ∧ Ends isDigit rest) ∨
   (p.kind = 3 ∧ p.value = 0 ∧ p.body = [34, 34]) ∨
   (p.kind = 4 ∧ p.value = 0 ∧ ∃ c, p.body = [c] ∧ isLetter c.toNat = false ∧ isDigit c.toNat = false ∧ c.toNat ≠ 34 ∧ 0 ≤ Lib.indexByte symbols c ∧ isBlank c.toNat = false))

def GoodP (rest : List UInt8) : List Piece → Prop
  | [] => True
  | p :: ps => p.Ok (flat ps ++ rest) ∧ GoodP rest ps

theorem drop_get {l u rest : List UInt8} {a : Nat} (h : l.drop a = u ++ rest) (i : Nat) (hi : i < u.length) : l[a + i]? = some u[i] := by
  rw [← List.getElem?_drop, h, List.getElem?_append_left hi, List.getElem?_eq_getElem hi]
theorem drop_more {l u rest : List UInt8} {a : Nat} (h : l.drop a = u ++ rest) : l.drop (a + u.length) = rest := by
  rw [← List.drop_drop, h]; simp

section
variable {s : ByteArray} {a n : Nat} {q : Nat → Bool} {u rest : List UInt8}

theorem size_list (s : ByteArray) : s.data.toList.length = s.size := by rw [Array.length_toList]; rfl
theorem at_list (k : Nat) (h : k < s.size) : s.data.toList[k]? = some s[k] := by
  have hk : k < s.data.toList.length := by rw [size_list]; exact h
  rw [List.getElem?_eq_getElem hk]
  rfl
theorem drop_len (h : s.data.toList.drop a = u ++ rest) (ha : a ≤ s.size) : a + u.length + rest.length = s.size := by
  have := congrArg List.length h
  rw [List.length_drop, size_list, List.length_append] at this
  omega

theorem upto_list (h : s.data.toList.drop a = u ++ rest) (ha : a ≤ s.size) (hall : ∀ x ∈ u, q x.toNat = true) (hst : Ends q rest) : Upto q s a (a + u.length) := by
  have hl := drop_len h ha
  refine ⟨by omega, by omega, fun k hk h1 h2 => ?_, fun hk => ?_⟩
  · have hg := drop_get h (k - a) (by omega)
    rw [show a + (k - a) = k by omega, at_list k hk] at hg
    rw [Option.some.inj hg]
    exact hall _ (List.getElem_mem _)
  · have hr := drop_more h
    cases rest with
    | nil => simp at hl; omega
    | cons x r =>
      have hg := drop_get (u := [x]) (rest := r) (by simpa using hr) 0 (by simp)
      rw [Nat.add_zero, at_list _ hk] at hg
      rw [Option.some.inj hg]
      exact hst x r rfl

theorem head_list {x : UInt8} (h : s.data.toList.drop a = x :: rest) : ∃ hk : a < s.size, s[a] = x := by
  have hk : a < s.size := by
    have := congrArg List.length h
    rw [List.length_drop, size_list, List.length_cons] at this
    omega
  have hg := drop_get (u := [x]) (rest := rest) (by simpa using h) 0 (by simp)
  rw [Nat.add_zero, at_list _ hk] at hg
  exact ⟨hk, Option.some.inj hg⟩

theorem extract_list (h : s.data.toList.drop a = u ++ rest) : s.extract a (a + u.length) = ⟨u.toArray⟩ := by
  apply ByteArray.ext
  apply Array.ext'
  rw [ByteArray.data_extract, Array.toList_extract, List.extract_eq_take_drop, h]
  simp

end

theorem blank_letter {c : UInt8} (h : isLetter c.toNat = true) : isBlank c.toNat = false := by
  simp only [isLetter, isBlank, Bool.or_eq_true, Bool.and_eq_true, decide_eq_true_eq, Bool.or_eq_false_iff, decide_eq_false_iff_not] at *
  omega
theorem blank_digit {c : UInt8} (h : isDigit c.toNat = true) : isBlank c.toNat = false := by
  simp only [isDigit, isBlank, Bool.and_eq_true, decide_eq_true_eq, Bool.or_eq_false_iff, decide_eq_false_iff_not] at *
  omega

theorem Piece.Ok.first {p : Piece} {rest : List UInt8} (h : p.Ok rest) : Ends isBlank (p.body ++ rest) := by
  rcases h.2 with ⟨_, _, ⟨c, t, e, hl⟩, _⟩ | ⟨_, _, hne, hd, _⟩ | ⟨_, _, e⟩ | ⟨_, _, c, e, _, _, _, _, hb⟩
  · intro x r he
    rw [e] at he; injection he with he; subst he; exact blank_letter hl
  · intro x r he
    cases hb : p.body with
    | nil => exact absurd hb hne
    | cons y t =>
      rw [hb] at he; injection he with he; subst he
      exact blank_digit (hd y (by rw [hb]; simp))
  · intro x r he
    rw [e] at he; injection he with he; subst he; decide
  · intro x r he
    rw [e] at he; injection he with he; subst he; exact hb

theorem lx_pieces {s : ByteArray} {rest : List UInt8} {toks : List Tok} {out : Option Nat} : ∀ (ps : List Piece) (a n : Nat), a ≤ s.size → s.data.toList.drop a = flat ps ++ rest → GoodP rest ps →
    Lx s (a + (flat ps).length) (n + ps.length) toks out → Lx s a n (ptoks a n ps ++ toks) out
  | [], a, n, _, _, _, h => by simpa [ptoks, flat] using h
  | p :: ps, a, n, ha, hd, hg, h => by
    obtain ⟨hp, hgs⟩ := hg
    have hd0 : s.data.toList.drop a = p.bl ++ (p.body ++ (flat ps ++ rest)) := by rw [hd]; simp [flat]
    have hl := drop_len hd0 ha
    have hu : Upto isBlank s a (a + p.bl.length) := upto_list hd0 ha hp.1 hp.first
    have hd1 := drop_more hd0
    have hd2 := drop_more hd1
    have ha1 : a + p.bl.length + p.body.length ≤ s.size := by
      have := drop_len hd1 (by omega); omega
    have h' := lx_pieces ps (a + p.bl.length + p.body.length) (n + 1) ha1 hd2 hgs (by
      have e1 : a + p.bl.length + p.body.length + (flat ps).length = a + (flat (p :: ps)).length := by simp [flat]; omega
      have e2 : n + 1 + ps.length = n + (p :: ps).length := by simp; omega
      rw [e1, e2]; exact h)
    have hx := extract_list hd1
    rcases hp.2 with ⟨hk, hv, ⟨c, t, e, hc⟩, hw, hlen, hst⟩ | ⟨hk, hv, hne, hdg, hlen, hst⟩ | ⟨hk, hv, e⟩ | ⟨hk, hv, c, e, n1, n2, n3, n4, _⟩
    · obtain ⟨hb, hbe⟩ := head_list (x := c) (rest := t ++ (flat ps ++ rest)) (by rw [hd1, e]; rfl)
      have := Lx.word (n := n) hu hb (by rw [hbe]; exact hc) (upto_list hd1 (by omega) hw hst) (by omega) h'
      rw [hx] at this
      simpa [ptoks, hk, hv] using this
    · obtain ⟨c, t, e⟩ : ∃ c t, p.body = c :: t := by
        cases hb : p.body with
        | nil => exact absurd hb hne
        | cons c t => exact ⟨c, t, rfl⟩
      obtain ⟨hb, hbe⟩ := head_list (x := c) (rest := t ++ (flat ps ++ rest)) (by rw [hd1, e]; rfl)
      have := Lx.number (n := n) p.value hu hb (by rw [hbe]; exact hdg c (by rw [e]; simp)) (upto_list hd1 (by omega) hdg hst) (by omega) (by rw [hx]; exact hv) h'
      rw [hx] at this
      simpa [ptoks, hk] using this
    · have he2 : p.body.length = 2 := by rw [e]; rfl
      obtain ⟨hb, hbe⟩ := head_list (x := 34) (rest := 34 :: (flat ps ++ rest)) (by rw [hd1, e]; rfl)
      obtain ⟨hb1, hbe1⟩ := head_list (s := s) (a := a + p.bl.length + 1) (x := 34) (rest := flat ps ++ rest) (by
        rw [← List.drop_drop, hd1, e]; rfl)
      rw [he2] at h' hx
      have := Lx.str (n := n) hu hb1 (by rw [hbe]; rfl) (by rw [hbe1]; rfl) h'
      rw [hx] at this
      simpa [ptoks, hk, hv, he2] using this
    · have he1 : p.body.length = 1 := by rw [e]; rfl
      obtain ⟨hb, hbe⟩ := head_list (x := c) (rest := flat ps ++ rest) (by rw [hd1, e]; rfl)
      rw [he1] at h' hx
      have := Lx.sym (n := n) hu hb (by rw [hbe]; exact n1) (by rw [hbe]; exact n2) (by rw [hbe]; exact n3) (by rw [hbe]; simpa using n4) h'
      rw [hx] at this
      simpa [ptoks, hk, hv, he1] using this

theorem ptoks_length (ps : List Piece) : ∀ (a n : Nat), (ptoks a n ps).length = ps.length := by
  induction ps with
  | nil => intro a n; rfl
  | cons p ps ih => intro a n; simp [ptoks, ih]

/-- The token at place i. -/
theorem ptoks_get (ps : List Piece) : ∀ (a n i : Nat) (p : Piece), ps[i]? = some p → ∃ j, (ptoks a n ps)[i]? = some ⟨p.kind, ⟨p.body.toArray⟩, p.value, ByteArray.empty, ((a + (flat (ps.take i)).length + p.bl.length : Nat) : Int) + 1, j⟩ := by
  induction ps with
  | nil => intro a n i p h; simp at h
  | cons p0 ps ih =>
    intro a n i p h
    cases i with
    | zero =>
      simp only [List.getElem?_cons_zero, Option.some.injEq] at h
      subst h
      exact ⟨!decide (a < a + p0.bl.length) && decide (0 < n), by simp [ptoks, flat]⟩
    | succ i =>
      simp only [List.getElem?_cons_succ] at h
      obtain ⟨j, h1⟩ := ih (a + p0.bl.length + p0.body.length) (n + 1) i p h
      refine ⟨j, ?_⟩
      simp only [ptoks, List.getElem?_cons_succ, h1, List.take_succ_cons]
      simp [flat]; omega

/-- A whole text. -/
theorem lx_whole {s : ByteArray} (ps : List Piece) (hs : s.data.toList = flat ps) (hg : GoodP [] ps) : Lx s 0 0 (ptoks 0 0 ps ++ [⟨0, ByteArray.empty, 0, ByteArray.empty, (s.size : Int) + 1, false || !decide (s.size < s.size) && decide (0 < ps.length)⟩]) none := by
  have hsz : (flat ps).length = s.size := by rw [← hs, size_list]
  refine lx_pieces (rest := []) ps 0 0 (by omega) (by simp [hs]) hg ?_
  have hu : Upto isBlank s s.size s.size := ⟨by omega, by omega, fun k _ h1 h2 => by omega, fun h => by omega⟩
  have := Lx.fin (n := ps.length) hu rfl
  have he : s.extract s.size s.size = ByteArray.empty := by
    apply ByteArray.ext
    simp
  rw [he] at this
  simpa [hsz] using this

/-- A text that breaks off at a long numeral. -/
theorem lx_broken {s : ByteArray} (ps : List Piece) (num rest : List UInt8) (hs : s.data.toList = flat ps ++ (num ++ rest)) (hg : GoodP (num ++ rest) ps) (hd : ∀ x ∈ num, isDigit x.toNat = true) (hl : 15 < num.length) (hst : Ends isDigit rest) :
    Lx s 0 0 (ptoks 0 0 ps) (some (flat ps).length) := by
  have hsz : (flat ps).length + num.length + rest.length = s.size := by rw [← size_list, hs]; simp; omega
  have hd1 : s.data.toList.drop (flat ps).length = num ++ rest := by rw [hs]; simp
  have := lx_pieces (toks := []) (out := some (flat ps).length) (rest := num ++ rest) ps 0 0 (by omega) (by simpa using hs) hg (by
    have hu : Upto isBlank s (flat ps).length (flat ps).length := by
      have := upto_list (u := []) (rest := num ++ rest) (q := isBlank) (s := s) (a := (flat ps).length) (by simpa using hd1) (by omega) (by simp) (by
        intro x r he
        cases num with
        | nil => simp at hl
        | cons y t => injection he with he; subst he; exact blank_digit (hd y (by simp)))
      simpa using this
    obtain ⟨c, t, e⟩ : ∃ c t, num = c :: t := by
      cases num with
      | nil => simp at hl
      | cons c t => exact ⟨c, t, rfl⟩
    obtain ⟨hb, hbe⟩ := head_list (x := c) (rest := t ++ rest) (by rw [hd1, e]; rfl)
    have := Lx.long (n := ps.length) hu hb (by rw [hbe]; exact hd c (by rw [e]; simp)) (upto_list hd1 (by omega) hd hst) (by omega)
    simpa using this)
  simpa using this
end Go.Proofs.YtaimdnddmddbnaaGreatDoor

namespace Go.Proofs.YtaimdnddmddbnaaGreatDoor
open Go.RowKit
open Go.Lib (decDigits)

theorem dec_digit (u : Nat) : ∀ x ∈ decDigits u, isDigit x.toNat = true := by
  induction u using Nat.strongRecOn with
  | _ u ih =>
    intro x hx
    rw [decDigits] at hx
    by_cases h : u < 10
    · rw [dif_pos h, List.mem_singleton] at hx
      subst hx
      have : (UInt8.ofNat (48 + u)).toNat = 48 + u := by rw [UInt8.toNat_ofNat']; omega
      rw [this]; simp only [isDigit, Bool.and_eq_true, decide_eq_true_eq]; omega
    · rw [dif_neg h, List.mem_append, List.mem_singleton] at hx
      rcases hx with hx | hx
      · exact ih (u / 10) (by omega) x hx
      · subst hx
        have : (UInt8.ofNat (48 + u % 10)).toNat = 48 + u % 10 := by rw [UInt8.toNat_ofNat']; omega
        rw [this]; simp only [isDigit, Bool.and_eq_true, decide_eq_true_eq]; omega
theorem dec_ne (u : Nat) : decDigits u ≠ [] := by
  rw [decDigits]; split <;> simp
theorem dec_le : ∀ (k u : Nat), u < 10 ^ (k + 1) → (decDigits u).length ≤ k + 1 := by
  intro k
  induction k with
  | zero => intro u h; rw [decDigits, dif_pos (by omega)]; simp
  | succ k ih =>
    intro u h
    rw [decDigits]; split
    · simp
    · have := ih (u / 10) (by rw [Nat.pow_succ] at h; omega)
      simp; omega
theorem dec_gt : ∀ (k u : Nat), 10 ^ k ≤ u → k < (decDigits u).length := by
  intro k
  induction k with
  | zero => intro u _; have := dec_ne u; exact List.length_pos_iff.2 this
  | succ k ih =>
    intro u h
    rw [decDigits]; split
    · rename_i h10; rw [Nat.pow_succ] at h; have := Nat.pow_pos (n := k) (show 0 < 10 by decide); omega
    · have := ih (u / 10) (by rw [Nat.pow_succ] at h; omega)
      simp; omega
theorem decFrom_app (l m : List UInt8) : ∀ acc v, Lib.decFrom acc l = some v → Lib.decFrom acc (l ++ m) = Lib.decFrom v m := by
  induction l with
  | nil => intro acc v h; simp [Lib.decFrom] at h; simp [h]
  | cons b l ih =>
    intro acc v h
    simp only [Lib.decFrom, List.cons_append] at h ⊢
    cases hd : Lib.digitVal b with
    | none => rw [hd] at h; simp at h
    | some d => rw [hd] at h; exact ih _ _ h
theorem dec_from (u : Nat) : Lib.decFrom 0 (decDigits u) = some u := by
  have dv : ∀ d, d < 10 → Lib.digitVal (UInt8.ofNat (48 + d)) = some d := by
    intro d hd
    have : (UInt8.ofNat (48 + d)).toNat = 48 + d := by rw [UInt8.toNat_ofNat']; omega
    rw [Lib.digitVal, this, if_pos (by omega)]; simp
  induction u using Nat.strongRecOn with
  | _ u ih =>
    rw [decDigits]; split
    · rename_i h; simp only [Lib.decFrom, dv u h]; simp
    · rename_i h
      rw [decFrom_app _ _ _ _ (ih (u / 10) (by omega))]
      simp only [Lib.decFrom, dv (u % 10) (by omega)]
      congr 1; omega
theorem dec_atoi (u : Nat) : Lib.atoi (decDigits u) = some (u : Int) := by
  have h := dec_from u
  have hd := dec_digit u
  have hne := dec_ne u
  cases hl : decDigits u with
  | nil => exact absurd hl hne
  | cons b r =>
    rw [hl] at h hd
    have hb := hd b (by simp)
    simp only [isDigit, Bool.and_eq_true, decide_eq_true_eq] at hb
    have n1 : b ≠ 45 := by rintro rfl; simp at hb
    have n2 : b ≠ 43 := by rintro rfl; simp at hb
    simp [Lib.atoi, n1, n2, Lib.decNat, h]

def headPs : List Piece := [⟨1, [], [115, 99, 111, 114, 101], 0⟩, ⟨3, [32], [34, 34], 0⟩, ⟨1, [32], [112, 97, 114, 116], 0⟩, ⟨4, [32], [64], 0⟩]
def staveP : List Piece := [⟨1, [32], [115, 116, 97, 102, 102], 0⟩, ⟨1, [32], [98, 97, 115, 115], 0⟩]
def staves : Nat → List Piece
  | 0 => []
  | n + 1 => staveP ++ staves n
def idPs (S N n : Nat) : List Piece := headPs ++ (⟨2, [], decDigits S, S⟩ :: ⟨4, [], [46], 0⟩ :: ⟨2, [], decDigits N, N⟩ :: ⟨3, [32], [34, 34], 0⟩ :: staves n)

theorem staves_good : ∀ n, GoodP [] (staves n) := by
  intro n
  induction n with
  | zero => trivial
  | succ n ih =>
    refine ⟨⟨by decide, .inl ⟨rfl, rfl, ⟨115, _, rfl, by decide⟩, by decide, by decide, ?_⟩⟩, ⟨by decide, .inl ⟨rfl, rfl, ⟨98, _, rfl, by decide⟩, by decide, by decide, ?_⟩⟩, ih⟩
    · intro x r he
      simp [flat] at he
      obtain ⟨rfl, _⟩ := he; decide
    · intro x r he
      cases n with
      | zero => simp [flat, staves] at he
      | succ n => simp [flat, staves, staveP] at he; obtain ⟨rfl, _⟩ := he; decide

theorem head_good (rest : List UInt8) : GoodP rest headPs := by
  refine ⟨⟨by decide, .inl ⟨rfl, rfl, ⟨115, _, rfl, by decide⟩, by decide, by decide, ?_⟩⟩, ⟨by decide, .inr (.inr (.inl ⟨rfl, rfl, rfl⟩))⟩, ⟨by decide, .inl ⟨rfl, rfl, ⟨112, _, rfl, by decide⟩, by decide, by decide, ?_⟩⟩, ⟨by decide, .inr (.inr (.inr ⟨rfl, rfl, 64, rfl, by decide, by decide, by decide, by decide, by decide⟩))⟩, trivial⟩ <;>
  · intro x r he
    simp [flat] at he
    obtain ⟨rfl, _⟩ := he; decide

theorem good_append (rest : List UInt8) : ∀ (ps qs : List Piece), GoodP (flat qs ++ rest) ps → GoodP rest qs → GoodP rest (ps ++ qs)
  | [], qs, _, h => h
  | p :: ps, qs, h, k => ⟨by simpa [flat] using h.1, good_append rest ps qs h.2 k⟩

theorem num_good (u : Nat) (hu : u < 1000000000000000) (rest : List UInt8) (hr : Ends isDigit rest) : (⟨2, [], decDigits u, u⟩ : Piece).Ok rest :=
  ⟨by simp, .inr (.inl ⟨rfl, dec_atoi u, dec_ne u, dec_digit u, dec_le 14 u (by simpa using hu), hr⟩)⟩
theorem dot_good (rest : List UInt8) : (⟨4, [], [46], 0⟩ : Piece).Ok rest := ⟨by simp, .inr (.inr (.inr ⟨rfl, rfl, 46, rfl, by decide, by decide, by decide, by decide, by decide⟩))⟩

theorem id_good (S N n : Nat) (hS : S < 1000000000000000) (hN : N < 1000000000000000) : GoodP [] (idPs S N n) := by
  refine good_append _ _ _ (head_good _) ⟨num_good S hS _ ?_, dot_good _, num_good N hN _ ?_, ⟨by decide, .inr (.inr (.inl ⟨rfl, rfl, rfl⟩))⟩, staves_good n⟩
  · intro x r he
    simp [flat] at he
    obtain ⟨rfl, _⟩ := he; decide
  · intro x r he
    simp [flat] at he
    obtain ⟨rfl, _⟩ := he; decide

/-- The text. -/
def idText (S N n : Nat) : ByteArray := ⟨(flat (idPs S N n)).toArray⟩
def endTok (s : ByteArray) (n : Nat) : Tok := ⟨0, ByteArray.empty, 0, ByteArray.empty, (s.size : Int) + 1, false || !decide (s.size < s.size) && decide (0 < n)⟩
def idToks (S N n : Nat) : List Tok := ptoks 0 0 (idPs S N n) ++ [endTok (idText S N n) (idPs S N n).length]

theorem id_lx (S N n : Nat) (hS : S < 1000000000000000) (hN : N < 1000000000000000) : Lx (idText S N n) 0 0 (idToks S N n) none :=
  lx_whole (s := idText S N n) (idPs S N n) (by simp [idText]) (id_good S N n hS hN)

theorem staves_length (n : Nat) : (staves n).length = 2 * n := by
  induction n with
  | zero => rfl
  | succ n ih => simp [staves, staveP, ih]; omega
theorem idPs_length (S N n : Nat) : (idPs S N n).length = 8 + 2 * n := by simp [idPs, headPs, staves_length]; omega
theorem idToks_length (S N n : Nat) : (idToks S N n).length = 9 + 2 * n := by simp [idToks, ptoks_length, idPs_length]; omega

theorem staves_get : ∀ (n i : Nat), i < n → (staves n)[2 * i]? = some ⟨1, [32], [115, 116, 97, 102, 102], 0⟩ ∧ (staves n)[2 * i + 1]? = some ⟨1, [32], [98, 97, 115, 115], 0⟩
  | 0, i, h => absurd h (by omega)
  | n + 1, 0, _ => ⟨rfl, rfl⟩
  | n + 1, i + 1, h => by
    have := staves_get n i (by omega)
    rw [show 2 * (i + 1) = 2 * i + 1 + 1 by omega]
    exact this

theorem idTok_get {S N n i : Nat} {p : Piece} (h : (idPs S N n)[i]? = some p) : ∃ j, (idToks S N n)[i]? = some ⟨p.kind, ⟨p.body.toArray⟩, p.value, ByteArray.empty, ((0 + (flat ((idPs S N n).take i)).length + p.bl.length : Nat) : Int) + 1, j⟩ := by
  obtain ⟨j, hj⟩ := ptoks_get (idPs S N n) 0 0 i p h
  refine ⟨j, ?_⟩
  rw [idToks, List.getElem?_append_left, hj]
  exact (List.getElem?_eq_some_iff.1 hj).1

theorem idTok_end (S N n : Nat) : (idToks S N n)[8 + 2 * n]? = some (endTok (idText S N n) (idPs S N n).length) := by
  rw [idToks, List.getElem?_append_right (by rw [ptoks_length, idPs_length]; exact Nat.le_refl _), ptoks_length, idPs_length]
  simp

theorem tail_get (S N n i : Nat) : (idPs S N n)[8 + i]? = (staves n)[i]? := by
  rw [show 8 + i = i + 1 + 1 + 1 + 1 + 1 + 1 + 1 + 1 by omega]
  rfl

theorem flat_col (S N n i : Nat) : 19 ≤ (flat ((idPs S N n).take (8 + i))).length := by
  rw [show 8 + i = i + 1 + 1 + 1 + 1 + 1 + 1 + 1 + 1 by omega]
  have h1 := List.length_pos_iff.2 (dec_ne S)
  simp [idPs, headPs, flat]
  omega

theorem flat_append (a b : List Piece) : flat (a ++ b) = flat a ++ flat b := by simp [flat]
theorem staves_flat (n : Nat) : (flat (staves n)).length = 11 * n := by
  induction n with
  | zero => rfl
  | succ n ih =>
    rw [staves, flat_append, List.length_append, ih]
    have : (flat staveP).length = 11 := rfl
    omega
theorem staves_ends (n : Nat) : flat (staves n) ++ [32, 115, 116, 97, 102, 102, 32, 98, 97, 115, 115] = flat (staves (n + 1)) := by
  induction n with
  | zero => rfl
  | succ n ih =>
    rw [staves, flat_append, List.append_assoc, ih, ← flat_append]
    rfl

theorem id_bytes (S N n : Nat) : ∀ x ∈ flat (idPs S N n), x.toNat ≠ 10 := by
  have hd : ∀ u, ∀ x ∈ decDigits u, x.toNat ≠ 10 := fun u x hx => by
    have := dec_digit u x hx
    simp only [isDigit, Bool.and_eq_true, decide_eq_true_eq] at this; omega
  have hs : ∀ n, ∀ x ∈ flat (staves n), x.toNat ≠ 10 := by
    intro n
    induction n with
    | zero => intro x hx; simp [flat, staves] at hx
    | succ n ih =>
      intro x hx
      rw [staves, flat_append, List.mem_append] at hx
      rcases hx with hx | hx
      · revert x hx; decide
      · exact ih x hx
  intro x hx
  have e : flat (idPs S N n) = flat headPs ++ (decDigits S ++ (46 :: (decDigits N ++ ([32, 34, 34] ++ flat (staves n))))) := by simp [idPs, flat]
  rw [e] at hx
  rw [List.mem_append, List.mem_append, List.mem_cons, List.mem_append, List.mem_append] at hx
  rcases hx with hx | hx | rfl | hx | hx | hx
  · revert x hx; decide
  · exact hd S x hx
  · decide
  · exact hd N x hx
  · revert x hx; decide
  · exact hs n x hx

theorem id_nl (S N n : Nat) : ∀ k (h : k < (idText S N n).size), ¬ (((idText S N n)[k].toNat : Nat) : Int) = 10 := by
  intro k h
  have hk := at_list k h
  have := id_bytes S N n (idText S N n)[k] (by
    have := List.mem_of_getElem? hk
    simpa [idText] using this)
  omega

theorem id_size (S N n : Nat) (hS : S < 10000000000000000000) (hN : N < 10000000000000000000) (hn : n ≤ 1000) : (idText S N n).size ≤ 20000 := by
  have h1 := dec_le 18 S (by simpa using hS)
  have h2 := dec_le 18 N (by simpa using hN)
  have e : flat (idPs S N n) = flat headPs ++ (decDigits S ++ (46 :: (decDigits N ++ ([32, 34, 34] ++ flat (staves n))))) := by simp [idPs, flat]
  have e2 : (flat headPs).length = 15 := rfl
  rw [← size_list]
  simp only [idText, e, List.length_append, List.length_cons, staves_flat, e2]
  simp
  omega

/-- A long numeral. -/
theorem id_long_S (S N n : Nat) (hS : 1000000000000000 ≤ S) : Lx (idText S N n) 0 0 (ptoks 0 0 headPs) (some (flat headPs).length) := by
  refine lx_broken (s := idText S N n) headPs (decDigits S) (46 :: (decDigits N ++ ([32, 34, 34] ++ flat (staves n)))) (by simp [idText, idPs, flat]) (head_good _) (dec_digit S) (dec_gt 15 S (by simpa using hS)) ?_
  intro x r he; injection he with he; subst he; decide
theorem id_long_N (S N n : Nat) (hS : S < 1000000000000000) (hN : 1000000000000000 ≤ N) : Lx (idText S N n) 0 0 (ptoks 0 0 (headPs ++ [⟨2, [], decDigits S, S⟩, ⟨4, [], [46], 0⟩])) (some (flat (headPs ++ [⟨2, [], decDigits S, S⟩, ⟨4, [], [46], 0⟩])).length) := by
  refine lx_broken (s := idText S N n) _ (decDigits N) ([32, 34, 34] ++ flat (staves n)) (by simp [idText, idPs, flat]) (good_append _ _ _ (head_good _) ⟨num_good S hS _ ?_, dot_good _, trivial⟩) (dec_digit N) (dec_gt 15 N (by simpa using hN)) ?_
  · intro x r he
    simp [flat] at he
    obtain ⟨rfl, _⟩ := he; decide
  · intro x r he; injection he with he; subst he; decide
end Go.Proofs.YtaimdnddmddbnaaGreatDoor
