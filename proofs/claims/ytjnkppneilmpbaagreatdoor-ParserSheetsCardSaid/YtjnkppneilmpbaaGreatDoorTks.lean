/-
  A part of the proof that the law ParserSheets (chapter 19) returns true for every sheet: walks of the program's functions, and runs of them in the kernel by the own evaluator.
-/
import Derived.Test.YtjnkppneilmpbaaGreatDoorRed
import Derived.Test.YtjnkppneilmpbaaGreatDoorScw
import Derived.Test.YtjnkppneilmpbaaGreatDoorMeo
import Derived.Test.YtjnkppneilmpbaaGreatDoorTxw
namespace Go.Proofs.YtjnkppneilmpbaaGreatDoor
open Go.RowKit
open Go.Lib (decDigits)

/-- A token of a piece that is not the first. -/
def IsP (q : Piece) (t : Tok) : Prop := t.kind = q.kind ∧ t.text = mk q.body ∧ t.value = q.value ∧ t.bytes = mk q.bytes
def Tk (L : List Piece) (toks : List Tok) : Prop := ∀ (i : Nat) (q : Piece), L[i]? = some q → ∃ t, toks[i]? = some t ∧ IsP q t ∧ (0 < i → t.joined = q.bl.isEmpty)
theorem tk_at {L : List Piece} {toks : List Tok} (h : Tk L toks) {pos : Nat} {q : Piece} {r : List Piece} (hd : L.drop pos = q :: r) : ∃ t, toks[pos]? = some t ∧ IsP q t ∧ (0 < pos → t.joined = q.bl.isEmpty) := by
  refine h pos q ?_
  have := congrArg (·[0]?) hd
  simpa [List.getElem?_drop] using this
theorem drop_one {L : List Piece} {pos : Nat} {q : Piece} {r : List Piece} (hd : L.drop pos = q :: r) : L.drop (pos + 1) = r := by
  rw [← List.drop_drop, hd]; rfl
theorem drop_app {L a b : List Piece} {pos n : Nat} (hd : L.drop pos = a ++ b) (hn : a.length = n) : L.drop (pos + n) = b := by
  subst hn
  rw [← List.drop_drop, hd]; simp

theorem tok_is {q : Piece} {t : Tok} (h : IsP q t) (hk : q.kind = 1 ∨ q.kind = 4) {x : ByteArray} (hx : mk q.body = x) : IsTok t x = true := by
  unfold IsTok
  rw [h.1, h.2.1, hx]
  rcases hk with e | e <;> simp [e]
theorem tok_no {q : Piece} {t : Tok} (h : IsP q t) {x : ByteArray} (hx : mk q.body ≠ x) : IsTok t x = false := tok_other h.2.1 hx
theorem tok_kind {q : Piece} {t : Tok} (h : IsP q t) (h1 : q.kind ≠ 1) (h4 : q.kind ≠ 4) (x : ByteArray) : IsTok t x = false := by
  unfold IsTok
  rw [h.1]
  simp [h1, h4]

/-- How many tokens an id has. -/
def kI (ids : Bool) : Nat := if ids then 4 else 0
theorem kI_le (ids : Bool) : kI ids ≤ 4 := by unfold kI; split <;> omega
theorem idP_len (ids : Bool) (n : Nat) : (idP ids n).length = kI ids := by cases ids <;> rfl
theorem mk_ne {a b : List UInt8} (h : a ≠ b) : mk a ≠ mk b := fun e => h (by
  have := congrArg (fun s : ByteArray => s.data.toList) e
  simpa [mk] using this)

section
variable {L : List Piece} {toks : List Tok} {ids : Bool} {pos N : Nat}

theorem id_at (h : Tk L toks) {q : Piece} {r : List Piece} (hd : L.drop pos = idP ids (N + 1) ++ q :: r) (hq : mk q.body ≠ atS) : IdAt toks pos (kI ids) N ∧ L.drop (pos + kI ids) = q :: r := by
  refine ⟨?_, drop_app hd (idP_len ids _)⟩
  cases ids with
  | false =>
    obtain ⟨t, h1, h2, _⟩ := tk_at h (q := q) (r := r) (by simpa [idP] using hd)
    exact .inl ⟨rfl, t, h1, tok_no h2 hq⟩
  | true =>
    have d0 : L.drop pos = symP [32] 64 :: numP [] [48] 0 :: symP [] 46 :: numP [] (decDigits (N + 1)) ((N + 1 : Nat) : Int) :: q :: r := by simpa [idP] using hd
    obtain ⟨t0, a0, b0, _⟩ := tk_at h d0
    have d1 := drop_one d0
    obtain ⟨t1, a1, b1, _⟩ := tk_at h d1
    have d2 := drop_one d1
    obtain ⟨t2, a2, b2, _⟩ := tk_at h d2
    have d3 := drop_one d2
    obtain ⟨t3, a3, b3, _⟩ := tk_at h d3
    exact .inr ⟨rfl, t0, t1, t2, t3, a0, a1, a2, a3, tok_is b0 (.inr rfl) rfl, b1.1, b1.2.2.1, tok_is b2 (.inr rfl) rfl, b3.1, by rw [b3.2.2.1]; show ((N + 1 : Nat) : Int) = _; omega⟩

/-- What ends an event. -/
def StopP (q : Piece) : Prop := q.bl = [32] ∧ q.kind ≠ 3 ∧ mk q.body ≠ ⟨#[91]⟩ ∧ mk q.body ≠ uS
theorem stop_at {q : Piece} {t : Tok} (hq : StopP q) (h : IsP q t) (hj : t.joined = q.bl.isEmpty) : Stops t :=
  ⟨by rw [hj, hq.1]; rfl, by rw [h.1]; exact hq.2.1, tok_no h hq.2.2.1, tok_no h hq.2.2.2⟩
def nOf (y : UInt8) : Option UInt8 := if y.toNat % 2 = 0 then some (stepC y) else none
theorem stepC_note (y : UInt8) : NoteC (stepC y) := by
  unfold stepC NoteC
  split <;> simp

theorem note_head (y : UInt8) : ∃ q r, noteP y = q :: r ∧ q.kind = 1 ∧ StopP q ∧ mk q.body ≠ atS ∧ (∀ c, nOf y = some c → mk q.body = noteS c ∧ NoteC c) ∧ (nOf y = none → mk q.body = restS) ∧ mk q.body ≠ clefS := by
  have ne2 : ∀ (a b : List UInt8), a.length ≠ b.length → mk a ≠ mk b := fun a b hl => mk_ne (fun e => hl (by rw [e]))
  unfold noteP nOf
  split
  · refine ⟨_, _, rfl, rfl, ⟨rfl, (show (1 : Int) ≠ 3 by decide), ne2 [stepC y, 52] [91] (by simp), ne2 [stepC y, 52] [95] (by simp)⟩, ne2 [stepC y, 52] [64] (by simp), ?_, (fun e => by cases e), ne2 [stepC y, 52] [99, 108, 101, 102] (by simp)⟩
    intro c e
    injection e with e
    subst e
    exact ⟨rfl, stepC_note y⟩
  · exact ⟨_, _, rfl, rfl, ⟨rfl, by decide, mk_ne (by decide), mk_ne (by decide)⟩, mk_ne (by decide), (fun c e => by cases e), fun _ => rfl, mk_ne (by decide)⟩
theorem noteP_len (y : UInt8) : (noteP y).length = 3 := rfl

theorem note_at (h : Tk L toks) {y : UInt8} {q : Piece} {r : List Piece} (hd : L.drop pos = idP ids (N + 1) ++ (noteP y ++ q :: r)) (hq : StopP q) : NoteAt toks pos (kI ids) N (nOf y) ∧ L.drop (pos + kI ids + 3) = q :: r := by
  obtain ⟨n, rest, hn, hk, -, hat, hs, hr, -⟩ := note_head y
  obtain ⟨hI, hd1⟩ := id_at h (q := n) (r := rest ++ q :: r) (by rw [hd, hn]; rfl) hat
  have hrest : rest = [symP [] 58, numP [] [52] 4] := by
    have : noteP y = n :: [symP [] 58, numP [] [52] 4] := by
      unfold noteP at hn ⊢
      injection hn with e1 e2
      rw [e1]
    rw [hn] at this
    injection this
  subst hrest
  obtain ⟨t, a, b, _⟩ := tk_at h hd1
  have hd2 := drop_one hd1
  obtain ⟨t1, a1, b1, _⟩ := tk_at h hd2
  have hd3 := drop_one hd2
  obtain ⟨t2, a2, b2, _⟩ := tk_at h hd3
  have hd4 := drop_one hd3
  obtain ⟨t3, a3, b3, c3⟩ := tk_at h hd4
  exact ⟨⟨hI, t, t1, t2, t3, a, b.1.trans hk, fun c hc => ⟨b.2.1.trans (hs c hc).1, (hs c hc).2⟩, fun hc => b.2.1.trans (hr hc), a1, b1.1, b1.2.1, a2, b2.1, b2.2.1, a3, stop_at hq b3 (c3 (by omega))⟩, hd4⟩

theorem notes_head (ids : Bool) (N : Nat) (l : List UInt8) {q : Piece} {r : List Piece} (hq : StopP q) (hc : mk q.body ≠ clefS) : ∃ q' r', notesP ids N l ++ q :: r = q' :: r' ∧ StopP q' ∧ mk q'.body ≠ clefS := by
  cases l with
  | nil => exact ⟨q, r, rfl, hq, hc⟩
  | cons y l =>
    cases ids with
    | true => exact ⟨symP [32] 64, _, rfl, ⟨rfl, by decide, mk_ne (by decide), mk_ne (by decide)⟩, mk_ne (by decide)⟩
    | false =>
      obtain ⟨n, rest, hn, -, hs, -, -, -, hcl⟩ := note_head y
      refine ⟨n, rest ++ (notesP false (N + 1) l ++ q :: r), ?_, hs, hcl⟩
      rw [notesP, hn]
      simp [idP]

theorem notes_at (h : Tk L toks) {q : Piece} {r : List Piece} (hq : StopP q) (hc : mk q.body ≠ clefS) : ∀ (l : List UInt8) (pos N : Nat), L.drop pos = notesP ids N l ++ q :: r → pos + 7 * l.length ≤ 900000 → N + l.length ≤ 90000 →
    Notes toks pos N (l.map nOf) (pos + (kI ids + 3) * l.length) ∧ L.drop (pos + (kI ids + 3) * l.length) = q :: r
  | [], pos, N, hd, _, _ => ⟨by simpa using Notes.nil pos N, by simpa [notesP] using hd⟩
  | y :: l, pos, N, hd, hp, hN => by
    simp only [List.length_cons] at hp hN
    have hk := kI_le ids
    obtain ⟨q', r', e, hq', -⟩ := notes_head ids (N + 1) l (q := q) (r := r) hq hc
    obtain ⟨hn, hd1⟩ := note_at h (y := y) (q := q') (r := r') (by rw [hd, notesP, List.append_assoc, List.append_assoc, ← e]) hq'
    rw [← e] at hd1
    obtain ⟨h2, hd2⟩ := notes_at h hq hc l (pos + kI ids + 3) (N + 1) hd1 (by omega) (by omega)
    have hpos : pos + kI ids + 3 + (kI ids + 3) * l.length = pos + (kI ids + 3) * (l.length + 1) := by rw [Nat.mul_add]; omega
    rw [hpos] at h2 hd2
    exact ⟨Notes.cons hn (by omega) (by omega) h2, hd2⟩

theorem noopt_brace {t : Tok} (h : IsP (symP [32] 123) t) : NoOpt t := by
  intro s hs
  refine tok_no h ?_
  simp only [optWords, List.mem_cons, List.not_mem_nil, or_false] at hs
  rcases hs with rfl | rfl | rfl | rfl | rfl | rfl | rfl | rfl | rfl | rfl | rfl | rfl | rfl | rfl <;> decide

theorem key_at (h : Tk L toks) {p k : UInt8} {r : List Piece} (hd : L.drop pos = keyP p k ++ symP [32] 123 :: r) (hk : k.toNat ≤ 7) : ∃ kl, kl ≤ 2 ∧ KeyAt toks pos (p.toNat : Nat) kl (k.toNat : Nat) ∧ L.drop (pos + kl) = symP [32] 123 :: r := by
  by_cases he : k = p
  · subst he
    have hd0 : L.drop pos = symP [32] 123 :: r := by simpa [keyP] using hd
    obtain ⟨t, a, b, _⟩ := tk_at h hd0
    exact ⟨0, by omega, .inl ⟨rfl, rfl, t, a, noopt_brace b⟩, hd0⟩
  · have hd0 : L.drop pos = wordP [32] [107, 101, 121] :: numP [32] (decDigits k.toNat) k.toNat :: symP [32] 123 :: r := by simpa [keyP, he] using hd
    obtain ⟨t0, a0, b0, _⟩ := tk_at h hd0
    have hd1 := drop_one hd0
    obtain ⟨t1, a1, b1, _⟩ := tk_at h hd1
    have hd2 := drop_one hd1
    obtain ⟨t2, a2, b2, _⟩ := tk_at h hd2
    exact ⟨2, by omega, .inr ⟨rfl, t0, t1, t2, a0, tok_is b0 (.inl rfl) rfl, a1, b1.1, b1.2.2.1, by omega, by omega, a2, noopt_brace b2⟩, hd2⟩

/-- What a measure of the sheet is in the score. -/
def conv (m : List UInt8 × UInt8) : List (Option UInt8) × Int := (m.1.map nOf, (m.2.toNat : Int))
theorem total_conv : ∀ (l : List (List UInt8 × UInt8)) (N : Nat), total N (l.map conv) = N + objs l
  | [], N => rfl
  | m :: l, N => by
    rw [List.map_cons, total, total_conv l]
    simp only [conv, objs, List.length_map]
    omega

theorem key_head (p k : UInt8) (r : List Piece) : ∃ q r', keyP p k ++ symP [32] 123 :: r = q :: r' ∧ mk q.body ≠ atS := by
  unfold keyP
  split
  · exact ⟨_, _, rfl, mk_ne (by decide)⟩
  · exact ⟨_, _, rfl, mk_ne (by decide)⟩

theorem measures_at (h : Tk L toks) {bl : List UInt8} : ∀ (l : List (List UInt8 × UInt8)) (pos N : Nat) (p : UInt8), L.drop pos = measuresP ids N p l ++ [endP bl] → pos + 20 * objs l ≤ 900000 → N + objs l ≤ 80000 → (∀ m ∈ l, m.1.length ≤ 6 ∧ m.2.toNat ≤ 7) →
    ∃ posE t, Meass toks pos N (p.toNat : Nat) (l.map conv) posE ∧ toks[posE]? = some t ∧ t.kind = 0 ∧ t.text = ByteArray.empty
  | [], pos, N, p, hd, _, _, _ => by
    obtain ⟨t, a, b, _⟩ := tk_at h (q := endP bl) (r := []) (by simpa [measuresP] using hd)
    exact ⟨pos, t, Meass.nil _ _ _, a, b.1, b.2.1⟩
  | m :: l, pos, N, p, hd, hp, hN, hm => by
    simp only [objs] at hp hN
    have hkI := kI_le ids
    obtain ⟨h6, h7⟩ := hm m (by simp)
    have hd0 : L.drop pos = measW :: (idP ids (N + 1) ++ (keyP p m.2 ++ symP [32] 123 :: (notesP ids (N + 1) m.1 ++ symP [32] 125 :: (measuresP ids (N + 1 + m.1.length) m.2 l ++ [endP bl])))) := by
      rw [hd, measuresP]; simp
    obtain ⟨tm, a0, b0, _⟩ := tk_at h hd0
    have hd1 := drop_one hd0
    obtain ⟨q, r', e, hq⟩ := key_head p m.2 (notesP ids (N + 1) m.1 ++ symP [32] 125 :: (measuresP ids (N + 1 + m.1.length) m.2 l ++ [endP bl]))
    obtain ⟨hI, hd2⟩ := id_at h (q := q) (r := r') (by rw [hd1, e]) hq
    rw [← e] at hd2
    obtain ⟨kl, hkl, hK, hd3⟩ := key_at h hd2 h7
    obtain ⟨tb, a3, b3, _⟩ := tk_at h hd3
    have hd4 := drop_one hd3
    have hstop : StopP (symP [32] 125) := ⟨rfl, by decide, mk_ne (by decide), mk_ne (by decide)⟩
    obtain ⟨hn, hd5⟩ := notes_at h hstop (mk_ne (by decide)) m.1 (pos + 1 + kI ids + kl + 1) (N + 1) hd4 (by omega) (by omega)
    obtain ⟨q0, r0, e0, -, hc0⟩ := notes_head ids (N + 1) m.1 (q := symP [32] 125) (r := measuresP ids (N + 1 + m.1.length) m.2 l ++ [endP bl]) hstop (mk_ne (by decide))
    obtain ⟨t0, a4, b4, _⟩ := tk_at h (q := q0) (r := r0) (by rw [hd4, e0])
    obtain ⟨t, a5, b5, _⟩ := tk_at h hd5
    have hd6 := drop_one hd5
    have hmul : (kI ids + 3) * m.1.length ≤ 7 * m.1.length := Nat.mul_le_mul_right _ (by omega)
    obtain ⟨posE, te, hE, a7, k7, x7⟩ := measures_at h l (pos + 1 + kI ids + kl + 1 + (kI ids + 3) * m.1.length + 1) (N + 1 + m.1.length) m.2 hd6 (by omega) (by omega) (fun m hm' => hm m (by simp [hm']))
    refine ⟨posE, te, ?_, a7, k7, x7⟩
    have hlen : (m.1.map nOf).length = m.1.length := List.length_map _
    exact Meass.cons (kl := kl) a0 (tok_is b0 (.inl rfl) rfl) hI (by omega) (by omega) hK (by rw [hlen]; omega) a3 (tok_is b3 (.inr rfl) rfl) hn a4 (tok_no b4 hc0) a5 (tok_is b5 (.inr rfl) rfl) b5.1 (by omega) (by rw [hlen]; exact hE)
end

/-- The score is read out of the tokens. -/
theorem score_tokens (ids : Bool) {title bl : List UInt8} {l : List (List UInt8 × UInt8)} {toks : List Tok} (h : Tk (scoreW :: tailP ids title l ++ [endP bl]) toks) (hl : l.length ≤ 100) (ho : objs l ≤ 1000) (hm : ∀ m ∈ l, m.1.length ≤ 6 ∧ m.2.toNat ≤ 7) (Y M : Nat) (tv : Value) (w : World) (hS : Prs Y M tv toks 0 0 0 0 false 0 0 #[] 0 w) :
    Calls Tryz.prog 12 #[.pointer (some ⟨Y, 0, none⟩)] w fun r w' => Away [Y, M] w w' ∧ ∃ v, r = .returned v ∧ ScoreIs w' (mk title) (l.map conv) v ∧ ∃ (pos : Nat) (es : Array MapEntry) (clk : Nat) (ls ln : Int), Prs Y M tv toks pos 0 0 0 false ls ln es clk w' := by
  have hk := kI_le ids
  generalize hL : scoreW :: tailP ids title l ++ [endP bl] = L at h
  have d0 : L.drop 0 = scoreW :: strP [32] title :: partW :: (idP ids 1 ++ strP [32] [] :: staffW :: (idP ids 2 ++ trebW :: (measuresP ids 2 0 l ++ [endP bl]))) := by
    rw [← hL, List.drop_zero, tailP]; simp
  obtain ⟨t0, a0, b0, _⟩ := tk_at h d0
  have d1 := drop_one d0
  obtain ⟨t1, a1, b1, _⟩ := tk_at h d1
  have d2 := drop_one d1
  obtain ⟨t2, a2, b2, _⟩ := tk_at h d2
  have d3 := drop_one d2
  obtain ⟨hI1, d4⟩ := id_at h (N := 0) (q := strP [32] []) d3 (mk_ne (by decide))
  obtain ⟨t4, a4, b4, _⟩ := tk_at h d4
  have d5 := drop_one d4
  obtain ⟨t5, a5, b5, _⟩ := tk_at h d5
  have d6 := drop_one d5
  obtain ⟨hI2, d7⟩ := id_at h (N := 1) (q := trebW) d6 (mk_ne (by decide))
  obtain ⟨t6, a6, b6, _⟩ := tk_at h d7
  have d8 := drop_one d7
  obtain ⟨posE, te, hE, aE, kE, xE⟩ := measures_at h l _ 2 0 d8 (by omega) (by omega) hm
  -- the token behind the staff
  obtain ⟨tn, an, bn1, bn2⟩ : ∃ tn, toks[0 + 1 + 1 + 1 + kI ids + 1 + 1 + kI ids + 1]? = some tn ∧ IsTok tn staffS = false ∧ IsTok tn partS = false := by
    cases l with
    | nil =>
      obtain ⟨t, a, b, _⟩ := tk_at h (q := endP bl) (r := []) (by simpa [measuresP] using d8)
      exact ⟨t, a, tok_kind b (show (0 : Int) ≠ 1 by decide) (show (0 : Int) ≠ 4 by decide) _, tok_kind b (show (0 : Int) ≠ 1 by decide) (show (0 : Int) ≠ 4 by decide) _⟩
    | cons m l =>
      obtain ⟨t, a, b, _⟩ := tk_at h (q := measW) (by rw [d8]; rfl)
      exact ⟨t, a, tok_no b (mk_ne (by decide)), tok_no b (mk_ne (by decide))⟩
  have hnm : t4.bytes = ByteArray.empty := b4.2.2.2
  have hti : t1.bytes = mk title := b1.2.2.2
  rw [← hti]
  refine score_ok (q0 := 0 + 1 + 1 + 1 + kI ids + 1 + 1 + kI ids + 1) (posE := posE) hS a0 (tok_is b0 (.inl rfl) rfl) a1 b1.1 a2 (tok_is b2 (.inl rfl) rfl) (by rw [List.length_map]; omega) (by omega) (fun w' hS' => ?_) an bn2 hE aE kE xE (by rw [total_conv]; omega)
  have := part_walk (k1 := kI ids) (k2 := kI ids) hS' hI1 (by omega) hk hk (by omega) a4 b4.1 a5 (tok_is b5 (.inl rfl) rfl) hI2 a6 b6.1 b6.2.1 an bn1
  rw [hnm] at this
  exact this
end Go.Proofs.YtjnkppneilmpbaaGreatDoor

namespace Go.Proofs.YtjnkppneilmpbaaGreatDoor
open Go.RowKit

theorem notesP_len (ids : Bool) : ∀ (l : List UInt8) (n : Nat), (notesP ids n l).length ≤ 7 * l.length
  | [], _ => by simp [notesP]
  | y :: l, n => by
    have h1 := notesP_len ids l (n + 1)
    have h2 := idP_len ids (n + 1)
    have h3 := kI_le ids
    have h4 := noteP_len y
    simp only [notesP, List.length_append, List.length_cons]
    omega
theorem keyP_len (p k : UInt8) : (keyP p k).length ≤ 2 := by unfold keyP; split <;> simp
theorem measuresP_len (ids : Bool) : ∀ (l : List (List UInt8 × UInt8)) (n : Nat) (p : UInt8), (measuresP ids n p l).length ≤ 9 * objs l
  | [], _, _ => by simp [measuresP]
  | m :: l, n, p => by
    have h1 := measuresP_len ids l (n + 1 + m.1.length) m.2
    have h2 := idP_len ids (n + 1)
    have h3 := kI_le ids
    have h4 := notesP_len ids m.1 (n + 1)
    have h5 := keyP_len p m.2
    simp only [measuresP, objs, List.length_append, List.length_cons]
    omega
theorem tailP_len (ids : Bool) (title : List UInt8) (l : List (List UInt8 × UInt8)) : (tailP ids title l).length ≤ 13 + 9 * objs l := by
  have h1 := measuresP_len ids l 2 0
  have h2 := idP_len ids 1
  have h3 := kI_le ids
  have h4 := idP_len ids 2
  simp only [tailP, List.length_append, List.length_cons]
  omega

theorem read_text (ids : Bool) (title : List UInt8) (l : List (List UInt8 × UInt8)) (ht : title.length ≤ 40) (hl : l.length ≤ 5) (hm : ∀ m ∈ l, m.1.length ≤ 6 ∧ m.2.toNat ≤ 7) (w : World) :
    Calls Tryz.prog 6 #[.string (mk (textL ids title l))] w fun r w' => Below w.heap.size w w' ∧ ∃ v, r = .returned (.tuple #[v, .int .i64 0, .int .i64 0, .int .i64 0]) ∧ ScoreIs w' (mk title) (l.map conv) v := by
  have ho : objs l ≤ 35 := Nat.le_trans (objs_le l 6 fun m h => (hm m h).1) (by omega)
  have hlen := textL_len ids title l ht hl fun m h => (hm m h).1
  have hsz : (mk (textL ids title l)).size ≤ 1048576 := by rw [mk_size]; omega
  obtain ⟨toks, hx, hn, ⟨t0, h0, k0, x0, v0, y0, -⟩, hr⟩ := lx_toks (linesOf (mk (textL ids title l)) (mk (textL ids title l)).size) (mk (textL ids title l)) scoreW (tailP ids title l) [10] (by simp only [mk]; rw [flat_text]) (text_good ids title l (by omega) (by omega)) (by
    intro x hx
    obtain rfl := List.mem_singleton.1 hx
    decide)
  have hps := tailP_len ids title l
  have hT : Tk (scoreW :: tailP ids title l ++ [endP [10]]) toks := by
    intro i q hi
    cases i with
    | zero =>
      obtain rfl : scoreW = q := by simpa using hi
      exact ⟨t0, h0, ⟨k0, x0, v0, y0⟩, fun h => absurd h (by omega)⟩
    | succ i =>
      obtain ⟨t, ht, hk, hxx, hv, hj, hb⟩ := hr i q (by simpa using hi)
      exact ⟨t, ht, ⟨hk, hxx, hv, hb⟩, fun _ => hj⟩
  refine (read_walk hx hsz (by omega) (fun Y M tv w' hS => score_tokens ids hT (by omega) (by omega) hm Y M tv w' hS) w).mono fun r w' h => h
end Go.Proofs.YtjnkppneilmpbaaGreatDoor

namespace Go.Proofs.YtjnkppneilmpbaaGreatDoor
open Go.RowKit

section
variable {R X Y M : Nat} {title : ByteArray} {pv mv lv : Value} {np : Nat} {ps : List Value} {l : List (List (Option UInt8) × Int)} {nl : Nat} {xl : List Value} {sv : Value} {ns : Nat} {ss : List Value} {w0 w w' : World}
/-- A measure is appended. -/
theorem ScAt.addMeas' (p : ScAt R X Y M title pv mv lv np ps l nl xl sv ns ss w0 w) {mv' : Value} {m : Array Value} {rs : List (Array Value)} {q : List (Option UInt8)} {k : Int}
    (hm : MsIs w 2 l rs) (hr : MeasIs w (total 2 l) q k m)
    (hg : (w.alloc (.cells m 56)).grownBy w' mv.ownBlock) (hown0 : w.ownsRow w0.heap.size 56 22 mv l.length (rs.flatMap (·.toList))) (hown : w'.ownsRow w0.heap.size 56 22 mv' (l.length + 1) (rs.flatMap (·.toList) ++ m.toList)) :
    ScAt R X Y M title pv mv' lv np ps (l ++ [(q, k)]) nl xl sv ns ss w0 (w'.setCell ⟨X, 3, none⟩ mv') ∧ w'.heap[X]? = some (.cells #[.string title, .bool false, pv, mv, .slice none 0 0, lv] 32 (0, 0)) := by
  have bc := (Below.refl _ w).alloc (Nat.le_refl _) (.cells m 56)
  have pa := p.step bc
  have hm1 := hm.more hr
  have hm2 := hm1.same (Same.of_below bc)
  have ho2 := hown0.alloc (.cells m 56)
  generalize w.alloc (.cells m 56) = v at hg pa hm2 ho2
  have s1 : Same [32, 42, 44, 49, 60, 67, 71, 75] v w' := Same.of_grown hg ho2 (by decide)
  have hX' := s1 _ _ _ _ (by simp) pa.hX
  have s2 : Same [42, 44, 49, 56, 60, 67, 71, 75] w' (w'.setCell ⟨X, 3, none⟩ mv') := Same.of_set hX' (by decide)
  have s3 : Same [42, 44, 49, 60, 67, 71, 75] v (w'.setCell ⟨X, 3, none⟩ mv') := (s1.less (by simp)).trans (s2.less (by simp))
  refine ⟨⟨by rw [Lib.heap_setCell_same hX']; rfl, (Below.heap_setCell _ _ _ _ (Nat.ne_of_lt p.lX)).trans (s1 _ _ _ _ (by simp) pa.hR), s3.own (by simp) pa.parts, s3.own (by simp) pa.staves, ⟨rs ++ [m], ?_, hm2.same (s3.less (by simp))⟩, s3.own (by simp) pa.last,
    (pa.aw.grownRow hg fun j hj => .inr (ho2.lt j hj).1).setCell (p := ⟨X, 3, none⟩) (.inr p.ba) _, p.lR, p.lX, p.nX, p.nR⟩, hX'⟩
  have e1 : (rs ++ [m]).flatMap (·.toList) = rs.flatMap (·.toList) ++ m.toList := by simp
  rw [e1, List.length_append]
  exact s2.own (by simp) hown
/-- A measure's cell is stored. -/
theorem ScAt.setBc (p : ScAt R X Y M title pv mv lv np ps l nl xl sv ns ss w0 w) {Bm : Nat} {cs : Array Value} {fr : Nat × Nat} (hB : w.heap[Bm]? = some (.cells cs 56 fr)) (hne : mv.ownBlock ≠ some Bm) (hb : w0.heap.size ≤ Bm) (i : Nat) (u : Value) : ScAt R X Y M title pv mv lv np ps l nl xl sv ns ss w0 (w.setCell ⟨Bm, i, none⟩ u) := by
  have s : Same [32, 42, 44, 49, 60, 67, 71, 75] w (w.setCell ⟨Bm, i, none⟩ u) := Same.of_set hB (by decide)
  obtain ⟨rs, h1, h2⟩ := p.ms
  exact ⟨s _ _ _ _ (by simp) p.hX, s _ _ _ _ (by simp) p.hR, s.own (by simp) p.parts, s.own (by simp) p.staves, ⟨rs, own_step h1 fun k hk => Below.heap_setCell _ _ _ _ (fun e => hne (by rw [hk, e])), h2.same (s.less (by simp))⟩, s.own (by simp) p.last, p.aw.setCell (p := ⟨Bm, i, none⟩) (.inr hb) _, p.lR, p.lX, p.nX, p.nR⟩
theorem ScAt.below (p : ScAt R X w0.heap.size w0.heap.size title pv mv lv np ps l nl xl sv ns ss w0 w) : Below w0.heap.size w0 w :=
  ⟨p.aw.os, p.aw.tape, p.aw.output, p.aw.size, fun k hk => p.aw.block k hk (by simp; omega)⟩
theorem ScAt.mne (p : ScAt R X Y M title pv mv lv np ps l nl xl sv ns ss w0 w) {B : Nat} (h : w.heap.size ≤ B) : mv.ownBlock ≠ some B := fun e => by
  obtain ⟨rs, h1, h2⟩ := p.ms
  have := (h1.lt B e).2
  omega
end
section
variable {V Y M N0 : Nat} {ev : Value} {hs : List (Option (UInt8 × Nat))} {w0 w w' : World}
/-- One event more: behind the append, and the store. -/
theorem VC.push' (h : VC V Y M ev N0 hs w0 w) (lY : Y < w.heap.size) (lM : M < w.heap.size) {e : Option (UInt8 × Nat)} (he : ∀ (c : UInt8) (H : Nat), e = some (c, H) → w.heap[H]? = some (headObj c) ∧ w0.heap.size ≤ H ∧ H ∉ [Y, M])
    {g cap : Nat} (hg : w.grownBy w' ev.ownBlock) (hown : w'.ownsRow w0.heap.size 67 13 (.slice (some ⟨g, 0, none⟩) (hs.length + 1) cap) (hs.length + 1) (evRow N0 (hs ++ [e]))) (hat : ev.ownBlock = some g ∨ g = w.heap.size) :
    VC V Y M (.slice (some ⟨g, 0, none⟩) (hs.length + 1) cap) N0 (hs ++ [e]) w0 (w'.setCell ⟨V, 0, none⟩ (.slice (some ⟨g, 0, none⟩) (hs.length + 1) cap)) ∧ w'.heap[V]? = some (.cells #[ev, .slice none 0 0] 60 (0, 0)) := by
  have hV' : w'.heap[V]? = some (.cells #[ev, .slice none 0 0] 60 (0, 0)) := (hg.block V h.lt (fun e => h.evV e.symm)).trans h.hV
  have n1 : (Value.slice (some ⟨g, 0, none⟩) (hs.length + 1) cap).ownBlock ≠ some V := own_ne hown hV' (by intro cs fr hc; injection hc with _ h2 _; exact absurd h2 (by decide))
  have hhead : ∀ (c : UInt8) (H : Nat), w.heap[H]? = some (headObj c) → (w'.setCell ⟨V, 0, none⟩ (.slice (some ⟨g, 0, none⟩) (hs.length + 1) cap)).heap[H]? = some (headObj c) := by
    intro c H hH
    have hne : ev.ownBlock ≠ some H := own_ne h.evs hH (by unfold headObj; intro cs fr hc; injection hc with _ h2 _; exact absurd h2 (by decide))
    have hnV : H ≠ V := by
      rintro rfl
      rw [h.hV] at hH
      injection hH with hH
      unfold headObj at hH
      injection hH with _ h2 _
      exact absurd h2 (by decide)
    exact (Below.heap_setCell _ _ _ _ hnV).trans ((hg.block H (Array.getElem?_eq_some_iff.1 hH).1 (fun e => hne e.symm)).trans hH)
  have hmem : ∀ (c : UInt8) (H : Nat), some (c, H) ∈ hs ++ [e] → w.heap[H]? = some (headObj c) ∧ w0.heap.size ≤ H ∧ H ∉ [Y, M] := by
    intro c H hm
    rcases List.mem_append.1 hm with hm | hm
    · exact ⟨(h.heads c H hm).1, (h.heads c H hm).2, h.nH c H hm⟩
    · exact he c H (List.mem_singleton.1 hm).symm
  refine ⟨⟨?_, ?_, fun (c : UInt8) (H : Nat) hm => ⟨hhead c H (hmem c H hm).1, (hmem c H hm).2.1⟩, (h.aw.grownRow hg fun k hk => .inr (h.evs.lt k hk).1).setCell (p := ⟨V, 0, none⟩) (.inr h.bV) _, h.bV, h.nV, fun k hk => ?_, fun c H hm => (hmem c H hm).2.2⟩, hV'⟩
  · rw [Lib.heap_setCell_same hV']; rfl
  · rw [List.length_append]
    exact own_step hown fun k hk => Below.heap_setCell _ _ _ _ (fun e => n1 (by rw [hk, e]))
  · obtain rfl : g = k := by simpa [Value.ownBlock] using hk
    rcases hat with h1 | h1
    · exact h.nE g h1
    · simp; omega

end
end Go.Proofs.YtjnkppneilmpbaaGreatDoor
