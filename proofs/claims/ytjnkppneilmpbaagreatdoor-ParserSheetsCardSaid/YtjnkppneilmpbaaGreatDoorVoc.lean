/-
  A part of the proof that the law ParserSheets (chapter 19) returns true for every sheet: walks of the program's functions, and runs of them in the kernel by the own evaluator.
-/
import Derived.Test.YtjnkppneilmpbaaGreatDoorEva
import Derived.Laws.OwnMore
import Derived.Test.YtjnkppneilmpbaaGreatDoorPri
import Derived.Deep.Onto
namespace Go.Proofs.YtjnkppneilmpbaaGreatDoor
open Go.RowKit

theorem Tryz.infoEvent : (Tryz.prog.info? 67).map (fun i => (i.zero, i.size, i.bytes)) = some (some (.agg #[.int .i64 0, .int .i64 0, .int .i64 0, .int .i64 0, .int .i64 0, .slice none 0 0, .slice none 0 0, .int .i64 0, .int .i64 0, .int .i64 0, .slice none 0 0, .int .i64 0, .int .i64 0]), 13, 152) := by kernel_rfl

theorem isTok_other {t : Tok} {x y : ByteArray} (h : IsTok t x = true) (hn : x ≠ y) : IsTok t y = false := by
  simp only [IsTok, Bool.and_eq_true, decide_eq_true_eq] at h
  exact tok_other h.2 hn

/-- An event lies at pos: its id (k tokens, or none), a note or a rest, a quarter. -/
def NoteAt (toks : List Tok) (pos k N : Nat) (n : Option UInt8) : Prop :=
  IdAt toks pos k N ∧ ∃ t t1 t2 t3, toks[pos + k]? = some t ∧ t.kind = 1 ∧ (∀ c, n = some c → t.text = noteS c ∧ NoteC c) ∧ (n = none → t.text = restS) ∧
    toks[pos + k + 1]? = some t1 ∧ t1.kind = 4 ∧ t1.text = ⟨#[58]⟩ ∧ toks[pos + k + 2]? = some t2 ∧ t2.kind = 2 ∧ t2.text = ⟨#[52]⟩ ∧ toks[pos + k + 3]? = some t3 ∧ Stops t3

/-- The events' row: a note with its head's block, or a rest. -/
def evRow (N : Nat) : List (Option (UInt8 × Nat)) → List Value
  | [] => []
  | e :: l => evVals ((N : Int) + 1) (e.map (·.2)) ++ evRow (N + 1) l
theorem evRow_more (e : Option (UInt8 × Nat)) (l : List (Option (UInt8 × Nat))) : ∀ N, evRow N (l ++ [e]) = evRow N l ++ evVals (((N + l.length : Nat) : Int) + 1) (e.map (·.2)) := by
  induction l with
  | nil => intro N; simp [evRow]
  | cons a l ih =>
    intro N
    simp only [List.cons_append, evRow, ih, List.append_assoc, List.length_cons]
    rw [show N + 1 + l.length = N + (l.length + 1) by omega]
theorem evVals_len (i : Int) (e : Option Nat) : (evVals i e).length = 13 := by cases e <;> rfl

/-- The voice lies at V: its events are ev. -/
structure VC (V Y M : Nat) (ev : Value) (N0 : Nat) (hs : List (Option (UInt8 × Nat))) (w0 w : World) : Prop where
  hV : w.heap[V]? = some (.cells #[ev, .slice none 0 0] 60 (0, 0))
  evs : w.ownsRow w0.heap.size 67 13 ev hs.length (evRow N0 hs)
  heads : ∀ c H, some (c, H) ∈ hs → w.heap[H]? = some (headObj c) ∧ w0.heap.size ≤ H
  aw : Away [Y, M] w0 w
  bV : w0.heap.size ≤ V
  nV : V ∉ [Y, M]
  nE : ∀ k, ev.ownBlock = some k → k ∉ [Y, M]
  nH : ∀ c H, some (c, H) ∈ hs → H ∉ [Y, M]

section
variable {V Y M : Nat} {tv : Value} {toks : List Tok} {pos k N N0 : Nat} {line col : Int} {ev : Value} {hs : List (Option (UInt8 × Nat))} {w0 w w' : World} {n : Option UInt8}

theorem VC.lt (h : VC V Y M ev N0 hs w0 w) : V < w.heap.size := (Array.getElem?_eq_some_iff.1 h.hV).1
theorem VC.away (h : VC V Y M ev N0 hs w0 w) (b : Away [Y, M] w w') : VC V Y M ev N0 hs w0 w' :=
  ⟨b.heap h.hV h.nV, own_step h.evs fun k hk => b.block k (h.evs.lt k hk).2 (h.nE k hk), fun (c : UInt8) (H : Nat) hm => ⟨b.heap (h.heads c H hm).1 (h.nH c H hm), (h.heads c H hm).2⟩, h.aw.trans b, h.bV, h.nV, h.nE, h.nH⟩
theorem VC.step (h : VC V Y M ev N0 hs w0 w) (b : Below w.heap.size w w') : VC V Y M ev N0 hs w0 w' := h.away (Away.of_below b)
theorem VC.evIs (h : VC V Y M ev N0 hs w0 w) : ∃ ao c, ev = .slice ao hs.length c := by
  rcases h.evs.2 with ⟨hv, h0⟩ | ⟨g, cap, cur, hv, _⟩
  · exact ⟨none, 0, by rw [hv, h0]⟩
  · exact ⟨_, _, hv⟩
theorem VC.c0 (h : VC V Y M ev N0 hs w0 w) : w.cell? ⟨V, 0, none⟩ = some ev := by rw [Lib.cell_of_heap h.hV]; rfl
theorem VC.evV (h : VC V Y M ev N0 hs w0 w) : ev.ownBlock ≠ some V := own_ne h.evs h.hV (by intro cs fr hc; injection hc with _ h2 _; exact absurd h2 (by decide))

theorem Away.grownRow {bs : List Nat} {b : World} {row : Option Nat} (h : Away bs b w) (hg : w.grownBy w' row) (hr : ∀ k, row = some k → k ∈ bs ∨ b.heap.size ≤ k) : Away bs b w' :=
  ⟨hg.os.trans h.os, hg.tape.trans h.tape, hg.output.trans h.output, Nat.le_trans h.size hg.size, fun k hk hb =>
    (hg.block k (Nat.lt_of_lt_of_le hk h.size) (fun e => by
      rcases hr k e.symm with h1 | h1
      · exact hb h1
      · omega)).trans (h.block k hk hb)⟩

theorem Prs.rowNe {e : Int} {free : Bool} {ls ln : Int} {es : Array MapEntry} {clk : Nat} {v : Value} {n : Nat} {xs : List Value} {T : TypeId} {size B : Nat} (h : Prs Y M tv toks pos line col e free ls ln es clk w) (hown : w.ownsRow B T size v n xs) (h1 : T ≠ 99) (h2 : T ≠ 111) :
    v.ownBlock ≠ some Y ∧ v.ownBlock ≠ some M ∧ ∀ k, v.ownBlock = some k → e = 0 → tv.ownBlock ≠ some k := by
  refine ⟨own_ne hown h.blk (by intro cs fr hc; injection hc with _ h3 _; exact h1 h3.symm), own_ne hown h.map (by intro cs fr hc; cases hc), fun k hk he => ?_⟩
  rcases hown.2 with ⟨rfl, _⟩ | ⟨g, cap, cur, rfl, _, hg, _⟩
  · simp [Value.ownBlock] at hk
  · obtain rfl : g = k := by simpa [Value.ownBlock] using hk
    exact own_ne (h.row he) hg (by intro cs fr hc; injection hc with _ h3 _; exact h2 h3)
theorem Prs.grown {e : Int} {free : Bool} {ls ln : Int} {es : Array MapEntry} {clk : Nat} {row : Option Nat} (h : Prs Y M tv toks pos line col e free ls ln es clk w) (hg : w.grownBy w' row) (hY : row ≠ some Y) (hM : row ≠ some M) (hT : ∀ k, row = some k → e = 0 → tv.ownBlock ≠ some k) : Prs Y M tv toks pos line col e free ls ln es clk w' :=
  ⟨(hg.block Y h.lt (fun e => hY e.symm)).trans h.blk, (hg.block M h.ltM (fun e => hM e.symm)).trans h.map, fun he => own_step (h.row he) fun k hk => hg.block k ((h.row he).lt k hk).2 (fun e' => hT k e'.symm he hk)⟩

/-- One event more: behind the append, and the store. -/
theorem VC.push (h : VC V Y M ev N0 hs w0 w) {ls ln : Int} {es : Array MapEntry} {clk : Nat} (hS : Prs Y M tv toks pos line col 0 false ls ln es clk w) {e : Option (UInt8 × Nat)} (he : ∀ (c : UInt8) (H : Nat), e = some (c, H) → w.heap[H]? = some (headObj c) ∧ w0.heap.size ≤ H ∧ H ∉ [Y, M])
    {g cap : Nat} (hg : w.grownBy w' ev.ownBlock) (hown : w'.ownsRow w0.heap.size 67 13 (.slice (some ⟨g, 0, none⟩) (hs.length + 1) cap) (hs.length + 1) (evRow N0 (hs ++ [e]))) (hat : ev.ownBlock = some g ∨ g = w.heap.size) :
    (VC V Y M (.slice (some ⟨g, 0, none⟩) (hs.length + 1) cap) N0 (hs ++ [e]) w0 (w'.setCell ⟨V, 0, none⟩ (.slice (some ⟨g, 0, none⟩) (hs.length + 1) cap)) ∧
      Prs Y M tv toks pos line col 0 false ls ln es clk (w'.setCell ⟨V, 0, none⟩ (.slice (some ⟨g, 0, none⟩) (hs.length + 1) cap))) ∧ w'.heap[V]? = some (.cells #[ev, .slice none 0 0] 60 (0, 0)) := by
  have hV' : w'.heap[V]? = some (.cells #[ev, .slice none 0 0] 60 (0, 0)) := (hg.block V h.lt (fun e => h.evV e.symm)).trans h.hV
  obtain ⟨r1, r2, r3⟩ := hS.rowNe h.evs (by decide) (by decide)
  have hP := hS.grown hg r1 r2 r3
  have n1 : (Value.slice (some ⟨g, 0, none⟩) (hs.length + 1) cap).ownBlock ≠ some V := own_ne hown hV' (by intro cs fr hc; injection hc with _ h2 _; exact absurd h2 (by decide))
  have hhead : ∀ (c : UInt8) (H : Nat), w.heap[H]? = some (headObj c) → (w'.setCell ⟨V, 0, none⟩ (.slice (some ⟨g, 0, none⟩) (hs.length + 1) cap)).heap[H]? = some (headObj c) := by
    intro c H hH
    have hne : ev.ownBlock ≠ some H := own_ne h.evs hH (by unfold headObj; intro cs fr hc; injection hc with _ h2 _; exact absurd h2 (by decide))
    have hnV : H ≠ V := by
      rintro rfl
      rw [h.hV] at hH
      injection hH with hH
      unfold headObj at hH
      injection hH with _ h2 _
      exact absurd h2 (by decide)
    exact (Below.heap_setCell _ _ _ _ hnV).trans ((hg.block H (Array.getElem?_eq_some_iff.1 hH).1 (fun e => hne e.symm)).trans hH)
  have hmem : ∀ (c : UInt8) (H : Nat), some (c, H) ∈ hs ++ [e] → w.heap[H]? = some (headObj c) ∧ w0.heap.size ≤ H ∧ H ∉ [Y, M] := by
    intro c H hm
    rcases List.mem_append.1 hm with hm | hm
    · exact ⟨(h.heads c H hm).1, (h.heads c H hm).2, h.nH c H hm⟩
    · exact he c H (List.mem_singleton.1 hm).symm
  have lY := hS.lt
  have lM := hS.ltM
  refine ⟨⟨⟨?_, ?_, fun (c : UInt8) (H : Nat) hm => ⟨hhead c H (hmem c H hm).1, (hmem c H hm).2.1⟩, (h.aw.grownRow hg fun k hk => .inr (h.evs.lt k hk).1).setCell (p := ⟨V, 0, none⟩) (.inr h.bV) _, h.bV, h.nV, fun k hk => ?_, fun c H hm => (hmem c H hm).2.2⟩, hP.elsewhere hV' (by decide) (by decide) 0 _⟩, hV'⟩
  · rw [Lib.heap_setCell_same hV']; rfl
  · rw [List.length_append]
    exact own_step hown fun k hk => Below.heap_setCell _ _ _ _ (fun e => n1 (by rw [hk, e]))
  · obtain rfl : g = k := by simpa [Value.ownBlock] using hk
    rcases hat with h1 | h1
    · exact h.nE g h1
    · simp; omega

theorem NoteAt.open_no (h : NoteAt toks pos k N n) {ls ln : Int} {es : Array MapEntry} {clk : Nat} (hS : Prs Y M tv toks pos line col 0 false ls ln es clk w) :
    Calls Tryz.prog 29 #[.pointer (some ⟨Y, 0, none⟩), .string ⟨#[40]⟩] w fun r w' => r = .returned (.bool false) ∧ Below w.heap.size w w' := by
  obtain ⟨⟨rfl, hI⟩ | ⟨rfl, t0, t1, t2, t3, h0, _, _, _, k0, _⟩, t, u1, u2, u3, ht, hk, hx, hr, -⟩ := h
  · refine is_ok hS ht _ ?_
    cases n with
    | none => exact tok_other (hr rfl) (by decide)
    | some c => exact tok_other (hx c rfl).1 (by intro e; exact absurd (congrArg ByteArray.size e) (by show ¬ (2 = 1); decide))
  · exact is_ok hS h0 _ (isTok_other k0 (by decide))

theorem NoteAt.begins (h : NoteAt toks pos k N n) {ls ln : Int} {es : Array MapEntry} {clk : Nat} (hS : Prs Y M tv toks pos line col 0 false ls ln es clk w) :
    Calls Tryz.prog 116 #[.pointer (some ⟨Y, 0, none⟩)] w fun r w' => r = .returned (.bool true) ∧ Below w.heap.size w w' := by
  obtain ⟨⟨rfl, hI⟩ | ⟨rfl, t0, t1, t2, t3, h0, _, _, _, k0, _⟩, t, u1, u2, u3, ht, hk, hx, hr, -⟩ := h
  · cases n with
    | none =>
      have hx := hr rfl
      exact begins_r hS ht (tok_other hx (by decide)) (tok_other hx (by decide)) (tok_other hx (by decide)) (by simp [IsTok, hk, hx, restS, s3])
    | some c =>
      obtain ⟨hx, hc⟩ := hx c rfl
      have hno : ∀ y : ByteArray, y.size ≠ 2 → IsTok t y = false := fun y hy => tok_other hx (by rintro rfl; exact hy rfl)
      exact begins_yes hS ht ⟨hno _ (by decide), hno _ (by decide), hno _ (by decide), hno _ (by decide), hno _ (by decide), hno _ (by decide)⟩ hk c hx hc
  · exact begins_at hS h0 k0

theorem NoteAt.runs (h : NoteAt toks pos k N n) (hS : Prs Y M tv toks pos line col 0 false 0 N (esOf N) (clkOf N) w) (hpos : pos + k ≤ 900000) (hN : N ≤ 100000) :
    Calls Tryz.prog 117 #[.pointer (some ⟨Y, 0, none⟩)] w fun r w' => ∃ e : Option (UInt8 × Nat), e.map (·.1) = n ∧ r = .returned (.agg (evVals ((N : Int) + 1) (e.map (·.2))).toArray) ∧ (∀ c H, e = some (c, H) → w'.heap[H]? = some (headObj c) ∧ w.heap.size ≤ H) ∧
      Prs Y M tv toks (pos + k + 3) line col 0 false 0 (N + 1 : Nat) (esOf (N + 1)) (clkOf (N + 1)) w' ∧ Away [Y, M] w w' := by
  obtain ⟨hI, t, t1, t2, t3, ht, hk, hx, hr, h1, k1, x1, h2, k2, x2, h3, s3⟩ := h
  cases n with
  | none =>
    refine (event_rest hI hS hpos hN ht hk (hr rfl) h1 k1 x1 h2 k2 x2 h3 s3).mono fun r w' hh => ?_
    exact ⟨none, rfl, hh.1, (by intro c H e; cases e), hh.2⟩
  | some c =>
    obtain ⟨hx, hc⟩ := hx c rfl
    refine (event_note hI hS hpos hN ht hk hx hc h1 k1 x1 h2 k2 x2 h3 s3).mono fun r w' hh => ?_
    obtain ⟨H, e1, e2, e3, e4⟩ := hh
    refine ⟨some (c, H), rfl, e1, fun c' H' e => ?_, e4⟩
    injection e with e
    injection e with ea eb
    subst ea eb
    exact ⟨e2, e3⟩
end
end Go.Proofs.YtjnkppneilmpbaaGreatDoor

namespace Go.Proofs.YtjnkppneilmpbaaGreatDoor
open Go.RowKit

def EvIs (N : Nat) (i : Int) (e : Option Nat) (kq : Int) (ao : Option Addr) (l : Nat) : Prop :=
  i = (N : Int) + 1 ∧ evVals ((N : Int) + 1) e = [.int .i64 0, .int .i64 i, .int .i64 kq, .int .i64 2, .int .i64 0, .slice ao l l, .slice none 0 0, .int .i64 0, .int .i64 0, .int .i64 0, .slice none 0 0, .int .i64 0, .int .i64 0]
theorem evIs_all (N : Nat) (e : Option Nat) : ∃ kq ao l, EvIs N ((N : Int) + 1) e kq ao l := by
  cases e with
  | none => exact ⟨_, _, _, rfl, rfl⟩
  | some H => exact ⟨_, _, _, rfl, rfl⟩

/-- Events lie one behind the other. -/
inductive Notes (toks : List Tok) : Nat → Nat → List (Option UInt8) → Nat → Prop
  | nil (pos N : Nat) : Notes toks pos N [] pos
  | cons {pos k N : Nat} {n : Option UInt8} {l : List (Option UInt8)} {pos' : Nat} (hn : NoteAt toks pos k N n) (hpos : pos + k ≤ 900000) (hN : N ≤ 100000) (h : Notes toks (pos + k + 3) (N + 1) l pos') : Notes toks pos N (n :: l) pos'

/-- Voice reads no further. -/
def VStop (t : Tok) : Prop := t.kind ≠ 1 ∧ IsTok t ⟨#[40]⟩ = false ∧ NoSix t

section
variable {V Y M : Nat} {tv : Value} {toks : List Tok} {pos k N N0 : Nat} {line col : Int} {ev : Value} {hs : List (Option (UInt8 × Nat))} {w0 w w' : World} {n : Option UInt8}

theorem NoteAt.runs' (h : NoteAt toks pos k N n) (hS : Prs Y M tv toks pos line col 0 false 0 N (esOf N) (clkOf N) w) (hpos : pos + k ≤ 900000) (hN : N ≤ 100000) :
    Calls Tryz.prog 117 #[.pointer (some ⟨Y, 0, none⟩)] w fun r w' => ∃ (e : Option (UInt8 × Nat)) (idv kq : Int) (ao : Option Addr) (l : Nat), EvIs N idv (e.map (·.2)) kq ao l ∧ e.map (·.1) = n ∧
      r = .returned (.agg #[.int .i64 0, .int .i64 idv, .int .i64 kq, .int .i64 2, .int .i64 0, .slice ao l l, .slice none 0 0, .int .i64 0, .int .i64 0, .int .i64 0, .slice none 0 0, .int .i64 0, .int .i64 0]) ∧
      (∀ (c : UInt8) (H : Nat), e = some (c, H) → w'.heap[H]? = some (headObj c) ∧ w.heap.size ≤ H) ∧
      Prs Y M tv toks (pos + k + 3) line col 0 false 0 (N + 1 : Nat) (esOf (N + 1)) (clkOf (N + 1)) w' ∧ Away [Y, M] w w' := by
  refine (h.runs hS hpos hN).mono fun r w' hh => ?_
  obtain ⟨e, h1, h2, h3⟩ := hh
  obtain ⟨kq, ao, l, hq⟩ := evIs_all N (e.map (·.2))
  refine ⟨e, _, kq, ao, l, hq, h1, ?_, h3⟩
  rw [h2, hq.2]

theorem alloc_hat {w : World} {o : Obj} {g : Nat} {x : Prop} (h : x ∨ g = w.heap.size + 1) : x ∨ g = (w.alloc o).heap.size := by
  rcases h with h | h
  · exact .inl h
  · exact .inr (h.trans (Array.size_push (xs := w.heap) o).symm)

theorem headAll {w3 w5 : World} {o : Obj} {Y M : Nat} {e : Option (UInt8 × Nat)} (h : ∀ (c : UInt8) (H : Nat), e = some (c, H) → w5.heap[H]? = some (headObj c) ∧ w3.heap.size ≤ H) (hs : w0.heap.size ≤ w3.heap.size) (lY : Y < w3.heap.size) (lM : M < w3.heap.size) :
    ∀ (c : UInt8) (H : Nat), e = some (c, H) → (w5.alloc o).heap[H]? = some (headObj c) ∧ w0.heap.size ≤ H ∧ H ∉ [Y, M] := fun c H he =>
  ⟨(Away.of_below (bs := []) ((Below.refl _ w5).alloc (Nat.le_refl _) o)).heap (h c H he).1 (by simp), Nat.le_trans hs (h c H he).2, by have := (h c H he).2; simp; omega⟩

theorem rowAll {e : Option (UInt8 × Nat)} {v : Value} {m : Nat} {idv kq : Int} {ao : Option Addr} {l : Nat} (hq : EvIs (N0 + hs.length) idv (e.map (·.2)) kq ao l)
    (h : w.ownsRow w0.heap.size 67 13 v m (evRow N0 hs ++ [.int .i64 0, .int .i64 idv, .int .i64 kq, .int .i64 2, .int .i64 0, .slice ao l l, .slice none 0 0, .int .i64 0, .int .i64 0, .int .i64 0, .slice none 0 0, .int .i64 0, .int .i64 0])) : w.ownsRow w0.heap.size 67 13 v m (evRow N0 (hs ++ [e])) := by
  rw [evRow_more, hq.2]
  exact h

/-- Behind the voice. -/
def VEnd (V Y M : Nat) (tv : Value) (toks : List Tok) (pos N0 : Nat) (line col : Int) (ns : List (Option UInt8)) (w0 w : World) : Prop :=
  ∃ ev hs, hs.map (·.map (·.1)) = ns ∧ VC V Y M ev N0 hs w0 w ∧ Prs Y M tv toks pos line col 0 false 0 (N0 + ns.length : Nat) (esOf (N0 + ns.length)) (clkOf (N0 + ns.length)) w

set_option maxHeartbeats 32000000 in
set_option maxRecDepth 100000 in
theorem voice_walk {ns : List (Option UInt8)} {pos' : Nat} (hn : ns.length ≤ 100000) (hi : Notes toks pos N0 ns pos') {t : Tok} (ht : toks[pos']? = some t) (hs : VStop t)
    (hV : VC V Y M (.slice none 0 0) N0 [] w0 w) (h : Prs Y M tv toks pos line col 0 false 0 N0 (esOf N0) (clkOf N0) w) :
    Calls Tryz.prog 90 #[.pointer (some ⟨Y, 0, none⟩), .pointer (some ⟨V, 0, none⟩), .int .i64 0] w fun r w' => r = .returned (.tuple #[]) ∧ VEnd V Y M tv toks pos' N0 line col ns w0 w' := by
  go_enter Tryz.func90, Tryz.ntmps90
  go_wp2
  go_loopg [6] (ns.length + 1) (fun g v wr => ∃ (j pos1 : Nat) (l : List (Option UInt8)) (ev : Value) (hs : List (Option (UInt8 × Nat))), j = hs.length ∧ j ≤ ns.length ∧ g = ns.length + 1 - j ∧ v = .int .i64 (j : Nat) ∧ hs.map (·.map (·.1)) ++ l = ns ∧ Notes toks pos1 (N0 + j) l pos' ∧ VC V Y M ev N0 hs w0 wr ∧ Prs Y M tv toks pos1 line col 0 false 0 (N0 + j : Nat) (esOf (N0 + j)) (clkOf (N0 + j)) wr)
  case atStart => exact ⟨0, pos, ns, _, [], rfl, Nat.zero_le _, rfl, rfl, rfl, hi, hV, h⟩
  case round =>
    obtain ⟨j, pos1, l, ev, hs1, rfl, hj, hg, rfl, hl, hi1, hC1, h1⟩ := hrel
    clear h hi hV
    have c4 := h1.c4
    cases hi1 with
    | nil =>
      have xa := is_ok h1 ht ⟨#[40]⟩ hs.2.1
      go_wp2_with (go_at_call 29; refine xa.mono ?_)
      intro r w2; first | (intro he b2; subst he) | rintro ⟨rfl, b2⟩
      have h2 := h1.step b2
      have xb := begins_no h2 ht hs.2.2 hs.1
      go_wp2_with (go_at_call 116; refine xb.mono ?_)
      intro r w3; first | (intro he b3; subst he) | rintro ⟨rfl, b3⟩
      have h3 := h2.step b3
      have hle : ¬ (hs1.length : Int) < (0 : Int) := by omega
      go_wp2
      refine bodyPost_ret (results_none rfl _ _ _) rfl ?_
      have hl' : hs1.map (·.map (·.1)) = ns := by rw [← hl, List.append_nil]
      have hjn : hs1.length = ns.length := by rw [← hl', List.length_map]
      rw [hjn] at h3
      exact ⟨rfl, ev, hs1, hl', (hC1.step b2).step b3, h3⟩
    | @cons _ k _ n l _ hev hpos hN hi2 =>
      have xa := hev.open_no h1
      go_wp2_with (go_at_call 29; refine xa.mono ?_)
      intro r w2; first | (intro he b2; subst he) | rintro ⟨rfl, b2⟩
      have h2 := h1.step b2
      have hC2 := hC1.step b2
      have xb := hev.begins h2
      clear xa h1 hC1 b2 c4
      go_wp2_with (go_at_call 116; refine xb.mono ?_)
      intro r w3; first | (intro he b3; subst he) | rintro ⟨rfl, b3⟩
      have h3 := (h2.step b3).step (Below.refl _ w3).drew
      have hC3 := (hC2.step b3).step (Below.refl _ w3).drew
      clear xb h2 hC2 b3
      obtain ⟨ao, cp, rfl⟩ := hC3.evIs
      have xe := hev.runs' h3 hpos hN
      have c0 := hC3.c0
      have lV3 := hC3.lt
      obtain ⟨i0, hi0, hz0, hz1, hz2⟩ := info_parts Tryz.infoEvent
      have hlen : hs1.length ≤ 100000 := by omega
      have hll : ns.length = hs1.length + 1 + l.length := by rw [← hl]; simp; omega
      go_wp2
      go_region_law ((first
        | (go_simp; go_at_call 117; refine xe.mono ?_; rintro r w5 ⟨e5, idv, kq, bo, bl, hq5, hn5, rfl, hh5, hS5, ha5⟩; have hC5 := hC3.away ha5; have own5 := hC5.evs; have lV5 := hC5.lt; have c0 := hC5.c0; have n0 := World.new_ne w5 _ c0)
        | (refine step_append_lies _ (by rfl) _ _ _ (by rfl) w0.heap.size 67 i0 _ 13 152 Tryz.underlying57 hi0 hz0 hz1 hz2 rfl (by omega) (.slice ao hs1.length cp) hs1.length (evRow N0 hs1) (by rfl) (World.ownsRow.alloc own5 _) ⟨w5.heap.size, 0, none⟩ 1 1 [.int .i64 0, .int .i64 idv, .int .i64 kq, .int .i64 2, .int .i64 0, .slice bo bl bl, .slice none 0 0, .int .i64 0, .int .i64 0, .int .i64 0, .slice none 0 0, .int .i64 0, .int .i64 0] (by rfl) (by rfl) (World.news_of_block (cs := #[.int .i64 0, .int .i64 idv, .int .i64 kq, .int .i64 2, .int .i64 0, .slice bo bl bl, .slice none 0 0, .int .i64 0, .int .i64 0, .int .i64 0, .slice none 0 0, .int .i64 0, .int .i64 0]) (t := 67) (fr := (0, 0)) (heap_alloc_new _ _)) (by simp [Value.oneCell']) (by omega) (by simp only [maxLen]; omega) (by omega) (by simp; have := hC5.aw.size; omega) (w5.heap.size + 1) (by simp) ?_; intro gg cap w7 hown1 hgrow hat hgl; obtain ⟨⟨hC7, hS7⟩, hV7⟩ := (hC5.step ((Below.refl _ w5).alloc (Nat.le_refl _) (.cells #[.int .i64 0, .int .i64 idv, .int .i64 kq, .int .i64 2, .int .i64 0, .slice bo bl bl, .slice none 0 0, .int .i64 0, .int .i64 0, .int .i64 0, .slice none 0 0, .int .i64 0, .int .i64 0] 67))).push (hS5.step ((Below.refl _ w5).alloc (Nat.le_refl _) (.cells #[.int .i64 0, .int .i64 idv, .int .i64 kq, .int .i64 2, .int .i64 0, .slice bo bl bl, .slice none 0 0, .int .i64 0, .int .i64 0, .int .i64 0, .slice none 0 0, .int .i64 0, .int .i64 0] 67))) (headAll hh5 hC3.aw.size h3.lt h3.ltM) hgrow (rowAll hq5 hown1) (alloc_hat hat); have c0 := Lib.cell_of_heap hV7 0; have g0 := Lib.frozen_of_heap hV7 0; simp only [List.getElem?_toArray, List.getElem?_cons_zero] at c0)))
      all_goals go_wp2
      all_goals go_roundg (ns.length + 1 - (hs1.length + 1))
      all_goals first
        | omega
        | exact ⟨hs1.length + 1, _, l, _, hs1 ++ [e5], by simp, by omega, rfl, by simp, by rw [← hl]; simp [hn5], hi2, hC7, hS7⟩
end
end Go.Proofs.YtjnkppneilmpbaaGreatDoor

namespace Go.Proofs.YtjnkppneilmpbaaGreatDoor
open Go.RowKit

/-- Blocks of certain types are as they were. -/
def Same (Ts : List TypeId) (w w' : World) : Prop := ∀ (k : Nat) (cs : Array Value) (T : TypeId) (fr : Nat × Nat), T ∈ Ts → w.heap[k]? = some (.cells cs T fr) → w'.heap[k]? = some (.cells cs T fr)

section
variable {Ts : List TypeId} {w w' w'' : World} {Y M B U size n : Nat} {tv v : Value} {toks : List Tok} {pos : Nat} {line col e : Int} {free : Bool} {ls ln : Int} {es : Array MapEntry} {clk : Nat} {xs : List Value}
theorem Same.refl (Ts : List TypeId) (w : World) : Same Ts w w := fun _ _ _ _ _ h => h
theorem Same.trans (h : Same Ts w w') (k : Same Ts w' w'') : Same Ts w w'' := fun a b c d e f => k a b c d e (h a b c d e f)
theorem Same.less {Us : List TypeId} (h : Same Ts w w') (hs : ∀ T ∈ Us, T ∈ Ts) : Same Us w w' := fun a b c d e f => h a b c d (hs _ e) f
theorem Same.own (h : Same Ts w w') (hT : U ∈ Ts) (o : w.ownsRow B U size v n xs) : w'.ownsRow B U size v n xs := by
  refine ⟨o.1, ?_⟩
  rcases o.2 with hn | ⟨g, cap, cur, hv, hb, hg, rest⟩
  · exact .inl hn
  · exact .inr ⟨g, cap, cur, hv, hb, h _ _ _ _ hT hg, rest⟩
theorem Same.of_below (b : Below w.heap.size w w') : Same Ts w w' := fun k _ _ _ _ h => (b.block k (Array.getElem?_eq_some_iff.1 h).1).trans h
theorem Same.of_away (hS : Prs Y M tv toks pos line col e free ls ln es clk w) (ha : Away [Y, M] w w') (hT : 99 ∉ Ts) : Same Ts w w' := fun k cs T fr hm h => by
  refine ha.heap h ?_
  intro hk
  rcases List.mem_cons.1 hk with rfl | hk
  · rw [hS.blk] at h
    injection h with h
    injection h with _ h2 _
    exact hT (h2 ▸ hm)
  · obtain rfl := List.mem_singleton.1 hk
    rw [hS.map] at h
    cases h
theorem Same.of_set {k i : Nat} {cs : Array Value} {fr : Nat × Nat} {u : Value} (hk : w.heap[k]? = some (.cells cs U fr)) (hU : U ∉ Ts) : Same Ts w (w.setCell ⟨k, i, none⟩ u) := fun j cs' T fr' hm h => by
  have hne : j ≠ k := by
    rintro rfl
    rw [hk] at h
    injection h with h
    injection h with _ h2 _
    exact hU (h2 ▸ hm)
  exact (Below.heap_setCell w ⟨k, i, none⟩ u j hne).trans h
theorem Same.of_grown (hg : w.grownBy w' v.ownBlock) (o : w.ownsRow B U size v n xs) (hU : U ∉ Ts) : Same Ts w w' := fun j cs T fr hm h =>
  (hg.block j (Array.getElem?_eq_some_iff.1 h).1 (fun e => own_ne o h (by intro cs' fr' hc; injection hc with _ h2 _; exact hU (h2 ▸ hm)) e.symm)).trans h
end

/-- A list of voices lies in memory: one voice with its events, or no voice. -/
def CellIs (w : World) (N0 : Nat) (ns : List (Option UInt8)) (vs : Value) : Prop :=
  (ns = [] ∧ vs = .slice none 0 0) ∨
  (ns ≠ [] ∧ ∃ ev hs, hs.map (·.map (·.1)) = ns ∧ w.ownsRow 0 60 2 vs 1 [ev, .slice none 0 0] ∧ w.ownsRow 0 67 13 ev hs.length (evRow N0 hs) ∧ ∀ (c : UInt8) (H : Nat), some (c, H) ∈ hs → w.heap[H]? = some (headObj c))
theorem CellIs.same {w w' : World} {N0 : Nat} {ns : List (Option UInt8)} {vs : Value} (h : CellIs w N0 ns vs) (s : Same [60, 67, 71] w w') : CellIs w' N0 ns vs := by
  rcases h with h | ⟨h0, ev, hs, h1, h2, h3, h4⟩
  · exact .inl h
  · exact .inr ⟨h0, ev, hs, h1, s.own (by simp) h2, s.own (by simp) h3, fun c H hm => s _ _ _ _ (by simp) (h4 c H hm)⟩

theorem Tryz.sizeCell : (Tryz.prog.info? 75).map (·.size) = some 2 := by kernel_rfl
def clefS : ByteArray := ⟨#[99, 108, 101, 102]⟩
def semiS : ByteArray := ⟨#[59]⟩
def zVoice : Obj := .cells #[.slice none 0 0, .slice none 0 0] 60 (0, 0)
def zCell : Obj := .cells #[.slice none 0 0, .slice none 0 0] 75 (0, 0)

section
variable {Y M : Nat} {tv : Value} {toks : List Tok} {pos pos' N0 : Nat} {line col : Int} {w : World}

set_option maxHeartbeats 16000000 in
set_option maxRecDepth 100000 in
theorem cell_walk {ns : List (Option UInt8)} (hn : ns.length ≤ 100000) (hi : Notes toks pos N0 ns pos') {t0 t : Tok} (ht0 : toks[pos]? = some t0) (hc : IsTok t0 clefS = false) (ht : toks[pos']? = some t) (hs : VStop t) (hsemi : IsTok t semiS = false)
    (h : Prs Y M tv toks pos line col 0 false 0 N0 (esOf N0) (clkOf N0) w) :
    Calls Tryz.prog 54 #[.pointer (some ⟨Y, 0, none⟩)] w fun r w' => ∃ vs, r = .returned (.agg #[.slice none 0 0, vs]) ∧ CellIs w' N0 ns vs ∧
      Prs Y M tv toks pos' line col 0 false 0 (N0 + ns.length : Nat) (esOf (N0 + ns.length)) (clkOf (N0 + ns.length)) w' ∧ Away [Y, M] w w' := by
  have lY := h.lt
  have lM := h.ltM
  have b0 := ((Below.refl w.heap.size w).alloc (Nat.le_refl _) zCell).alloc (by simp) zCell
  have h0 := h.step b0
  have hR0 : ((w.alloc zCell).alloc zCell).heap[w.heap.size]? = some zCell := (Lib.alloc_old _ _ _ (by simp)).trans (heap_alloc_new w _)
  have hX0 : ((w.alloc zCell).alloc zCell).heap[w.heap.size + 1]? = some zCell := by
    have := heap_alloc_new (w.alloc zCell) zCell
    simpa using this
  have x0 := accept_no h0 ht0 clefS hc
  go_enter Tryz.func54, Tryz.ntmps54
  go_wp2
  go_loopg [] 0 (fun g wr => wr = (w.alloc zCell).alloc zCell)
  case atStart => rfl
  case round =>
    obtain rfl := hrel
    go_wp2_with (go_at_call 27; refine x0.mono ?_)
    intro r w1; first | (intro he b1; subst he) | rintro ⟨rfl, b1⟩
    have h1 := h0.step b1
    have bs := b0.trans (b1.mono b0.size)
    have hR1 := (b1.block w.heap.size (Array.getElem?_eq_some_iff.1 hR0).1).trans hR0
    have hX1 := (b1.block (w.heap.size + 1) (Array.getElem?_eq_some_iff.1 hX0).1).trans hX0
    clear x0 h0 b1 hR0 hX0 b0 h
    have lX0 : w.heap.size < w.heap.size + 1 := Nat.lt_succ_self _
    generalize w.heap.size + 1 = X at hX1 lX0 ⊢
    have lY1 := h1.lt
    have lM1 := h1.ltM
    have bz := (Below.refl w1.heap.size w1).alloc (Nat.le_refl _) zVoice
    have h2 := h1.step bz
    have V2 : VC w1.heap.size Y M (.slice none 0 0) N0 [] w1 (w1.alloc zVoice) :=
      ⟨heap_alloc_new w1 _, World.ownsRow_nil _ _ _ _, fun c H hm => absurd hm List.not_mem_nil, Away.of_below bz, Nat.le_refl _, (by simp; omega), (fun k hk => by simp [Value.ownBlock] at hk), fun c H hm => absurd hm List.not_mem_nil⟩
    have xv := voice_walk hn hi ht hs V2 h2
    go_wp2_with (go_at_call 90; refine xv.mono ?_)
    clear xv h2 V2
    rintro r w3 ⟨rfl, ev, hs3, hl3, hC3, hS3⟩
    have hR3 := hC3.aw.heap hR1 (by simp; omega)
    have hX3 := hC3.aw.heap hX1 (by simp; omega)
    have lX := (Array.getElem?_eq_some_iff.1 hX1).1
    have c0 := hC3.c0
    have lV := hC3.lt
    obtain ⟨ao, cp, rfl⟩ := hC3.evIs
    have hlen : hs3.length = ns.length := by rw [← hl3, List.length_map]
    have aw3 : Away [Y, M] w w3 := (Away.of_below bs).trans hC3.aw
    cases ns with
    | nil =>
      have hl0 : hs3.length = 0 := hlen
      rw [hl0] at c0
      have xs := is_ok hS3 ht semiS hsemi
      go_wp2_with (go_at_call 29; refine xs.mono ?_)
      intro r w4; first | (intro he b4; subst he) | rintro ⟨rfl, b4⟩
      have hR4 := (b4.block w.heap.size (Array.getElem?_eq_some_iff.1 hR3).1).trans hR3
      have hX4 := (b4.block X (Array.getElem?_eq_some_iff.1 hX3).1).trans hX3
      have hS4 := hS3.step b4
      have aw4 := aw3.trans (Away.of_below b4)
      clear c0 hC3 hR3 hX3 hS3 b4 xs hR1 hX1 aw3 bs bz
      unfold zCell at hR4 hX4
      have d0 : w4.cell? ⟨w.heap.size, 0, none⟩ = some (.slice none 0 0) := by rw [Lib.cell_of_heap hR4]; rfl
      have d1 : w4.cell? ⟨w.heap.size, 1, none⟩ = some (.slice none 0 0) := by rw [Lib.cell_of_heap hR4]; rfl
      have f0 := Lib.frozen_of_heap hR4 0
      have f1 := Lib.frozen_of_heap hR4 1
      have e0 : w4.cell? ⟨X, 0, none⟩ = some (.slice none 0 0) := by rw [Lib.cell_of_heap hX4]; rfl
      have e1 : w4.cell? ⟨X, 1, none⟩ = some (.slice none 0 0) := by rw [Lib.cell_of_heap hX4]; rfl
      have hSf := (hS4.elsewhere hR4 (by decide) (by decide) 0 (.slice none 0 0)).elsewhere (Lib.heap_setCell_same hR4 _) (by decide) (by decide) 1 (.slice none 0 0)
      have hRf := Lib.heap_setCell_same (i := 1) (Lib.heap_setCell_same (i := 0) hR4 (.slice none 0 0)) (.slice none 0 0)
      have awf := (aw4.setCell (p := ⟨w.heap.size, 0, none⟩) (.inr (Nat.le_refl _)) (.slice none 0 0)).setCell (p := ⟨w.heap.size, 1, none⟩) (.inr (Nat.le_refl _)) (.slice none 0 0)
      clear hS4 aw4
      go_wp2
      refine bodyPost_ret (results_cell_row rfl _ _ w.heap.size 75 _ (0, 0) _ rfl hRf Tryz.underlying75 rfl Tryz.sizeCell) rfl ?_
      exact ⟨_, rfl, .inl ⟨rfl, rfl⟩, hSf, awf⟩
    | cons n ns =>
      have hne : hs3.length ≠ 0 := by rw [hlen]; simp
      have c1 : w3.cell? ⟨w1.heap.size, 1, none⟩ = some (.slice none 0 0) := by rw [Lib.cell_of_heap hC3.hV]; rfl
      have hX3' := hX3
      unfold zCell at hX3'
      have e0 : w3.cell? ⟨X, 0, none⟩ = some (.slice none 0 0) := by rw [Lib.cell_of_heap hX3']; rfl
      have e1 : w3.cell? ⟨X, 1, none⟩ = some (.slice none 0 0) := by rw [Lib.cell_of_heap hX3']; rfl
      have g0 := Lib.frozen_of_heap hX3' 0
      have g1 := Lib.frozen_of_heap hX3' 1
      have n1 := World.new_ne w3 _ e1
      have lX3 := (Array.getElem?_eq_some_iff.1 hX3).1
      go_wp2
      have hX4 := Lib.heap_setCell_same (i := 1) hX3' (.slice (some ⟨w3.heap.size, 0, none⟩) 1 1)
      have hR4 := (Below.heap_setCell w3 ⟨X, 1, none⟩ (.slice (some ⟨w3.heap.size, 0, none⟩) 1 1) w.heap.size (Nat.ne_of_lt lX0)).trans hR3
      have hS4 := hS3.elsewhere hX3' (by decide) (by decide) 1 (.slice (some ⟨w3.heap.size, 0, none⟩) 1 1)
      have aw4 := aw3.setCell (p := ⟨X, 1, none⟩) (.inr (Nat.le_of_lt lX0)) (.slice (some ⟨w3.heap.size, 0, none⟩) 1 1)
      have sm : Same [60, 67, 71] w3 (w3.setCell ⟨X, 1, none⟩ (.slice (some ⟨w3.heap.size, 0, none⟩) 1 1)) := Same.of_set hX3' (by decide)
      have evs4 := sm.own (by simp) (hC3.evs.mono (base' := 0) (Nat.zero_le _))
      have heads4 := fun (c : UInt8) (H : Nat) (hm : some (c, H) ∈ hs3) => sm _ _ _ _ (by simp) (hC3.heads c H hm).1
      have hz : (w3.setCell ⟨X, 1, none⟩ (.slice (some ⟨w3.heap.size, 0, none⟩) 1 1)).heap.size = w3.heap.size := by simp
      generalize hve : w3.heap.size = E at hX4 hR4 hS4 aw4 sm evs4 heads4 hz ⊢
      generalize hwe : w3.setCell ⟨X, 1, none⟩ (.slice (some ⟨E, 0, none⟩) 1 1) = w4 at hX4 hR4 hS4 aw4 sm evs4 heads4 hz ⊢
      rw [hlen, List.length_cons] at evs4
      have hlit : (w4.alloc (.cells #[.slice ao (ns.length + 1) cp, .slice none 0 0] 60)).ownsRow 0 60 2 (.slice (some ⟨w4.heap.size, 0, none⟩) 1 1) 1 [.slice ao (ns.length + 1) cp, .slice none 0 0] := World.ownsRow_lit w4 _ 1 (Nat.zero_le _) (by decide) rfl
      rw [hz] at hlit
      have cell5 : CellIs (w4.alloc (.cells #[.slice ao (ns.length + 1) cp, .slice none 0 0] 60)) N0 (n :: ns) (.slice (some ⟨E, 0, none⟩) 1 1) :=
        .inr ⟨by simp, _, hs3, hl3, hlit, by rw [hlen]; exact evs4.alloc _, fun c H hm => (Lib.alloc_old w4 _ _ (Array.getElem?_eq_some_iff.1 (heads4 c H hm)).1).trans (heads4 c H hm)⟩
      have hS5 := hS4.step ((Below.refl _ w4).alloc (Nat.le_refl _) (.cells #[.slice ao (ns.length + 1) cp, .slice none 0 0] 60))
      have aw5 := aw4.alloc (.cells #[.slice ao (ns.length + 1) cp, .slice none 0 0] 60)
      have hR5 := (Lib.alloc_old w4 (.cells #[.slice ao (ns.length + 1) cp, .slice none 0 0] 60) _ (Array.getElem?_eq_some_iff.1 hR4).1).trans hR4
      have hX5 : (w4.alloc (.cells #[.slice ao (ns.length + 1) cp, .slice none 0 0] 60)).heap[X]? = some (.cells #[.slice none 0 0, .slice (some ⟨E, 0, none⟩) 1 1] 75 (0, 0)) := (Lib.alloc_old w4 (.cells #[.slice ao (ns.length + 1) cp, .slice none 0 0] 60) _ (Array.getElem?_eq_some_iff.1 hX4).1).trans hX4
      clear evs4 heads4 hlit hC3 hS3 aw3 hR3 hX3 hX3' bs bz hR1 hX1 h1 c0 c1 e0 e1 g0 g1 lV hX4 hR4 hS4 aw4 sm hwe
      generalize w4.alloc (.cells #[.slice ao (ns.length + 1) cp, .slice none 0 0] 60) = w5 at hX5 hR5 hS5 aw5 cell5 ⊢
      clear hz w4
      go_loopg [] 0 (fun g wr => wr = w5)
      case atStart => rfl
      case round =>
        obtain rfl := hrel
        have x6 := accept_no hS5 ht semiS hsemi
        go_wp2_with (go_at_call 27; refine x6.mono ?_)
        intro r w6; first | (intro he b6; subst he) | rintro ⟨rfl, b6⟩
        have hS6 := hS5.step b6
        have hR6 := (b6.block w.heap.size (Array.getElem?_eq_some_iff.1 hR5).1).trans hR5
        have hX6 := (b6.block X (Array.getElem?_eq_some_iff.1 hX5).1).trans hX5
        have aw6 := aw5.trans (Away.of_below b6)
        have cell6 := cell5.same (Same.of_below b6)
        clear x6 b6 hS5 hR5 hX5 aw5 cell5
        unfold zCell at hR6
        have d0 : w6.cell? ⟨w.heap.size, 0, none⟩ = some (.slice none 0 0) := by rw [Lib.cell_of_heap hR6]; rfl
        have d1 : w6.cell? ⟨w.heap.size, 1, none⟩ = some (.slice none 0 0) := by rw [Lib.cell_of_heap hR6]; rfl
        have f0 := Lib.frozen_of_heap hR6 0
        have f1 := Lib.frozen_of_heap hR6 1
        have e0 : w6.cell? ⟨X, 0, none⟩ = some (.slice none 0 0) := by rw [Lib.cell_of_heap hX6]; rfl
        have e1 : w6.cell? ⟨X, 1, none⟩ = some (.slice (some ⟨E, 0, none⟩) 1 1) := by rw [Lib.cell_of_heap hX6]; rfl
        have hSf := (hS6.elsewhere hR6 (by decide) (by decide) 0 (.slice none 0 0)).elsewhere (Lib.heap_setCell_same hR6 _) (by decide) (by decide) 1 (.slice (some ⟨E, 0, none⟩) 1 1)
        have hRf := Lib.heap_setCell_same (i := 1) (Lib.heap_setCell_same (i := 0) hR6 (.slice none 0 0)) (.slice (some ⟨E, 0, none⟩) 1 1)
        have awf := (aw6.setCell (p := ⟨w.heap.size, 0, none⟩) (.inr (Nat.le_refl _)) (.slice none 0 0)).setCell (p := ⟨w.heap.size, 1, none⟩) (.inr (Nat.le_refl _)) (.slice (some ⟨E, 0, none⟩) 1 1)
        have cellf := (cell6.same (Same.of_set (i := 0) (u := .slice none 0 0) hR6 (by decide))).same (Same.of_set (i := 1) (u := .slice (some ⟨E, 0, none⟩) 1 1) (Lib.heap_setCell_same (i := 0) hR6 (.slice none 0 0)) (by decide))
        clear hS6 aw6 cell6
        go_wp2
        refine bodyPost_ret (results_cell_row rfl _ _ w.heap.size 75 _ (0, 0) _ rfl hRf Tryz.underlying75 rfl Tryz.sizeCell) rfl ?_
        exact ⟨_, rfl, cellf, hSf, awf⟩
end
end Go.Proofs.YtjnkppneilmpbaaGreatDoor

namespace Go.Proofs.YtjnkppneilmpbaaGreatDoor
open Go.RowKit

def minusS : ByteArray := ⟨#[45]⟩

section
variable {Y M : Nat} {tv : Value} {toks : List Tok} {pos : Nat} {line col e : Int} {free : Bool} {ls ln : Int} {es : Array MapEntry} {clk : Nat} {w : World} {t : Tok}

set_option maxHeartbeats 8000000 in
set_option maxRecDepth 100000 in
theorem integer_ok (h : Prs Y M tv toks pos line col 0 free ls ln es clk w) (ht : toks[pos]? = some t) (hk : t.kind = 2) (hm : IsTok t minusS = false) (hpos : pos ≤ 1048576) (hi : Int) (hlo : 0 ≤ t.value) (hhi : t.value ≤ hi) :
    Calls Tryz.prog 51 #[.pointer (some ⟨Y, 0, none⟩), .int .i64 hi] w fun r w' => r = .returned (.int .i64 t.value) ∧ Prs Y M tv toks (pos + 1) line col 0 free ls ln es clk w' ∧ Away [Y] w w' := by
  have xa := accept_no h ht minusS hm
  go_enter Tryz.func51, Tryz.ntmps51
  go_wp2_with (go_at_call 27; refine xa.mono ?_)
  intro r w1; first | (intro he b1; subst he) | rintro ⟨rfl, b1⟩
  have h1 := h.step b1
  have xn := number_ok h1 ht hk hpos 0 hi hlo hhi
  clear xa h
  go_wp2_with (go_at_call 50; refine xn.mono ?_)
  intro r w2; first | (intro he h2 b2; subst he) | rintro ⟨rfl, h2, b2⟩
  go_wp2
  go_ret
  exact ⟨rfl, h2, (Away.of_below b1).trans b2⟩

set_option maxHeartbeats 8000000 in
set_option maxRecDepth 100000 in
theorem key_run (h : Prs Y M tv toks pos line col 0 free ls ln es clk w) (ht : toks[pos]? = some t) (hk : t.kind = 2) (hm : IsTok t minusS = false) (hpos : pos ≤ 1048576) (hlo : 0 ≤ t.value) (hhi : t.value ≤ 7)
    {Bp Bm X : Nat} (hBp : w.heap[Bp]? = some (.cells #[.pointer (some ⟨Y, 0, none⟩)] 76 (0, 0))) (hBm : w.heap[Bm]? = some (.cells #[.pointer (some ⟨X, 0, none⟩)] 149 (0, 0))) {cs : Array Value} {u : Value} (hX : w.heap[X]? = some (.cells cs 56 (0, 0))) (hu : cs[11]? = some u) :
    Calls Tryz.prog 80 #[.pointer (some ⟨Bp, 0, none⟩), .pointer (some ⟨Bm, 0, none⟩)] w fun r w' => r = .returned (.tuple #[]) ∧ ∃ w1, Prs Y M tv toks (pos + 1) line col 0 free ls ln es clk w1 ∧ Away [Y] w w1 ∧ w' = w1.setCell ⟨X, 11, none⟩ (.int .i64 t.value) := by
  have xi := fun w' (b : Below w.heap.size w w') => integer_ok (h.step b) ht hk hm hpos 7 hlo hhi
  have hXY : X ∉ [Y] := by
    intro hm
    obtain rfl := List.mem_singleton.1 hm
    rw [h.blk] at hX
    injection hX with hX
    injection hX with _ h2 _
    exact absurd h2 (by decide)
  have hBY : Bm ≠ Y := by
    rintro rfl
    rw [h.blk] at hBm
    injection hBm with hBm
    injection hBm with _ h2 _
    exact absurd h2 (by decide)
  have d0 : w.cell? ⟨Bp, 0, none⟩ = some (.pointer (some ⟨Y, 0, none⟩)) := by rw [Lib.cell_of_heap hBp]; rfl
  have d1 : w.cell? ⟨Bm, 0, none⟩ = some (.pointer (some ⟨X, 0, none⟩)) := by rw [Lib.cell_of_heap hBm]; rfl
  have lY := h.lt
  have c0 := h.c0
  have x7 := xi w.drew (Below.refl _ _).drew
  clear h
  have hfar : ∀ w1 : World, Away [Y] w.drew w1 → w1.cell? ⟨X, 11, none⟩ = some u ∧ w1.frozen? ⟨X, 11, none⟩ = false := fun w1 ha => by
    have := ha.heap (b := X) hX hXY
    exact ⟨by rw [Lib.cell_of_heap this]; exact hu, Lib.frozen_of_heap this 11⟩
  have hBm2 : ∀ w1 : World, Away [Y] w.drew w1 → Bm ≠ Y → w1.cell? ⟨Bm, 0, none⟩ = some (.pointer (some ⟨X, 0, none⟩)) := fun w1 ha hne => by
    rw [Lib.cell_of_heap (ha.heap (b := Bm) hBm (by simpa using hne))]; rfl
  go_enter Tryz.func80, Tryz.ntmps80
  go_region_law ((first
    | (go_simp; go_at_call 51; refine x7.mono ?_; rintro r w2 ⟨rfl, h2, b2⟩; obtain ⟨e1, e2⟩ := hfar _ b2; have e3 := hBm2 _ b2 hBY)))
  all_goals go_end0
  all_goals exact ⟨rfl, _, h2, (Away.of_below (Below.refl _ w).drew).trans b2, rfl⟩
end
end Go.Proofs.YtjnkppneilmpbaaGreatDoor
