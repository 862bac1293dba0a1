/-
  A part of the proof that the law ParserNests (chapter 19) returns true for every depth and every list of notes: walks of the program's functions, and runs of them in the kernel by the own evaluator.
-/
import Derived.Test.YtmoddgkjaimpfaaGreatDoorPvg
import Derived.Laws.OwnMore
namespace Go.Proofs.YtmoddgkjaimpfaaGreatDoor
open Go.RowKit

/-- The cells of tuplets of three in the time of two: where they begin, how many events they have. -/
def tupCells (ts : List (Int × Int)) : List Value := ts.flatMap fun p => [.int .i64 p.1, .int .i64 p.2, .int .i64 3, .int .i64 2]
theorem tupCells_len (ts : List (Int × Int)) : (tupCells ts).length = 4 * ts.length := by
  induction ts with
  | nil => rfl
  | cons p ts ih => simp only [tupCells, List.flatMap_cons, List.length_append, List.length_cons, List.length_nil] at *; omega
theorem tupCells_more (ts : List (Int × Int)) (p : Int × Int) : tupCells (ts ++ [p]) = tupCells ts ++ [.int .i64 p.1, .int .i64 p.2, .int .i64 3, .int .i64 2] := by simp [tupCells]
theorem tupCells_set (ts : List (Int × Int)) (p : Int × Int) (c : Int) (rest : List (Int × Int)) : (tupCells (ts ++ p :: rest)).set (ts.length * 4 + 1) (.int .i64 c) = tupCells (ts ++ (p.1, c) :: rest) := by
  induction ts with
  | nil => simp [tupCells]
  | cons q ts ih =>
    have e : (q :: ts).length * 4 + 1 = ts.length * 4 + 1 + 1 + 1 + 1 + 1 := by simp; omega
    rw [e]
    simp only [tupCells, List.cons_append, List.flatMap_cons, List.nil_append, List.set_cons_succ] at ih ⊢
    rw [ih]

def Fresh (w : World) (v v' : Value) : Prop := ∀ k, v'.ownBlock = some k → v.ownBlock = some k ∨ w.heap.size ≤ k
theorem Fresh.refl (w : World) (v : Value) : Fresh w v v := fun _ h => .inl h
theorem Fresh.trans {w w1 : World} {v v1 v2 : Value} (h : Fresh w v v1) (k : Fresh w1 v1 v2) (hs : w.heap.size ≤ w1.heap.size) : Fresh w v v2 := fun i hi => by
  rcases k i hi with h1 | h1
  · exact h i h1
  · exact .inr (Nat.le_trans hs h1)

/-- The blocks that the parser's voice may turn. -/
def vb (V Y : Nat) (ev tu : Value) : List Nat := Y :: V :: (ev.ownBlock.toList ++ tu.ownBlock.toList)
theorem mem_vb {V Y : Nat} {ev tu : Value} {k : Nat} : k ∈ vb V Y ev tu ↔ k = Y ∨ k = V ∨ ev.ownBlock = some k ∨ tu.ownBlock = some k := by
  simp [vb]

theorem Away.trans' {bs cs : List Nat} {a b c : World} (h : Away bs a b) (k : Away cs b c) (hs : ∀ i ∈ cs, i ∈ bs ∨ a.heap.size ≤ i) : Away bs a c :=
  ⟨k.os.trans h.os, k.tape.trans h.tape, k.output.trans h.output, Nat.le_trans h.size k.size, fun i hi hb => (k.block i (Nat.lt_of_lt_of_le hi h.size) (fun hc => by
    rcases hs i hc with h1 | h1
    · exact hb h1
    · omega)).trans (h.block i hi hb)⟩

/-- The voice lies at V: its events are ev (a of them), its tuplets tu. -/
structure VS (V Y M : Nat) (tv : Value) (toks : List Tok) (pos : Nat) (line col ls ln : Int) (es : Array MapEntry) (clk : Nat) (ev tu : Value) (a : Nat) (ts : List (Int × Int)) (w : World) : Prop where
  hV : w.heap[V]? = some (.cells #[ev, tu] 28 (0, 0))
  evs : ∃ xs, w.ownsRow 0 67 13 ev a xs
  tus : w.ownsRow 0 25 4 tu ts.length (tupCells ts)
  prs : Prs Y M tv toks pos line col 0 true ls ln es clk w

section
variable {V Y M : Nat} {tv : Value} {toks : List Tok} {pos pos' : Nat} {line col ls ln : Int} {es : Array MapEntry} {clk : Nat} {ev tu : Value} {a : Nat} {ts : List (Int × Int)} {w w' : World}

theorem VS.lt (h : VS V Y M tv toks pos line col ls ln es clk ev tu a ts w) : V < w.heap.size := (Array.getElem?_eq_some_iff.1 h.hV).1
theorem VS.nY (h : VS V Y M tv toks pos line col ls ln es clk ev tu a ts w) : V ≠ Y := by
  rintro rfl
  have := h.hV.symm.trans h.prs.blk
  injection this with this
  injection this with _ h2 _
  exact absurd h2 (by decide)
theorem VS.nM (h : VS V Y M tv toks pos line col ls ln es clk ev tu a ts w) : V ≠ M := by
  rintro rfl
  have := h.hV.symm.trans h.prs.map
  injection this with this
  cases this
theorem VS.evV (h : VS V Y M tv toks pos line col ls ln es clk ev tu a ts w) : ev.ownBlock ≠ some V := by
  obtain ⟨xs, ho⟩ := h.evs
  exact own_ne ho h.hV (by intro cs fr hc; injection hc with _ h2 _; exact absurd h2 (by decide))
theorem VS.tuV (h : VS V Y M tv toks pos line col ls ln es clk ev tu a ts w) : tu.ownBlock ≠ some V := own_ne h.tus h.hV (by intro cs fr hc; injection hc with _ h2 _; exact absurd h2 (by decide))
theorem VS.evY (h : VS V Y M tv toks pos line col ls ln es clk ev tu a ts w) : ev.ownBlock ≠ some Y := by
  obtain ⟨xs, ho⟩ := h.evs
  exact own_ne ho h.prs.blk (by intro cs fr hc; injection hc with _ h2 _; exact absurd h2 (by decide))
theorem VS.tuY (h : VS V Y M tv toks pos line col ls ln es clk ev tu a ts w) : tu.ownBlock ≠ some Y := own_ne h.tus h.prs.blk (by intro cs fr hc; injection hc with _ h2 _; exact absurd h2 (by decide))
theorem VS.evTu (h : VS V Y M tv toks pos line col ls ln es clk ev tu a ts w) {k : Nat} (hk : ev.ownBlock = some k) : tu.ownBlock ≠ some k := by
  obtain ⟨xs, ho⟩ := h.evs
  rcases ho.2 with ⟨rfl, _⟩ | ⟨g, cap, cur, rfl, _, hg, _⟩
  · simp [Value.ownBlock] at hk
  · obtain rfl : g = k := by simpa [Value.ownBlock] using hk
    exact own_ne h.tus hg (by intro cs fr hc; injection hc with _ h2 _; exact absurd h2 (by decide))

theorem VS.step (h : VS V Y M tv toks pos line col ls ln es clk ev tu a ts w) (b : Below w.heap.size w w') : VS V Y M tv toks pos line col ls ln es clk ev tu a ts w' := by
  obtain ⟨xs, ho⟩ := h.evs
  exact ⟨(b.block _ h.lt).trans h.hV, ⟨xs, own_step ho fun k hk => b.block k (ho.lt k hk).2⟩, own_step h.tus fun k hk => b.block k (h.tus.lt k hk).2, h.prs.step b⟩
theorem VS.away (h : VS V Y M tv toks pos line col ls ln es clk ev tu a ts w) (b : Away [Y] w w') (hS : Prs Y M tv toks pos' line col 0 true ls ln es clk w') : VS V Y M tv toks pos' line col ls ln es clk ev tu a ts w' := by
  obtain ⟨xs, ho⟩ := h.evs
  exact ⟨b.heap h.hV (by simp [h.nY]), ⟨xs, own_step ho fun k hk => b.block k (ho.lt k hk).2 (by simp; rintro rfl; exact h.evY hk)⟩, own_step h.tus fun k hk => b.block k (h.tus.lt k hk).2 (by simp; rintro rfl; exact h.tuY hk), hS⟩
theorem VS.evIs (h : VS V Y M tv toks pos line col ls ln es clk ev tu a ts w) : ∃ ao c, ev = .slice ao a c := by
  obtain ⟨xs, ho⟩ := h.evs
  rcases ho.2 with ⟨hv, h0⟩ | ⟨g, cap, cur, hv, _⟩
  · exact ⟨none, 0, by rw [hv, h0]⟩
  · exact ⟨_, _, hv⟩
theorem VS.tuIs (h : VS V Y M tv toks pos line col ls ln es clk ev tu a ts w) : ∃ ao c, tu = .slice ao ts.length c := by
  rcases h.tus.2 with ⟨hv, h0⟩ | ⟨g, cap, cur, hv, _⟩
  · exact ⟨none, 0, by rw [hv, h0]⟩
  · exact ⟨_, _, hv⟩
theorem VS.c0 (h : VS V Y M tv toks pos line col ls ln es clk ev tu a ts w) : w.cell? ⟨V, 0, none⟩ = some ev := by rw [Lib.cell_of_heap h.hV]; rfl
theorem VS.c1 (h : VS V Y M tv toks pos line col ls ln es clk ev tu a ts w) : w.cell? ⟨V, 1, none⟩ = some tu := by rw [Lib.cell_of_heap h.hV]; rfl
theorem VS.f (h : VS V Y M tv toks pos line col ls ln es clk ev tu a ts w) (i : Nat) : w.frozen? ⟨V, i, none⟩ = false := Lib.frozen_of_heap h.hV i

/-- The parser's row of tokens is none of a row of another kind. -/
theorem Prs.rowNe {e : Int} {free : Bool} {v : Value} {n : Nat} {xs : List Value} {T : TypeId} {size B : Nat} (h : Prs Y M tv toks pos line col e free ls ln es clk w) (hown : w.ownsRow B T size v n xs) (h1 : T ≠ 77) (h2 : T ≠ 85) :
    v.ownBlock ≠ some Y ∧ v.ownBlock ≠ some M ∧ ∀ k, v.ownBlock = some k → e = 0 → tv.ownBlock ≠ some k := by
  refine ⟨own_ne hown h.blk (by intro cs fr hc; injection hc with _ h3 _; exact h1 h3.symm), own_ne hown h.map (by intro cs fr hc; cases hc), fun k hk he => ?_⟩
  rcases hown.2 with ⟨rfl, _⟩ | ⟨g, cap, cur, rfl, _, hg, _⟩
  · simp [Value.ownBlock] at hk
  · obtain rfl : g = k := by simpa [Value.ownBlock] using hk
    exact own_ne (h.row he) hg (by intro cs fr hc; injection hc with _ h3 _; exact h2 h3)
theorem Prs.grown {e : Int} {free : Bool} {row : Option Nat} (h : Prs Y M tv toks pos line col e free ls ln es clk w) (hg : w.grownBy w' row) (hY : row ≠ some Y) (hM : row ≠ some M) (hT : ∀ k, row = some k → e = 0 → tv.ownBlock ≠ some k) : Prs Y M tv toks pos line col e free ls ln es clk w' :=
  ⟨(hg.block Y h.lt (fun e => hY e.symm)).trans h.blk, (hg.block M h.ltM (fun e => hM e.symm)).trans h.map, fun he => own_step (h.row he) fun k hk => hg.block k ((h.row he).lt k hk).2 (fun e' => hT k e'.symm he hk)⟩

/-- How far the voice is, out of a world w. -/
def VEnd (V Y M : Nat) (tv : Value) (toks : List Tok) (pos : Nat) (line col ls ln : Int) (es : Array MapEntry) (clk : Nat) (ev tu : Value) (a : Nat) (ts : List (Int × Int)) (w w' : World) : Prop :=
  ∃ ev' tu', VS V Y M tv toks pos line col ls ln es clk ev' tu' a ts w' ∧ Away (vb V Y ev tu) w w' ∧ Fresh w ev ev' ∧ Fresh w tu tu'

theorem VS.toEnd (h : VS V Y M tv toks pos line col ls ln es clk ev tu a ts w) : VEnd V Y M tv toks pos line col ls ln es clk ev tu a ts w w := ⟨ev, tu, h, Away.refl _ _, Fresh.refl _ _, Fresh.refl _ _⟩

theorem VEnd.trans {w0 : World} {ev1 tu1 : Value} {pos1 a1 : Nat} {ts1 : List (Int × Int)} (aw : Away (vb V Y ev tu) w0 w) (fe : Fresh w0 ev ev1) (ft : Fresh w0 tu tu1) (h : VEnd V Y M tv toks pos1 line col ls ln es clk ev1 tu1 a1 ts1 w w') :
    VEnd V Y M tv toks pos1 line col ls ln es clk ev tu a1 ts1 w0 w' := by
  obtain ⟨ev2, tu2, h2, aw2, fe2, ft2⟩ := h
  refine ⟨ev2, tu2, h2, aw.trans' aw2 ?_, fe.trans fe2 aw.size, ft.trans ft2 aw.size⟩
  intro i hi
  rw [mem_vb] at hi
  rcases hi with rfl | rfl | hi | hi
  · exact .inl (mem_vb.2 (.inl rfl))
  · exact .inl (mem_vb.2 (.inr (.inl rfl)))
  · rcases fe i hi with h1 | h1
    · exact .inl (mem_vb.2 (.inr (.inr (.inl h1))))
    · exact .inr h1
  · rcases ft i hi with h1 | h1
    · exact .inl (mem_vb.2 (.inr (.inr (.inr h1))))
    · exact .inr h1

/-- One event more: behind the append, and the store. -/
theorem VS.pushEv (h : VS V Y M tv toks pos line col ls ln es clk ev tu a ts w) {g cap : Nat} {xs : List Value} {a' : Nat} (hg : w.grownBy w' ev.ownBlock) (hown : w'.ownsRow 0 67 13 (.slice (some ⟨g, 0, none⟩) a' cap) a' xs) :
    VS V Y M tv toks pos line col ls ln es clk (.slice (some ⟨g, 0, none⟩) a' cap) tu a' ts (w'.setCell ⟨V, 0, none⟩ (.slice (some ⟨g, 0, none⟩) a' cap)) ∧ w'.heap[V]? = some (.cells #[ev, tu] 28 (0, 0)) := by
  obtain ⟨xs0, ho⟩ := h.evs
  have hV' : w'.heap[V]? = some (.cells #[ev, tu] 28 (0, 0)) := (hg.block V h.lt (fun e => h.evV e.symm)).trans h.hV
  obtain ⟨r1, r2, r3⟩ := h.prs.rowNe ho (by decide) (by decide)
  have hP := h.prs.grown hg r1 r2 r3
  have htu' : w'.ownsRow 0 25 4 tu ts.length (tupCells ts) := own_step h.tus fun k hk => hg.block k (h.tus.lt k hk).2 (fun e => h.evTu e.symm hk)
  have n1 : (Value.slice (some ⟨g, 0, none⟩) a' cap).ownBlock ≠ some V := own_ne hown hV' (by intro cs fr hc; injection hc with _ h2 _; exact absurd h2 (by decide))
  have n2 : tu.ownBlock ≠ some V := own_ne htu' hV' (by intro cs fr hc; injection hc with _ h2 _; exact absurd h2 (by decide))
  refine ⟨⟨?_, ⟨xs, own_step hown fun k hk => Below.heap_setCell _ _ _ _ (fun e => n1 (by rw [hk, e]))⟩, own_step htu' fun k hk => Below.heap_setCell _ _ _ _ (fun e => n2 (by rw [hk, e])), hP.elsewhere hV' (by decide) (by decide) 0 _⟩, hV'⟩
  rw [Lib.heap_setCell_same hV']; rfl

/-- One tuplet more. -/
theorem VS.pushTu (h : VS V Y M tv toks pos line col ls ln es clk ev tu a ts w) {g cap m : Nat} {ts' : List (Int × Int)} (hm : ts'.length = m) (hg : w.grownBy w' tu.ownBlock) (hown : w'.ownsRow 0 25 4 (.slice (some ⟨g, 0, none⟩) m cap) m (tupCells ts')) :
    VS V Y M tv toks pos line col ls ln es clk ev (.slice (some ⟨g, 0, none⟩) m cap) a ts' (w'.setCell ⟨V, 1, none⟩ (.slice (some ⟨g, 0, none⟩) m cap)) ∧ w'.heap[V]? = some (.cells #[ev, tu] 28 (0, 0)) := by
  subst hm
  obtain ⟨xs0, ho⟩ := h.evs
  have hV' : w'.heap[V]? = some (.cells #[ev, tu] 28 (0, 0)) := (hg.block V h.lt (fun e => h.tuV e.symm)).trans h.hV
  obtain ⟨r1, r2, r3⟩ := h.prs.rowNe h.tus (by decide) (by decide)
  have hP := h.prs.grown hg r1 r2 r3
  have hev' : w'.ownsRow 0 67 13 ev a xs0 := own_step ho fun k hk => hg.block k (ho.lt k hk).2 (fun e => h.evTu hk e.symm)
  have n1 : (Value.slice (some ⟨g, 0, none⟩) ts'.length cap).ownBlock ≠ some V := own_ne hown hV' (by intro cs fr hc; injection hc with _ h2 _; exact absurd h2 (by decide))
  have n2 : ev.ownBlock ≠ some V := own_ne hev' hV' (by intro cs fr hc; injection hc with _ h2 _; exact absurd h2 (by decide))
  refine ⟨⟨?_, ⟨xs0, own_step hev' fun k hk => Below.heap_setCell _ _ _ _ (fun e => n2 (by rw [hk, e]))⟩, own_step hown fun k hk => Below.heap_setCell _ _ _ _ (fun e => n1 (by rw [hk, e])), hP.elsewhere hV' (by decide) (by decide) 1 _⟩, hV'⟩
  rw [Lib.heap_setCell_same hV']; rfl

theorem Away.grownRow {bs : List Nat} {b : World} {row : Option Nat} (h : Away bs b w) (hg : w.grownBy w' row) (hr : ∀ k, row = some k → k ∈ bs ∨ b.heap.size ≤ k) : Away bs b w' :=
  ⟨hg.os.trans h.os, hg.tape.trans h.tape, hg.output.trans h.output, Nat.le_trans h.size hg.size, fun k hk hb =>
    (hg.block k (Nat.lt_of_lt_of_le hk h.size) (fun e => by
      rcases hr k e.symm with h1 | h1
      · exact hb h1
      · omega)).trans (h.block k hk hb)⟩
end
end Go.Proofs.YtmoddgkjaimpfaaGreatDoor

namespace Go.Proofs.YtmoddgkjaimpfaaGreatDoor
open Go.RowKit

theorem Tryz.infoEvent : (Tryz.prog.info? 67).map (fun i => (i.zero, i.size, i.bytes)) = some (some (.agg #[.int .i64 0, .int .i64 0, .int .i64 0, .int .i64 0, .int .i64 0, .slice none 0 0, .slice none 0 0, .int .i64 0, .int .i64 0, .int .i64 0, .slice none 0 0, .int .i64 0, .int .i64 0]), 13, 152) := by kernel_rfl

/-- Behind a value nothing belongs to the event. -/
def Stops (t : Tok) : Prop := t.joined = false ∧ t.kind ≠ 3 ∧ IsTok t ⟨#[91]⟩ = false ∧ IsTok t uS = false

/-- An event lies at 'pos': a note, a colon, and a value (k tokens). -/
def EvAt (toks : List Tok) (pos k : Nat) : Prop :=
  ∃ t t1 t2 c, toks[pos]? = some t ∧ t.kind = 1 ∧ t.text = noteS c ∧ (c = 67 ∨ c = 68 ∨ c = 69) ∧ toks[pos + 1]? = some t1 ∧ t1.kind = 4 ∧ t1.text = ⟨#[58]⟩ ∧ toks[pos + 2]? = some t2 ∧ t2.kind = 2 ∧
    ((k = 3 ∧ (t2.text = ⟨#[56]⟩ ∨ t2.text = ⟨#[49, 54]⟩) ∧ ∃ t3, toks[pos + 3]? = some t3 ∧ Stops t3) ∨
     (k = 4 ∧ t2.text = ⟨#[56]⟩ ∧ ∃ t3 t4, toks[pos + 3]? = some t3 ∧ t3.joined = true ∧ t3.kind = 4 ∧ t3.text = ⟨#[46]⟩ ∧ toks[pos + 4]? = some t4 ∧ Stops t4))

section
variable {V Y M : Nat} {tv : Value} {toks : List Tok} {pos k : Nat} {line col ls ln : Int} {es : Array MapEntry} {clk : Nat} {ev tu : Value} {a : Nat} {ts : List (Int × Int)} {w : World}

theorem EvAt.runs (he : EvAt toks pos k) (h : Prs Y M tv toks pos line col 0 true ls ln es clk w) (hpos : pos ≤ 1000000) :
    Calls Tryz.prog 16 #[.pointer (some ⟨Y, 0, none⟩)] w fun r w' => IsEvent r ∧ Prs Y M tv toks (pos + k) line col 0 true ls ln es clk w' ∧ Away [Y] w w' := by
  obtain ⟨t, t1, t2, c, ht, hk, hx, hc, ht1, k1, x1, ht2, k2, ⟨rfl, x2, t3, ht3, j3, n3, o1, o2⟩ | ⟨rfl, x2, t3, t4, ht3, j3, k3, x3, ht4, j4, n4, o1, o2⟩⟩ := he
  · exact event_gen h hpos ht hk hx hc ht1 k1 x1 1 (fun w' h' => value_plain h' (by omega) ht2 k2 x2 ht3 j3) ht3 n3 o1 o2
  · exact event_gen h hpos ht hk hx hc ht1 k1 x1 2 (fun w' h' => value_dot h' (by omega) ht2 k2 x2 ht3 j3 k3 x3 ht4 j4) ht4 n4 o1 o2

theorem EvAt.begins (he : EvAt toks pos k) (h : Prs Y M tv toks pos line col 0 true ls ln es clk w) :
    Calls Tryz.prog 15 #[.pointer (some ⟨Y, 0, none⟩)] w fun r w' => r = .returned (.bool true) ∧ Below w.heap.size w w' := by
  obtain ⟨t, t1, t2, c, ht, hk, hx, hc, -⟩ := he
  have hno : ∀ y : ByteArray, y.size ≠ 2 → IsTok t y = false := fun y hy => tok_other hx (by rintro rfl; exact hy rfl)
  exact begins_yes h ht ⟨hno _ (by decide), hno _ (by decide), hno _ (by decide), hno _ (by decide), hno _ (by decide), hno _ (by decide)⟩ hk c hx hc

theorem EvAt.open_no (he : EvAt toks pos k) (h : Prs Y M tv toks pos line col 0 true ls ln es clk w) :
    Calls Tryz.prog 13 #[.pointer (some ⟨Y, 0, none⟩), .string ⟨#[40]⟩] w fun r w' => r = .returned (.bool false) ∧ Below w.heap.size w w' := by
  obtain ⟨t, t1, t2, c, ht, hk, hx, hc, -⟩ := he
  exact is_ok h ht _ (tok_other hx (by intro e; exact absurd (congrArg ByteArray.size e) (by show ¬ (2 = 1); decide)))

/-- A tuplet lies at 'pos'. -/
def TupAt (toks : List Tok) (pos a : Nat) (ts : List (Int × Int)) (pos' a' : Nat) (ts' : List (Int × Int)) : Prop :=
  (∃ t, toks[pos]? = some t ∧ IsTok t ⟨#[40]⟩ = true) ∧
  ∀ V Y M tv line col ls ln es clk ev tu w, VS V Y M tv toks pos line col ls ln es clk ev tu a ts w →
    Calls Tryz.prog 14 #[.pointer (some ⟨Y, 0, none⟩), .pointer (some ⟨V, 0, none⟩)] w fun r w' => r = .returned (.tuple #[]) ∧ VEnd V Y M tv toks pos' line col ls ln es clk ev tu a' ts' w w'

/-- What voice reads: n items. -/
inductive Items (toks : List Tok) : Nat → Nat → Nat → List (Int × Int) → Nat → Nat → List (Int × Int) → Prop
  | nil (pos a : Nat) (ts : List (Int × Int)) : Items toks 0 pos a ts pos a ts
  | ev {n pos a k pos' a' : Nat} {ts ts' : List (Int × Int)} (he : EvAt toks pos k) (hpos : pos ≤ 1000000) (ha : a ≤ 100000) (h : Items toks n (pos + k) (a + 1) ts pos' a' ts') : Items toks (n + 1) pos a ts pos' a' ts'
  | tup {n pos a pos1 a1 pos' a' : Nat} {ts ts1 ts' : List (Int × Int)} (ht : TupAt toks pos a ts pos1 a1 ts1) (h : Items toks n pos1 a1 ts1 pos' a' ts') : Items toks (n + 1) pos a ts pos' a' ts'

/-- Voice reads no further. -/
def VStop (t : Tok) : Prop := t.kind ≠ 1 ∧ IsTok t ⟨#[40]⟩ = false ∧ NoSix t

set_option maxHeartbeats 32000000 in
set_option maxRecDepth 100000 in
theorem voice_walk {n pos' a' : Nat} {ts' : List (Int × Int)} (least : Nat) (hl : least ≤ n) (hn : n ≤ 100000) (hi : Items toks n pos a ts pos' a' ts') {t : Tok} (ht : toks[pos']? = some t) (hs : VStop t) (h : VS V Y M tv toks pos line col ls ln es clk ev tu a ts w) :
    Calls Tryz.prog 7 #[.pointer (some ⟨Y, 0, none⟩), .pointer (some ⟨V, 0, none⟩), .int .i64 least] w fun r w' => r = .returned (.tuple #[]) ∧ VEnd V Y M tv toks pos' line col ls ln es clk ev tu a' ts' w w' := by
  go_enter Tryz.func7, Tryz.ntmps7
  go_wp2
  go_loopg [6] (n + 1) (fun g v wr => ∃ j pos1 a1 ts1, j ≤ n ∧ g = n + 1 - j ∧ v = .int .i64 (j : Nat) ∧ Items toks (n - j) pos1 a1 ts1 pos' a' ts' ∧ VEnd V Y M tv toks pos1 line col ls ln es clk ev tu a1 ts1 w wr)
  case atStart => exact ⟨0, pos, a, ts, Nat.zero_le _, rfl, rfl, hi, h.toEnd⟩
  case round =>
    obtain ⟨j, pos1, a1, ts1, hj, hg, rfl, hi1, ev1, tu1, h1, aw1, fe1, ft1⟩ := hrel
    clear h hi
    have c4 := h1.prs.c4
    generalize hm : n - j = m at hi1
    cases hi1 with
    | nil =>
      have xa := is_ok h1.prs ht ⟨#[40]⟩ hs.2.1
      go_wp2_with (go_at_call 13; refine xa.mono ?_)
      intro r w2; first | (intro he b2; subst he) | rintro ⟨rfl, b2⟩
      have h2 := h1.step b2
      have xb := begins_no h2.prs ht hs.2.2 hs.1
      go_wp2_with (go_at_call 15; refine xb.mono ?_)
      intro r w3; first | (intro he b3; subst he) | rintro ⟨rfl, b3⟩
      have h3 := h2.step b3
      have hle : ¬ (j : Int) < (least : Int) := by omega
      go_wp2
      refine bodyPost_ret (results_none rfl _ _ _) rfl ?_
      refine ⟨rfl, ev1, tu1, h3, (aw1.step b2).step b3, fe1, ft1⟩
    | ev hev hpos ha hi2 =>
      have xa := hev.open_no h1.prs
      go_wp2_with (go_at_call 13; refine xa.mono ?_)
      intro r w2; first | (intro he b2; subst he) | rintro ⟨rfl, b2⟩
      have h2 := h1.step b2
      have aw2 := aw1.step b2
      have xb := hev.begins h2.prs
      clear xa h1 aw1 b2 c4
      go_wp2_with (go_at_call 15; refine xb.mono ?_)
      intro r w3; first | (intro he b3; subst he) | rintro ⟨rfl, b3⟩
      have h3 := (h2.step b3).step (Below.refl _ w3).drew
      have aw3 := (aw2.step b3).drew
      clear xb h2 aw2 b3
      obtain ⟨ao, cp, rfl⟩ := h3.evIs
      have xe := hev.runs h3.prs hpos
      have c0 := h3.c0
      have lV3 := h3.lt
      have hfar := fun (p5 : Nat) w5 (b : Away [Y] w3.drew w5) (hS : Prs Y M tv toks p5 line col 0 true ls ln es clk w5) => h3.away b hS
      obtain ⟨i0, hi0, hz0, hz1, hz2⟩ := info_parts Tryz.infoEvent
      go_wp2
      go_region_law ((first
        | (go_simp; go_at_call 16; refine xe.mono ?_; rintro r w5 ⟨⟨q1, q2, H, rfl⟩, hS5, ha5⟩; have h5 := hfar _ _ ha5 hS5; obtain ⟨xs5, own5⟩ := h5.evs; have lV5 := h5.lt; have c0 := h5.c0; have n0 := World.new_ne w5 _ c0)
        | (refine step_append_lies _ (by rfl) _ _ _ (by rfl) 0 67 i0 _ 13 152 Tryz.underlying26 hi0 hz0 hz1 hz2 rfl (by omega) (.slice ao a1 cp) a1 xs5 (by rfl) (World.ownsRow.alloc own5 _) ⟨w5.heap.size, 0, none⟩ 1 1 [.int .i64 0, .int .i64 0, .int .i64 1, .int .i64 q1, .int .i64 q2, .slice (some ⟨H, 0, none⟩) 1 1, .slice none 0 0, .int .i64 0, .int .i64 0, .int .i64 0, .slice none 0 0, .int .i64 0, .int .i64 0] (by rfl) (by rfl) (World.news_of_block (cs := #[.int .i64 0, .int .i64 0, .int .i64 1, .int .i64 q1, .int .i64 q2, .slice (some ⟨H, 0, none⟩) 1 1, .slice none 0 0, .int .i64 0, .int .i64 0, .int .i64 0, .slice none 0 0, .int .i64 0, .int .i64 0]) (t := 67) (fr := (0, 0)) (heap_alloc_new _ _)) (by simp [Value.oneCell']) (by omega) (by simp only [maxLen]; omega) (by omega) (by simp) (w5.heap.size + 1) (by simp) ?_; intro gg cap w7 hown1 hgrow hat hgl; obtain ⟨h7, hV7⟩ := (h5.step ((Below.refl _ w5).alloc (Nat.le_refl _) (.cells #[.int .i64 0, .int .i64 0, .int .i64 1, .int .i64 q1, .int .i64 q2, .slice (some ⟨H, 0, none⟩) 1 1, .slice none 0 0, .int .i64 0, .int .i64 0, .int .i64 0, .slice none 0 0, .int .i64 0, .int .i64 0] 67))).pushEv hgrow hown1; have c0 := Lib.cell_of_heap hV7 0; have g0 := Lib.frozen_of_heap hV7 0; simp only [List.getElem?_toArray, List.getElem?_cons_zero] at c0)))
      all_goals go_wp2
      all_goals go_roundg (n + 1 - (j + 1))
      all_goals first
        | omega
        | (refine ⟨j + 1, _, a1 + 1, ts1, by omega, rfl, by simp, by rw [show n - (j + 1) = n - j - 1 by omega, hm]; exact hi2, _, tu1, h7, ((((aw3.trans (ha5.more (fun i hi => mem_vb.2 (.inl (List.mem_singleton.1 hi))))).alloc _).grownRow hgrow (fun i hi => ?_)).setCell (p := ⟨V, 0, none⟩) (.inl (mem_vb.2 (.inr (.inl rfl)))) _), fun i hi => ?_, ft1⟩
           · rcases fe1 i hi with h | h
             · exact .inl (mem_vb.2 (.inr (.inr (.inl h))))
             · exact .inr h
           · obtain rfl : gg = i := by simpa [Value.ownBlock] using hi
             rcases hat with h | h
             · exact fe1 _ h
             · exact .inr (by have := (aw3.trans (ha5.more (fun i hi => mem_vb.2 (.inl (List.mem_singleton.1 hi))))).size; omega))
    | tup htp hi2 =>
      obtain ⟨⟨t2, ht2, k2⟩, hT⟩ := htp
      have xa := is_ok h1.prs ht2 ⟨#[40]⟩ k2
      go_wp2_with (go_at_call 13; refine xa.mono ?_)
      intro r w2; first | (intro he b2; subst he) | rintro ⟨rfl, b2⟩
      have h2 := h1.step b2
      have aw2 := aw1.step b2
      have xt := hT _ _ _ _ _ _ _ _ _ _ _ _ _ h2
      clear xa h1 aw1 c4 hT
      go_wp2_with (go_at_call 14; refine xt.mono ?_)
      rintro r w3 ⟨rfl, hE3⟩
      have E3 := VEnd.trans aw2 fe1 ft1 hE3
      clear xt h2 b2
      go_wp2
      go_roundg (n + 1 - (j + 1))
      case measure => omega
      case rel => exact ⟨j + 1, _, _, _, by omega, rfl, by simp, by rw [show n - (j + 1) = n - j - 1 by omega, hm]; exact hi2, E3⟩
end
end Go.Proofs.YtmoddgkjaimpfaaGreatDoor
