/-
  A part of the proof that the law ParserSheets (chapter 19) returns true for every sheet: walks of the program's functions, and runs of them in the kernel by the own evaluator.
-/
import Derived.Test.YtjnkppneilmpbaaGreatDoorOkf
import Derived.WalkKit
import Derived.Below
import Derived.Test.YtjnkppneilmpbaaGreatDoorVoc
import Derived.Deep.Cut
import Derived.Test.YtjnkppneilmpbaaGreatDoorScb
import Derived.Laws.Tables
import Derived.Laws.Rows
namespace Go.Proofs.YtjnkppneilmpbaaGreatDoor
open Go.RowKit Go.Dam

set_option maxHeartbeats 4000000 in
set_option maxRecDepth 100000 in
theorem keys_walk (M : Nat) (w : World) : Calls Tryz.prog 37 #[.map (some M)] w fun r w' => r = .returned (.func (.func 57) #[] #[.pointer (some ⟨w.heap.size, 0, none⟩)]) ∧ w' = w.alloc (.cells #[.map (some M)] 94) := by
  go_enter Tryz.func37, Tryz.ntmps37
  go_wp2
  go_ret
  exact ⟨rfl, rfl⟩

def sorted0 (S v : Int) : List (Nat × Obj) := [(200, .cells #[.map (some 202)] 94 (0, 0)), (202, .map #[⟨.int .i64 S, .int .i64 v, 0⟩] 1)]
def sorted1 (S v : Int) : List (Nat × Obj) := [(213, .cells #[.int .i64 S] 3 (0, 0)), (210, .cells #[.int .i64 S] 3 (0, 0)), (208, .mapIter (some 202) 1 #[0] 1), (204, .cells #[.slice (some ⟨213, 0, none⟩) 1 0] 113 (0, 0)), (200, .cells #[.map (some 202)] 94 (0, 0)), (202, .map #[⟨.int .i64 S, .int .i64 v, 0⟩] 1)]
set_option maxRecDepth 1000000 in
theorem sorted_ev (S v : Int) : evCall noOrc Tryz.prog fsAll 400 20 (.func 36) [.func (.func 57) #[] #[.pointer (some ⟨200, 0, none⟩)]] ⟨sorted0 S v, 204⟩ = some (.slice (some ⟨213, 0, none⟩) 1 0, ⟨sorted1 S v, 214⟩) := by kernel_rfl

theorem sorted_walk (S v : Int) (Bx M : Nat) (hne : Bx ≠ M) (w : World) (hB : w.heap[Bx]? = some (.cells #[.map (some M)] 94 (0, 0))) (hM : w.heap[M]? = some (.map #[⟨.int .i64 S, .int .i64 v, 0⟩] 1)) :
    Calls Tryz.prog 36 #[.func (.func 57) #[] #[.pointer (some ⟨Bx, 0, none⟩)]] w fun r w' => (∃ G off cap, r = .returned (.slice (some ⟨G, off, none⟩) 1 cap) ∧ w'.cell? ⟨G, off, none⟩ = some (.int .i64 S)) ∧ Below w.heap.size w w' := by
  have gs : Tryz.prog.globals.size = 8 := by kernel_rfl
  let E : Env := ⟨fun n => if n = 200 then Bx else if n = 202 then M else n / 2, fun _ => 0, fun _ => 0⟩
  let A : Nat → Prop := fun n => n < 16 ∨ n = 200 ∨ n = 202
  have H : Holds Tryz.prog E A (sorted0 S v) w := by
    refine ⟨fun n o hn => ?_, fun n m o o' hn hm e => ?_⟩
    · unfold sorted0 at hn
      simp only [getB] at hn
      split at hn
      · rename_i h1
        obtain rfl := Nat.eq_of_beq_eq_true h1
        obtain rfl := Option.some.inj hn
        refine ⟨.inr (.inl rfl), fun x hx => ?_, _, hB, ?_⟩
        · obtain rfl : x = .map (some 202) := by simpa using hx
          unfold Sc; exact .inr (.inr rfl)
        · have hr : isRow 200 = false := by decide
          simp only [BlkRel, hr, Bool.false_eq_true, if_false]
          refine ⟨rfl, ?_⟩
          simp [ren, E]
      · split at hn
        · rename_i h1
          obtain rfl := Nat.eq_of_beq_eq_true h1
          obtain rfl := Option.some.inj hn
          refine ⟨.inr (.inr rfl), fun x hx => ?_, _, hM, ?_⟩
          · obtain rfl : x = ⟨.int .i64 S, .int .i64 v, 0⟩ := by simpa using hx
            constructor <;> (unfold Sc; trivial)
          · have hl : loose #[⟨.int .i64 S, .int .i64 v, 0⟩] 1 = false := rfl
            simp only [BlkRel, hl, Bool.false_eq_true, if_false]
            simp [renEntry, ren]
        · cases hn
    · have hk : ∀ k x, getB (sorted0 S v) k = some x → k = 200 ∨ k = 202 := by
        intro k x hk
        unfold sorted0 at hk
        simp only [getB] at hk
        split at hk
        · rename_i h1; exact .inl (Nat.eq_of_beq_eq_true h1).symm
        · split at hk
          · rename_i h1; exact .inr (Nat.eq_of_beq_eq_true h1).symm
          · cases hk
      rcases hk _ _ hn with rfl | rfl <;> rcases hk _ _ hm with rfl | rfl
      · rfl
      · simp [E] at e; exact absurd e hne
      · simp [E] at e; exact absurd e.symm hne
      · rfl
  have hg : Glb Tryz.prog E A := by
    intro g hg
    rw [gs] at hg
    refine ⟨?_, rfl, .inl (by omega)⟩
    show (if 2 * g = 200 then Bx else if 2 * g = 202 then M else 2 * g / 2) = g
    rw [if_neg (by omega), if_neg (by omega)]; omega
  have := evCall_sound mixed_ok (namesOk_of names_ok) noOrc_ok (ok_any fsAll) 400 20 (.func 36) _ _ _ _ (sorted_ev S v) E A w hg (by show 204 % 2 = 0; decide) (fun x hx => by
    obtain rfl := List.mem_singleton.1 hx
    unfold Sc
    refine ⟨trivial, fun x hx => by simp at hx, fun x hx => ?_⟩
    obtain rfl : x = .pointer (some ⟨200, 0, none⟩) := by simpa using hx
    unfold Sc; exact .inr (.inl rfl)) H (fun n hn hx => by
      have hx' : 204 ≤ n ∧ n < 214 := hx
      rcases hn with h | h | h <;> omega)
  have he : ([Value.func (.func 57) #[] #[.pointer (some ⟨200, 0, none⟩)]].map (ren E)).toArray = #[.func (.func 57) #[] #[.pointer (some ⟨Bx, 0, none⟩)]] := by
    simp [ren, renFn, E, Env.addr]
  rw [he] at this
  refine Calls.mono this ?_
  rintro r w' ⟨E', rfl, p, _⟩
  refine ⟨?_, ⟨p.os, p.tape, p.output, p.size, fun b hb => ?_⟩⟩
  · obtain ⟨_, _, oc, hoc, hrel⟩ := p.holds.blk 213 _ rfl
    have hr : isRow 213 = true := by decide
    simp only [BlkRel, hr, if_true] at hrel
    obtain ⟨cc, fzc, s, rfl, hs, hc, _⟩ := hrel
    refine ⟨E'.β 213, E'.σ 213 + 0, E'.κ 213 - 0, ?_, ?_⟩
    · simp [ren, Env.addr, hr]
    · have h0 := hc 0 (.int .i64 S) rfl
      simp only [World.cell?, hoc]
      have e : ren E' (.int .i64 S) = .int .i64 S := by simp [ren]
      rw [e] at h0
      exact h0
  · by_cases h1 : b = Bx
    · subst h1
      obtain ⟨_, _, oc, hoc, hrel⟩ := p.holds.blk 200 _ rfl
      have hr : isRow 200 = false := by decide
      simp only [BlkRel, hr, Bool.false_eq_true, if_false] at hrel
      obtain ⟨_, rfl⟩ := hrel
      have hb' : E'.β 200 = b := (p.agree 200 (by show ¬ (204 ≤ 200 ∧ 200 < 214); decide)).1
      have hm' : E'.β 202 = M := by
        rw [(p.agree 202 (by show ¬ (204 ≤ 202 ∧ 202 < 214); decide)).1]; rfl
      rw [hb'] at hoc
      rw [hoc, hB]
      simp [ren, hm']
    · by_cases h2 : b = M
      · subst h2
        obtain ⟨_, _, oc, hoc, hrel⟩ := p.holds.blk 202 _ rfl
        have hl : loose #[⟨.int .i64 S, .int .i64 v, 0⟩] 1 = false := rfl
        simp only [BlkRel, hl, Bool.false_eq_true, if_false] at hrel
        subst hrel
        have hb' : E'.β 202 = b := by
          rw [(p.agree 202 (by show ¬ (204 ≤ 202 ∧ 202 < 214); decide)).1]; rfl
        rw [hb'] at hoc
        rw [hoc, hM]
        simp [ren, renEntry]
      · refine p.same b hb fun n o hn => ?_
        have hk : n = 200 ∨ n = 202 := by
          unfold sorted0 at hn
          simp only [getB] at hn
          split at hn
          · rename_i h1; exact .inl (Nat.eq_of_beq_eq_true h1).symm
          · split at hn
            · rename_i h1; exact .inr (Nat.eq_of_beq_eq_true h1).symm
            · cases hn
        rcases hk with rfl | rfl
        · exact fun e => h1 e.symm
        · exact fun e => h2 e.symm
end Go.Proofs.YtjnkppneilmpbaaGreatDoor

namespace Go.Proofs.YtjnkppneilmpbaaGreatDoor
open Go.RowKit

def staffS : ByteArray := ⟨#[115, 116, 97, 102, 102]⟩
def transS : ByteArray := ⟨#[116, 114, 97, 110, 115, 112, 111, 115, 101]⟩
theorem Tryz.infoStaff : (Tryz.prog.info? 44).map (fun i => (i.zero, i.size, i.bytes)) = some (some (.agg #[.int .i64 0, .int .i64 0, .int .i64 0]), 3, 24) := by kernel_rfl

/-- The part that is being read lies at X, its staves are sv; R is where the result will lie. -/
structure PartAt (B0 R X Y M : Nat) (S N : Int) (name : ByteArray) (sv : Value) (i : Nat) (xs : List Value) (w0 w : World) : Prop where
  hX : w.heap[X]? = some (.cells #[.int .i64 S, .int .i64 N, .string name, .int .i64 0, .int .i64 0, sv] 49 (0, 0))
  hR : w.heap[R]? = some zPart
  own : w.ownsRow B0 44 3 sv i xs
  aw : Away [Y, M] w0 w
  hB : B0 = w0.heap.size
  hBR : B0 ≤ R
  hRX : R ≠ X
  hBX : B0 ≤ X
  nXY : X ≠ Y
  nXM : X ≠ M
  nRY : R ≠ Y
  nRM : R ≠ M

section
variable {B0 R X Y M : Nat} {S N : Int} {name : ByteArray} {sv : Value} {i : Nat} {xs : List Value} {w0 w : World} {tv : Value} {toks : List Tok} {pos : Nat} {line col e : Int} {free : Bool} {ls ln : Int} {es : Array MapEntry} {clk : Nat}

theorem PartAt.away (p : PartAt B0 R X Y M S N name sv i xs w0 w) (hS : Prs Y M tv toks pos line col e free ls ln es clk w) {w' : World} (ha : Away [Y, M] w w') : PartAt B0 R X Y M S N name sv i xs w0 w' := by
  have n1 := p.nXY
  have n2 := p.nXM
  have n3 := p.nRY
  have n4 := p.nRM
  refine ⟨ha.heap p.hX (by simp; omega), ha.heap p.hR (by simp; omega), own_step p.own fun k hk => ha.block k (p.own.lt k hk).2 ?_, p.aw.trans ha, p.hB, p.hBR, p.hRX, p.hBX, p.nXY, p.nXM, p.nRY, p.nRM⟩
  intro hm
  rcases List.mem_cons.1 hm with rfl | hm
  · exact own_ne p.own hS.blk (by intro cs fr hc; injection hc with _ h2 _; exact absurd h2 (by decide)) hk
  · obtain rfl := List.mem_singleton.1 hm
    exact own_ne p.own hS.map (by intro cs fr hc; cases hc) hk

theorem PartAt.away1 (p : PartAt B0 R X Y M S N name sv i xs w0 w) (hS : Prs Y M tv toks pos line col e free ls ln es clk w) {w' : World} (ha : Away [Y] w w') : PartAt B0 R X Y M S N name sv i xs w0 w' := p.away hS (ha.more (by simp))
theorem PartAt.step (p : PartAt B0 R X Y M S N name sv i xs w0 w) (hS : Prs Y M tv toks pos line col e free ls ln es clk w) {w' : World} (hb : Below w.heap.size w w') : PartAt B0 R X Y M S N name sv i xs w0 w' := p.away hS (Away.of_below hb)

theorem PartAt.svIs (p : PartAt B0 R X Y M S N name sv i xs w0 w) : ∃ ao c, sv = .slice ao i c := by
  rcases p.own.2 with ⟨hv, h0⟩ | ⟨g, cap, cur, hv, _⟩
  · exact ⟨none, 0, by rw [hv, h0]⟩
  · exact ⟨_, _, hv⟩
theorem PartAt.neX (p : PartAt B0 R X Y M S N name sv i xs w0 w) : sv.ownBlock ≠ some X := own_ne p.own p.hX (by intro cs fr hc; injection hc with _ h2 _; exact absurd h2 (by decide))
theorem PartAt.c5 (p : PartAt B0 R X Y M S N name sv i xs w0 w) : w.cell? ⟨X, 5, none⟩ = some sv := by rw [Lib.cell_of_heap p.hX]; rfl
theorem PartAt.f5 (p : PartAt B0 R X Y M S N name sv i xs w0 w) : w.frozen? ⟨X, 5, none⟩ = false := Lib.frozen_of_heap p.hX 5

theorem Away.grown {bs : List Nat} {a w w' : World} {row : Option Nat} (h : Away bs a w) (hg : w.grownBy w' row) (hr : ∀ k, row = some k → a.heap.size ≤ k) : Away bs a w' :=
  ⟨hg.os.trans h.os, hg.tape.trans h.tape, hg.output.trans h.output, Nat.le_trans h.size hg.size, fun k hk hb =>
    (hg.block k (Nat.lt_of_lt_of_le hk h.size) (fun e => by have := hr k e.symm; omega)).trans (h.block k hk hb)⟩

theorem PartAt.grown (p : PartAt B0 R X Y M S N name sv i xs w0 w) (hS : Prs Y M tv toks pos line col e free ls ln es clk w) {w' : World} {sv' : Value} {a b c : Int}
    (hg : (w.alloc (.cells #[.int .i64 a, .int .i64 b, .int .i64 c] 44)).grownBy w' sv.ownBlock) (hown : w'.ownsRow B0 44 3 sv' (i + 1) (xs ++ [.int .i64 a, .int .i64 b, .int .i64 c])) :
    PartAt B0 R X Y M S N name sv' (i + 1) (xs ++ [.int .i64 a, .int .i64 b, .int .i64 c]) w0 (w'.setCell ⟨X, 5, none⟩ sv') ∧ Prs Y M tv toks pos line col e free ls ln es clk (w'.setCell ⟨X, 5, none⟩ sv') ∧ w'.heap[X]? = some (.cells #[.int .i64 S, .int .i64 N, .string name, .int .i64 0, .int .i64 0, sv] 49 (0, 0)) := by
  have pa := p.step hS ((Below.refl _ w).alloc (Nat.le_refl _) (.cells #[.int .i64 a, .int .i64 b, .int .i64 c] 44))
  have ha := hS.step ((Below.refl _ w).alloc (Nat.le_refl _) (.cells #[.int .i64 a, .int .i64 b, .int .i64 c] 44))
  generalize w.alloc (.cells #[.int .i64 a, .int .i64 b, .int .i64 c] 44) = v at hg pa ha
  obtain ⟨r1, r2, r3⟩ := ha.rowNe pa.own (by decide) (by decide)
  have hP := ha.grown hg r1 r2 r3
  have hX' : w'.heap[X]? = some (.cells #[.int .i64 S, .int .i64 N, .string name, .int .i64 0, .int .i64 0, sv] 49 (0, 0)) := (hg.block X (Array.getElem?_eq_some_iff.1 pa.hX).1 (fun e => pa.neX e.symm)).trans pa.hX
  have hRne : sv.ownBlock ≠ some R := own_ne pa.own pa.hR (by unfold zPart; intro cs fr hc; injection hc with _ h2 _; exact absurd h2 (by decide))
  have hR' : w'.heap[R]? = some zPart := (hg.block R (Array.getElem?_eq_some_iff.1 pa.hR).1 (fun e => hRne e.symm)).trans pa.hR
  have hnX' : sv'.ownBlock ≠ some X := own_ne hown hX' (by intro cs fr hc; injection hc with _ h2 _; exact absurd h2 (by decide))
  refine ⟨⟨?_, (Below.heap_setCell _ _ _ _ p.hRX).trans hR', ?_, ?_, p.hB, p.hBR, p.hRX, p.hBX, p.nXY, p.nXM, p.nRY, p.nRM⟩, hP.elsewhere hX' (by decide) (by decide) 5 sv', hX'⟩
  · rw [Lib.heap_setCell_same hX']; rfl
  · exact own_step hown fun k hk => Below.heap_setCell _ _ _ _ (fun e => hnX' (by rw [hk, e]))
  · refine (pa.aw.grown hg fun k hk => ?_).setCell (p := ⟨X, 5, none⟩) (.inr (by rw [← p.hB]; exact p.hBX)) _
    rw [← p.hB]
    exact (pa.own.lt k hk).1
end

end Go.Proofs.YtjnkppneilmpbaaGreatDoor

namespace Go.Proofs.YtjnkppneilmpbaaGreatDoor
open Go.RowKit

section
variable {Y M : Nat} {tv : Value} {toks : List Tok} {pos k1 k2 N : Nat} {line col : Int} {w : World}

set_option maxHeartbeats 16000000 in
set_option maxRecDepth 100000 in
theorem part_walk (h : Prs Y M tv toks pos line col 0 false 0 N (esOf N) (clkOf N) w) (hI : IdAt toks pos k1 N) (hpos : pos ≤ 10000) (hk1 : k1 ≤ 4) (hk2 : k2 ≤ 4) (hN : N ≤ 90000) {t4 t5 t6 te : Tok} (ht4 : toks[pos + k1]? = some t4) (k4 : t4.kind = 3)
    (ht5 : toks[pos + k1 + 1]? = some t5) (k5 : IsTok t5 staffS = true) (hI2 : IdAt toks (pos + k1 + 1 + 1) k2 (N + 1)) (ht6 : toks[pos + k1 + 1 + 1 + k2]? = some t6) (k6 : t6.kind = 1) (x6 : t6.text = trebS)
    (hte : toks[pos + k1 + 1 + 1 + k2 + 1]? = some te) (ke : IsTok te staffS = false) :
    Calls Tryz.prog 30 #[.pointer (some ⟨Y, 0, none⟩)] w fun r w' => Away [Y, M] w w' ∧ ∃ ao cp, r = .returned (.agg #[.int .i64 0, .int .i64 ((N : Int) + 1), .string t4.bytes, .int .i64 0, .int .i64 0, .slice ao 1 cp]) ∧ w'.ownsRow w.heap.size 44 3 (.slice ao 1 cp) 1 [.int .i64 0, .int .i64 ((N : Int) + 2), .int .i64 1] ∧
      Prs Y M tv toks (pos + k1 + 1 + 1 + k2 + 1) line col 0 false 0 (N + 2 : Nat) (esOf (N + 2)) (clkOf (N + 2)) w' := by
  have hobj : ∀ w', Below w.heap.size w w' → Calls Tryz.prog 34 #[.pointer (some ⟨Y, 0, none⟩)] w' fun r w'' => r = .returned (.agg #[.int .i64 0, .int .i64 ((N : Int) + 1)]) ∧ Prs Y M tv toks (pos + k1) line col 0 false 0 (N + 1 : Nat) (esOf (N + 1)) (clkOf (N + 1)) w'' ∧ Away [Y, M] w' w'' :=
    fun w' b => hI.runs (h.step b) (by omega) (by omega)
  have hstr : ∀ w', Prs Y M tv toks (pos + k1) line col 0 false 0 (N + 1 : Nat) (esOf (N + 1)) (clkOf (N + 1)) w' → Calls Tryz.prog 26 #[.pointer (some ⟨Y, 0, none⟩)] w' fun r w'' => r = .returned (.string t4.bytes) ∧ Prs Y M tv toks (pos + k1 + 1) line col 0 false 0 (N + 1 : Nat) (esOf (N + 1)) (clkOf (N + 1)) w'' ∧ Away [Y] w' w'' :=
    fun w' h' => str_ok h' ht4 k4 (by omega)
  obtain ⟨name, hne⟩ : ∃ name, t4.bytes = name := ⟨_, rfl⟩
  rw [hne] at hstr
  rw [hne]
  clear hne ht4 k4
  have lY := h.lt
  have lM := h.ltM
  go_enter Tryz.func30, Tryz.ntmps30
  go_wp2
  have hR0 := heap_alloc_new w (.cells #[.int .i64 0, .int .i64 0, .string ByteArray.empty, .int .i64 0, .int .i64 0, .slice none 0 0] 49)
  have b0 := (Below.refl w.heap.size w).alloc (Nat.le_refl _) (.cells #[.int .i64 0, .int .i64 0, .string ByteArray.empty, .int .i64 0, .int .i64 0, .slice none 0 0] 49)
  have hX1 : (((w.alloc zPart).drew).alloc zPart).heap[w.heap.size + 1]? = some zPart := by
    have := heap_alloc_new ((w.alloc zPart).drew) zPart
    simpa using this
  have hR0Y : w.heap.size ∉ [Y, M] := by simp; omega
  have hR0Y1 : w.heap.size ∉ [Y] := by simp; omega
  have hX1Y1 : w.heap.size + 1 ∉ [Y] := by simp; omega
  have hX1Y : w.heap.size + 1 ∉ [Y, M] := by simp; omega
  have hmem : ∀ w' : World, Away [Y, M] (((w.alloc zPart).drew).alloc zPart) w' → w'.heap[w.heap.size + 1]? = some zPart := fun w' ha => ha.heap hX1 hX1Y
  have hmem2 : ∀ w1 w' : World, Y < w1.heap.size → Away [Y] (w1.alloc zPart) w' → w'.heap[w1.heap.size]? = some zPart := fun w1 w' hy hb => hb.heap (heap_alloc_new w1 _) (by simp; omega)
  go_cut [3] from 4 (fun s3 wc => ∃ X, s3 = .pointer (some ⟨X, 0, none⟩) ∧ w.heap.size < X ∧ wc.heap[X]? = some (.cells #[.int .i64 0, .int .i64 ((N : Int) + 1), .string name, .int .i64 0, .int .i64 0, .slice none 0 0] 49 (0, 0)) ∧
      wc.heap[w.heap.size]? = some (.cells #[.int .i64 0, .int .i64 0, .string ByteArray.empty, .int .i64 0, .int .i64 0, .slice none 0 0] 49 (0, 0)) ∧ Prs Y M tv toks (pos + k1 + 1) line col 0 false 0 (N + 1 : Nat) (esOf (N + 1)) (clkOf (N + 1)) wc ∧ Away [Y, M] w wc)
  case first =>
    go_region_held3 (fun _ => True) (trivial) (first
      | (go_at_call 34; refine (hobj _ (by first | exact b0.drew | exact b0.drew.alloc (by simp) _)).mono ?_; rintro r w1 ⟨rfl, hS, ha⟩; try have hx1 := hmem w1 ha)
      | (go_at_call 26; refine (hstr _ (by first | exact hS | exact hS.step ((Below.refl _ _).alloc (Nat.le_refl _) _))).mono ?_; rintro r w2 ⟨rfl, hS2, b2⟩; (first | (have hx := b2.heap hx1 hX1Y1; obtain ⟨⟨q0, q1, q2, q3, q4, q5⟩, r0, r1, r2, r3, r4, r5⟩ := zPart_cells hx) | (have hx := hmem2 _ _ hS.lt b2; obtain ⟨⟨q0, q1, q2, q3, q4, q5⟩, r0, r1, r2, r3, r4, r5⟩ := zPart_cells hx) | skip)))
    · go_wp2
      go_meet
      case rel =>
        have aw := ((Away.of_below (bs := [Y, M]) b0.drew).trans ha).trans (b2.more (by simp))
        have hRw := b2.heap (ha.heap hR0 hR0Y) hR0Y1
        have hl := (Array.getElem?_eq_some_iff.1 hRw).1
        exact ⟨w2.heap.size, rfl, hl, heap_alloc_new w2 _, (Lib.alloc_old w2 _ _ hl).trans hRw, hS2.step ((Below.refl _ _).alloc (Nat.le_refl _) _), aw.alloc _⟩
    · go_wp2
      go_meet
      case rel =>
        have aw := (((Away.of_below (bs := [Y, M]) b0.drew).trans ha).alloc zPart).trans (b2.more (by simp))
        have hR1 := ha.heap hR0 hR0Y
        have hl := (Array.getElem?_eq_some_iff.1 hR1).1
        have hRw := b2.heap ((Lib.alloc_old w1 zPart _ hl).trans hR1) hR0Y1
        exact ⟨w1.heap.size, rfl, hl, fill6_self _ _ _ _ _ _ hx, (fill6_other w2 w1.heap.size _ _ _ _ _ _ _ (by omega)).trans hRw, hS2.fill6 _ _ _ _ _ _ hx (by decide) (by decide), fill6_away aw (by omega) _ _ _ _ _ _⟩
    · go_wp2
      go_meet
      case rel =>
        have aw := ((Away.of_below (bs := [Y, M]) (b0.drew.alloc (by simp) zPart)).trans ha).trans (b2.more (by simp))
        have hR1 := ha.heap ((Lib.alloc_old (w.alloc zPart).drew zPart w.heap.size (by simp)).trans hR0) hR0Y
        have hRw := b2.heap hR1 hR0Y1
        exact ⟨w.heap.size + 1, rfl, by omega, fill6_self _ _ _ _ _ _ hx, (fill6_other w2 (w.heap.size + 1) _ _ _ _ _ _ _ (by omega)).trans hRw, hS2.fill6 _ _ _ _ _ _ hx (by decide) (by decide), fill6_away aw (by omega) _ _ _ _ _ _⟩
  case rest =>
    obtain ⟨X, rfl, hRX, hX, hR, hS, aw⟩ := hcut
    have hXlt := (Array.getElem?_eq_some_iff.1 hX).1
    have hXY : X ≠ Y := by omega
    have hXM : X ≠ M := by omega
    have p0 : PartAt w.heap.size w.heap.size X Y M 0 ((N : Int) + 1) name (.slice none 0 0) 0 [] w wc := ⟨hX, hR, World.ownsRow_nil _ _ _ _, aw, rfl, Nat.le_refl _, by omega, by omega, hXY, hXM, by omega, by omega⟩
    have x1 := accept_no hS ht5 transS (isTok_other k5 (by decide))
    clear hX hR aw hobj hstr hR0 b0 hX1 hX1Y hX1Y1 hmem hmem2 hXlt
    go_wp2_with (go_at_call 27; refine x1.mono ?_)
    intro r w3; first | (intro he3 b3; subst he3) | rintro ⟨rfl, b3⟩
    have p3 := p0.step hS b3
    have hS3 := hS.step b3
    clear x1 p0 hS b3
    go_wp2
    go_loopg [28] 1 (fun g v wr => (g = 1 ∧ wr = w3) ∨ (g = 0 ∧ ∃ sv, PartAt w.heap.size w.heap.size X Y M 0 ((N : Int) + 1) name sv 1 [.int .i64 0, .int .i64 ((N : Int) + 2), .int .i64 1] w wr ∧ Prs Y M tv toks (pos + k1 + 1 + 1 + k2 + 1) line col 0 false 0 (N + 2 : Nat) (esOf (N + 2)) (clkOf (N + 2)) wr))
    case atStart => exact .inl ⟨rfl, rfl⟩
    case round =>
      obtain ⟨i0, hi0, hz0, hz1, hz2⟩ := info_parts Tryz.infoStaff
      rcases hrel with ⟨rfl, rfl⟩ | ⟨rfl, sv, p5, hS5⟩
      · have x1 := accept_yes hS3 ht5 staffS k5 (by omega)
        go_wp2_with (go_at_call 27; refine x1.mono ?_)
        intro r w4; first | (intro he4 hS4 b4; subst he4) | rintro ⟨rfl, hS4, b4⟩
        have p4 := p3.away1 hS3 b4
        clear x1 p3 hS3 b4
        have p5 := p4.step hS4 (Below.refl _ w4).drew
        have hS5 := hS4.step (Below.refl _ w4).drew
        go_wp2
        have hob := hI2.runs hS5 (by omega) (by omega)
        rw [show ((N + 1 : Nat) : Int) + 1 = (N : Int) + 2 by omega] at hob
        have hf2 := fun w6 (ha : Away [Y, M] w4.drew w6) => p5.away hS5 ha
        have d5 := p4.c5
        clear p5 hS5 p4 hS4
        go_region_law ((first
          | (go_simp; go_at_call 34; refine hob.mono ?_; rintro r w5 ⟨rfl, hS5, ha5⟩; have p5 := hf2 _ ha5; have d5 := p5.c5)
          | (go_simp; go_at_call 52; refine (clef_ok hS5 ht6 k6 x6 (by omega)).mono ?_; rintro r w6 ⟨rfl, hS6, ha6⟩; have p6 := p5.away1 hS5 ha6; have own6 := p6.own; have sz6 := p6.aw.size; have d5 := p6.c5; have lx6 := (Array.getElem?_eq_some_iff.1 p6.hX).1; have nx6 := World.new_ne w6 _ d5)
          | (refine step_append_lies _ (by rfl) _ _ _ (by rfl) w.heap.size 44 i0 _ 3 24 Tryz.underlying45 hi0 hz0 hz1 hz2 rfl (by omega) (.slice none 0 0) 0 [] (by rfl) (World.ownsRow.alloc own6 _) ⟨w6.heap.size, 0, none⟩ 1 1 [.int .i64 0, .int .i64 ((N : Int) + 2), .int .i64 1] (by rfl) (by rfl) (World.news_of_block (cs := #[.int .i64 0, .int .i64 ((N : Int) + 2), .int .i64 1]) (t := 44) (fr := (0, 0)) (heap_alloc_new _ _)) (by simp [Value.oneCell']) (by omega) (by simp only [maxLen]; omega) (by omega) (by simp; omega) (w6.heap.size + 1) (by simp) ?_; intro gg cap w7 hown1 hgrow hat hgl; obtain ⟨p7, hS7, hX7⟩ := p6.grown hS6 hgrow hown1; have d5 := Lib.cell_of_heap hX7 5; have g5 := Lib.frozen_of_heap hX7 5; simp only [List.getElem?_toArray, List.getElem?_cons_succ, List.getElem?_cons_zero] at d5)))
        all_goals go_wp2
        all_goals go_roundg 0
        all_goals first
          | exact Nat.zero_lt_one
          | exact .inr ⟨rfl, _, p7, hS7⟩
      · clear p3 hS3
        obtain ⟨ao, cp, rfl⟩ := p5.svIs
        have x1 := accept_no hS5 hte staffS ke
        go_wp2_with (go_at_call 27; refine x1.mono ?_)
        intro r w4; first | (intro he4 b4; subst he4) | rintro ⟨rfl, b4⟩
        have p4' := p5.step hS5 b4
        have hS4 := hS5.step b4
        clear x1 p5 hS5 b4
        obtain ⟨⟨q0, q1, q2, q3, q4, q5⟩, r0, r1, r2, r3, r4, r5⟩ := zPart_cells p4'.hR
        have p0 : w4.cell? ⟨X, 0, none⟩ = some (.int .i64 0) := by rw [Lib.cell_of_heap p4'.hX]; rfl
        have p1 : w4.cell? ⟨X, 1, none⟩ = some (.int .i64 ((N : Int) + 1)) := by rw [Lib.cell_of_heap p4'.hX]; rfl
        have p2 : w4.cell? ⟨X, 2, none⟩ = some (.string name) := by rw [Lib.cell_of_heap p4'.hX]; rfl
        have p3 : w4.cell? ⟨X, 3, none⟩ = some (.int .i64 0) := by rw [Lib.cell_of_heap p4'.hX]; rfl
        have p4 : w4.cell? ⟨X, 4, none⟩ = some (.int .i64 0) := by rw [Lib.cell_of_heap p4'.hX]; rfl
        have p5 : w4.cell? ⟨X, 5, none⟩ = some (.slice ao 1 cp) := by rw [Lib.cell_of_heap p4'.hX]; rfl
        have hfin := hS4.fill6 (.int .i64 0) (.int .i64 ((N : Int) + 1)) (.string name) (.int .i64 0) (.int .i64 0) (.slice ao 1 cp) p4'.hR (by decide) (by decide)
        have awf := fill6_away p4'.aw (Nat.le_refl _) (.int .i64 0) (.int .i64 ((N : Int) + 1)) (.string name) (.int .i64 0) (.int .i64 0) (.slice ao 1 cp)
        have hRf := fill6_self (.int .i64 0) (.int .i64 ((N : Int) + 1)) (.string name) (.int .i64 0) (.int .i64 0) (.slice ao 1 cp) p4'.hR
        have hRne : (Value.slice ao 1 cp).ownBlock ≠ some w.heap.size := own_ne p4'.own p4'.hR (by unfold zPart; intro cs fr hc; injection hc with _ h2 _; exact absurd h2 (by decide))
        have ownf := own_step p4'.own fun k hk => fill6_other w4 w.heap.size (.int .i64 0) (.int .i64 ((N : Int) + 1)) (.string name) (.int .i64 0) (.int .i64 0) (.slice ao 1 cp) k (fun e => hRne (by rw [hk, e]))
        clear p4' hS4
        go_wp2
        refine bodyPost_ret (results_cell_row rfl _ _ w.heap.size 49 _ (0, 0) _ rfl hRf Tryz.underlying49 rfl Tryz.sizePart) rfl ?_
        exact ⟨awf, _, _, rfl, ownf, hfin⟩
end
end Go.Proofs.YtjnkppneilmpbaaGreatDoor

namespace Go.Proofs.YtjnkppneilmpbaaGreatDoor
open Go.RowKit

theorem run_loadVar_at {P : Program} (w : World) (p : Addr) (ty : TypeId) (cs : Array Value) (d : TypeDesc) (hc : ∀ (j : Nat) (v : Value), cs[j]? = some v → w.cell? (p.add j) = some v)
    (hu : P.underlying ty = some d) (hd : (match d with | .struct _ | .array _ _ => true | _ => false) = true) (hi : (P.info? ty).map (·.size) = some cs.size) :
    (loadVar ty p).run P w = .ok (.agg cs) w := by
  have hl : (loadCells p cs.toList.length).run P w = .ok cs.toList.toArray w := run_loadCells_list (P := P) w p cs.toList (fun j v hv => hc j v (by simpa using hv))
  cases hq : P.info? ty with
  | none => simp [hq] at hi
  | some i =>
    have hs : i.size = cs.size := by simpa [hq] using hi
    have hagg : (isAgg ty).run P w = .ok true w := by
      unfold isAgg
      rw [Sem.run_bind, run_underlying hu w]
      cases d <;> simp_all
    simp only [Array.length_toList, Array.toArray_toList] at hl
    simp [loadVar, Sem.run_bind, hagg, sizeOf, typeInfo, hq, hs, hl]

theorem wpList_load_at {P : Program} {ops : Array Oper} {rest : List Oper} {o : Oper} {a : Act} {w : World} {Q : Exit → Act → World → Prop} (hgd : o.guard = none) (ty : TypeId) (x : Operand) (ho : o.op = .load ty x)
    (p : Addr) (hx : a.eval x = .pointer (some p)) (cs : Array Value) (d : TypeDesc) (hc : ∀ (j : Nat) (v : Value), cs[j]? = some v → w.cell? (p.add j) = some v)
    (hu : P.underlying ty = some d) (hd : (match d with | .struct _ | .array _ _ => true | _ => false) = true) (hi : (P.info? ty).map (·.size) = some cs.size)
    (h : wpList P ops Q rest (a.put o.dst (.agg cs)) w) : wpList P ops Q (o :: rest) a w := by
  refine wpList_plain hgd fun _ hK => ?_
  unfold Oper.wp execOp
  simp only [ho, hx, Instr.loadAt, Instr.sureAddr, Sem.run_bind, Sem.run_pure, Result.andThen_ok, run_loadVar_at w p ty cs d hc hu hd hi]
  exact hK _ _ h

theorem alloc_setRow (w : World) (z cs : Array Value) (T : TypeId) : (w.alloc (.cells z T)).setRow w.heap.size cs = w.alloc (.cells cs T) := by
  have hh : ((w.alloc (.cells z T)).setRow w.heap.size cs).heap = (w.alloc (.cells cs T)).heap := by
    apply Array.ext_getElem?
    intro i
    by_cases hi : i = w.heap.size
    · subst hi
      rw [setRow_heap _ _ _ _ _ _ (heap_alloc_new w _), heap_alloc_new w _]
    · rw [setRow_other _ _ _ _ hi]
      show (w.heap.push _)[i]? = (w.heap.push _)[i]?
      rw [Array.getElem?_push, Array.getElem?_push, if_neg hi, if_neg hi]
  show ({ w.alloc (.cells z T) with heap := ((w.alloc (.cells z T)).setRow w.heap.size cs).heap } : World) = _
  rw [hh]
  rfl

/-- A copy of a row into a block that has just been laid. -/
theorem wpList_store_new {P : Program} {ops : Array Oper} {rest : List Oper} {o : Oper} {a : Act} {w : World} {Q : Exit → Act → World → Prop} (hgd : o.guard = none) (ty : TypeId) (x y : Operand) (ho : o.op = .store ty x y)
    (cells old : Array Value) (T : TypeId) {n : Nat} (hn : n = w.heap.size) (hx : a.eval x = .pointer (some ⟨n, 0, none⟩)) (hy : a.eval y = .agg cells) (hi : (P.info? ty).map (·.size) = some cells.size)
    (hold : old.size = cells.size) (h1 : cells.all (·.oneCell') = true)
    (h : wpList P ops Q rest (a.put o.dst undef) (w.alloc (.cells cells T))) : wpList P ops Q (o :: rest) a (w.alloc (.cells old T)) := by
  subst hn
  refine wpList_store_row hgd ty x y ho w.heap.size cells hx hy T old (heap_alloc_new w _) hi hold h1 ?_
  rw [alloc_setRow]
  exact h

/-- A struct that is built, told. -/
theorem wpList_build_l {P : Program} {ops : Array Oper} {rest : List Oper} {o : Oper} {a : Act} {w : World} {Q : Exit → Act → World → Prop} (hgd : o.guard = none) (t : TypeId) (parts : Array (Nat × Operand)) (ho : o.op = .build t parts) {l : List (Nat × Value)} (hl : (parts.map fun (i, x) => (i, a.eval x)).toList = l)
    {cs : Array Value} (hf : P.built t l = some cs) (h : wpList P ops Q rest (a.put o.dst (.agg cs)) w) : wpList P ops Q (o :: rest) a w := by
  subst hl
  exact wpList_build hgd t parts ho (by rw [hf]; rfl) (by rw [hf]; exact h)

/-- The elements of a slice: rows of s cells, one behind the other. -/
def Els (w : World) (s : Nat) (v : Value) (rows : List (Array Value)) : Prop :=
  (rows = [] ∧ v = .slice none 0 0) ∨
  ∃ g cap, v = .slice (some ⟨g, 0, none⟩) rows.length cap ∧ ∀ (j : Nat) (r : Array Value), rows[j]? = some r → r.size = s ∧ r.all (·.oneCell') = true ∧ ∀ (k : Nat) (u : Value), r[k]? = some u → w.cell? ⟨g, j * s + k, none⟩ = some u

theorem Els.is {w : World} {s : Nat} {v : Value} {rows : List (Array Value)} (h : Els w s v rows) : ∃ ao cap, v = .slice ao rows.length cap := by
  rcases h with ⟨rfl, rfl⟩ | ⟨g, cap, rfl, _⟩
  · exact ⟨_, _, rfl⟩
  · exact ⟨_, _, rfl⟩

/-- Element j of it. -/
theorem Els.at {w : World} {s : Nat} {ao : Option Addr} {n cap : Nat} {rows : List (Array Value)} (h : Els w s (.slice ao n cap) rows) {j : Nat} (hj : j < rows.length) :
    ∃ g r, ao = some ⟨g, 0, none⟩ ∧ rows[j]? = some r ∧ r.size = s ∧ r.all (·.oneCell') = true ∧ ∀ (k : Nat) (u : Value), r[k]? = some u → w.cell? ⟨g, j * s + k, none⟩ = some u := by
  rcases h with ⟨rfl, _⟩ | ⟨g, cap', e, h⟩
  · simp at hj
  · injection e with e1 e2 e3
    have hr : rows[j]? = some rows[j] := List.getElem?_eq_getElem hj
    obtain ⟨h1, h2, h3⟩ := h j _ hr
    exact ⟨g, rows[j], e1, hr, h1, h2, h3⟩

theorem Els.len {w : World} {s : Nat} {ao : Option Addr} {n cap : Nat} {rows : List (Array Value)} (h : Els w s (.slice ao n cap) rows) : n = rows.length := by
  rcases h with ⟨rfl, e⟩ | ⟨g, cap', e, h⟩
  · injection e
  · injection e

theorem Els.step {w w' : World} {s : Nat} {v : Value} {rows : List (Array Value)} (h : Els w s v rows) (b : Below w.heap.size w w') : Els w' s v rows := by
  rcases h with h | ⟨g, cap, rfl, h⟩
  · exact .inl h
  · refine .inr ⟨g, cap, rfl, fun j r hr => ?_⟩
    obtain ⟨h1, h2, h3⟩ := h j r hr
    exact ⟨h1, h2, fun k u hu => (b.cell (World.block_lt_of_cell? w _ (h3 k u hu))).trans (h3 k u hu)⟩

theorem flat_at {rows : List (Array Value)} {s : Nat} (hs : ∀ r ∈ rows, r.size = s) : ∀ (j : Nat) (r : Array Value), rows[j]? = some r → ∀ (k : Nat) (u : Value), r[k]? = some u → (rows.flatMap (·.toList))[j * s + k]? = some u := by
  induction rows with
  | nil => intro j r hr; simp at hr
  | cons a rows ih =>
    intro j r hr k u hu
    have ha := hs a (by simp)
    cases j with
    | zero =>
      obtain rfl : a = r := by simpa using hr
      have hk : k < a.size := (Array.getElem?_eq_some_iff.1 hu).1
      rw [List.flatMap_cons, Nat.zero_mul, Nat.zero_add, List.getElem?_append_left (by simpa using hk)]
      simpa using hu
    | succ j =>
      have hr' : rows[j]? = some r := by simpa using hr
      have := ih (fun x hx => hs x (by simp [hx])) j r hr' k u hu
      rw [List.flatMap_cons, List.getElem?_append_right (by rw [Array.length_toList, ha, Nat.add_mul]; omega), Array.length_toList, ha, show (j + 1) * s + k - s = j * s + k by rw [Nat.add_mul]; omega]
      exact this

/-- The elements of an own row. -/
theorem Els.of_own {w : World} {B : Nat} {T : TypeId} {s : Nat} {v : Value} {rows : List (Array Value)} {xs : List Value} (h : w.ownsRow B T s v rows.length xs) (hx : xs = rows.flatMap (·.toList)) (hs : ∀ r ∈ rows, r.size = s ∧ r.all (·.oneCell') = true) : Els w s v rows := by
  subst hx
  rcases h.2 with ⟨hv, h0⟩ | ⟨g, cap, cur, hv, _⟩
  · exact .inl ⟨List.length_eq_zero_iff.1 h0, hv⟩
  · subst hv
    refine .inr ⟨g, cap, rfl, fun j r hr => ?_⟩
    obtain ⟨h1, h2⟩ := hs r (List.mem_of_getElem? hr)
    refine ⟨h1, h2, fun k u hu => ?_⟩
    have := h.cells (g := g) rfl (j * s + k) u (flat_at (fun r hr => (hs r hr).1) j r hr k u hu)
    have hadd : (⟨g, 0, none⟩ : Addr).add (j * s + k) = ⟨g, j * s + k, none⟩ := by unfold Addr.add; split <;> simp_all
    rwa [hadd] at this
end Go.Proofs.YtjnkppneilmpbaaGreatDoor
