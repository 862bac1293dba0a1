/-
  A part of the proof that the law ParserSheets (chapter 19) returns true for every sheet: walks of the program's functions, and runs of them in the kernel by the own evaluator.
-/
import Derived.Test.YtjnkppneilmpbaaGreatDoorLxu
import Derived.Lib.ItoaNum
import Derived.Test.YtjnkppneilmpbaaGreatDoorOkf
import Derived.Deep.RegionHeld3
import Derived.Deep.RegionWith
import Derived.Deep.RegionHeld
import Derived.WalkSpells
import Derived.WalkKit
import Derived.Below
import Derived.IntWalk
namespace Go.Proofs.YtjnkppneilmpbaaGreatDoor
open Go.RowKit

/-- Where the lines of the first k bytes begin. -/
def linesOf (s : ByteArray) : Nat → List Int
  | 0 => [0]
  | k + 1 => linesOf s k ++ (if s.data.toList[k]? = some 10 then [(k : Int) + 1] else [])
theorem linesOf_succ (s : ByteArray) (k : Nat) : linesOf s (k + 1) = linesOf s k ++ (if s.data.toList[k]? = some 10 then [(k : Int) + 1] else []) := rfl
theorem linesOf_len (s : ByteArray) (k : Nat) : (linesOf s k).length ≤ k + 1 := by
  induction k with
  | zero => simp [linesOf]
  | succ k ih =>
    rw [linesOf_succ, List.length_append]
    split <;> simp <;> omega
theorem linesOf_pos (s : ByteArray) (k : Nat) : 0 < (linesOf s k).length ∧ (linesOf s k).getD 0 0 = 0 := by
  induction k with
  | zero => simp [linesOf]
  | succ k ih =>
    rw [linesOf_succ]
    obtain ⟨h, e⟩ := ih
    refine ⟨by rw [List.length_append]; omega, ?_⟩
    rw [List.getD, List.getElem?_append_left h]
    exact e
theorem linesOf_mem (s : ByteArray) (k : Nat) : ∀ x ∈ linesOf s k, 0 ≤ x ∧ x ≤ (k : Int) := by
  induction k with
  | zero => intro x hx; simp [linesOf] at hx; omega
  | succ k ih =>
    intro x hx
    rw [linesOf_succ, List.mem_append] at hx
    rcases hx with hx | hx
    · have := ih x hx; omega
    · split at hx
      · simp at hx; omega
      · cases hx
theorem linesOf_sorted (s : ByteArray) (k : Nat) : (linesOf s k).Pairwise (· ≤ ·) := by
  induction k with
  | zero => simp [linesOf]
  | succ k ih =>
    rw [linesOf_succ]
    split
    · rw [List.pairwise_append]
      refine ⟨ih, by simp, fun x hx y hy => ?_⟩
      have := (linesOf_mem s k x hx).2
      simp at hy
      omega
    · simpa using ih
theorem linesOf_lines (s : ByteArray) (h : s.size ≤ 1048576) : Lines (linesOf s s.size) := by
  refine ⟨linesOf_pos s _, linesOf_sorted _ _, fun x hx => (linesOf_mem _ _ x hx).1, fun x hx => ?_, ?_⟩
  · have := (linesOf_mem _ _ x hx).2
    omega
  · have := linesOf_len s s.size
    omega

/-- What Scan returns, and leaves. -/
def Scanned (toks : List Tok) (out : Option Nat) (w : World) (r : Ending) (w' : World) : Prop :=
  Below w.heap.size w w' ∧
  ((out = none ∧ ∃ lv, r = .returned (.tuple #[lv, .int .i64 0, .int .i64 0, .int .i64 0]) ∧ w'.ownsRow w.heap.size 111 7 lv toks.length (cellsOf toks)) ∨
   (∃ (b : Nat) (l c : Int), out = some b ∧ r = .returned (.tuple #[.slice none 0 0, .int .i64 l, .int .i64 c, .int .i64 5])))

theorem results_tmp4 {fn : Func} {t u v x : Tmp} (h : fn.results = #[.tmp t, .tmp u, .tmp v, .tmp x]) (tmps : Array Value) (P : Program) (w : World) :
    (results fn tmps).run P w = .ok (.tuple #[tmps.getD t undef, tmps.getD u undef, tmps.getD v undef, tmps.getD x undef]) w := by
  simp [results, h]

theorem Tryz.infoInt : (Tryz.prog.info? 3).map (fun i => (i.zero, i.size, i.bytes)) = some (some (.int .i64 0), 1, 8) := by kernel_rfl

/-- The scanner while the lines are looked for. -/
structure LnSt (B X : Nat) (s : ByteArray) (lv : Value) (ls : List Int) (w0 w : World) : Prop where
  hX : w.heap[X]? = some (.cells #[.string s, .int .i64 0, lv, .slice none 0 0, .int .i64 0, .int .i64 0] 139 (0, 0))
  own : w.ownsRow B 3 1 lv ls.length (ls.map fun x => .int .i64 x)
  bel : Below B w0 w
  hBX : B ≤ X
  hB : B ≤ w.heap.size

theorem LnSt.push {B X : Nat} {s : ByteArray} {lv : Value} {ls : List Int} {w0 w w' : World} (h : LnSt B X s lv ls w0 w) {g cap : Nat} {x : Int} (hg : (w.alloc (.cells #[.int .i64 x] 3)).grownBy w' lv.ownBlock)
    (hown : w'.ownsRow B 3 1 (.slice (some ⟨g, 0, none⟩) (ls.length + 1) cap) (ls.length + 1) ((ls.map fun x => .int .i64 x) ++ [.int .i64 x])) :
    LnSt B X s (.slice (some ⟨g, 0, none⟩) (ls.length + 1) cap) (ls ++ [x]) w0 (w'.setCell ⟨X, 2, none⟩ (.slice (some ⟨g, 0, none⟩) (ls.length + 1) cap)) ∧ w'.heap[X]? = some (.cells #[.string s, .int .i64 0, lv, .slice none 0 0, .int .i64 0, .int .i64 0] 139 (0, 0)) := by
  have lX : X < w.heap.size := (Array.getElem?_eq_some_iff.1 h.hX).1
  have hne : lv.ownBlock ≠ some X := own_ne h.own h.hX (by intro cs fr hc; injection hc with _ h2 _; exact absurd h2 (by decide))
  have hX' : w'.heap[X]? = some (.cells #[.string s, .int .i64 0, lv, .slice none 0 0, .int .i64 0, .int .i64 0] 139 (0, 0)) := (hg.block X (by simp; omega) (fun e => hne e.symm)).trans ((Lib.alloc_old w _ X lX).trans h.hX)
  have hn2 : (Value.slice (some ⟨g, 0, none⟩) (ls.length + 1) cap).ownBlock ≠ some X := own_ne hown hX' (by intro cs fr hc; injection hc with _ h2 _; exact absurd h2 (by decide))
  have hbel : Below B w0 w' := (h.bel.alloc h.hB _).grown hg (by have := h.hB; simp; omega) (fun k hk => (h.own.lt k hk).1)
  refine ⟨⟨?_, ?_, hbel.setCell (p := ⟨X, 2, none⟩) h.hBX _, h.hBX, ?_⟩, hX'⟩
  · rw [Lib.heap_setCell_same hX']; rfl
  · have := own_step hown fun k hk => Below.heap_setCell w' ⟨X, 2, none⟩ (.slice (some ⟨g, 0, none⟩) (ls.length + 1) cap) k (fun e => hn2 (by rw [hk, e]))
    simpa using this
  · have h1 := h.hB
    have h2 := hg.size
    simp [World.setCell] at *
    omega

set_option maxHeartbeats 16000000 in
set_option maxRecDepth 100000 in
theorem lexScan {s : ByteArray} {toks : List Tok} {out : Option Nat} (hx : Lx (linesOf s s.size) s 0 0 toks out) (hsz : s.size ≤ 1048576) (hlong : ∀ b, out = some b → b ≤ 1048576) (hn : toks.length ≤ 262143) (w : World) :
    Calls Tryz.prog 24 #[.string s] w (Scanned toks out w) := by
  have gL := linesOf_lines s hsz
  have h0 : LnSt w.heap.size (w.heap.size + 1) s (.slice (some ⟨w.heap.size, 0, none⟩) 1 1) (linesOf s 0) w ((w.alloc (.cells #[.int .i64 0] 3)).alloc (.cells #[.string s, .int .i64 0, .slice (some ⟨w.heap.size, 0, none⟩) 1 1, .slice none 0 0, .int .i64 0, .int .i64 0] 139)) := by
    refine ⟨?_, ?_, ((Below.refl _ w).alloc (Nat.le_refl _) _).alloc (by simp) _, by omega, by simp; omega⟩
    · have := heap_alloc_new (w.alloc (.cells #[.int .i64 0] 3)) (.cells #[.string s, .int .i64 0, .slice (some ⟨w.heap.size, 0, none⟩) 1 1, .slice none 0 0, .int .i64 0, .int .i64 0] 139)
      simpa using this
    · exact (World.ownsRow_lit w #[.int .i64 0] 1 (Nat.le_refl _) (by decide) rfl).alloc _
  have hs1 : ¬ (1048576 : Int) < s.size := by omega
  obtain ⟨i0, hi0, hz0, hz1, hz2⟩ := info_parts Tryz.infoInt
  generalize hL : w.heap.size = L at h0
  go_enter Tryz.func24, Tryz.ntmps24
  go_wp2
  generalize hV : ((w.alloc (.cells #[.int .i64 0] 3)).alloc (.cells #[.string s, .int .i64 0, .slice (some ⟨L, 0, none⟩) 1 1, .slice none 0 0, .int .i64 0, .int .i64 0] 139)) = V at h0 ⊢
  clear hV
  go_loopg [17] (s.size + 1) (fun g v wr => ∃ (k : Nat) (lv : Value), k ≤ s.size ∧ g = s.size + 1 - k ∧ v = .int .i64 (k : Nat) ∧ LnSt L (L + 1) s lv (linesOf s k) w wr)
  case atStart => exact ⟨0, _, Nat.zero_le _, rfl, rfl, h0⟩
  case round =>
    clear h0
    obtain ⟨k, lv, hk, hg, rfl, h1⟩ := hrel
    have hll := linesOf_len s k
    by_cases hlt : k < s.size
    · have hlt' : (k : Int) < s.size := by omega
      have hk0 : (0 : Int) ≤ (k : Int) := by omega
      have hw2 : IntKind.i64.wrap ((k : Int) + 1) = (k : Int) + 1 := IntWalk.i64_in _ (by omega)
      have hsucc := linesOf_succ s k
      rw [at_list k hlt] at hsucc
      by_cases hnl : ((s[k].toNat : Nat) : Int) = 10
      · have h10 : s[k] = 10 := UInt8.toNat_inj.1 (by show _ = 10; omega)
        rw [h10, if_pos rfl] at hsucc
        have c2 : wr.cell? ⟨L + 1, 2, none⟩ = some lv := by rw [Lib.cell_of_heap h1.hX]; rfl
        have lX : L + 1 < wr.heap.size := (Array.getElem?_eq_some_iff.1 h1.hX).1
        have own1 := h1.own
        have hB1 := h1.hB
        rcases own1.2 with ⟨rfl, h00⟩ | ⟨g, cap, cur, rfl, -⟩
        · have := (linesOf_pos s k).1; omega
        go_wp2_with (at_builtin; refine wpList_append_lies _ rfl _ _ 113 rfl L 3 i0 _ 1 8 Tryz.underlying113 hi0 hz0 hz1 hz2 rfl (by omega) _ (linesOf s k).length _ rfl (own1.alloc _) ⟨wr.heap.size, 0, none⟩ 1 1 [.int .i64 ((k : Int) + 1)] rfl rfl (World.news_of_block (cs := #[.int .i64 ((k : Int) + 1)]) (t := 3) (fr := (0, 0)) (heap_alloc_new _ _)) (by simp [Value.oneCell']) (by omega) (by unfold maxLen; omega) (by omega) (by simp; omega) (wr.heap.size + 1) (by simp) ?_; intro gg wcap w2 hown1 hgrow hat hgl; obtain ⟨h2, hX2⟩ := h1.push hgrow hown1; have c22 : w2.cell? ⟨L + 1, 2, none⟩ = some (.slice (some ⟨g, 0, none⟩) (linesOf s k).length cap) := (by rw [Lib.cell_of_heap hX2]; rfl); have f22 : w2.frozen? ⟨L + 1, 2, none⟩ = false := Lib.frozen_of_heap hX2 2)
        go_roundg (s.size + 1 - (k + 1))
        case measure => omega
        case rel => exact ⟨k + 1, _, by omega, rfl, by simp, by rw [hsucc]; exact h2⟩
      · have h10 : ¬ s[k] = 10 := fun e => hnl (by rw [e]; rfl)
        rw [if_neg (by simpa using h10), List.append_nil] at hsucc
        go_wp2
        go_roundg (s.size + 1 - (k + 1))
        case measure => omega
        case rel => exact ⟨k + 1, lv, by omega, rfl, by simp, by rw [hsucc]; exact h1⟩
    · obtain rfl : k = s.size := by omega
      have hlt' : ¬ ((s.size : Nat) : Int) < s.size := by omega
      obtain ⟨g, cap, cur, rfl, hbg, hgc, hnc, hcm, hcs, htk⟩ : ∃ g cap cur, lv = .slice (some ⟨g, 0, none⟩) (linesOf s s.size).length cap ∧ L ≤ g ∧ wr.heap[g]? = some (.cells cur 3 (0, 0)) ∧ (linesOf s s.size).length ≤ cap ∧ cap ≤ maxLen ∧ cur.size = cap * 1 ∧ cur.toList.take ((linesOf s s.size).length * 1) = (linesOf s s.size).map fun x => .int .i64 x := by
        rcases h1.own.2 with ⟨rfl, h00⟩ | ⟨g, cap, cur, e1, e2, e3, e4, e5, e6, e7⟩
        · have := (linesOf_pos s s.size).1; omega
        · exact ⟨g, cap, cur, e1, e2, e3, e4, e5, e6, e7⟩
      have hLA : LinesAt (.slice (some ⟨g, 0, none⟩) (linesOf s s.size).length cap) (linesOf s s.size) [(g, .cells cur 3 (0, 0))] := by
        refine ⟨g, cap, cur, rfl, by simp, fun j hj => ?_⟩
        have := congrArg (fun l => l[j]?) htk
        simp only [Nat.mul_one, List.getElem?_take, if_pos hj, List.getElem?_map] at this
        rw [Array.getElem?_toList] at this
        rw [this]
        simp [List.getD, hj]
      have hgX : g ≠ L + 1 := by
        rintro rfl
        rw [h1.hX] at hgc
        injection hgc with hgc
        injection hgc with _ h2 _
        exact absurd h2 (by decide)
      have hW : Scn L (L + 1) [(g, .cells cur 3 (0, 0))] s (.slice (some ⟨g, 0, none⟩) (linesOf s s.size).length cap) (0 : Nat) (.slice none 0 0) 0 [] 0 0 w wr := by
        refine ⟨h1.hBX, h1.hB, h1.hX, World.ownsRow_nil _ _ _ _, fun p hp => ?_, h1.bel⟩
        obtain rfl := List.mem_singleton.1 hp
        exact ⟨hgc, hgX, hbg, by intro cs fr hc; injection hc with _ h2 _; exact absurd h2 (by decide)⟩
      have hsc := scan_walk hx hW hLA gL hsz (by omega)
      clear hW h1
      go_wp2_with (go_at_call 47; refine hsc.mono ?_)
      rintro e w2 rfl hE
      rcases hE with ⟨rfl, pos, lv, hS⟩ | ⟨b, pos, n, lv, xs, rfl, hS⟩
      · have c4 := hS.c4
        have c3 := hS.c3
        have hown : w2.ownsRow L 111 7 lv toks.length (cellsOf toks) := by simpa using hS.own
        have hbel := hS.below
        clear hS
        go_wp2
        refine bodyPost_ret (results_tmp4 rfl _ _ _) rfl ?_
        exact ⟨by rw [hL]; exact hbel, .inl ⟨rfl, lv, rfl, by rw [hL]; exact hown⟩⟩
      · have c4 := hS.c4
        have c5 := hS.c5
        have hbel := hS.below
        have hpl := place_walk hS hLA gL b (hlong b rfl)
        have hst := fun w' (h : Below w2.heap.size w2 w') => hS.step h
        clear hS
        go_wp2_with (go_at_call 48; refine hpl.mono ?_)
        rintro e w3 ⟨rfl, b3⟩
        have hS3 := hst _ b3
        have d4 := hS3.c4
        have hbel3 := hS3.below
        clear hS3 hst hpl
        go_wp2
        go_region
        all_goals go_wp2
        all_goals refine bodyPost_ret (results_tmp4 rfl _ _ _) rfl ?_
        all_goals exact ⟨by rw [hL]; exact hbel3.drew, .inr ⟨b, _, _, rfl, rfl⟩⟩
end Go.Proofs.YtjnkppneilmpbaaGreatDoor

namespace Go.Proofs.YtjnkppneilmpbaaGreatDoor
open Go.RowKit

structure Piece where
  kind : Int
  bl : List UInt8
  body : List UInt8
  value : Int
  bytes : List UInt8

def flat (ps : List Piece) : List UInt8 := ps.flatMap fun p => p.bl ++ p.body
def ptoks (ls : List Int) (a n : Nat) : List Piece → List Tok
  | [] => []
  | p :: ps => ⟨p.kind, ⟨p.body.toArray⟩, p.value, mk p.bytes, plL ls (a + p.bl.length), plC ls (a + p.bl.length), !decide (a < a + p.bl.length) && decide (0 < n)⟩ :: ptoks ls (a + p.bl.length + p.body.length) (n + 1) ps

def Ends (q : Nat → Bool) (rest : List UInt8) : Prop := ∀ x r, rest = x :: r → q x.toNat = false

def Piece.Ok (p : Piece) (rest : List UInt8) : Prop :=
  (∀ x ∈ p.bl, isBlank x.toNat = true) ∧
  ((p.kind = 1 ∧ p.value = 0 ∧ p.bytes = [] ∧ (∃ c t, p.body = c :: t ∧ isLetter c.toNat = true) ∧ (∀ x ∈ p.body, isInWord x.toNat = true) ∧ p.body.length ≤ 64 ∧ Ends isInWord rest) ∨
   (p.kind = 2 ∧ p.bytes = [] ∧ Lib.atoi p.body = some p.value ∧ p.body ≠ [] ∧ (∀ x ∈ p.body, isDigit x.toNat = true) ∧ p.body.length ≤ 15 ∧ Ends isDigit rest) ∨
   (p.kind = 3 ∧ p.value = 0 ∧ p.body = quoteL p.bytes ∧ p.bytes.length ≤ 4096) ∨
   (p.kind = 4 ∧ p.value = 0 ∧ p.bytes = [] ∧ ∃ c, p.body = [c] ∧ isLetter c.toNat = false ∧ isDigit c.toNat = false ∧ c.toNat ≠ 34 ∧ 0 ≤ Lib.indexByte symbols c ∧ isBlank c.toNat = false))

def GoodP (rest : List UInt8) : List Piece → Prop
  | [] => True
  | p :: ps => p.Ok (flat ps ++ rest) ∧ GoodP rest ps

theorem drop_get {l u rest : List UInt8} {a : Nat} (h : l.drop a = u ++ rest) (i : Nat) (hi : i < u.length) : l[a + i]? = some u[i] := by
  rw [← List.getElem?_drop, h, List.getElem?_append_left hi, List.getElem?_eq_getElem hi]
theorem drop_more {l u rest : List UInt8} {a : Nat} (h : l.drop a = u ++ rest) : l.drop (a + u.length) = rest := by
  rw [← List.drop_drop, h]; simp

section
variable {s : ByteArray} {a n : Nat} {q : Nat → Bool} {u rest : List UInt8}

theorem drop_len (h : s.data.toList.drop a = u ++ rest) (ha : a ≤ s.size) : a + u.length + rest.length = s.size := by
  have := congrArg List.length h
  rw [List.length_drop, size_list, List.length_append] at this
  omega

theorem upto_list (h : s.data.toList.drop a = u ++ rest) (ha : a ≤ s.size) (hall : ∀ x ∈ u, q x.toNat = true) (hst : Ends q rest) : Upto q s a (a + u.length) := by
  have hl := drop_len h ha
  refine ⟨by omega, by omega, fun k hk h1 h2 => ?_, fun hk => ?_⟩
  · have hg := drop_get h (k - a) (by omega)
    rw [show a + (k - a) = k by omega, at_list k hk] at hg
    rw [Option.some.inj hg]
    exact hall _ (List.getElem_mem _)
  · have hr := drop_more h
    cases rest with
    | nil => simp at hl; omega
    | cons x r =>
      have hg := drop_get (u := [x]) (rest := r) (by simpa using hr) 0 (by simp)
      rw [Nat.add_zero, at_list _ hk] at hg
      rw [Option.some.inj hg]
      exact hst x r rfl

theorem head_list {x : UInt8} (h : s.data.toList.drop a = x :: rest) : ∃ hk : a < s.size, s[a] = x := by
  have hk : a < s.size := by
    have := congrArg List.length h
    rw [List.length_drop, size_list, List.length_cons] at this
    omega
  have hg := drop_get (u := [x]) (rest := rest) (by simpa using h) 0 (by simp)
  rw [Nat.add_zero, at_list _ hk] at hg
  exact ⟨hk, Option.some.inj hg⟩

theorem extract_list (h : s.data.toList.drop a = u ++ rest) : s.extract a (a + u.length) = ⟨u.toArray⟩ := by
  apply ByteArray.ext
  apply Array.ext'
  rw [ByteArray.data_extract, Array.toList_extract, List.extract_eq_take_drop, h]
  simp

end

theorem blank_letter {c : UInt8} (h : isLetter c.toNat = true) : isBlank c.toNat = false := by
  simp only [isLetter, isBlank, Bool.or_eq_true, Bool.and_eq_true, decide_eq_true_eq, Bool.or_eq_false_iff, decide_eq_false_iff_not] at *
  omega
theorem blank_digit {c : UInt8} (h : isDigit c.toNat = true) : isBlank c.toNat = false := by
  simp only [isDigit, isBlank, Bool.and_eq_true, decide_eq_true_eq, Bool.or_eq_false_iff, decide_eq_false_iff_not] at *
  omega

theorem Piece.Ok.first {p : Piece} {rest : List UInt8} (h : p.Ok rest) : Ends isBlank (p.body ++ rest) := by
  rcases h.2 with ⟨_, _, _, ⟨c, t, e, hl⟩, _⟩ | ⟨_, _, _, hne, hd, _⟩ | ⟨_, _, e, _⟩ | ⟨_, _, _, c, e, _, _, _, _, hb⟩
  · intro x r he
    rw [e] at he; injection he with he; subst he; exact blank_letter hl
  · intro x r he
    cases hb : p.body with
    | nil => exact absurd hb hne
    | cons y t =>
      rw [hb] at he; injection he with he; subst he
      exact blank_digit (hd y (by rw [hb]; simp))
  · intro x r he
    rw [e] at he; injection he with he; subst he; decide
  · intro x r he
    rw [e] at he; injection he with he; subst he; exact hb

theorem mk_nil : mk [] = ByteArray.empty := rfl

theorem lx_pieces {ls : List Int} {s : ByteArray} {rest : List UInt8} {toks : List Tok} {out : Option Nat} : ∀ (ps : List Piece) (a n : Nat), a ≤ s.size → s.data.toList.drop a = flat ps ++ rest → GoodP rest ps →
    Lx ls s (a + (flat ps).length) (n + ps.length) toks out → Lx ls s a n (ptoks ls a n ps ++ toks) out
  | [], a, n, _, _, _, h => by simpa [ptoks, flat] using h
  | p :: ps, a, n, ha, hd, hg, h => by
    obtain ⟨hp, hgs⟩ := hg
    have hd0 : s.data.toList.drop a = p.bl ++ (p.body ++ (flat ps ++ rest)) := by rw [hd]; simp [flat]
    have hl := drop_len hd0 ha
    have hu : Upto isBlank s a (a + p.bl.length) := upto_list hd0 ha hp.1 hp.first
    have hd1 := drop_more hd0
    have hd2 := drop_more hd1
    have ha1 : a + p.bl.length + p.body.length ≤ s.size := by
      have := drop_len hd1 (by omega); omega
    have h' := lx_pieces ps (a + p.bl.length + p.body.length) (n + 1) ha1 hd2 hgs (by
      have e1 : a + p.bl.length + p.body.length + (flat ps).length = a + (flat (p :: ps)).length := by simp [flat]; omega
      have e2 : n + 1 + ps.length = n + (p :: ps).length := by simp; omega
      rw [e1, e2]; exact h)
    have hx := extract_list hd1
    rcases hp.2 with ⟨hk, hv, hby, ⟨c, t, e, hc⟩, hw, hlen, hst⟩ | ⟨hk, hby, hv, hne, hdg, hlen, hst⟩ | ⟨hk, hv, e, h4⟩ | ⟨hk, hv, hby, c, e, n1, n2, n3, n4, _⟩
    · obtain ⟨hb, hbe⟩ := head_list (x := c) (rest := t ++ (flat ps ++ rest)) (by rw [hd1, e]; rfl)
      have := Lx.word (n := n) hu hb (by rw [hbe]; exact hc) (upto_list hd1 (by omega) hw hst) (by omega) h'
      rw [hx] at this
      simpa [ptoks, hk, hv, hby, mk_nil] using this
    · obtain ⟨c, t, e⟩ : ∃ c t, p.body = c :: t := by
        cases hb : p.body with
        | nil => exact absurd hb hne
        | cons c t => exact ⟨c, t, rfl⟩
      obtain ⟨hb, hbe⟩ := head_list (x := c) (rest := t ++ (flat ps ++ rest)) (by rw [hd1, e]; rfl)
      have := Lx.number (n := n) p.value hu hb (by rw [hbe]; exact hdg c (by rw [e]; simp)) (upto_list hd1 (by omega) hdg hst) (by omega) (by rw [hx]; exact hv) h'
      rw [hx] at this
      simpa [ptoks, hk, hby, mk_nil] using this
    · rw [e] at hd1 h' hx
      have := Lx.str (n := n) hu p.bytes (flat ps ++ rest) h4 hd1 h'
      rw [hx] at this
      simpa [ptoks, hk, hv, e] using this
    · have he1 : p.body.length = 1 := by rw [e]; rfl
      obtain ⟨hb, hbe⟩ := head_list (x := c) (rest := flat ps ++ rest) (by rw [hd1, e]; rfl)
      rw [he1] at h' hx
      have := Lx.sym (n := n) hu hb (by rw [hbe]; exact n1) (by rw [hbe]; exact n2) (by rw [hbe]; exact n3) (by rw [hbe]; simpa using n4) h'
      rw [hx] at this
      simpa [ptoks, hk, hv, he1, hby, mk_nil] using this

theorem ptoks_length (ls : List Int) (ps : List Piece) : ∀ (a n : Nat), (ptoks ls a n ps).length = ps.length := by
  induction ps with
  | nil => intro a n; rfl
  | cons p ps ih => intro a n; simp [ptoks, ih]

/-- A token of a piece. -/
def IsOf (p : Piece) (t : Tok) : Prop := t.kind = p.kind ∧ t.text = mk p.body ∧ t.value = p.value ∧ t.joined = p.bl.isEmpty ∧ t.bytes = mk p.bytes

/-- The tokens are those of the pieces. -/
def Toks (ps : List Piece) (toks : List Tok) : Prop := toks.length = ps.length ∧ ∀ (i : Nat) (p : Piece), ps[i]? = some p → ∃ t, toks[i]? = some t ∧ IsOf p t

theorem ptoks_of (ls : List Int) (ps : List Piece) : ∀ (a n i : Nat) (p : Piece), ps[i]? = some p → ∃ l c, (ptoks ls a n ps)[i]? = some ⟨p.kind, mk p.body, p.value, mk p.bytes, l, c, p.bl.isEmpty && decide (0 < n + i)⟩ := by
  induction ps with
  | nil => intro a n i p h; simp at h
  | cons p0 ps ih =>
    intro a n i p h
    cases i with
    | zero =>
      simp only [List.getElem?_cons_zero, Option.some.injEq] at h
      subst h
      refine ⟨plL ls (a + p0.bl.length), plC ls (a + p0.bl.length), ?_⟩
      have hb : (!decide (a < a + p0.bl.length)) = p0.bl.isEmpty := by
        cases h : p0.bl with
        | nil => simp
        | cons x r => simp
      simp only [ptoks, List.getElem?_cons_zero, Nat.add_zero, hb, mk]
    | succ i =>
      simp only [List.getElem?_cons_succ] at h
      obtain ⟨l, c, h1⟩ := ih (a + p0.bl.length + p0.body.length) (n + 1) i p h
      refine ⟨l, c, ?_⟩
      simp only [ptoks, List.getElem?_cons_succ, h1]
      rw [show n + 1 + i = n + (i + 1) by omega]

/-- The end's piece, behind blanks. -/
def endP (bl : List UInt8) : Piece := ⟨0, bl, [], 0, []⟩

/-- The lexer divides a text into its pieces; the first of them, and the end, may have blanks ahead of them. -/
theorem lx_toks (ls : List Int) (s : ByteArray) (p : Piece) (ps : List Piece) (bl : List UInt8) (hs : s.data.toList = flat (p :: ps) ++ bl) (hg : GoodP bl (p :: ps)) (hbl : ∀ x ∈ bl, isBlank x.toNat = true) :
    ∃ toks, Lx ls s 0 0 toks none ∧ toks.length = ps.length + 2 ∧ (∃ t, toks[0]? = some t ∧ t.kind = p.kind ∧ t.text = mk p.body ∧ t.value = p.value ∧ t.bytes = mk p.bytes ∧ t.joined = false) ∧
      ∀ (i : Nat) (q : Piece), (ps ++ [endP bl])[i]? = some q → ∃ t, toks[i + 1]? = some t ∧ IsOf q t := by
  have hsz : s.size = (flat (p :: ps)).length + bl.length := by rw [← size_list, hs]; simp
  have hu : Upto isBlank s (flat (p :: ps)).length s.size := by
    have := upto_list (s := s) (a := (flat (p :: ps)).length) (q := isBlank) (u := bl) (rest := []) (by rw [hs]; simp) (by omega) hbl (by intro x r e; cases e)
    rw [hsz]; exact this
  have hf := Lx.fin (ls := ls) (n := (p :: ps).length) hu rfl
  have hx := lx_pieces (ls := ls) (s := s) (rest := bl) (out := none) (p :: ps) 0 0 (by omega) (by simpa using hs) hg (by simpa using hf)
  refine ⟨_, hx, by rw [List.length_append, ptoks_length]; rfl, ?_, ?_⟩
  · obtain ⟨l, c, hc⟩ := ptoks_of ls (p :: ps) 0 0 0 p rfl
    refine ⟨_, by rw [List.getElem?_append_left (by rw [ptoks_length]; simp)]; exact hc, rfl, rfl, rfl, rfl, by simp⟩
  · intro i q hi
    by_cases hlt : i < ps.length
    · rw [List.getElem?_append_left hlt] at hi
      obtain ⟨l, c, hc⟩ := ptoks_of ls (p :: ps) 0 0 (i + 1) q (by simpa using hi)
      refine ⟨_, by rw [List.getElem?_append_left (by rw [ptoks_length]; simp; omega)]; exact hc, rfl, rfl, rfl, by simp, rfl⟩
    · have hi' : i = ps.length := by
        have := (List.getElem?_eq_some_iff.1 hi).1
        simp at this
        omega
      subst hi'
      rw [List.getElem?_append_right (Nat.le_refl _), Nat.sub_self] at hi
      simp only [List.getElem?_cons_zero, Option.some.injEq] at hi
      subst hi
      refine ⟨_, by rw [List.getElem?_append_right (by rw [ptoks_length]; simp), ptoks_length]; simp; rfl, rfl, ?_, rfl, ?_, rfl⟩
      · apply ByteArray.ext
        simp [mk, endP]
      · show (!decide ((flat (p :: ps)).length < s.size)) = bl.isEmpty
        cases bl with
        | nil => simp at hsz; simp [hsz]
        | cons x r => simp at hsz; simp [hsz]
end Go.Proofs.YtjnkppneilmpbaaGreatDoor

namespace Go.Proofs.YtjnkppneilmpbaaGreatDoor
open Go.RowKit
open Go.Lib (decDigits)

theorem dec_digit (u : Nat) : ∀ x ∈ decDigits u, isDigit x.toNat = true := by
  induction u using Nat.strongRecOn with
  | _ u ih =>
    intro x hx
    rw [decDigits] at hx
    by_cases h : u < 10
    · rw [dif_pos h, List.mem_singleton] at hx
      subst hx
      have : (UInt8.ofNat (48 + u)).toNat = 48 + u := by rw [UInt8.toNat_ofNat']; omega
      rw [this]; simp only [isDigit, Bool.and_eq_true, decide_eq_true_eq]; omega
    · rw [dif_neg h, List.mem_append, List.mem_singleton] at hx
      rcases hx with hx | hx
      · exact ih (u / 10) (by omega) x hx
      · subst hx
        have : (UInt8.ofNat (48 + u % 10)).toNat = 48 + u % 10 := by rw [UInt8.toNat_ofNat']; omega
        rw [this]; simp only [isDigit, Bool.and_eq_true, decide_eq_true_eq]; omega
theorem dec_ne (u : Nat) : decDigits u ≠ [] := by
  rw [decDigits]; split <;> simp
theorem dec_le : ∀ (k u : Nat), u < 10 ^ (k + 1) → (decDigits u).length ≤ k + 1 := by
  intro k
  induction k with
  | zero => intro u h; rw [decDigits, dif_pos (by omega)]; simp
  | succ k ih =>
    intro u h
    rw [decDigits]; split
    · simp
    · have := ih (u / 10) (by rw [Nat.pow_succ] at h; omega)
      simp; omega
theorem dec_gt : ∀ (k u : Nat), 10 ^ k ≤ u → k < (decDigits u).length := by
  intro k
  induction k with
  | zero => intro u _; have := dec_ne u; exact List.length_pos_iff.2 this
  | succ k ih =>
    intro u h
    rw [decDigits]; split
    · rename_i h10; rw [Nat.pow_succ] at h; have := Nat.pow_pos (n := k) (show 0 < 10 by decide); omega
    · have := ih (u / 10) (by rw [Nat.pow_succ] at h; omega)
      simp; omega
theorem decFrom_app (l m : List UInt8) : ∀ acc v, Lib.decFrom acc l = some v → Lib.decFrom acc (l ++ m) = Lib.decFrom v m := by
  induction l with
  | nil => intro acc v h; simp [Lib.decFrom] at h; simp [h]
  | cons b l ih =>
    intro acc v h
    simp only [Lib.decFrom, List.cons_append] at h ⊢
    cases hd : Lib.digitVal b with
    | none => rw [hd] at h; simp at h
    | some d => rw [hd] at h; exact ih _ _ h
theorem dec_from (u : Nat) : Lib.decFrom 0 (decDigits u) = some u := by
  have dv : ∀ d, d < 10 → Lib.digitVal (UInt8.ofNat (48 + d)) = some d := by
    intro d hd
    have : (UInt8.ofNat (48 + d)).toNat = 48 + d := by rw [UInt8.toNat_ofNat']; omega
    rw [Lib.digitVal, this, if_pos (by omega)]; simp
  induction u using Nat.strongRecOn with
  | _ u ih =>
    rw [decDigits]; split
    · rename_i h; simp only [Lib.decFrom, dv u h]; simp
    · rename_i h
      rw [decFrom_app _ _ _ _ (ih (u / 10) (by omega))]
      simp only [Lib.decFrom, dv (u % 10) (by omega)]
      congr 1; omega
theorem dec_atoi (u : Nat) : Lib.atoi (decDigits u) = some (u : Int) := by
  have h := dec_from u
  have hd := dec_digit u
  have hne := dec_ne u
  cases hl : decDigits u with
  | nil => exact absurd hl hne
  | cons b r =>
    rw [hl] at h hd
    have hb := hd b (by simp)
    simp only [isDigit, Bool.and_eq_true, decide_eq_true_eq] at hb
    have n1 : b ≠ 45 := by rintro rfl; simp at hb
    have n2 : b ≠ 43 := by rintro rfl; simp at hb
    simp [Lib.atoi, n1, n2, Lib.decNat, h]


end Go.Proofs.YtjnkppneilmpbaaGreatDoor

namespace Go.Proofs.YtjnkppneilmpbaaGreatDoor
open Go.RowKit Go.Dam

def decS (n : Nat) : ByteArray := ⟨(Lib.decDigits n).toArray⟩
noncomputable def smallOk (n : Nat) : Bool := match evCall noOrc Tryz.prog fsAll 100 5 (.func 14) [.int .i64 (n : Int)] ⟨[], 100⟩ with
  | some (v, _) => veq (.string ⟨#[UInt8.ofNat (48 + n)]⟩) v
  | none => false
set_option maxRecDepth 1000000 in
theorem small_all : ((List.range 10).all smallOk) = true := by kernel_rfl

theorem digits_small (n : Nat) (hn : n < 10) (w : World) : Calls Tryz.prog 14 #[.int .i64 (n : Int)] w fun e w' => e = .returned (.string (decS n)) ∧ Below w.heap.size w w' := by
  have h := List.all_eq_true.1 small_all n (List.mem_range.2 hn)
  have hd : decS n = ⟨#[UInt8.ofNat (48 + n)]⟩ := by
    unfold decS
    rw [Lib.decDigits_one hn]
  unfold smallOk at h
  split at h
  · rename_i v S he
    obtain rfl := veq_spec h
    rw [hd]
    refine closed (args := [.int .i64 (n : Int)]) noOrc_ok mixed_ok (namesOk_of names_ok) (ok_any _) (h := []) (nx := 100) rfl (by decide) (Nat.le_of_ble_eq_true (by kernel_rfl)) ?_ rfl he rfl ?_
    · intro x hx; obtain rfl := List.mem_singleton.1 hx; rfl
    · intro n o hn; cases hn
  · cases h

theorem decS_le (n : Nat) (hn : n ≤ 9223372036854775807) : (decS n).size ≤ 19 := dec_le 18 n (by omega)

theorem add_run (s t : ByteArray) (hs : s.size ≤ 10000) (ht : t.size ≤ 10000) (w : World) : (Op.stringOp .add s t).run Tryz.prog w = .ok (.string (s ++ t)) w :=
  Go.run_string_add_sum (P := Tryz.prog) (w := w) s t (by omega)

theorem decS_step {n : Nat} (hn : ¬ n < 10) : decS (n / 10) ++ decS (n % 10) = decS n := by
  have h1 : Lib.decDigits (n % 10) = [UInt8.ofNat (48 + n % 10)] := Lib.decDigits_one (by omega)
  have h2 : Lib.decDigits n = Lib.decDigits (n / 10) ++ [UInt8.ofNat (48 + n % 10)] := by
    conv => lhs; rw [Lib.decDigits, dif_neg hn]
  apply ByteArray.ext
  rw [ByteArray.data_append]
  apply Array.ext'
  unfold decS
  rw [h2, h1]
  simp

set_option maxHeartbeats 2000000 in
set_option maxRecDepth 1000000 in
theorem digits_big (i : Int) (h10 : 10 ≤ i) (h1 : i ≤ 9223372036854775807) (ih : ∀ w : World, Calls Tryz.prog 14 #[.int .i64 (i / 10)] w fun e w' => e = .returned (.string (decS (i / 10).toNat)) ∧ Below w.heap.size w w')
    (il : ∀ w : World, Calls Tryz.prog 14 #[.int .i64 (i % 10)] w fun e w' => e = .returned (.string (decS (i % 10).toNat)) ∧ Below w.heap.size w w') (w : World) :
    Calls Tryz.prog 14 #[.int .i64 i] w fun e w' => e = .returned (.string (decS i.toNat)) ∧ Below w.heap.size w w' := by
  have h0 : 0 ≤ i := by omega
  have g2 : ¬ i < 10 := by omega
  have q1 : 0 ≤ i % 10 := by omega
  have q2 : i % 10 < 10 := by omega
  go_enter Tryz.func14, Tryz.ntmps14
  have e1 : i.tdiv 10 = i / 10 := by rw [Int.tdiv_eq_ediv_of_nonneg h0]
  have e2 : i.tmod 10 = i % 10 := by rw [Int.tmod_eq_emod_of_nonneg h0]
  have e3 : IntKind.i64.wrap (i / 10) = i / 10 := IntWalk.i64_in _ (by omega)
  have e4 : IntKind.i64.wrap (i % 10) = i % 10 := IntWalk.i64_in _ (by omega)
  have a0 : ∀ ww : World, (Op.stringOp .add (decS (i / 10).toNat) (decS (i % 10).toNat)).run Tryz.prog ww = .ok (.string (decS i.toNat)) ww := fun ww => by
    have x1 : (i / 10).toNat = i.toNat / 10 := by omega
    have x2 : (i % 10).toNat = i.toNat % 10 := by omega
    rw [add_run _ _ (by have := decS_le (i / 10).toNat (by omega); omega) (by have := decS_le (i % 10).toNat (by omega); omega)]
    rw [x1, x2, decS_step (by omega)]
  go_wp2_with (go_at_call 14; refine (ih _).mono ?_)
  intro r w1; first | (intro he b1; subst he) | rintro ⟨rfl, b1⟩
  go_wp2_with (go_at_call 14; refine (il _).mono ?_)
  intro r w2; first | (intro he b2; subst he) | rintro ⟨rfl, b2⟩
  go_wp2
  go_ret
  exact ⟨rfl, b1.trans (b2.mono b1.size)⟩

theorem digits_walk : ∀ (n : Nat), n ≤ 9223372036854775807 → ∀ w : World, Calls Tryz.prog 14 #[.int .i64 (n : Int)] w fun e w' => e = .returned (.string (decS n)) ∧ Below w.heap.size w w' := by
  intro n
  induction n using Nat.strongRecOn with
  | _ n ih =>
    intro hn w
    by_cases h : n < 10
    · exact digits_small n h w
    · have e1 : ((n : Int) / 10) = ((n / 10 : Nat) : Int) := by omega
      have e2 : ((n : Int) % 10) = ((n % 10 : Nat) : Int) := by omega
      have := digits_big (n : Int) (by omega) (by omega) (fun w => by
        rw [e1, Int.toNat_natCast]
        exact ih (n / 10) (by omega) (by omega) w) (fun w => by
        rw [e2, Int.toNat_natCast]
        exact ih (n % 10) (by omega) (by omega) w) w
      simpa using this

end Go.Proofs.YtjnkppneilmpbaaGreatDoor

namespace Go.Proofs.YtjnkppneilmpbaaGreatDoor
open Go.RowKit
open Go.Lib (decDigits)

/-- A text, named without a rule to turn it. -/
def TxtIs (z : ByteArray) (l : List UInt8) : Prop := z = mk l
theorem mk_add (l m : List UInt8) : mk l ++ mk m = mk (l ++ m) := by
  apply ByteArray.ext
  rw [ByteArray.data_append]
  apply Array.ext'
  simp [mk]
theorem TxtIs.add {z : ByteArray} {l m : List UInt8} (h : TxtIs z l) : TxtIs (z ++ ⟨m.toArray⟩) (l ++ m) := by
  unfold TxtIs at *
  rw [h, ← mk_add]; rfl
theorem TxtIs.join {z y : ByteArray} {l m : List UInt8} (h : TxtIs z l) (h' : TxtIs y m) : TxtIs (z ++ y) (l ++ m) := by
  unfold TxtIs at *
  rw [h, h', ← mk_add]
theorem TxtIs.size {z : ByteArray} {l : List UInt8} (h : TxtIs z l) : z.size = l.length := by
  unfold TxtIs at h
  rw [h, mk_size]

/-- The id of the n-th object, if ids are written. -/
def idL (ids : Bool) (n : Nat) : List UInt8 := if ids then [64, 48, 46] ++ decDigits n ++ [32] else []
def stepC (y : UInt8) : UInt8 := match (y.toNat / 2) % 7 with
  | 0 => 67 | 1 => 68 | 2 => 69 | 3 => 70 | 4 => 71 | 5 => 65 | _ => 66
def noteL (y : UInt8) : List UInt8 := if y.toNat % 2 = 0 then [stepC y, 52, 58, 52] else [114, 58, 52]
/-- The notes behind n objects. -/
def notesL (ids : Bool) : Nat → List UInt8 → List UInt8
  | _, [] => []
  | n, y :: l => [32] ++ idL ids (n + 1) ++ noteL y ++ notesL ids (n + 1) l
def keyL (p k : UInt8) : List UInt8 := if k = p then [] else [107, 101, 121, 32] ++ decDigits k.toNat ++ [32]
def measT : List UInt8 := [109, 101, 97, 115, 117, 114, 101, 32]
/-- The measures behind n objects and the key p. -/
def measuresL (ids : Bool) : Nat → UInt8 → List (List UInt8 × UInt8) → List UInt8
  | _, _, [] => []
  | n, p, m :: l => measT ++ idL ids (n + 1) ++ keyL p m.2 ++ [123] ++ notesL ids (n + 1) m.1 ++ [32, 125, 10] ++ measuresL ids (n + 1 + m.1.length) m.2 l
def scoreT : List UInt8 := [115, 99, 111, 114, 101, 32]
def partT : List UInt8 := [32, 112, 97, 114, 116, 32]
def staffT : List UInt8 := [34, 34, 32, 115, 116, 97, 102, 102, 32]
def trebleT : List UInt8 := [116, 114, 101, 98, 108, 101, 10]
def headL (ids : Bool) (title : List UInt8) : List UInt8 := scoreT ++ quoteL title ++ partT ++ idL ids 1 ++ staffT ++ idL ids 2 ++ trebleT
def textL (ids : Bool) (title : List UInt8) (l : List (List UInt8 × UInt8)) : List UInt8 := headL ids title ++ measuresL ids 2 0 l

theorem idL_len (ids : Bool) (n : Nat) (h : n < 1000) : (idL ids n).length ≤ 7 := by
  unfold idL
  have := dec_le 2 n (by omega)
  split <;> simp; omega
theorem noteL_len (y : UInt8) : (noteL y).length ≤ 4 := by unfold noteL; split <;> simp
theorem notesL_len (ids : Bool) : ∀ (l : List UInt8) (n : Nat), n + l.length < 1000 → (notesL ids n l).length ≤ 12 * l.length
  | [], _, _ => by simp [notesL]
  | y :: l, n, h => by
    have h1 := notesL_len ids l (n + 1) (by simp at h; omega)
    have h2 := idL_len ids (n + 1) (by simp at h; omega)
    have h3 := noteL_len y
    simp only [notesL, List.length_append, List.length_cons, List.length_nil]
    omega
theorem keyL_len (p k : UInt8) : (keyL p k).length ≤ 8 := by
  unfold keyL
  have := dec_le 2 k.toNat (by have := k.toNat_lt; omega)
  split <;> simp; omega
/-- How many objects the measures have. -/
def objs : List (List UInt8 × UInt8) → Nat
  | [] => 0
  | m :: l => 1 + m.1.length + objs l
theorem measuresL_len (ids : Bool) : ∀ (l : List (List UInt8 × UInt8)) (n : Nat) (p : UInt8), n + objs l < 1000 → (measuresL ids n p l).length ≤ 30 * objs l
  | [], _, _, _ => by simp [measuresL]
  | m :: l, n, p, h => by
    simp only [objs] at h
    have h1 := measuresL_len ids l (n + 1 + m.1.length) m.2 (by omega)
    have h2 := notesL_len ids m.1 (n + 1) (by omega)
    have h3 := idL_len ids (n + 1) (by omega)
    have h4 := keyL_len p m.2
    simp only [measuresL, objs, measT, List.length_append, List.length_cons, List.length_nil]
    omega
theorem quoteL_len (l : List UInt8) : (quoteL l).length ≤ 2 + 4 * l.length := by
  have key : (l.flatMap esc).length ≤ 4 * l.length := by
    induction l with
    | nil => simp
    | cons a r ih => have := esc_le a; simp only [List.flatMap_cons, List.length_append, List.length_cons]; omega
  unfold quoteL
  simp only [List.length_cons, List.length_append, List.length_nil]
  omega
theorem objs_le : ∀ (l : List (List UInt8 × UInt8)) (a : Nat), (∀ m ∈ l, m.1.length ≤ a) → objs l ≤ l.length * (a + 1)
  | [], _, _ => by simp [objs]
  | m :: l, a, h => by
    have h1 := objs_le l a (fun m hm => h m (by simp [hm]))
    have h2 := h m (by simp)
    simp only [objs, List.length_cons, Nat.add_mul]
    omega
theorem textL_len (ids : Bool) (title : List UInt8) (l : List (List UInt8 × UInt8)) (ht : title.length ≤ 40) (hl : l.length ≤ 5) (h6 : ∀ m ∈ l, m.1.length ≤ 6) : (textL ids title l).length ≤ 1400 := by
  have h1 := objs_le l 6 h6
  have h2 : objs l ≤ 35 := Nat.le_trans h1 (by omega)
  have h3 := measuresL_len ids l 2 0 (by omega)
  have h4 := quoteL_len title
  have h5 := idL_len ids 1 (by omega)
  have h6 := idL_len ids 2 (by omega)
  simp only [textL, headL, scoreT, partT, staffT, trebleT, List.length_append, List.length_cons, List.length_nil]
  omega
end Go.Proofs.YtjnkppneilmpbaaGreatDoor
