/-
  A part of the proof that the law ParserIds (chapter 19) returns true for every site, number and count: walks of the program's functions, and runs of them in the kernel by the own evaluator.
-/
import Derived.Test.YtaimdnddmddbnaaGreatDoorPcs
namespace Go.Proofs.YtaimdnddmddbnaaGreatDoor
open Go.RowKit

theorem _root_.Go.World.ownsRow.isSlice {w : World} {B : Nat} {e : TypeId} {size : Nat} {v : Value} {n : Nat} {xs : List Value} (h : w.ownsRow B e size v n xs) : ∃ ao cp, v = .slice ao n cp := by
  rcases h.2 with ⟨rfl, h0⟩ | ⟨g, cap, cur, rfl, _⟩
  · exact ⟨none, 0, by rw [h0]⟩
  · exact ⟨_, _, rfl⟩

/-- Ownership goes on, apart from one block. -/
theorem own_go {w w' : World} {B X : Nat} {e : TypeId} {size : Nat} {v : Value} {n : Nat} {xs : List Value} (h : w.ownsRow B e size v n xs) (hX : X < B) (hk : ∀ k, k < w.heap.size → k ≠ X → w'.heap[k]? = w.heap[k]?) : w'.ownsRow B e size v n xs :=
  own_step h fun k hv => hk k (h.lt k hv).2 (by have := (h.lt k hv).1; omega)

/-- All went well. -/
def ReadOk (S N : Int) (n : Nat) (w : World) (r : Ending) (w' : World) : Prop :=
  Below w.heap.size w w' ∧ ∃ title ap cp al cl av cv, r = .returned (.tuple #[.agg #[.string title, .bool false, .slice ap 1 cp, .slice none 0 0, .slice none 0 0, .slice al 1 cl], .int .i64 0, .int .i64 0, .int .i64 0]) ∧
    w'.ownsRow (w.heap.size + 1) 40 6 (.slice ap 1 cp) 1 [.int .i64 S, .int .i64 N, .string ByteArray.empty, .int .i64 0, .int .i64 0, .slice av n cv] ∧
    w'.ownsRow (w.heap.size + 1) 42 3 (.slice av n cv) n (staffCells S N n) ∧ w'.ownsRow (w.heap.size + 1) 35 2 (.slice al 1 cl) 1 [.int .i64 S, .int .i64 (N + n)]
/-- It fails. -/
def ReadErr (G : Int → Int → Prop) (w : World) (r : Ending) (w' : World) : Prop :=
  Below w.heap.size w w' ∧ ∃ line col e, r = .returned (.tuple #[noScore, .int .i64 line, .int .i64 col, .int .i64 e]) ∧ G col e

section
variable {S N n : Nat}

theorem below_away {w0 w1 w2 : World} (hs : w0.heap.size ≤ w1.heap.size) (h : Away [w0.heap.size + 1, w0.heap.size] w1 w2) : Below w0.heap.size w1 w2 :=
  ⟨h.os, h.tape, h.output, h.size, fun k hk => h.block k (by omega) (by simp; omega)⟩

theorem err_prs {Y M : Nat} {tv : Value} {toks : List Tok} {pos : Nat} {line col e : Int} {free : Bool} {ls ln : Int} {es : Array MapEntry} {clk : Nat} {w : World} (h : Prs Y M tv toks pos line col e free ls ln es clk w) : ErrAt Y line col e w :=
  ⟨by rw [Lib.cell_of_heap h.blk]; rfl, by rw [Lib.cell_of_heap h.blk]; rfl, by rw [Lib.cell_of_heap h.blk]; rfl⟩

theorem open_id (hS : S < 1000000000000000) (hN : N < 1000000000000000) (hn : n ≤ 1000) (w0 : World) : Calls Tryz.prog 8 #[.string (idText S N n), .bool false] w0 (Opened (idToks S N n) none w0) :=
  open_walk (id_lx S N n hS hN) (by have := id_size S N n (by omega) (by omega) hn; omega) (id_nl S N n) (by simp) (by rw [idToks_length]; omega) w0

/-- The heads of the text's tokens. -/
theorem id_heads (S N n : Nat) : ∃ t0 t1 t2 t3 t4 t5 t6 t7, (idToks S N n)[0]? = some t0 ∧ (idToks S N n)[1]? = some t1 ∧ (idToks S N n)[2]? = some t2 ∧ (idToks S N n)[3]? = some t3 ∧ (idToks S N n)[4]? = some t4 ∧ (idToks S N n)[5]? = some t5 ∧ (idToks S N n)[6]? = some t6 ∧ (idToks S N n)[7]? = some t7 ∧
    IsTok t0 scoreS = true ∧ t1.kind = 3 ∧ IsTok t2 writtenS = false ∧ IsTok t2 lastS = false ∧ IsTok t2 partS = true ∧ IsTok t3 atS = true ∧ t4.kind = 2 ∧ t4.value = (S : Int) ∧ IsTok t5 dotS = true ∧ t6.kind = 2 ∧ t6.value = (N : Int) ∧ t7.kind = 3 ∧ t7.bytes = ByteArray.empty := by
  obtain ⟨j0, h0⟩ := idTok_get (S := S) (N := N) (n := n) (i := 0) (p := ⟨1, [], [115, 99, 111, 114, 101], 0⟩) rfl
  obtain ⟨j1, h1⟩ := idTok_get (S := S) (N := N) (n := n) (i := 1) (p := ⟨3, [32], [34, 34], 0⟩) rfl
  obtain ⟨j2, h2⟩ := idTok_get (S := S) (N := N) (n := n) (i := 2) (p := ⟨1, [32], [112, 97, 114, 116], 0⟩) rfl
  obtain ⟨j3, h3⟩ := idTok_get (S := S) (N := N) (n := n) (i := 3) (p := ⟨4, [32], [64], 0⟩) rfl
  obtain ⟨j4, h4⟩ := idTok_get (S := S) (N := N) (n := n) (i := 4) (p := ⟨2, [], Lib.decDigits S, S⟩) rfl
  obtain ⟨j5, h5⟩ := idTok_get (S := S) (N := N) (n := n) (i := 5) (p := ⟨4, [], [46], 0⟩) rfl
  obtain ⟨j6, h6⟩ := idTok_get (S := S) (N := N) (n := n) (i := 6) (p := ⟨2, [], Lib.decDigits N, N⟩) rfl
  obtain ⟨j7, h7⟩ := idTok_get (S := S) (N := N) (n := n) (i := 7) (p := ⟨3, [32], [34, 34], 0⟩) rfl
  refine ⟨_, _, _, _, _, _, _, _, h0, h1, h2, h3, h4, h5, h6, h7, ?_, rfl, ?_, ?_, ?_, ?_, rfl, rfl, ?_, rfl, rfl, rfl, rfl⟩
  all_goals simp [IsTok, scoreS, writtenS, lastS, partS, atS, dotS]

theorem id_next (S N n : Nat) : ∃ t, (idToks S N n)[8]? = some t ∧ IsTok t transS = false := by
  cases n with
  | zero => exact ⟨_, idTok_end S N 0, by simp [IsTok, endTok]⟩
  | succ n =>
    obtain ⟨j, h⟩ := idTok_get (S := S) (N := N) (n := n + 1) (i := 8) (p := ⟨1, [32], [115, 116, 97, 102, 102], 0⟩) rfl
    exact ⟨_, h, by simp [IsTok, transS]⟩

theorem id_staves (S N n : Nat) : ∀ i, i < n → ∃ ts tb, (idToks S N n)[3 + 5 + 2 * i]? = some ts ∧ IsTok ts staffS = true ∧ (idToks S N n)[3 + 5 + 2 * i + 1]? = some tb ∧ (IsTok tb atS = false ∧ tb.kind = 1 ∧ tb.text = bassS) ∧ 10 < tb.col := by
  intro i hi
  obtain ⟨g1, g2⟩ := staves_get n i hi
  obtain ⟨j, h⟩ := idTok_get (S := S) (N := N) (n := n) (i := 8 + 2 * i) (p := ⟨1, [32], [115, 116, 97, 102, 102], 0⟩) (by rw [tail_get, g1])
  obtain ⟨j', h'⟩ := idTok_get (S := S) (N := N) (n := n) (i := 8 + (2 * i + 1)) (p := ⟨1, [32], [98, 97, 115, 115], 0⟩) (by rw [tail_get, g2])
  have hc := flat_col S N n (2 * i + 1)
  exact ⟨_, _, h, by simp [IsTok, staffS], h', ⟨by simp [IsTok, atS], rfl, rfl⟩, by show (10 : Int) < _; simp only; omega⟩

theorem id_end (S N n : Nat) : ∃ te, (idToks S N n)[3 + 5 + 2 * n]? = some te ∧ IsTok te staffS = false ∧ te.kind = 0 ∧ te.text = ByteArray.empty :=
  ⟨_, idTok_end S N n, by simp [IsTok, endTok], rfl, rfl⟩

/-- What a part walk gives, of the text's tokens. -/
theorem id_part {Y M : Nat} {tv : Value} {line col ls ln : Int} (hS : S ≤ 99) (h1 : 1 ≤ N) (hN : N ≤ 1073741824) (hn : n ≤ 1000) {w : World} (h : Prs Y M tv (idToks S N n) 3 line col 0 false ls ln #[] 0 w) :
    Calls Tryz.prog 18 #[.pointer (some ⟨Y, 0, none⟩)] w (PartEnd Y M tv (idToks S N n) 3 line col S N n 0 ByteArray.empty w) := by
  obtain ⟨t0, t1, t2, t3, t4, t5, t6, t7, g0, g1, g2, g3, g4, g5, g6, g7, k0, k1, k2w, k2l, k2p, k3, k4, v4, k5, k6, v6, k7, b7⟩ := id_heads S N n
  obtain ⟨t8, g8, k8⟩ := id_next S N n
  obtain ⟨te, ge, ke, -, -⟩ := id_end S N n
  have := part_walk h g3 g4 g5 g6 g7 k3 k4 k5 k6 k7 (by omega) (by omega) (by omega) (by omega) n (by omega) g8 k8 (fun i hi => by
    obtain ⟨ts, tb, a, b, c, d, _⟩ := id_staves S N n i hi
    exact ⟨ts, tb, a, b, c, d⟩) ⟨te, ge, ke⟩
  rw [v4, v6, b7] at this
  exact this

set_option maxHeartbeats 4000000 in
theorem read_ok (hS : S ≤ 99) (h1 : 1 ≤ N) (hN : N + n ≤ 1073741824) (hn : n ≤ 1000) (w : World) : Calls Tryz.prog 6 #[.string (idText S N n)] w (ReadOk S N n w) := by
  obtain ⟨t0, t1, t2, t3, t4, t5, t6, t7, g0, g1, g2, g3, g4, g5, g6, g7, k0, k1, k2w, k2l, k2p, k3, k4, v4, k5, k6, v6, k7, b7⟩ := id_heads S N n
  obtain ⟨te, ge, -, ke, kx⟩ := id_end S N n
  refine (read_gen (toks := idToks S N n) (out := none) (fun x line col e w2 => e = 0 ∧ ∃ title ap cp al cl av cv, x = ⟨title, ap, 1, cp, none, 0, 0, none, 0, 0, al, 1, cl⟩ ∧
    w2.ownsRow (w.heap.size + 1) 40 6 (.slice ap 1 cp) 1 [.int .i64 S, .int .i64 N, .string ByteArray.empty, .int .i64 0, .int .i64 0, .slice av n cv] ∧
    w2.ownsRow (w.heap.size + 1) 42 3 (.slice av n cv) n (staffCells S N n) ∧ w2.ownsRow (w.heap.size + 1) 35 2 (.slice al 1 cl) 1 [.int .i64 S, .int .i64 ((N : Int) + n)])
    (open_id (by omega) (by omega) hn) ?_).mono ?_
  · rintro w0 r w1 ⟨-, b1, ⟨-, tv, hP⟩ | ⟨b, hb, _⟩⟩ hsz
    · refine (score_ok hP g0 k0 g1 k1 g2 k2w k2l k2p n S N ByteArray.empty hn (fun w' h' => ?_) ge ke kx).mono ?_
      · refine (id_part hS h1 (by omega) hn h').mono ?_
        rintro r w'' ⟨ha, ⟨_, sv, rfl, hrow, hp⟩ | ⟨hlt, _⟩⟩
        · obtain ⟨ao, cp, rfl⟩ := hrow.isSlice
          refine ⟨ha, ao, cp, rfl, hrow, ?_⟩
          simpa using hp
        · omega
      · rintro r w2 ⟨ha, pv, sv, lv, rfl, h1, h2, h3, pos, hp⟩
        have hb2 := below_away b1.size ha
        have hw1 : w.heap.size + 1 ≤ w1.heap.size := by have := b1.size; omega
        obtain ⟨ap, cp, rfl⟩ := h1.isSlice
        obtain ⟨av, cv, rfl⟩ := h2.isSlice
        obtain ⟨al, cl, rfl⟩ := h3.isSlice
        exact ⟨hb2, ⟨_, ap, 1, cp, none, 0, 0, none, 0, 0, al, 1, cl⟩, _, _, _, rfl, err_prs hp, rfl, _, ap, cp, al, cl, av, cv, rfl, h1.lower hw1, h2.lower hw1, h3.lower hw1⟩
    · cases hb
  · rintro r w' ⟨bel, x, x', line, col, line', col', e, w2, rfl, hc, ⟨rfl, title, ap, cp, al, cl, av, cv, rfl, o1, o2, o3⟩, hs, hk⟩
    rcases hc with ⟨_, rfl, rfl, rfl⟩ | ⟨hne, _⟩
    · exact ⟨bel, title, ap, cp, al, cl, av, cv, rfl, own_go o1 (Nat.lt_succ_self _) hk, own_go o2 (Nat.lt_succ_self _) hk, own_go o3 (Nat.lt_succ_self _) hk⟩
    · exact absurd rfl hne

theorem noSx_val : noSx.val = noScore := rfl

/-- Where score ends with an error. -/
theorem read_fail (G : Int → Int → Prop) (toks : List Tok) (out : Option Nat) (s : ByteArray) (w : World) (hopen : ∀ w0, Calls Tryz.prog 8 #[.string s, .bool false] w0 (Opened toks out w0))
    (hscore : ∀ w0 r w1, Opened toks out w0 r w1 → w.heap.size + 1 = w0.heap.size → Calls Tryz.prog 10 #[.pointer (some ⟨w0.heap.size + 1, 0, none⟩)] w1 fun r w2 => Below w0.heap.size w1 w2 ∧ ∃ (x : Sx) (line col e : Int), r = .returned x.val ∧ ErrAt (w0.heap.size + 1) line col e w2 ∧ e ≠ 0 ∧ G col e) :
    Calls Tryz.prog 6 #[.string s] w (ReadErr G w) := by
  refine (read_gen (fun _ _ col e _ => e ≠ 0 ∧ G col e) hopen hscore).mono ?_
  rintro r w' ⟨bel, x, x', line, col, line', col', e, w2, rfl, hc, ⟨hne, hG⟩, _, _⟩
  rcases hc with ⟨h0, _⟩ | ⟨_, rfl, rfl, rfl⟩
  · exact absurd h0 hne
  · exact ⟨bel, _, _, _, rfl, hG⟩

theorem score_sx {r : Ending} (h : IsScore r) : ∃ x : Sx, r = .returned x.val := by
  obtain ⟨title, ap, np, cp, al, nl, cl, rfl⟩ := h
  exact ⟨⟨title, ap, np, cp, none, 0, 0, none, 0, 0, al, nl, cl⟩, rfl⟩

set_option maxHeartbeats 4000000 in
/-- The part fails. -/
theorem read_part (G : Int → Int → Prop) (hS : S < 1000000000000000) (hN : N < 1000000000000000) (hn : n ≤ 1000) (w : World)
    (hpart : ∀ Y M tv line col ls ln w', Prs Y M tv (idToks S N n) 3 line col 0 false ls ln #[] 0 w' → Calls Tryz.prog 18 #[.pointer (some ⟨Y, 0, none⟩)] w' fun r w'' => Away [Y, M] w' w'' ∧ IsPart r ∧
      ∃ pos' line' col' e' ls' ln' a v, e' ≠ 0 ∧ G col' e' ∧ Prs Y M tv (idToks S N n) pos' line' col' e' false ls' ln' (entry a v 0) 1 w'') :
    Calls Tryz.prog 6 #[.string (idText S N n)] w (ReadErr G w) := by
  obtain ⟨t0, t1, t2, t3, t4, t5, t6, t7, g0, g1, g2, g3, g4, g5, g6, g7, k0, k1, k2w, k2l, k2p, k3, k4, v4, k5, k6, v6, k7, b7⟩ := id_heads S N n
  refine read_fail G _ _ _ w (open_id hS hN hn) ?_
  rintro w0 r w1 ⟨-, b1, ⟨-, tv, hP⟩ | ⟨b, hb, _⟩⟩ hsz
  · refine (score_bad hP g0 k0 g1 k1 g2 k2w k2l k2p (fun _ c e => G c e) (fun w' h' => hpart _ _ _ _ _ _ _ w' h')).mono ?_
    rintro r w2 ⟨ha, hx, pos', line', col', e', ls', ln', a, v, hne, hG, hp⟩
    obtain ⟨x, rfl⟩ := score_sx hx
    exact ⟨below_away b1.size ha, x, line', col', e', rfl, err_prs hp, hne, hG⟩
  · cases hb

theorem read_limit (hS : S ≤ 99) (h1 : 1 ≤ N) (hN : N ≤ 1073741824) (hN2 : 1073741824 < N + n) (hn : n ≤ 1000) (w : World) : Calls Tryz.prog 6 #[.string (idText S N n)] w (ReadErr (fun c e => e = 9 ∧ 10 < c) w) := by
  refine read_part _ (by omega) (by omega) hn w fun Y M tv line col ls ln w' h' => ?_
  refine (id_part hS h1 hN hn h').mono ?_
  rintro r w'' ⟨ha, ⟨hle, _⟩ | ⟨_, hx, i, tb, pos', hi, ht, hp⟩⟩
  · omega
  · obtain ⟨ts, tb', _, _, g, _, hc⟩ := id_staves S N n i hi
    rw [ht] at g
    obtain rfl := Option.some.inj g
    exact ⟨ha, hx, pos', 1, tb.col, 9, _, _, _, _, by decide, ⟨rfl, hc⟩, hp⟩

theorem read_site (hS : 99 < S) (hS' : S < 1000000000000000) (hN : N < 1000000000000000) (hn : n ≤ 1000) (w : World) : Calls Tryz.prog 6 #[.string (idText S N n)] w (ReadErr (fun _ e => e = 2) w) := by
  obtain ⟨t0, t1, t2, t3, t4, t5, t6, t7, g0, g1, g2, g3, g4, g5, g6, g7, k0, k1, k2w, k2l, k2p, k3, k4, v4, k5, k6, v6, k7, b7⟩ := id_heads S N n
  refine read_part _ hS' hN hn w fun Y M tv line col ls ln w' h' => ?_
  refine (part_err (e' := 2) h' (by decide) fun w'' b => object_site (h'.step b) g3 g4 k3 k4 (by omega) (.inr (by omega)) (upd_none 0 0) (by omega)).mono ?_
  rintro r w'' ⟨hx, hp, ha⟩
  exact ⟨ha, hx, _, _, _, 2, _, _, _, _, by decide, rfl, hp⟩

theorem read_num (hS : S ≤ 99) (hr : N < 1 ∨ 1073741824 < N) (hN : N < 1000000000000000) (hn : n ≤ 1000) (w : World) : Calls Tryz.prog 6 #[.string (idText S N n)] w (ReadErr (fun _ e => e = 2) w) := by
  obtain ⟨t0, t1, t2, t3, t4, t5, t6, t7, g0, g1, g2, g3, g4, g5, g6, g7, k0, k1, k2w, k2l, k2p, k3, k4, v4, k5, k6, v6, k7, b7⟩ := id_heads S N n
  refine read_part _ (by omega) hN hn w fun Y M tv line col ls ln w' h' => ?_
  refine (part_err (e' := 2) h' (by decide) fun w'' b => object_num (h'.step b) g3 g4 g5 g6 k3 k4 k5 k6 (by omega) (by omega) (by omega) (by omega) (upd_none t4.value 0) (by omega)).mono ?_
  rintro r w'' ⟨hx, hp, ha⟩
  exact ⟨ha, hx, _, _, _, 2, _, _, _, _, by decide, rfl, hp⟩

theorem read_long (h : 1000000000000000 ≤ S ∨ 1000000000000000 ≤ N) (hS : S < 10000000000000000000) (hN : N < 10000000000000000000) (hn : n ≤ 1000) (w : World) : Calls Tryz.prog 6 #[.string (idText S N n)] w (ReadErr (fun _ e => e = 5) w) := by
  obtain ⟨toks, b, hx, hb, ht⟩ : ∃ toks b, Lx (idText S N n) 0 0 toks (some b) ∧ b ≤ 1048576 ∧ toks.length ≤ 262143 := by
    by_cases h1 : 1000000000000000 ≤ S
    · refine ⟨_, _, id_long_S S N n h1, ?_, ?_⟩
      · show (15 : Nat) ≤ _; decide
      · rw [ptoks_length]; decide
    · refine ⟨_, _, id_long_N S N n (by omega) (by omega), ?_, ?_⟩
      · have := dec_le 14 S (by simp; omega)
        rw [flat_append, List.length_append]
        have e2 : (flat headPs).length = 15 := rfl
        rw [e2]
        simp [flat]; omega
      · rw [ptoks_length]; show (6 : Nat) ≤ _; decide
  have hsz := id_size S N n hS hN hn
  refine read_fail _ toks (some b) _ w (fun w0 => open_walk hx (by omega) (id_nl S N n) (fun b' e => by injection e with e; omega) ht w0) ?_
  rintro w0 r w1 ⟨-, b1, ⟨hno, _⟩ | ⟨b', hb', hY, hM⟩⟩ hs
  · cases hno
  · refine (score_lex _ _ _ (by omega) w1 hY hM).mono ?_
    rintro r w2 ⟨rfl, b2⟩
    have hY2 := (b2.block _ (Array.getElem?_eq_some_iff.1 hY).1).trans hY
    exact ⟨b2.mono b1.size, noSx, 1, _, 5, rfl, ⟨by rw [Lib.cell_of_heap hY2]; rfl, by rw [Lib.cell_of_heap hY2]; rfl, by rw [Lib.cell_of_heap hY2]; rfl⟩, by decide, rfl⟩
end
end Go.Proofs.YtaimdnddmddbnaaGreatDoor
