/- Towards the law ParserVoices, true for every text (no condition): one part of the proof. -/
import Derived.Test.YtgkhemnmcgicnaaGreatDoorG01
import Derived.Test.YtgkhemnmcgicnaaGreatDoorG07
import Derived.Laws.Rows
import Derived.Laws.Tables
namespace Go.Proofs.YtgkhemnmcgicnaaGreatDoor
set_option maxHeartbeats 16000000
set_option maxRecDepth 100000
open Go.RowKit
def cX (s : ByteArray) : Nat -> List Int
 | 0 => [0]
 | k + 1 => cX s k ++ (if s.data.toList[k]? = some 10 then [(k : Int) + 1] else [])
theorem kR (s : ByteArray) (k : Nat) : cX s (k + 1) = cX s k ++ (if s.data.toList[k]? = some 10 then [(k : Int) + 1] else []) := rfl
theorem AJ (s : ByteArray) (k : Nat) : (cX s k).length <= k + 1 := by
 induction k with
 | zero => simp [cX]
 | succ k ih =>
  rw [kR, qi]
  split <;> simp <;> omega
theorem tA (s : ByteArray) (k : Nat) : 0 < (cX s k).length /\ (cX s k).getD 0 0 = 0 := by
 induction k with
 | zero => simp [cX]
 | succ k ih =>
  rw [kR]
  obtain ⟨h, e⟩ := ih
  refine ⟨by rw [qi]; omega, ?_⟩
  rw [List.getD, List.getElem?_append_left h]
  exact e
theorem tB (s : ByteArray) (k : Nat) : ∀ x ∈ cX s k, 0 <= x /\ x <= (k : Int) := by
 induction k with
 | zero => intro x hx; simp [cX] at hx; omega
 | succ k ih =>
  intro x hx
  rw [kR, qqb] at hx
  rcases hx with hx | hx
  ·have := ih x hx; omega
  ·split at hx
   ·simp at hx; omega
   ·cases hx
theorem C3 (s : ByteArray) (k : Nat) : (cX s k).Pairwise (· <= ·) := by
 induction k with
 | zero => simp [cX]
 | succ k ih =>
  rw [kR]
  split
  ·rw [List.pairwise_append]
   refine ⟨ih, by simp, fun x hx y hy => ?_⟩
   have := (tB s k x hx).2
   simp at hy
   omega
  ·simpa using ih
theorem EA (s : ByteArray) (h : s.size <= 1048576) : oL (cX s s.size) := by
 refine ⟨tA s _, C3 _ _, fun x hx => (tB _ _ x hx).1, fun x hx => ?_, ?_⟩
 ·have := (tB _ _ x hx).2
  omega
 ·have := AJ s s.size
  omega
def WS (L : List Int) (toks : List bD) (out : Option (Nat × Int)) (w : World) (r : Ending) (w' : World) : Prop :=
 Below w.heap.size w w' /\
 ((out = none /\ ∃ lv, r = .returned (.tuple #[lv, I 0, I 0, I 0]) /\ w'.ownsRow w.heap.size 59 7 lv toks.length (cellsOf toks)) \/
  (∃ (b : Nat) (e : Int), e ≠ 0 /\ out = some (b, e) /\ r = .returned (.tuple #[.slice none 0 0, I (rN L b), I (rP L b), I e])))
theorem xE {fn : Func} {t u v x : Tmp} (h : fn.results = #[.tmp t, .tmp u, .tmp v, .tmp x]) (tmps : Array Value) (P : Program) (w : World) :
  (results fn tmps).run P w = .ok (.tuple #[tmps.getD t undef, tmps.getD u undef, tmps.getD v undef, tmps.getD x undef]) w := by
 simp [results, h]
theorem Tryz.infoInt : (Tryz.prog.info? 3).map (fun i => (i.zero, i.size, i.bytes)) = some (some (I 0), 1, 8) := by kernel_rfl
structure TS (B X : Nat) (s : ByteArray) (lv : Value) (ls : List Int) (w0 w : World) : Prop where
 hX : w.heap[X]? = some (.cells #[.string s, I 0, lv, .slice none 0 0, I 0, I 0] 108 (0, 0))
 own : w.ownsRow B 3 1 lv ls.length (ls.map fun x => I x)
 bel : Below B w0 w
 hBX : B <= X
 hB : B <= w.heap.size
theorem TS.push {B X : Nat} {s : ByteArray} {lv : Value} {ls : List Int} {w0 w w' : World} (h : TS B X s lv ls w0 w) {g cap : Nat} {x : Int} (hg : (w.alloc (.cells #[I x] 3)).grownBy w' lv.ownBlock)
  (hown : w'.ownsRow B 3 1 (.slice (some ⟨g, 0, none⟩) (ls.length + 1) cap) (ls.length + 1) ((ls.map fun x => I x) ++ [I x])) :
  TS B X s (.slice (some ⟨g, 0, none⟩) (ls.length + 1) cap) (ls ++ [x]) w0 (w'.setCell ⟨X, 2, none⟩ (.slice (some ⟨g, 0, none⟩) (ls.length + 1) cap)) /\ w'.heap[X]? = some (.cells #[.string s, I 0, lv, .slice none 0 0, I 0, I 0] 108 (0, 0)) := by
 have lX : X < w.heap.size := (qd.1 h.hX).1
 have hne : lv.ownBlock ≠ some X := dF h.own h.hX (by intro cs fr hc; injection hc with _ h2 _; exact absurd h2 (by decide))
 have hX' : w'.heap[X]? = some (.cells #[.string s, I 0, lv, .slice none 0 0, I 0, I 0] 108 (0, 0)) := (hg.block X (by simp; omega) (fun e => hne e.symm)).trans ((Lib.alloc_old w _ X lX).trans h.hX)
 have hn2 : (Value.slice (some ⟨g, 0, none⟩) (ls.length + 1) cap).ownBlock ≠ some X := dF hown hX' (by intro cs fr hc; injection hc with _ h2 _; exact absurd h2 (by decide))
 have hbel : Below B w0 w' := (h.bel.alloc h.hB _).grown hg (by have := h.hB; simp; omega) (fun k hk => (h.own.lt k hk).1)
 refine ⟨⟨?_, ?_, hbel.setCell (p := ⟨X, 2, none⟩) h.hBX _, h.hBX, ?_⟩, hX'⟩
 ·rw [Lib.heap_setCell_same hX']; rfl
 ·have := aC hown fun k hk => qg w' ⟨X, 2, none⟩ (.slice (some ⟨g, 0, none⟩) (ls.length + 1) cap) k (fun e => hn2 (by rw [hk, e]))
  simpa using this
 ·have h1 := h.hB
  have h2 := hg.size
  simp [World.setCell] at *
  omega
theorem QJ {s : ByteArray} {toks : List bD} {out : Option (Nat × Int)} (hx : Lx (cX s s.size) s 0 0 toks out) (hsz : s.size <= 4000) (hlong : ∀ b e, out = some (b, e) -> b <= 1048576) (hn : toks.length <= 262143) (w : World) :
  Calls Tryz.prog 16 #[.string s] w (WS (cX s s.size) toks out w) := by
 have gL := EA s (by omega)
 have h0 : TS w.heap.size (w.heap.size + 1) s (.slice (some ⟨w.heap.size, 0, none⟩) 1 1) (cX s 0) w ((w.alloc (.cells #[I 0] 3)).alloc (.cells #[.string s, I 0, .slice (some ⟨w.heap.size, 0, none⟩) 1 1, .slice none 0 0, I 0, I 0] 108)) := by
  refine ⟨?_, ?_, ((qa _ w).alloc (qb _) _).alloc (by simp) _, by omega, by simp; omega⟩
  ·have := qc (w.alloc (.cells #[I 0] 3)) (.cells #[.string s, I 0, .slice (some ⟨w.heap.size, 0, none⟩) 1 1, .slice none 0 0, I 0, I 0] 108)
   simpa using this
  ·exact (World.ownsRow_lit w #[I 0] 1 (qb _) (by decide) rfl).alloc _
 have hs1 : ¬ (1048576 : Int) < s.size := by omega
 obtain ⟨i0, hi0, hz0, hz1, hz2⟩ := info_parts Tryz.infoInt
 generalize hL : w.heap.size = L at h0
 go_enter Tryz.func16, Tryz.ntmps16
 go_wp2
 generalize hV : ((w.alloc (.cells #[I 0] 3)).alloc (.cells #[.string s, I 0, .slice (some ⟨L, 0, none⟩) 1 1, .slice none 0 0, I 0, I 0] 108)) = V at h0 |-
 clear hV
 go_loopg [17] (s.size + 1) (fun g v wr => ∃ (k : Nat) (lv : Value), k <= s.size /\ g = s.size + 1 - k /\ v = I (k : Nat) /\ TS L (L + 1) s lv (cX s k) w wr)
 case atStart => exact ⟨0, _, qn _, rfl, rfl, h0⟩
 case round =>
  clear h0
  obtain ⟨k, lv, hk, hg, rfl, h1⟩ := hrel
  have hll := AJ s k
  by_cases hlt : k < s.size
  ·have hlt' : (k : Int) < s.size := by omega
   have hk0 : (0 : Int) <= (k : Int) := by omega
   have hw2 : IntKind.i64.wrap ((k : Int) + 1) = (k : Int) + 1 := IntWalk.i64_in _ (by omega)
   have hsucc := kR s k
   rw [HD k hlt] at hsucc
   by_cases hnl : ((s[k].toNat : Nat) : Int) = 10
   ·have h10 : s[k] = 10 := UInt8.toNat_inj.1 (by show _ = 10; omega)
    rw [h10, if_pos rfl] at hsucc
    have c2 : wr.cell? ⟨L + 1, 2, none⟩ = some lv := by rw [Lib.cell_of_heap h1.hX]; rfl
    have lX : L + 1 < wr.heap.size := (qd.1 h1.hX).1
    have own1 := h1.own
    have hB1 := h1.hB
    rcases own1.2 with ⟨rfl, h00⟩ | ⟨g, cap, cur, rfl, -⟩
    ·have := (tA s k).1; omega
    go_wp2_with (at_builtin; refine wpList_append_lies _ rfl _ _ 106 rfl L 3 i0 _ 1 8 Tryz.underlying106 hi0 hz0 hz1 hz2 rfl (by omega) _ (cX s k).length _ rfl (own1.alloc _) ⟨wr.heap.size, 0, none⟩ 1 1 [I ((k : Int) + 1)] rfl rfl (World.news_of_block (cs := #[I ((k : Int) + 1)]) (t := 3) (fr := (0, 0)) (qc _ _)) (by simp [Value.oneCell']) (by omega) (by unfold maxLen; omega) (by omega) (by simp; omega) (wr.heap.size + 1) (by simp) ?_; intro gg wcap w2 hown1 hgrow hat hgl; obtain ⟨h2, hX2⟩ := h1.push hgrow hown1; have c22 : w2.cell? ⟨L + 1, 2, none⟩ = some (.slice (some ⟨g, 0, none⟩) (cX s k).length cap) := (by rw [Lib.cell_of_heap hX2]; rfl); have f22 : w2.frozen? ⟨L + 1, 2, none⟩ = false := Lib.frozen_of_heap hX2 2)
    go_roundg (s.size + 1 - (k + 1))
    case measure => omega
    case rel => exact ⟨k + 1, _, by omega, rfl, by simp, by rw [hsucc]; exact h2⟩
   ·have h10 : ¬ s[k] = 10 := fun e => hnl (by rw [e]; rfl)
    rw [if_neg (by simpa using h10), List.append_nil] at hsucc
    go_wp2
    go_roundg (s.size + 1 - (k + 1))
    case measure => omega
    case rel => exact ⟨k + 1, lv, by omega, rfl, by simp, by rw [hsucc]; exact h1⟩
  ·obtain rfl : k = s.size := by omega
   have hlt' : ¬ ((s.size : Nat) : Int) < s.size := by omega
   obtain ⟨g, cap, cur, rfl, hbg, hgc, hnc, hcm, hcs, htk⟩ : ∃ g cap cur, lv = .slice (some ⟨g, 0, none⟩) (cX s s.size).length cap /\ L <= g /\ wr.heap[g]? = some (.cells cur 3 (0, 0)) /\ (cX s s.size).length <= cap /\ cap <= maxLen /\ cur.size = cap * 1 /\ cur.toList.take ((cX s s.size).length * 1) = (cX s s.size).map fun x => I x := by
    rcases h1.own.2 with ⟨rfl, h00⟩ | ⟨g, cap, cur, e1, e2, e3, e4, e5, e6, e7⟩
    ·have := (tA s s.size).1; omega
    ·exact ⟨g, cap, cur, e1, e2, e3, e4, e5, e6, e7⟩
   have hLA : hG (.slice (some ⟨g, 0, none⟩) (cX s s.size).length cap) (cX s s.size) [(g, .cells cur 3 (0, 0))] := by
    refine ⟨g, cap, cur, rfl, by simp, fun j hj => ?_⟩
    have := congrArg (fun l => l[j]?) htk
    simp only [Nat.mul_one, List.getElem?_take, if_pos hj, List.getElem?_map] at this
    rw [Array.getElem?_toList] at this
    rw [this]
    simp [List.getD, hj]
   have hgX : g ≠ L + 1 := by
    rintro rfl
    rw [h1.hX] at hgc
    injection hgc with hgc
    injection hgc with _ h2 _
    exact absurd h2 (by decide)
   have hW : gG L (L + 1) [(g, .cells cur 3 (0, 0))] s (.slice (some ⟨g, 0, none⟩) (cX s s.size).length cap) (0 : Nat) (.slice none 0 0) 0 [] 0 0 w wr := by
    refine ⟨h1.hBX, h1.hB, h1.hX, qqe _ _ _ _, fun p hp => ?_, h1.bel⟩
    obtain rfl := qqw.1 hp
    exact ⟨hgc, hgX, hbg, by intro cs fr hc; injection hc with _ h2 _; exact absurd h2 (by decide)⟩
   have hsc := RN hx hW hLA gL hsz (by omega)
   clear hW h1
   go_wp2_with (go_at_call 41; refine hsc.mono ?_)
   rintro r w2 rfl hE
   rcases hE with ⟨rfl, pos, lv, hS⟩ | ⟨b, pos, n, e, lv, xs, he, rfl, hS⟩
   ·have c4 := hS.c4
    have c3 := hS.c3
    have hown : w2.ownsRow L 59 7 lv toks.length (cellsOf toks) := by simpa using hS.own
    have hbel := hS.below
    clear hS
    go_wp2
    refine qf (xE rfl _ _ _) rfl ?_
    exact ⟨by rw [hL]; exact hbel, .inl ⟨rfl, lv, rfl, by rw [hL]; exact hown⟩⟩
   ·have c4 := hS.c4
    have c5 := hS.c5
    have hbel := hS.below
    have hpl := vM hS hLA gL b (hlong b e rfl)
    have hst := fun w' (h : Below w2.heap.size w2 w') => hS.step h
    clear hS
    go_wp2_with (go_at_call 42; refine hpl.mono ?_)
    rintro r w3 ⟨rfl, b3⟩
    have hS3 := hst _ b3
    have d4 := hS3.c4
    have hbel3 := hS3.below
    clear hS3 hst hpl
    go_wp2
    go_region
    all_goals go_wp2
    all_goals refine qf (xE rfl _ _ _) rfl ?_
    all_goals exact ⟨by rw [hL]; exact hbel3.drew, .inr ⟨b, e, he, rfl, rfl⟩⟩
theorem Tryz.sizeTok : (Tryz.prog.info? 59).map (·.size) = some 7 := by kernel_rfl
structure aB (bs : List Nat) (w w' : World) : Prop where
 os : w'.os = w.os
 tape : w'.tape = w.tape
 output : w'.output = w.output
 size : w.heap.size <= w'.heap.size
 block : ∀ k, k < w.heap.size -> k ∉ bs -> w'.heap[k]? = w.heap[k]?
theorem aB.refl (bs : List Nat) (w : World) : aB bs w w := ⟨rfl, rfl, rfl, qb _, fun _ _ _ => rfl⟩
theorem aB.trans {bs : List Nat} {a b c : World} (h : aB bs a b) (k : aB bs b c) : aB bs a c :=
 ⟨k.os.trans h.os, k.tape.trans h.tape, k.output.trans h.output, qv h.size k.size, fun i hi hb => (k.block i (qk hi h.size) hb).trans (h.block i hi hb)⟩
theorem aB.of_below {bs : List Nat} {w w' : World} (h : Below w.heap.size w w') : aB bs w w' := ⟨h.os, h.tape, h.output, h.size, fun k hk _ => h.block k hk⟩
theorem aB.below {w w' : World} (h : aB [] w w') : Below w.heap.size w w' := ⟨h.os, h.tape, h.output, h.size, fun k hk => h.block k hk (by simp)⟩
theorem aB.more {bs cs : List Nat} {w w' : World} (h : aB bs w w') (hs : ∀ k ∈ bs, k ∈ cs) : aB cs w w' := ⟨h.os, h.tape, h.output, h.size, fun k hk hb => h.block k hk fun hc => hb (hs k hc)⟩
theorem aB.drew {bs : List Nat} {a w : World} (h : aB bs a w) : aB bs a w.drew := ⟨h.os, h.tape, h.output, h.size, h.block⟩
theorem aB.alloc {bs : List Nat} {a w : World} (h : aB bs a w) (o : Obj) : aB bs a (w.alloc o) :=
 ⟨h.os, h.tape, h.output, qv h.size (by simp), fun k hk hb => (Below.heap_alloc _ _ _ (qk hk h.size)).trans (h.block k hk hb)⟩
theorem aB.setCell {bs : List Nat} {a w : World} (h : aB bs a w) {p : Addr} (hp : p.block ∈ bs \/ a.heap.size <= p.block) (u : Value) : aB bs a (w.setCell p u) :=
 ⟨h.os, h.tape, h.output, qv h.size (by simp [World.setCell]), fun k hk hb => (qg _ _ _ _ (fun e => by
  rcases hp with hp | hp
  ·exact hb (e ▸ hp)
  ·omega)).trans (h.block k hk hb)⟩
structure jP (Y M : Nat) (tv : Value) (toks : List bD) (pos : Nat) (line col e : Int) (free : Bool) (ls ln : Int) (es : Array MapEntry) (clk : Nat) (w : World) : Prop where
 blk : w.heap[Y]? = some (.cells #[tv, I pos, I line, I col, I e, .bool free, I ls, I ln, .map (some M)] 133 (0, 0))
 map : w.heap[M]? = some (.map es clk)
 row : e = 0 -> w.ownsRow 0 59 7 tv toks.length (cellsOf toks)
section
variable {Y M : Nat} {tv : Value} {toks : List bD} {pos : Nat} {line col e : Int} {free : Bool} {ls ln : Int} {es : Array MapEntry} {clk : Nat} {w : World}
theorem jP.lt (h : jP Y M tv toks pos line col e free ls ln es clk w) : Y < w.heap.size := (qd.1 h.blk).1
theorem jP.ltM (h : jP Y M tv toks pos line col e free ls ln es clk w) : M < w.heap.size := (qd.1 h.map).1
theorem jP.ne (h : jP Y M tv toks pos line col e free ls ln es clk w) : Y ≠ M := by
 rintro rfl
 have := h.blk.symm.trans h.map
 injection this with this
 cases this
theorem jP.step (h : jP Y M tv toks pos line col e free ls ln es clk w) {w' : World} (hb : Below w.heap.size w w') : jP Y M tv toks pos line col e free ls ln es clk w' :=
 ⟨(hb.block Y h.lt).trans h.blk, (hb.block M h.ltM).trans h.map, fun he => aC (h.row he) fun k hk => hb.block k ((h.row he).lt k hk).2⟩
theorem jP.put (h : jP Y M tv toks pos line col e free ls ln es clk w) (i : Nat) (u : Value) {pos' : Nat} {line' col' e' ls' ln' : Int} (he : e' = 0 -> e = 0)
  (hu : (#[tv, I pos, I line, I col, I e, .bool free, I ls, I ln, .map (some M)] : Array Value).setIfInBounds i u = #[tv, I pos', I line', I col', I e', .bool free, I ls', I ln', .map (some M)]) :
  jP Y M tv toks pos' line' col' e' free ls' ln' es clk (w.setCell ⟨Y, i, none⟩ u) := by
 refine ⟨by rw [Lib.heap_setCell_same h.blk, hu], (qg _ _ _ _ (fun e => h.ne e.symm)).trans h.map, fun h0 => ?_⟩
 have hr := h.row (he h0)
 exact aC hr fun k hk => qg _ _ _ _ (fun e => dF hr h.blk (by intro cs fr hc; injection hc with _ h2 _; exact absurd h2 (by decide)) (by rw [hk, e]))
theorem jP.c0 (h : jP Y M tv toks pos line col e free ls ln es clk w) : w.cell? ⟨Y, 0, none⟩ = some tv := by rw [Lib.cell_of_heap h.blk]; rfl
theorem jP.c1 (h : jP Y M tv toks pos line col e free ls ln es clk w) : w.cell? ⟨Y, 1, none⟩ = some (I pos) := by rw [Lib.cell_of_heap h.blk]; rfl
theorem jP.c2 (h : jP Y M tv toks pos line col e free ls ln es clk w) : w.cell? ⟨Y, 2, none⟩ = some (I line) := by rw [Lib.cell_of_heap h.blk]; rfl
theorem jP.c3 (h : jP Y M tv toks pos line col e free ls ln es clk w) : w.cell? ⟨Y, 3, none⟩ = some (I col) := by rw [Lib.cell_of_heap h.blk]; rfl
theorem jP.c4 (h : jP Y M tv toks pos line col e free ls ln es clk w) : w.cell? ⟨Y, 4, none⟩ = some (I e) := by rw [Lib.cell_of_heap h.blk]; rfl
theorem jP.c5 (h : jP Y M tv toks pos line col e free ls ln es clk w) : w.cell? ⟨Y, 5, none⟩ = some (.bool free) := by rw [Lib.cell_of_heap h.blk]; rfl
theorem jP.c6 (h : jP Y M tv toks pos line col e free ls ln es clk w) : w.cell? ⟨Y, 6, none⟩ = some (I ls) := by rw [Lib.cell_of_heap h.blk]; rfl
theorem jP.c7 (h : jP Y M tv toks pos line col e free ls ln es clk w) : w.cell? ⟨Y, 7, none⟩ = some (I ln) := by rw [Lib.cell_of_heap h.blk]; rfl
theorem jP.c8 (h : jP Y M tv toks pos line col e free ls ln es clk w) : w.cell? ⟨Y, 8, none⟩ = some (.map (some M)) := by rw [Lib.cell_of_heap h.blk]; rfl
theorem jP.fz (h : jP Y M tv toks pos line col e free ls ln es clk w) (i : Nat) : w.frozen? ⟨Y, i, none⟩ = false := Lib.frozen_of_heap h.blk i
theorem xM : ∀ (l : List bD) (i : Nat) (t : bD) (j : Nat) (u : Value), l[i]? = some t -> t.cells[j]? = some u -> (cellsOf l)[i * 7 + j]? = some u
 | a :: l, 0, t, j, u, h, hj => by
  obtain rfl : a = t := by simpa using h
  have hlt : j < a.cells.length := (qqd.1 hj).1
  simp only [cellsOf, List.flatMap_cons, Nat.zero_mul, Nat.zero_add]
  rw [List.getElem?_append_left hlt]; exact hj
 | a :: l, i + 1, t, j, u, h, hj => by
  have h' : l[i]? = some t := by simpa using h
  have := xM l i t j u h' hj
  have e7 : a.cells.length = 7 := rfl
  simp only [cellsOf, List.flatMap_cons] at this |-
  rw [List.getElem?_append_right (by rw [e7]; omega), e7]
  rw [show (i + 1) * 7 + j - 7 = i * 7 + j by omega]; exact this
 | [], i, t, j, u, h, _ => by simp at h
theorem jP.tok (h : jP Y M tv toks pos line col 0 free ls ln es clk w) {t : bD} (ht : toks[pos]? = some t) :
  ∃ G cap, tv = .slice (some ⟨G, 0, none⟩) toks.length cap /\ ∀ j u, t.cells[j]? = some u -> w.cell? ⟨G, pos * 7 + j, none⟩ = some u := by
 have hr := h.row rfl
 have hp : pos < toks.length := (qqd.1 ht).1
 obtain ⟨G, cap, rfl, _, _⟩ := hr.form (by omega)
 refine ⟨G, cap, rfl, fun j u hj => ?_⟩
 have := hr.cells (g := G) rfl (pos * 7 + j) u (xM _ _ _ _ _ ht hj)
 have hadd : (⟨G, 0, none⟩ : Addr).add (pos * 7 + j) = ⟨G, pos * 7 + j, none⟩ := by unfold Addr.add; split <;> simp_all
 rwa [hadd] at this
theorem qQ (h : jP Y M tv toks pos line col 0 free ls ln es clk w) {t : bD} (ht : toks[pos]? = some t) :
  Calls Tryz.prog 62 #[.pointer (some ⟨Y, 0, none⟩)] w fun r w' => r = .returned (.agg #[I t.kind, .string t.text, I t.value, .string t.bytes, I t.line, I t.col, .bool t.joined]) /\ Below w.heap.size w w' := by
 obtain ⟨G, cap, rfl, hc⟩ := h.tok ht
 have hp : pos < toks.length := (qqd.1 ht).1
 have c0 := h.c0
 have c1 := h.c1
 have c4 := h.c4
 have t0 : w.cell? ⟨G, pos * 7, none⟩ = some (I t.kind) := hc 0 _ rfl
 have t1 := hc 1 _ rfl
 have t2 := hc 2 _ rfl
 have t3 := hc 3 _ rfl
 have t4 := hc 4 _ rfl
 have t5 := hc 5 _ rfl
 have t6 := hc 6 _ rfl
 have hp0 : (0 : Int) <= (pos : Int) := by omega
 have hp1 : (pos : Int) < (toks.length : Int) := by omega
 have n0 := qr w _ c0
 have n1 := qr w _ t0
 have l0 := ql w _ c0
 have l1 := ql w _ t0
 simp only at l0 l1
 clear h hc ht
 go_enter Tryz.func62, Tryz.ntmps62
 go_wp2
 go_region_held3 (fun w' => w'.cell? ⟨Y, 0, none⟩ = some (.slice (some ⟨G, 0, none⟩) toks.length cap) /\ w'.cell? ⟨Y, 1, none⟩ = some (I pos) /\
   w'.cell? ⟨G, pos * 7, none⟩ = some (I t.kind) /\ w'.cell? ⟨G, pos * 7 + 1, none⟩ = some (.string t.text) /\ w'.cell? ⟨G, pos * 7 + 2, none⟩ = some (I t.value) /\
   w'.cell? ⟨G, pos * 7 + 3, none⟩ = some (.string t.bytes) /\ w'.cell? ⟨G, pos * 7 + 4, none⟩ = some (I t.line) /\ w'.cell? ⟨G, pos * 7 + 5, none⟩ = some (I t.col) /\ w'.cell? ⟨G, pos * 7 + 6, none⟩ = some (.bool t.joined)) (go_keep) (fail)
 go_wp2
 refine qf (qh rfl _ _ w.heap.size 59 _ (0, 0) _ rfl (qc w _) Tryz.underlying59 rfl Tryz.sizeTok) rfl ?_
 exact ⟨rfl, ((qa _ w).alloc (qb _) _).drew⟩
theorem LX (h : jP Y M tv toks pos line col e free ls ln es clk w) (he : e ≠ 0) :
  Calls Tryz.prog 62 #[.pointer (some ⟨Y, 0, none⟩)] w fun r w' => r = .returned (.agg #[I (-1), .string ByteArray.empty, I 0, .string ByteArray.empty, I 0, I 0, .bool false]) /\ Below w.heap.size w w' := by
 have c4 := h.c4
 have n0 := qr w _ c4
 have l0 := h.lt
 clear h
 go_enter Tryz.func62, Tryz.ntmps62
 go_wp2
 refine qf (qh rfl _ _ w.heap.size 59 _ (0, 0) _ rfl (qc w _) Tryz.underlying59 rfl Tryz.sizeTok) rfl ?_
 exact ⟨rfl, ((qa _ w).alloc (qb _) _)⟩
end
def o7 (w : World) (s : Nat) (v : Value) (rows : List (Array Value)) : Prop :=
 (rows = [] /\ v = .slice none 0 0) \/
 ∃ g o cap, v = .slice (some ⟨g, o, none⟩) rows.length cap /\ ∀ (j : Nat) (r : Array Value), rows[j]? = some r -> r.size = s /\ r.all (·.oneCell') = true /\ ∀ (k : Nat) (u : Value), r[k]? = some u -> w.cell? ⟨g, o + j * s + k, none⟩ = some u
theorem o7.is {w : World} {s : Nat} {v : Value} {rows : List (Array Value)} (h : o7 w s v rows) : ∃ ao cap, v = .slice ao rows.length cap := by
 rcases h with ⟨rfl, rfl⟩ | ⟨g, o, cap, rfl, _⟩
 ·exact ⟨_, _, rfl⟩
 ·exact ⟨_, _, rfl⟩
theorem o7.at {w : World} {s : Nat} {ao : Option Addr} {n cap : Nat} {rows : List (Array Value)} (h : o7 w s (.slice ao n cap) rows) {j : Nat} (hj : j < rows.length) :
  ∃ g o r, ao = some ⟨g, o, none⟩ /\ rows[j]? = some r /\ r.size = s /\ r.all (·.oneCell') = true /\ ∀ (k : Nat) (u : Value), r[k]? = some u -> w.cell? ⟨g, o + j * s + k, none⟩ = some u := by
 rcases h with ⟨rfl, _⟩ | ⟨g, o, cap', e, h⟩
 ·simp at hj
 ·injection e with e1 e2 e3
  have hr : rows[j]? = some rows[j] := qo hj
  obtain ⟨h1, h2, h3⟩ := h j _ hr
  exact ⟨g, o, rows[j], e1, hr, h1, h2, h3⟩
theorem o7.step {w w' : World} {s : Nat} {v : Value} {rows : List (Array Value)} (h : o7 w s v rows) (b : Below w.heap.size w w') : o7 w' s v rows := by
 rcases h with h | ⟨g, o, cap, rfl, h⟩
 ·exact .inl h
 ·refine .inr ⟨g, o, cap, rfl, fun j r hr => ?_⟩
  obtain ⟨h1, h2, h3⟩ := h j r hr
  exact ⟨h1, h2, fun k u hu => (b.cell (ql w _ (h3 k u hu))).trans (h3 k u hu)⟩
theorem WG {rows : List (Array Value)} {s : Nat} (hs : ∀ r ∈ rows, r.size = s) : ∀ (j : Nat) (r : Array Value), rows[j]? = some r -> ∀ (k : Nat) (u : Value), r[k]? = some u -> (rows.flatMap (·.toList))[j * s + k]? = some u := by
 induction rows with
 | nil => intro j r hr; simp at hr
 | cons a rows ih =>
  intro j r hr k u hu
  have ha := hs a (by simp)
  cases j with
  | zero =>
   obtain rfl : a = r := by simpa using hr
   have hk : k < a.size := (qd.1 hu).1
   rw [List.flatMap_cons, Nat.zero_mul, Nat.zero_add, List.getElem?_append_left (by simpa using hk)]
   simpa using hu
  | succ j =>
   have hr' : rows[j]? = some r := by simpa using hr
   have := ih (fun x hx => hs x (by simp [hx])) j r hr' k u hu
   rw [List.flatMap_cons, List.getElem?_append_right (by rw [Array.length_toList, ha, Nat.add_mul]; omega), Array.length_toList, ha, show (j + 1) * s + k - s = j * s + k by rw [Nat.add_mul]; omega]
   exact this
theorem o7.of_own {w : World} {B : Nat} {T : TypeId} {s : Nat} {v : Value} {rows : List (Array Value)} {xs : List Value} (h : w.ownsRow B T s v rows.length xs) (hx : xs = rows.flatMap (·.toList)) (hs : ∀ r ∈ rows, r.size = s /\ r.all (·.oneCell') = true) : o7 w s v rows := by
 subst hx
 rcases h.2 with ⟨hv, h0⟩ | ⟨g, cap, cur, hv, _⟩
 ·exact .inl ⟨List.length_eq_zero_iff.1 h0, hv⟩
 ·subst hv
  refine .inr ⟨g, 0, cap, rfl, fun j r hr => ?_⟩
  obtain ⟨h1, h2⟩ := hs r (List.mem_of_getElem? hr)
  refine ⟨h1, h2, fun k u hu => ?_⟩
  have := h.cells (g := g) rfl (j * s + k) u (WG (fun r hr => (hs r hr).1) j r hr k u hu)
  have hadd : (⟨g, 0, none⟩ : Addr).add (j * s + k) = ⟨g, j * s + k, none⟩ := by unfold Addr.add; split <;> simp_all
  rw [Nat.zero_add]
  rwa [hadd] at this
structure jT where
 st : Int
 al : Int
 oc : Int
structure eF where
 p : jT
 tied : Bool
 sh : Int
structure cY where
 p : jT
 lg : Int
 sl : Bool
structure cT where
 tx : ByteArray
 ln : Int
structure zC where
 site : Int
 num : Int
 kind : Int
 lg : Int
 dt : Int
 heads : List eF
 graces : List cY
 ar : Int
 orn : Int
 dy : Int
 lyr : List cT
 stem : Int
 beam : Int
def eF.cells (h : eF) : Array Value := #[I h.p.st, I h.p.al, I h.p.oc, .bool h.tied, I h.sh]
def cY.cells (g : cY) : Array Value := #[I g.p.st, I g.p.al, I g.p.oc, I g.lg, .bool g.sl]
def cT.cells (x : cT) : Array Value := #[.string x.tx, I x.ln]
def zC.cells (x : zC) (hv gv lv : Value) : Array Value :=
 #[I x.site, I x.num, I x.kind, I x.lg, I x.dt, hv, gv, I x.ar, I x.orn, I x.dy, lv, I x.stem, I x.beam]
def ZK (i : Int) : Int := if i = 0 then 0 else if i = 1 then 2 else if i = 2 then 4 else if i = 3 then 5 else if i = 4 then 7 else if i = 5 then 9 else 11
def EM (p : jT) : Int := 12 * (p.oc + 1) + ZK p.st + p.al
def gD (p : jT) : Prop := p.st < 0 \/ 6 < p.st \/ p.al < -2 \/ 2 < p.al \/ p.oc < -1 \/ 9 < p.oc
instance (p : jT) : Decidable (gD p) := by unfold gD; infer_instance
def oV (p : jT) : Int := if gD p then 18 else if EM p < 0 \/ 127 < EM p then 18 else 0
def xF (x : ByteArray) (sy : List ByteArray) : Bool := sy.any fun y => decide (x = y)
def Joins (nu : Bool) (sy : List ByteArray) (t : bD) : Bool := t.joined && ((nu && decide (t.kind = 2)) || (decide (t.kind = 4) && xF t.text sy))
def nT : List bD -> ByteArray -> ByteArray
 | [], s => s
 | t :: r, s => nT r (s ++ t.text)
def pS (t : bD) (tx : ByteArray) : Bool := (decide (t.kind = 1) || decide (t.kind = 4)) && decide (t.text = tx)
def dA : bD := ⟨-1, ByteArray.empty, 0, ByteArray.empty, 0, 0, false⟩
inductive aU
 | ok (p : Nat)
 | bad (e l c : Int)
def aU.good : aU -> Bool
 | .ok _ => true
 | .bad .. => false
def aU.next (k : Nat) : aU -> aU
 | .ok p => .ok (p + k)
 | .bad e l c => .bad e l c
def yU (x : ByteArray) : Nat := (x.data.toList.headD 0).toNat
structure A7 where
 pit : ByteArray -> Option jT
 val : ByteArray -> Option (Int × Int)
structure A5 where
 ar : Int
 orn : Int
 dy : Int
 st : Int
 be : Int
def xG (A : A5) (i : Nat) : A5 :=
 if 20 <= i then { A with be := (i : Int) - 19 } else if 18 <= i then { A with st := (i : Int) - 17 } else if 9 <= i then { A with dy := (i : Int) - 8 } else if 5 <= i then { A with orn := (i : Int) - 4 } else { A with ar := A.ar + 2 ^ i }
def EC (i : Int) : Int := if 20 <= i then 1 else if 18 <= i then 2 else if 9 <= i then 3 else if 5 <= i then 4 else 0
def aP : List ByteArray := [⟨#[115, 116, 97, 99, 99, 97, 116, 111]⟩, ⟨#[116, 101, 110, 117, 116, 111]⟩, ⟨#[97, 99, 99, 101, 110, 116]⟩, ⟨#[109, 97, 114, 99, 97, 116, 111]⟩, ⟨#[102, 101, 114, 109, 97, 116, 97]⟩,
 ⟨#[116, 114, 105, 108, 108]⟩, ⟨#[109, 111, 114, 100, 101, 110, 116]⟩, ⟨#[105, 110, 118, 101, 114, 115, 101]⟩, ⟨#[116, 117, 114, 110]⟩,
 ⟨#[112, 112, 112]⟩, ⟨#[112, 112]⟩, ⟨#[112]⟩, ⟨#[109, 112]⟩, ⟨#[109, 102]⟩, ⟨#[102]⟩, ⟨#[102, 102]⟩, ⟨#[102, 102, 102]⟩, ⟨#[115, 102, 122]⟩,
 ⟨#[117, 112]⟩, ⟨#[100, 111, 119, 110]⟩, ⟨#[97, 112, 97, 114, 116]⟩, ⟨#[106, 111, 105, 110]⟩]
def dY (x : ByteArray) : List ByteArray -> Option Nat
 | [] => none
 | y :: r => if x = y then some 0 else (dY x r).map (· + 1)
structure fZ where
 first : Int
 count : Int
 actual : Int
 normal : Int
structure gJ where
 evs : List zC
 tups : List fZ
section
variable (O : A7) (T : List bD)
def aW : aU -> bD
 | .ok p => T.getD p dA
 | .bad .. => dA
def bF (c : Int) : aU -> aU
 | .ok p => .bad c (T.getD p dA).line (T.getD p dA).col
 | .bad e l c => .bad e l c
def isS (x : ByteArray) (s : aU) : Bool := pS (aW T s) x
def aS (x : ByteArray) (s : aU) : aU := if isS T x s = true then s.next 1 else s
def bE (x : ByteArray) (s : aU) : aU := if isS T x s = true then s.next 1 else bF T 13 s
def jZ (s : aU) : ByteArray × aU := if (aW T s).kind = 3 then ((aW T s).bytes, s.next 1) else (ByteArray.empty, bF T 13 s)
def bS (lo hi : Int) (s : aU) : Int × aU :=
 if (aW T s).kind ≠ 2 then (0, bF T 13 s) else if (aW T s).value < lo \/ hi < (aW T s).value then (0, bF T 2 s) else ((aW T s).value, s.next 1)
def fG (s : aU) : Bool := decide ((aW T s).kind = 1) && (decide (65 <= yU (aW T s).text) && decide (yU (aW T s).text <= 71))
def gK (nu : Bool) (sy : List ByteArray) : aU -> List bD
 | .ok p => (T.drop (p + 1)).takeWhile (Joins nu sy)
 | .bad .. => []
def kG (nu : Bool) (sy : List ByteArray) (s : aU) : ByteArray := nT (gK T nu sy s) (aW T s).text
def dP : List ByteArray := [⟨#[35]⟩, ⟨#[45]⟩]
def eU : List ByteArray := [⟨#[46]⟩]
def aT (s : aU) : jT × aU :=
 if fG T s = true then
  match O.pit (kG T true dP s) with
  | none => (⟨0, 0, 0⟩, bF T 18 s)
  | some p => (p, s.next ((gK T true dP s).length + 1))
 else (⟨0, 0, 0⟩, bF T 13 s)
def nU (s : aU) : Bool := decide ((aW T s).kind = 2) || isS T ⟨#[98]⟩ s
def gT (s : aU) : (Int × Int) × aU :=
 if nU T s = true then
  match O.val (kG T false eU s) with
  | none => ((0, 0), bF T 17 s)
  | some p => (p, s.next ((gK T false eU s).length + 1))
 else ((0, 0), bF T 13 s)
def fT (s : aU) : (Int × Int) × aU :=
 let a := bS T 0 99 (bE T ⟨#[64]⟩ s)
 let b := bS T 1 1073741824 (bE T ⟨#[46]⟩ a.2)
 ((a.1, b.1), b.2)
def vP (s : aU) : (Int × Int) × aU := if isS T ⟨#[64]⟩ s = true then fT T s else ((0, 0), s)
def bJ (s : aU) : eF × aU :=
 let r := aT O T s
 let s1 := aS T ⟨#[126]⟩ r.2
 let td := isS T ⟨#[126]⟩ r.2
 if isS T ⟨#[33]⟩ s1 = true then (⟨r.1, td, 1⟩, s1.next 1) else if isS T ⟨#[63]⟩ s1 = true then (⟨r.1, td, 2⟩, s1.next 1) else (⟨r.1, td, 0⟩, s1)
def kT (v : Int) : Int := if v = 2 then 1 else if v = 4 then 2 else if v = 8 then 3 else if v = 16 then 4 else if v = 32 then 5 else if v = 64 then 6 else 0
def aY (q : Int) (s : aU) : cY × aU :=
 let sl := isS T ⟨#[47]⟩ s
 let r := aT O T (aS T ⟨#[47]⟩ s)
 let s2 := bE T ⟨#[58]⟩ r.2
 if (aW T s2).kind ≠ 2 then (⟨r.1, 0, sl⟩, bF T 13 s2)
 else if kT (aW T s2).value = 0 then (⟨r.1, q, sl⟩, bF T 2 s2) else (⟨r.1, kT (aW T s2).value, sl⟩, s2.next 1)
def bT {α : Type} (f : aU -> α × aU) (cl : ByteArray) : Nat -> aU -> List α × aU
 | 0, s => ([], s)
 | k + 1, s => if s.good = true /\ isS T cl s = false then ((f s).1 :: (bT f cl k (f s).2).1, (bT f cl k (f s).2).2) else ([], s)
def kW {α : Type} (f : aU -> α × aU) (cl : ByteArray) (s : aU) : List α × aU :=
 let m := bT T f cl T.length (f s).2
 ((f s).1 :: m.1, bE T cl m.2)
def bU (l : List ByteArray) (s : aU) : Option Nat × aU :=
 if (aW T s).kind ≠ 1 then (none, bF T 13 s)
 else match dY (aW T s).text l with
  | none => (none, bF T 32 s)
  | some i => (some i, s.next 1)
def eW (last i : Int) : Bool := decide (0 <= last) && (decide (i <= last) || (decide (0 < EC i) && decide (EC i = EC last)))
def aJ (last : Int) (A : A5) (s : aU) : Int × A5 × aU :=
 match bU T aP s with
 | (none, s') => (0, A, s')
 | (some i, s') => if eW last i = true then (0, A, bF T 13 s) else ((i : Int), xG A i, s')
def dB : Nat -> Int -> A5 -> aU -> A5 × aU
 | 0, _, A, s => (A, s)
 | k + 1, last, A, s => if s.good = true /\ isS T ⟨#[93]⟩ s = false then dB k (aJ T last A s).1 (aJ T last A s).2.1 (aJ T last A s).2.2 else (A, s)
def FN (s : aU) : A5 × aU :=
 let r := aJ T (-1) ⟨0, 0, 0, 0, 0⟩ s
 let m := dB T T.length r.1 r.2.1 r.2.2
 (m.1, bE T ⟨#[93]⟩ m.2)
def nV (s : aU) : Bool := decide ((aW T s).kind = 3) || isS T ⟨#[95]⟩ s
def eH (s : aU) : cT × aU :=
 if isS T ⟨#[95]⟩ s = true then (⟨ByteArray.empty, 2⟩, s.next 1)
 else
  let y := (jZ T s).1
  let s1 := (jZ T s).2
  if (aW T s1).joined = true then
   (if isS T ⟨#[45]⟩ s1 = true then (⟨y, 1⟩, s1.next 1) else if isS T ⟨#[95]⟩ s1 = true then (⟨y, 2⟩, s1.next 1) else (⟨y, 0⟩, s1))
  else (⟨y, 0⟩, s1)
def j2 : Nat -> aU -> List cT × aU
 | 0, s => ([], s)
 | k + 1, s => if nV T s = true then ((eH T s).1 :: (j2 k (eH T s).2).1, (j2 k (eH T s).2).2) else ([], s)
def gQ (q : Int) (s : aU) : List cY × aU :=
 if isS T ⟨#[103, 114, 97, 99, 101]⟩ s = true then kW T (aY O T q) ⟨#[41]⟩ (bE T ⟨#[40]⟩ (s.next 1)) else ([], s)
def pU (s : aU) : (Int × List eF) × aU :=
 if isS T ⟨#[82]⟩ s = true then ((3, []), s.next 1)
 else if isS T ⟨#[114]⟩ s = true then ((2, []), s.next 1)
 else if isS T ⟨#[115]⟩ s = true then ((4, []), s.next 1)
 else if isS T ⟨#[60]⟩ s = true then ((1, (kW T (bJ O T) ⟨#[62]⟩ (s.next 1)).1), (kW T (bJ O T) ⟨#[62]⟩ (s.next 1)).2)
 else ((1, [(bJ O T s).1]), (bJ O T s).2)
def H8 (kd : Int) (s : aU) : (Int × Int) × aU := if kd = 3 then ((0, 0), s) else gT O T (bE T ⟨#[58]⟩ s)
def gU (s : aU) : A5 × aU := if isS T ⟨#[91]⟩ s = true then FN T (s.next 1) else (⟨0, 0, 0, 0, 0⟩, s)
def eX (q : Int) (s : aU) : zC × aU :=
 let o := vP T s
 let g := gQ O T q o.2
 let b := pU O T g.2
 let v := H8 O T b.1.1 b.2
 let a := gU T v.2
 let y := j2 T T.length a.2
 (⟨o.1.1, o.1.2, b.1.1, v.1.1, v.1.2, b.1.2, g.1, a.1.ar, a.1.orn, a.1.dy, y.1, a.1.st, a.1.be⟩, y.2)
def jN (s : aU) : Bool :=
 isS T ⟨#[64]⟩ s || (isS T ⟨#[103, 114, 97, 99, 101]⟩ s || (isS T ⟨#[60]⟩ s || (isS T ⟨#[114]⟩ s || (isS T ⟨#[82]⟩ s || (isS T ⟨#[115]⟩ s || fG T s)))))
def bP (q : Int) : Nat -> gJ -> Int -> Int -> aU -> gJ × aU
 | 0, v, _, _, s => (v, s)
 | k + 1, v, least, n, s =>
  if s.good = false then (v, s)
  else if isS T ⟨#[40]⟩ s = true then
   let a := bS T 1 32 (s.next 1)
   let b := bS T 1 32 (bE T ⟨#[58]⟩ a.2)
   let r := bP q k ⟨v.evs, v.tups ++ [⟨v.evs.length, 0, a.1, b.1⟩]⟩ 1 0 b.2
   bP q k ⟨r.1.evs, r.1.tups.set v.tups.length ⟨v.evs.length, (r.1.evs.length : Int) - v.evs.length, a.1, b.1⟩⟩ least (n + 1) (bE T ⟨#[41]⟩ r.2)
  else if jN T s = true then bP q k ⟨v.evs ++ [(eX O T q s).1], v.tups⟩ least (n + 1) (eX O T q s).2
  else (v, if n < least then bF T 13 s else s)
def JA (s : aU) : aU := if (aW T s).kind = 0 then s else bF T 13 s
end
theorem iY {a b : ByteArray} (h : ¬ a = b) : ¬ a.toList = b.toList := by
 intro e
 rw [Go.ByteArray.toList_eq, Go.ByteArray.toList_eq] at e
 exact h (ByteArray.ext (Array.ext' e))
section
variable {Y M : Nat} {tv : Value} {toks : List bD} {pos : Nat} {line col e : Int} {free : Bool} {ls ln : Int} {es : Array MapEntry} {clk : Nat} {w : World} {t : bD}
theorem UU (h : jP Y M tv toks pos line col 0 free ls ln es clk w) (ht : toks[pos]? = some t) (tx : ByteArray) {b : Bool} (hb : pS t tx = b) :
  Calls Tryz.prog 76 #[.pointer (some ⟨Y, 0, none⟩), .string tx] w fun r w' => r = .returned (.bool b) /\ Below w.heap.size w w' := by
 have hp := qQ h ht
 obtain ⟨kd, text, v, bt, lin, cl, j⟩ := t
 simp only [pS] at hb hp
 clear h ht
 by_cases h1 : kd = 1
 ·subst h1
  by_cases hx : text = tx
  ·subst hx
   go_enter Tryz.func76, Tryz.ntmps76
   go_wp2_with (go_at_call 62; refine hp.mono ?_)
   intro r w1; first | (intro he b1; subst he) | rintro ⟨rfl, b1⟩
   go_wp2
   go_ret
   refine ⟨?_, b1.alloc b1.size _⟩
   first | (rw [<- hb]; simp; done) | simp_all
  ·try have hx' := iY hx
   go_enter Tryz.func76, Tryz.ntmps76
   go_wp2_with (go_at_call 62; refine hp.mono ?_)
   intro r w1; first | (intro he b1; subst he) | rintro ⟨rfl, b1⟩
   go_wp2
   go_ret
   refine ⟨?_, b1.alloc b1.size _⟩
   first | (rw [<- hb]; simp; done) | simp_all
 ·by_cases h4 : kd = 4
  ·subst h4
   by_cases hx : text = tx
   ·subst hx
    go_enter Tryz.func76, Tryz.ntmps76
    go_wp2_with (go_at_call 62; refine hp.mono ?_)
    intro r w1; first | (intro he b1; subst he) | rintro ⟨rfl, b1⟩
    go_wp2
    go_ret
    refine ⟨?_, b1.alloc b1.size _⟩
    first | (rw [<- hb]; simp; done) | simp_all
   ·have hx' := iY hx
    go_enter Tryz.func76, Tryz.ntmps76
    go_wp2_with (go_at_call 62; refine hp.mono ?_)
    intro r w1; first | (intro he b1; subst he) | rintro ⟨rfl, b1⟩
    go_wp2
    go_ret
    refine ⟨?_, b1.alloc b1.size _⟩
    first | (rw [<- hb]; simp; done) | simp_all
  ·try have hx' := iY hx
   go_enter Tryz.func76, Tryz.ntmps76
   go_wp2_with (go_at_call 62; refine hp.mono ?_)
   intro r w1; first | (intro he b1; subst he) | rintro ⟨rfl, b1⟩
   go_wp2
   go_ret
   refine ⟨?_, b1.alloc b1.size _⟩
   first | (rw [<- hb]; simp; done) | simp_all
theorem UV (h : jP Y M tv toks pos line col e free ls ln es clk w) (he : e ≠ 0) (tx : ByteArray) :
  Calls Tryz.prog 76 #[.pointer (some ⟨Y, 0, none⟩), .string tx] w fun r w' => r = .returned (.bool false) /\ Below w.heap.size w w' := by
 have hp := LX h he
 clear h
 go_enter Tryz.func76, Tryz.ntmps76
 go_wp2_with (go_at_call 62; refine hp.mono ?_)
 intro r w1; first | (intro he b1; subst he) | rintro ⟨rfl, b1⟩
 go_wp2
 go_ret
 exact ⟨rfl, b1.alloc b1.size _⟩
theorem jP.next (h : jP Y M tv toks pos line col e free ls ln es clk w) : jP Y M tv toks (pos + 1) line col e free ls ln es clk (w.setCell ⟨Y, 1, none⟩ (I ((pos : Int) + 1))) :=
 h.put 1 _ (fun h => h) (by rw [show ((pos + 1 : Nat) : Int) = (pos : Int) + 1 by omega]; rfl)
theorem N9 (h : jP Y M tv toks pos line col 0 free ls ln es clk w) (ht : toks[pos]? = some t) (tx : ByteArray) (hb : pS t tx = true) (hpos : pos <= 1048576) :
  Calls Tryz.prog 53 #[.pointer (some ⟨Y, 0, none⟩), .string tx] w fun r w' => r = .returned (.bool true) /\ jP Y M tv toks (pos + 1) line col 0 free ls ln es clk w' /\ aB [Y] w w' := by
 have hi := UU h ht tx hb
 have hst := fun w' (b : Below w.heap.size w w') => h.step b
 clear h ht hb
 have hw : IntKind.i64.wrap ((pos : Int) + 1) = (pos : Int) + 1 := IntWalk.i64_in _ (by omega)
 go_enter Tryz.func53, Tryz.ntmps53
 go_wp2_with (go_at_call 76; refine hi.mono ?_)
 intro r w1; first | (intro he b1; subst he) | rintro ⟨rfl, b1⟩
 have hS := hst _ b1
 have c1 := hS.c1
 have f1 := hS.fz 1
 have hN := hS.next
 clear hS hst hi
 go_wp2
 go_ret
 exact ⟨rfl, hN, (aB.of_below b1).setCell (.inl (by simp)) _⟩
theorem FS (tx : ByteArray) (hi : Calls Tryz.prog 76 #[.pointer (some ⟨Y, 0, none⟩), .string tx] w fun r w' => r = .returned (.bool false) /\ Below w.heap.size w w') :
  Calls Tryz.prog 53 #[.pointer (some ⟨Y, 0, none⟩), .string tx] w fun r w' => r = .returned (.bool false) /\ Below w.heap.size w w' := by
 go_enter Tryz.func53, Tryz.ntmps53
 go_wp2_with (go_at_call 76; refine hi.mono ?_)
 intro r w1; first | (intro he b1; subst he) | rintro ⟨rfl, b1⟩
 go_wp2
 go_ret
 exact ⟨rfl, b1⟩
theorem R7 (h : jP Y M tv toks pos line col 0 free ls ln es clk w) (ht : toks[pos]? = some t) (tx : ByteArray) (hb : pS t tx = false) :
  Calls Tryz.prog 53 #[.pointer (some ⟨Y, 0, none⟩), .string tx] w fun r w' => r = .returned (.bool false) /\ Below w.heap.size w w' := FS tx (UU h ht tx hb)
theorem PA (h : jP Y M tv toks pos line col e free ls ln es clk w) (he : e ≠ 0) (tx : ByteArray) :
  Calls Tryz.prog 53 #[.pointer (some ⟨Y, 0, none⟩), .string tx] w fun r w' => r = .returned (.bool false) /\ Below w.heap.size w w' := FS tx (UV h he tx)
theorem UW (h : jP Y M tv toks pos line col e free ls ln es clk w) (he : e ≠ 0) (c : Int) :
  Calls Tryz.prog 63 #[.pointer (some ⟨Y, 0, none⟩), I c] w fun r w' => r = .returned (.tuple #[]) /\ Below w.heap.size w w' := by
 have c4 := h.c4
 clear h
 go_enter Tryz.func63, Tryz.ntmps63
 go_wp2
 go_end0
 exact ⟨rfl, qa _ _⟩
end
end Go.Proofs.YtgkhemnmcgicnaaGreatDoor
