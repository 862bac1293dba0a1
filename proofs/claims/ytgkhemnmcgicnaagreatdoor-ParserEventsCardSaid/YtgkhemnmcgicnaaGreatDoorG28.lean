/- Towards the law ParserEvents, true for every text (no condition): one part of the proof. -/
import Derived.Test.YtgkhemnmcgicnaaGreatDoorG01
import Derived.Test.YtgkhemnmcgicnaaGreatDoorG27
import Derived.Deep.AppendLies
import Derived.Test.YtgkhemnmcgicnaaGreatDoorG19
import Derived.MapKept
namespace Go.Proofs.YtgkhemnmcgicnaaGreatDoor
set_option maxHeartbeats 16000000
set_option maxRecDepth 100000
open Go.RowKit
def need (T : List Tok) : Stt -> Nat
 | .ok p => T.length - p
 | .bad .. => 0
def Prog {α : Type} (f : Stt -> α × Stt) : Prop := ∀ p p', (f (.ok p)).2 = .ok p' -> p < p'
theorem failS_ok (T : List Tok) (c : Int) (s : Stt) (p : Nat) : failS T c s ≠ .ok p := by cases s <;> (intro h; cases h)
theorem next_ok {s : Stt} {k p : Nat} (h : s.next k = .ok p) : ∃ q, s = .ok q /\ p = q + k := by
 cases s with
 | ok q => injection h with h; exact ⟨q, rfl, h.symm⟩
 | bad e l c => cases h
theorem acc_ok {T : List Tok} {x : ByteArray} {s : Stt} {p : Nat} (h : accS T x s = .ok p) : ∃ q, s = .ok q /\ q <= p := by
 unfold accS at h
 split at h
 ·obtain ⟨q, h1, h2⟩ := next_ok h; exact ⟨q, h1, by omega⟩
 ·exact ⟨p, h, Nat.le_refl _⟩
theorem exp_ok {T : List Tok} {x : ByteArray} {s : Stt} {p : Nat} (h : expS T x s = .ok p) : ∃ q, s = .ok q /\ q < p := by
 unfold expS at h
 split at h
 ·obtain ⟨q, h1, h2⟩ := next_ok h; exact ⟨q, h1, by omega⟩
 ·exact absurd h (failS_ok T 13 s p)
theorem pitch_prog {O : Orc} {T : List Tok} {s : Stt} {p : Nat} (h : (pitchF O T s).2 = .ok p) : ∃ q, s = .ok q /\ q < p := by
 unfold pitchF at h
 split at h
 ·split at h
  ·exact absurd h (failS_ok T 18 s p)
  ·obtain ⟨q, h1, h2⟩ := next_ok h; exact ⟨q, h1, by omega⟩
 ·exact absurd h (failS_ok T 13 s p)
theorem head_prog (O : Orc) (T : List Tok) : Prog (headF O T) := fun p p' h => by
 unfold headF at h
 simp only at h
 have key : ∀ q, accS T ⟨#[126]⟩ (pitchF O T (.ok p)).2 = .ok q -> p < q := fun q hq => by
  obtain ⟨q1, h1, h2⟩ := acc_ok hq
  obtain ⟨q2, h3, h4⟩ := pitch_prog h1
  injection h3 with h3; omega
 split at h
 ·obtain ⟨q, h1, h2⟩ := next_ok h; have := key q h1; omega
 ·split at h
  ·obtain ⟨q, h1, h2⟩ := next_ok h; have := key q h1; omega
  ·exact key p' h
theorem grace_prog (O : Orc) (T : List Tok) (q0 : Int) : Prog (graceF O T q0) := fun p p' h => by
 unfold graceF at h
 simp only at h
 have key : ∀ q, expS T ⟨#[58]⟩ (pitchF O T (accS T ⟨#[47]⟩ (.ok p))).2 = .ok q -> p < q := fun q hq => by
  obtain ⟨q1, h1, h2⟩ := exp_ok hq
  obtain ⟨q2, h3, h4⟩ := pitch_prog h1
  obtain ⟨q3, h5, h6⟩ := acc_ok h3
  injection h5 with h5; omega
 split at h
 ·exact absurd h (failS_ok T 13 _ p')
 ·split at h
  ·exact absurd h (failS_ok T 2 _ p')
  ·obtain ⟨q, h1, h2⟩ := next_ok h; have := key q h1; omega
theorem need_step {α : Type} {f : Stt -> α × Stt} (hf : Prog f) {T : List Tok} {p k : Nat} (hp : p < T.length) (h : need T (.ok p) <= k + 1) : need T (f (.ok p)).2 <= k := by
 cases h2 : (f (.ok p)).2 with
 | bad e l c => exact Nat.zero_le _
 | ok p' =>
  have := hf p p' h2
  unfold need at h ⊢
  simp only at h ⊢
  omega
theorem own_at {w : World} {B : Nat} {e : TypeId} {size : Nat} {v : Value} {n : Nat} {xs : List Value} (h : w.ownsRow B e size v n xs) {k : Nat} (hk : v.ownBlock = some k) : ∃ cur, w.heap[k]? = some (.cells cur e (0, 0)) := by
 rcases h.2 with ⟨rfl, _⟩ | ⟨g, cap, cur, rfl, _, hg, _⟩
 ·simp [Value.ownBlock] at hk
 ·simp only [Value.ownBlock, Option.some.injEq] at hk
  subst hk
  exact ⟨cur, hg⟩
theorem PS.grown {T : List Tok} {Y M : Nat} {free : Bool} {st : Stt} {w w' : World} (h : PS T Y M free st w) {row : Option Nat} (hg : w.grownBy w' row) (hn : ∀ k, row = some k -> k ≠ Y /\ k ≠ M /\ ∃ cur e, w.heap[k]? = some (.cells cur e (0, 0)) /\ e ≠ 59) : PS T Y M free st w' := by
 obtain ⟨g, tv, pos, line, col, e, ls, ln, es, clk, h1, h2, h3⟩ := h
 refine ⟨g, tv, pos, line, col, e, ls, ln, es, clk, ⟨(hg.block Y h1.lt fun e => (hn Y e.symm).1 rfl).trans h1.blk, (hg.block M h1.ltM fun e => (hn M e.symm).2.1 rfl).trans h1.map, fun he => own_step (h1.row he) fun k hk => hg.block k ((h1.row he).lt k hk).2 fun e => ?_⟩, h2, h3⟩
 obtain ⟨cur, t, hc, ht⟩ := (hn k e.symm).2.2
 exact own_ne (h1.row he) hc (by intro cs' fr' hcc; injection hcc with _ h2 _; exact ht h2) hk
theorem Away.grown {bs : List Nat} {a w w' : World} {row : Option Nat} (h : Away bs a w) (hg : w.grownBy w' row) (hr : ∀ k, row = some k -> a.heap.size <= k) : Away bs a w' :=
 ⟨hg.os.trans h.os, hg.tape.trans h.tape, hg.output.trans h.output, Nat.le_trans h.size hg.size, fun k hk hb => (hg.block k (Nat.lt_of_lt_of_le hk h.size) fun e => by have := hr k e.symm; omega).trans (h.block k hk hb)⟩
theorem Away.step {bs : List Nat} {a w w' : World} (h : Away bs a w) (hb : Below w.heap.size w w') : Away bs a w' := h.trans (Away.of_below hb)
theorem own_is {w : World} {B : Nat} {e : TypeId} {size : Nat} {v : Value} {n : Nat} {xs : List Value} (h : w.ownsRow B e size v n xs) : ∃ ao c, v = .slice ao n c := by
 rcases h.2 with ⟨hv, h0⟩ | ⟨g, cap, cur, hv, _⟩
 ·exact ⟨none, 0, by rw [hv, h0]⟩
 ·exact ⟨_, _, hv⟩
def flatC {α : Type} (c : α -> Array Value) (l : List α) : List Value := (l.map c).flatMap (·.toList)
theorem flatC_snoc {α : Type} (c : α -> Array Value) (l : List α) (x : α) : flatC c (l ++ [x]) = flatC c l ++ (c x).toList := by simp [flatC]
theorem moreF_len {α : Type} {f : Stt -> α × Stt} {cl : ByteArray} {T : List Tok} : ∀ k s, (moreF T f cl k s).1.length <= k
 | 0, s => Nat.zero_le _
 | k + 1, s => by
  rw [moreF]
  split
  ·have := moreF_len (f := f) (cl := cl) (T := T) k (f s).2
   simp only [List.length_cons]; omega
  ·exact Nat.zero_le _
section
variable {T : List Tok} {Y M : Nat} {free : Bool} {w : World}
theorem PS.okCell {p : Nat} (h : PS T Y M free (.ok p) w) : w.cell? ⟨Y, 4, none⟩ = some (I 0) := by
 obtain ⟨g, tv, pos, line, col, e, ls, ln, es, clk, h1, h2, h3⟩ := h
 obtain ⟨rfl, rfl, rfl, rfl, hlt⟩ := h3
 exact h1.c4
theorem PS.errCell {e l c : Int} (h : PS T Y M free (.bad e l c) w) : w.cell? ⟨Y, 4, none⟩ = some (I e) /\ ¬ e = 0 := by
 obtain ⟨g, tv, pos, line, col, e', ls, ln, es, clk, h1, h2, h3⟩ := h
 obtain ⟨rfl, he, rfl, rfl, hlt⟩ := h3
 exact ⟨h1.c4, he⟩
end
theorem Tryz.infoheads : (Tryz.prog.info? 80).map (fun i => (i.zero.isSome, i.size, i.bytes)) = some (true, 5, 40) := by kernel_rfl
theorem zero_cells_heads {i : TypeInfo} {z : Value} (h1 : Tryz.prog.info? 80 = some i) (h2 : i.zero = some z) : z.cells.size = 5 := by
 have : (Tryz.prog.info? 80).map (fun i => i.zero.map fun z => z.cells.size) = some (some 5) := by kernel_rfl
 rw [h1] at this
 simp only [Option.map_some, h2, Option.some.injEq] at this
 exact this
section
variable {W0 : World} {T : List Tok} {Y M : Nat} {free : Bool} {st : Stt} {w : World}
theorem several_heads (h : PS T Y M free st w) (B : Bas W0 [Y, M] w) :
  Calls Tryz.prog 57 #[.pointer (some ⟨Y, 0, none⟩), .func (.func 58) #[.pointer (some ⟨Y, 0, none⟩)] #[], .string ⟨#[62]⟩] w fun rr w' =>
   ∃ v, rr = .returned v /\ w'.ownsRow w.heap.size 80 5 v (sevF T (headF theO T) ⟨#[62]⟩ st).1.length (flatC HeadV.cells (sevF T (headF theO T) ⟨#[62]⟩ st).1) /\ PS T Y M free (sevF T (headF theO T) ⟨#[62]⟩ st).2 w' /\ Away [Y, M] w w' := by
 obtain ⟨i0, hi0, hz0, hz1, hz2⟩ : ∃ i, Tryz.prog.info? 80 = some i /\ i.zero.isSome = true /\ i.size = 5 /\ i.bytes = 40 := by
  have := Tryz.infoheads
  cases hi : Tryz.prog.info? 80 with
  | none => rw [hi] at this; cases this
  | some i => rw [hi] at this; simp only [Option.map_some, Option.some.injEq, Prod.mk.injEq] at this; exact ⟨i, rfl, this.1, this.2.1, this.2.2⟩
 have g := h.good
 have hm := g.max
 have lY := h.lt
 have lM := h.ltM
 have x1 := head_s h B
 have hpr : Prog (headF theO T) := head_prog _ _
 have hsev : sevF T (headF theO T) ⟨#[62]⟩ st = ((headF theO T st).1 :: (moreF T (headF theO T) ⟨#[62]⟩ T.length (headF theO T st).2).1, expS T ⟨#[62]⟩ (moreF T (headF theO T) ⟨#[62]⟩ T.length (headF theO T st).2).2) := rfl
 rw [hsev]
 clear hsev
 have hn0 : need T (headF theO T st).2 <= T.length := by
  cases (headF theO T st).2 with
  | ok p => exact Nat.sub_le _ _
  | bad e l c => exact Nat.zero_le _
 obtain ⟨tot, htot⟩ : ∃ tot, tot = moreF T (headF theO T) ⟨#[62]⟩ T.length (headF theO T st).2 := ⟨_, rfl⟩
 rw [<- htot]
 generalize hq1 : headF theO T st = q1 at x1 htot hn0 ⊢
 obtain ⟨x, s1⟩ := q1
 simp only at x1 htot hn0 ⊢
 have c9 := fun w' (h : PS T Y M free tot.2 w') => expect_s h ⟨#[62]⟩
 generalize expS T ⟨#[62]⟩ tot.2 = s9 at c9 ⊢
 obtain ⟨N, hN⟩ : ∃ N, Shut (T.length = N) := ⟨_, rfl⟩
 have hN4 : N <= 4001 := by rw [<- hN.out]; exact hm
 rw [hN.out] at htot hn0
 have HT := shut (And.intro htot hn0)
 have HX0 : ∃ x' : HeadV, Shut (x' = x) := ⟨x, rfl⟩
 obtain ⟨x', HX'⟩ := HX0
 clear h htot hn0 hq1 g hm
 obtain ⟨⟨y0, y1, y2⟩, y3, y4⟩ := x
 simp only [hAgg] at x1
 go_enter Tryz.func57, Tryz.ntmps57
 go_wp2_with (go_at_call 58; refine x1.mono ?_)
 intro rr w1; first | (intro he hS1 a1; subst he) | rintro ⟨rfl, hS1, a1⟩
 have sz1 := a1.size
 have hS2 := hS1.step ((Below.refl _ w1).alloc (Nat.le_refl _) (.cells #[I y0, I y1, I y2, .bool y3, I y4] 80))
 have aw2 := a1.alloc (.cells #[I y0, I y1, I y2, .bool y3, I y4] 80)
 have ho2 : (w1.alloc (.cells #[I y0, I y1, I y2, .bool y3, I y4] 80)).ownsRow w.heap.size 80 5 (.slice (some ⟨w1.heap.size, 0, none⟩) 1 1) 1 #[I y0, I y1, I y2, .bool y3, I y4].toList := World.ownsRow_lit (size := 5) w1 #[I y0, I y1, I y2, .bool y3, I y4] 1 sz1 (by decide) rfl
 clear x1 hS1 a1
 go_wp2
 go_loopg [7] N (fun gk s7 wr => ∃ (l : List HeadV) (s : Stt), l.length + gk = N /\ need T s <= gk /\ (l ++ (moreF T (headF theO T) ⟨#[62]⟩ gk s).1, (moreF T (headF theO T) ⟨#[62]⟩ gk s).2) = tot /\ wr.ownsRow w.heap.size 80 5 s7 (l.length + 1) (flatC HeadV.cells (x' :: l)) /\ PS T Y M free s wr /\ Away [Y, M] w wr)
 case atStart => exact ⟨[], s1, by simp, HT.out.2, by rw [HT.out.1]; rfl, by rw [HX'.out]; exact ho2, hS2, aw2⟩
 case round =>
  clear hS2 aw2 ho2
  obtain ⟨l, s, hlen, hneed, htotal, hown, hS, aw⟩ := hrel
  have hN1 : (l.length : Int) <= 4001 := by omega
  have hB2 : Bas W0 [Y, M] wr := B.away aw
  obtain ⟨ao, cp, rfl⟩ := own_is hown
  have hlo : ∀ j, (Value.slice ao (l.length + 1) cp).ownBlock = some j -> w.heap.size <= j := fun j hj => (hown.lt j hj).1
  have hx9 : ∀ w', Below wr.heap.size wr w' -> s = tot.2 -> Calls Tryz.prog 54 #[.pointer (some ⟨Y, 0, none⟩), .string ⟨#[62]⟩] w' fun r w'' => r = .returned (.tuple #[]) /\ PS T Y M free s9 w'' /\ Away [Y, M] w' w'' := fun w' b e => c9 w' (by rw [<- e]; exact hS.step b)
  have HT2 := shut (And.intro hlen (And.intro hneed htotal))
  have fin0 : (moreF T (headF theO T) ⟨#[62]⟩ gk s) = ([], s) -> l = tot.1 /\ s = tot.2 := fun e => by
   rw [e] at htotal
   simp only [List.append_nil] at htotal
   exact ⟨congrArg (·.1) htotal, congrArg (·.2) htotal⟩
  clear htotal hlen hneed
  cases s with
  | bad ee el ec =>
   obtain ⟨c4, hee⟩ := hS.errCell
   obtain ⟨hl, hs⟩ := fin0 (moreF_bad _ _ _ _ _ _)
   have xe := hx9 wr (Below.refl _ _) hs
   clear fin0 hx9 hS hB2
   go_wp2_with (go_at_call 54; refine xe.mono ?_)
   intro rr w4; first | (intro he hS4 a4; subst he) | rintro ⟨rfl, hS4, a4⟩
   have hown4 := own_step hown fun j hj => a4.block j (hown.lt j hj).2 (by have := hlo j hj; simp; omega)
   have aw4 := aw.trans a4
   clear xe hown aw a4 c4
   go_wp2
   go_ret
   refine ⟨_, rfl, ?_, hS4, aw4⟩
   rw [<- hl]
   have e := HX'.out
   rw [<- e]
   exact hown4
  | ok p =>
   have c4 := hS.okCell
   have hpl := hS.atCell.2.2
   have xi := is_s hS ⟨#[62]⟩
   cases hb : isS T ⟨#[62]⟩ (.ok p) with
   | true =>
    rw [hb] at xi
    obtain ⟨hl, hs⟩ := fin0 (by
     cases gk with
     | zero => rfl
     | succ k => rw [moreF, if_neg (by rw [hb]; simp)])
    clear fin0 hS hB2
    go_wp2_with (go_at_call 76; refine xi.mono ?_)
    intro rr w3; first | (intro he b3; subst he) | rintro ⟨rfl, b3⟩
    have xe := hx9 w3 b3 hs
    have hown3 := own_step hown fun j hj => b3.block j (hown.lt j hj).2
    have aw3 := aw.step b3
    clear xi hx9 hown aw b3 c4
    go_wp2_with (go_at_call 54; refine xe.mono ?_)
    intro rr w4; first | (intro he hS4 a4; subst he) | rintro ⟨rfl, hS4, a4⟩
    have hown4 := own_step hown3 fun j hj => a4.block j (hown3.lt j hj).2 (by have := hlo j hj; simp; omega)
    have aw4 := aw3.trans a4
    clear xe hown3 aw3 a4
    go_wp2
    go_ret
    refine ⟨_, rfl, ?_, hS4, aw4⟩
    rw [<- hl]
    have e := HX'.out
    rw [<- e]
    exact hown4
   | false =>
    rw [hb] at xi
    obtain ⟨k, hgk⟩ : ∃ k, gk = k + 1 := by
     have := HT2.out.2.1
     unfold need at this
     exact ⟨gk - 1, by simp only at this; omega⟩
    have hmore : moreF T (headF theO T) ⟨#[62]⟩ gk (.ok p) = ((headF theO T (.ok p)).1 :: (moreF T (headF theO T) ⟨#[62]⟩ k (headF theO T (.ok p)).2).1, (moreF T (headF theO T) ⟨#[62]⟩ k (headF theO T (.ok p)).2).2) := by
     rw [hgk, moreF, if_pos ⟨rfl, hb⟩]
    have hnx : need T (headF theO T (.ok p)).2 <= k := need_step hpr hpl (by have := HT2.out.2.1; omega)
    have htot2 := HT2.out.2.2
    rw [hmore] at htot2
    have hlen2 := HT2.out.1
    have xr := fun W (bW : Below wr.heap.size wr W) => head_s (hS.step bW) (hB2.step bW)
    generalize hqq : headF theO T (.ok p) = qq at xr hnx htot2
    obtain ⟨y, s2⟩ := qq
    simp only at xr hnx htot2
    have hcat : flatC HeadV.cells (x' :: (l ++ [y])) = flatC HeadV.cells (x' :: l) ++ y.cells.toList := flatC_snoc _ (x' :: l) y
    obtain ⟨⟨z0, z1, z2⟩, z3, z4⟩ := y
    simp only [hAgg] at xr
    have HC := shut hcat
    have HA := shut (And.intro hnx (And.intro htot2 (And.intro hlen2 hgk)))
    clear fin0 hx9 hmore hnx htot2 hlen2 hcat hqq hb HT2 hS hB2
    generalize hcur : flatC HeadV.cells (x' :: l) = cur at hown HC
    go_wp2_with (go_at_call 76; refine xi.mono ?_)
    intro rr w3; first | (intro he b3; subst he) | rintro ⟨rfl, b3⟩
    have xr3 := xr w3 b3
    have hown3 := own_step hown fun j hj => b3.block j (hown.lt j hj).2
    have aw3 := aw.step b3
    clear xr xi c4 hown aw b3
    go_wp2_with (go_at_call 58; refine xr3.mono ?_)
    intro rr w4; first | (intro he hS4 a4; subst he) | rintro ⟨rfl, hS4, a4⟩
    have hown4 := own_step hown3 fun j hj => a4.block j (hown3.lt j hj).2 (by have := hlo j hj; simp; omega)
    have aw4 := aw3.trans a4
    have sz4 := aw4.size
    clear xr3 hown3 aw3 a4
    obtain ⟨zz, hzz⟩ := Option.isSome_iff_exists.1 hz0
    go_wp2_with (at_builtin; refine wpList_append_lies _ rfl _ _ 27 rfl w.heap.size 80 i0 _ 5 40 Tryz.underlying27 hi0 hzz hz1 hz2 (zero_cells_heads hi0 hzz) (by omega) _ (l.length + 1) _ rfl (hown4.alloc _) ⟨w4.heap.size, 0, none⟩ 1 1 #[I z0, I z1, I z2, .bool z3, I z4].toList rfl rfl (World.news_of_block (cs := #[I z0, I z1, I z2, .bool z3, I z4]) (t := 80) (fr := (0, 0)) (heap_alloc_new _ _)) (by simp [Value.oneCell']) (by omega) (by unfold maxLen; omega) (by omega) (by simp; omega) (w4.heap.size + 1) (by simp) ?_; intro gg wcap w5 hown5 hgrow hat hgl)
    go_roundg (gk - 1)
    case measure => have := HA.out.2.2.2; omega
    case rel =>
     obtain ⟨q1, q2, q3, q4⟩ := HA.out
     have e1 : gk - 1 = k := by omega
     rw [e1]
     refine ⟨l ++ [⟨⟨z0, z1, z2⟩, z3, z4⟩], s2, by rw [List.length_append]; simp only [List.length_cons, List.length_nil]; omega, q1, ?_, ?_, (hS4.step ((Below.refl _ w4).alloc (Nat.le_refl _) _)).grown hgrow (fun j hj => ?_), (aw4.alloc _).grown hgrow hlo⟩
     ·rw [<- q2]; simp
     ·rw [HC.out, List.length_append]; exact hown5
     ·have h1 := hlo j hj
      obtain ⟨cur', hc'⟩ := own_at hown4 hj
      exact ⟨by omega, by omega, cur', 80, (Lib.alloc_old w4 _ _ (heap_lt hc')).trans hc', by decide⟩
end
theorem Tryz.infograces : (Tryz.prog.info? 77).map (fun i => (i.zero.isSome, i.size, i.bytes)) = some (true, 5, 40) := by kernel_rfl
theorem zero_cells_graces {i : TypeInfo} {z : Value} (h1 : Tryz.prog.info? 77 = some i) (h2 : i.zero = some z) : z.cells.size = 5 := by
 have : (Tryz.prog.info? 77).map (fun i => i.zero.map fun z => z.cells.size) = some (some 5) := by kernel_rfl
 rw [h1] at this
 simp only [Option.map_some, h2, Option.some.injEq] at this
 exact this
section
variable {W0 : World} {T : List Tok} {Y M : Nat} {free : Bool} {st : Stt} {w : World}
theorem several_graces (h : PS T Y M free st w) (B : Bas W0 [Y, M] w) :
  Calls Tryz.prog 55 #[.pointer (some ⟨Y, 0, none⟩), .func (.func 56) #[.pointer (some ⟨Y, 0, none⟩)] #[], .string ⟨#[41]⟩] w fun rr w' =>
   ∃ v, rr = .returned v /\ w'.ownsRow w.heap.size 77 5 v (sevF T (graceF theO T 7) ⟨#[41]⟩ st).1.length (flatC GraceV.cells (sevF T (graceF theO T 7) ⟨#[41]⟩ st).1) /\ PS T Y M free (sevF T (graceF theO T 7) ⟨#[41]⟩ st).2 w' /\ Away [Y, M] w w' := by
 obtain ⟨i0, hi0, hz0, hz1, hz2⟩ : ∃ i, Tryz.prog.info? 77 = some i /\ i.zero.isSome = true /\ i.size = 5 /\ i.bytes = 40 := by
  have := Tryz.infograces
  cases hi : Tryz.prog.info? 77 with
  | none => rw [hi] at this; cases this
  | some i => rw [hi] at this; simp only [Option.map_some, Option.some.injEq, Prod.mk.injEq] at this; exact ⟨i, rfl, this.1, this.2.1, this.2.2⟩
 have g := h.good
 have hm := g.max
 have lY := h.lt
 have lM := h.ltM
 have x1 := grace_s h B
 have hpr : Prog (graceF theO T 7) := grace_prog _ _ _
 have hsev : sevF T (graceF theO T 7) ⟨#[41]⟩ st = ((graceF theO T 7 st).1 :: (moreF T (graceF theO T 7) ⟨#[41]⟩ T.length (graceF theO T 7 st).2).1, expS T ⟨#[41]⟩ (moreF T (graceF theO T 7) ⟨#[41]⟩ T.length (graceF theO T 7 st).2).2) := rfl
 rw [hsev]
 clear hsev
 have hn0 : need T (graceF theO T 7 st).2 <= T.length := by
  cases (graceF theO T 7 st).2 with
  | ok p => exact Nat.sub_le _ _
  | bad e l c => exact Nat.zero_le _
 obtain ⟨tot, htot⟩ : ∃ tot, tot = moreF T (graceF theO T 7) ⟨#[41]⟩ T.length (graceF theO T 7 st).2 := ⟨_, rfl⟩
 rw [<- htot]
 generalize hq1 : graceF theO T 7 st = q1 at x1 htot hn0 ⊢
 obtain ⟨x, s1⟩ := q1
 simp only at x1 htot hn0 ⊢
 have c9 := fun w' (h : PS T Y M free tot.2 w') => expect_s h ⟨#[41]⟩
 generalize expS T ⟨#[41]⟩ tot.2 = s9 at c9 ⊢
 obtain ⟨N, hN⟩ : ∃ N, Shut (T.length = N) := ⟨_, rfl⟩
 have hN4 : N <= 4001 := by rw [<- hN.out]; exact hm
 rw [hN.out] at htot hn0
 have HT := shut (And.intro htot hn0)
 have HX0 : ∃ x' : GraceV, Shut (x' = x) := ⟨x, rfl⟩
 obtain ⟨x', HX'⟩ := HX0
 clear h htot hn0 hq1 g hm
 obtain ⟨⟨y0, y1, y2⟩, y3, y4⟩ := x
 simp only [gAgg] at x1
 go_enter Tryz.func55, Tryz.ntmps55
 go_wp2_with (go_at_call 56; refine x1.mono ?_)
 intro rr w1; first | (intro he hS1 a1; subst he) | rintro ⟨rfl, hS1, a1⟩
 have sz1 := a1.size
 have hS2 := hS1.step ((Below.refl _ w1).alloc (Nat.le_refl _) (.cells #[I y0, I y1, I y2, I y3, .bool y4] 77))
 have aw2 := a1.alloc (.cells #[I y0, I y1, I y2, I y3, .bool y4] 77)
 have ho2 : (w1.alloc (.cells #[I y0, I y1, I y2, I y3, .bool y4] 77)).ownsRow w.heap.size 77 5 (.slice (some ⟨w1.heap.size, 0, none⟩) 1 1) 1 #[I y0, I y1, I y2, I y3, .bool y4].toList := World.ownsRow_lit (size := 5) w1 #[I y0, I y1, I y2, I y3, .bool y4] 1 sz1 (by decide) rfl
 clear x1 hS1 a1
 go_wp2
 go_loopg [7] N (fun gk s7 wr => ∃ (l : List GraceV) (s : Stt), l.length + gk = N /\ need T s <= gk /\ (l ++ (moreF T (graceF theO T 7) ⟨#[41]⟩ gk s).1, (moreF T (graceF theO T 7) ⟨#[41]⟩ gk s).2) = tot /\ wr.ownsRow w.heap.size 77 5 s7 (l.length + 1) (flatC GraceV.cells (x' :: l)) /\ PS T Y M free s wr /\ Away [Y, M] w wr)
 case atStart => exact ⟨[], s1, by simp, HT.out.2, by rw [HT.out.1]; rfl, by rw [HX'.out]; exact ho2, hS2, aw2⟩
 case round =>
  clear hS2 aw2 ho2
  obtain ⟨l, s, hlen, hneed, htotal, hown, hS, aw⟩ := hrel
  have hN1 : (l.length : Int) <= 4001 := by omega
  have hB2 : Bas W0 [Y, M] wr := B.away aw
  obtain ⟨ao, cp, rfl⟩ := own_is hown
  have hlo : ∀ j, (Value.slice ao (l.length + 1) cp).ownBlock = some j -> w.heap.size <= j := fun j hj => (hown.lt j hj).1
  have hx9 : ∀ w', Below wr.heap.size wr w' -> s = tot.2 -> Calls Tryz.prog 54 #[.pointer (some ⟨Y, 0, none⟩), .string ⟨#[41]⟩] w' fun r w'' => r = .returned (.tuple #[]) /\ PS T Y M free s9 w'' /\ Away [Y, M] w' w'' := fun w' b e => c9 w' (by rw [<- e]; exact hS.step b)
  have HT2 := shut (And.intro hlen (And.intro hneed htotal))
  have fin0 : (moreF T (graceF theO T 7) ⟨#[41]⟩ gk s) = ([], s) -> l = tot.1 /\ s = tot.2 := fun e => by
   rw [e] at htotal
   simp only [List.append_nil] at htotal
   exact ⟨congrArg (·.1) htotal, congrArg (·.2) htotal⟩
  clear htotal hlen hneed
  cases s with
  | bad ee el ec =>
   obtain ⟨c4, hee⟩ := hS.errCell
   obtain ⟨hl, hs⟩ := fin0 (moreF_bad _ _ _ _ _ _)
   have xe := hx9 wr (Below.refl _ _) hs
   clear fin0 hx9 hS hB2
   go_wp2_with (go_at_call 54; refine xe.mono ?_)
   intro rr w4; first | (intro he hS4 a4; subst he) | rintro ⟨rfl, hS4, a4⟩
   have hown4 := own_step hown fun j hj => a4.block j (hown.lt j hj).2 (by have := hlo j hj; simp; omega)
   have aw4 := aw.trans a4
   clear xe hown aw a4 c4
   go_wp2
   go_ret
   refine ⟨_, rfl, ?_, hS4, aw4⟩
   rw [<- hl]
   have e := HX'.out
   rw [<- e]
   exact hown4
  | ok p =>
   have c4 := hS.okCell
   have hpl := hS.atCell.2.2
   have xi := is_s hS ⟨#[41]⟩
   cases hb : isS T ⟨#[41]⟩ (.ok p) with
   | true =>
    rw [hb] at xi
    obtain ⟨hl, hs⟩ := fin0 (by
     cases gk with
     | zero => rfl
     | succ k => rw [moreF, if_neg (by rw [hb]; simp)])
    clear fin0 hS hB2
    go_wp2_with (go_at_call 76; refine xi.mono ?_)
    intro rr w3; first | (intro he b3; subst he) | rintro ⟨rfl, b3⟩
    have xe := hx9 w3 b3 hs
    have hown3 := own_step hown fun j hj => b3.block j (hown.lt j hj).2
    have aw3 := aw.step b3
    clear xi hx9 hown aw b3 c4
    go_wp2_with (go_at_call 54; refine xe.mono ?_)
    intro rr w4; first | (intro he hS4 a4; subst he) | rintro ⟨rfl, hS4, a4⟩
    have hown4 := own_step hown3 fun j hj => a4.block j (hown3.lt j hj).2 (by have := hlo j hj; simp; omega)
    have aw4 := aw3.trans a4
    clear xe hown3 aw3 a4
    go_wp2
    go_ret
    refine ⟨_, rfl, ?_, hS4, aw4⟩
    rw [<- hl]
    have e := HX'.out
    rw [<- e]
    exact hown4
   | false =>
    rw [hb] at xi
    obtain ⟨k, hgk⟩ : ∃ k, gk = k + 1 := by
     have := HT2.out.2.1
     unfold need at this
     exact ⟨gk - 1, by simp only at this; omega⟩
    have hmore : moreF T (graceF theO T 7) ⟨#[41]⟩ gk (.ok p) = ((graceF theO T 7 (.ok p)).1 :: (moreF T (graceF theO T 7) ⟨#[41]⟩ k (graceF theO T 7 (.ok p)).2).1, (moreF T (graceF theO T 7) ⟨#[41]⟩ k (graceF theO T 7 (.ok p)).2).2) := by
     rw [hgk, moreF, if_pos ⟨rfl, hb⟩]
    have hnx : need T (graceF theO T 7 (.ok p)).2 <= k := need_step hpr hpl (by have := HT2.out.2.1; omega)
    have htot2 := HT2.out.2.2
    rw [hmore] at htot2
    have hlen2 := HT2.out.1
    have xr := fun W (bW : Below wr.heap.size wr W) => grace_s (hS.step bW) (hB2.step bW)
    generalize hqq : graceF theO T 7 (.ok p) = qq at xr hnx htot2
    obtain ⟨y, s2⟩ := qq
    simp only at xr hnx htot2
    have hcat : flatC GraceV.cells (x' :: (l ++ [y])) = flatC GraceV.cells (x' :: l) ++ y.cells.toList := flatC_snoc _ (x' :: l) y
    obtain ⟨⟨z0, z1, z2⟩, z3, z4⟩ := y
    simp only [gAgg] at xr
    have HC := shut hcat
    have HA := shut (And.intro hnx (And.intro htot2 (And.intro hlen2 hgk)))
    clear fin0 hx9 hmore hnx htot2 hlen2 hcat hqq hb HT2 hS hB2
    generalize hcur : flatC GraceV.cells (x' :: l) = cur at hown HC
    go_wp2_with (go_at_call 76; refine xi.mono ?_)
    intro rr w3; first | (intro he b3; subst he) | rintro ⟨rfl, b3⟩
    have xr3 := xr w3 b3
    have hown3 := own_step hown fun j hj => b3.block j (hown.lt j hj).2
    have aw3 := aw.step b3
    clear xr xi c4 hown aw b3
    go_wp2_with (go_at_call 56; refine xr3.mono ?_)
    intro rr w4; first | (intro he hS4 a4; subst he) | rintro ⟨rfl, hS4, a4⟩
    have hown4 := own_step hown3 fun j hj => a4.block j (hown3.lt j hj).2 (by have := hlo j hj; simp; omega)
    have aw4 := aw3.trans a4
    have sz4 := aw4.size
    clear xr3 hown3 aw3 a4
    obtain ⟨zz, hzz⟩ := Option.isSome_iff_exists.1 hz0
    go_wp2_with (at_builtin; refine wpList_append_lies _ rfl _ _ 28 rfl w.heap.size 77 i0 _ 5 40 Tryz.underlying28 hi0 hzz hz1 hz2 (zero_cells_graces hi0 hzz) (by omega) _ (l.length + 1) _ rfl (hown4.alloc _) ⟨w4.heap.size, 0, none⟩ 1 1 #[I z0, I z1, I z2, I z3, .bool z4].toList rfl rfl (World.news_of_block (cs := #[I z0, I z1, I z2, I z3, .bool z4]) (t := 77) (fr := (0, 0)) (heap_alloc_new _ _)) (by simp [Value.oneCell']) (by omega) (by unfold maxLen; omega) (by omega) (by simp; omega) (w4.heap.size + 1) (by simp) ?_; intro gg wcap w5 hown5 hgrow hat hgl)
    go_roundg (gk - 1)
    case measure => have := HA.out.2.2.2; omega
    case rel =>
     obtain ⟨q1, q2, q3, q4⟩ := HA.out
     have e1 : gk - 1 = k := by omega
     rw [e1]
     refine ⟨l ++ [⟨⟨z0, z1, z2⟩, z3, z4⟩], s2, by rw [List.length_append]; simp only [List.length_cons, List.length_nil]; omega, q1, ?_, ?_, (hS4.step ((Below.refl _ w4).alloc (Nat.le_refl _) _)).grown hgrow (fun j hj => ?_), (aw4.alloc _).grown hgrow hlo⟩
     ·rw [<- q2]; simp
     ·rw [HC.out, List.length_append]; exact hown5
     ·have h1 := hlo j hj
      obtain ⟨cur', hc'⟩ := own_at hown4 hj
      exact ⟨by omega, by omega, cur', 77, (Lib.alloc_old w4 _ _ (heap_lt hc')).trans hc', by decide⟩
end
set_option maxRecDepth 1000000
open Go.RowKit Go.Dam
def attrB (i : Nat) : ByteArray := attrWL.getD i ByteArray.empty
def wE : List ByteArray -> Nat -> List MapEntry
 | [], _ => []
 | y :: r, b => ⟨.string y, I (b : Nat), b⟩ :: wE r (b + 1)
def wEs (k : Nat) : Array MapEntry := (wE (attrWL.take k) 0).toArray
theorem wE_snoc : ∀ (l : List ByteArray) (b : Nat) (y : ByteArray), wE (l ++ [y]) b = wE l b ++ [⟨.string y, I ((b + l.length : Nat) : Int), b + l.length⟩]
 | [], b, y => rfl
 | x :: r, b, y => by
  show _ :: wE (r ++ [y]) (b + 1) = _ :: (wE r (b + 1) ++ _)
  rw [wE_snoc r (b + 1) y, List.length_cons, show b + 1 + r.length = b + (r.length + 1) by omega]
theorem attr_len : attrWL.length = 22 := rfl
theorem attr_get {i : Nat} (h : i < 22) : attrWL[i]? = some (attrB i) := by
 unfold attrB
 rw [List.getD_eq_getElem?_getD, List.getElem?_eq_getElem (by rw [attr_len]; exact h)]
 rfl
theorem wEs_succ {k : Nat} (h : k < 22) : (wEs k).push ⟨.string (attrB k), I (k : Nat), k⟩ = wEs (k + 1) := by
 unfold wEs
 have e : attrWL.take (k + 1) = attrWL.take k ++ [attrB k] := by
  rw [List.take_add_one, attr_get h]; rfl
 have hl : (attrWL.take k).length = k := by rw [List.length_take, attr_len]; omega
 rw [e, wE_snoc, hl]
 simp
theorem find_wE (x : ByteArray) : ∀ (l : List ByteArray) (b i : Nat), Instr.findNow .string (.string x) (wE l b) i = some ((wordIdx x l).map fun j => (i + j, I ((b + j : Nat) : Int)))
 | [], b, i => rfl
 | y :: r, b, i => by
  unfold wE Instr.findNow wordIdx
  by_cases h : x = y
  ·have : (x == y) = true := (Go.MapKept.bytes_beq x y).2 h
   simp only [Instr.sameNow, this]
   simp [h]
  ·have : (x == y) = false := by
    cases hb : (x == y) with
    | false => rfl
    | true => exact absurd ((Go.MapKept.bytes_beq x y).1 hb) h
   simp only [Instr.sameNow, this]
   rw [if_neg h]
   rw [find_wE x r (b + 1) (i + 1)]
   simp only [Option.map_map, Option.some.injEq]
   congr 1
   funext j
   simp only [Function.comp, Prod.mk.injEq, Value.int.injEq, true_and]
   exact ⟨by omega, by omega⟩
theorem wordIdx_lt {x : ByteArray} : ∀ {l : List ByteArray} {i : Nat}, wordIdx x l = some i -> i < l.length
 | [], i, h => by cases h
 | y :: r, i, h => by
  unfold wordIdx at h
  split at h
  ·injection h with h; subst h; simp
  ·obtain ⟨j, hj, rfl⟩ := Option.map_eq_some_iff.1 h
   have := wordIdx_lt hj
   simp only [List.length_cons]; omega
theorem wordIdx_hit {x : ByteArray} : ∀ {l : List ByteArray} {k : Nat}, (∀ j < k, l[j]? ≠ some x) -> l[k]? = some x -> wordIdx x l = some k
 | [], k, _, h => by simp at h
 | y :: r, 0, _, h => by
  have : y = x := by simpa using h
  unfold wordIdx; rw [if_pos this.symm]
 | y :: r, k + 1, h1, h => by
  have h0 : ¬ x = y := fun e => h1 0 (by omega) (by rw [e]; rfl)
  unfold wordIdx
  rw [if_neg h0, wordIdx_hit (l := r) (k := k) (fun j hj => by have := h1 (j + 1) (by omega); simpa using this) (by simpa using h)]
  rfl
theorem wordIdx_miss {x : ByteArray} : ∀ {l : List ByteArray}, (∀ j < l.length, l[j]? ≠ some x) -> wordIdx x l = none
 | [], _ => rfl
 | y :: r, h1 => by
  have h0 : ¬ x = y := fun e => h1 0 (by simp) (by rw [e]; rfl)
  unfold wordIdx
  rw [if_neg h0, wordIdx_miss (l := r) (fun j hj => by have := h1 (j + 1) (by simp only [List.length_cons]; omega); simpa using this)]
  rfl
theorem attr_find {x : ByteArray} : Instr.findNow .string (.string x) (wEs 22).toList 0 = some ((wordIdx x attrWL).map fun j => (j, I (j : Nat))) := by
 have e : (wEs 22).toList = wE attrWL 0 := by unfold wEs; rw [List.take_of_length_le (by rw [attr_len]; omega)]
 rw [e, find_wE]
 simp
theorem attr_new : (List.range 22).all (fun i => (wordIdx (attrB i) (attrWL.take i)).isNone) = true := by decide +kernel
theorem attr_missed {i : Nat} (h : i < 22) : Instr.findNow .string (.string (attrB i)) (wEs i).toList 0 = some none := by
 have := List.all_eq_true.1 attr_new i (List.mem_range.2 h)
 unfold wEs
 rw [List.toList_toArray, find_wE, Option.isNone_iff_eq_none.1 this]
 rfl
def attrRow : Obj := .cells (attrWL.map Value.string).toArray 9 (0, 0)
theorem attrs_walk (w : World) : Calls Tryz.prog 105 #[] w fun r w' => r = .returned (.slice (some ⟨w.heap.size, 0, none⟩) 22 22) /\ w' = w.alloc attrRow := by
 go_enter Tryz.func105, Tryz.ntmps105
 go_wp2
 go_ret
 exact ⟨rfl, rfl⟩
theorem mattrs_walk (w : World) : Calls Tryz.prog 69 #[] w fun r w' => r = .returned (.slice (some ⟨w.heap.size, 0, none⟩) 22 22) /\ w' = w.alloc attrRow := by
 go_enter Tryz.func69, Tryz.ntmps69
 go_wp2
 go_ret
 exact ⟨rfl, rfl⟩
def rangeI (n : Nat) : List Int := (List.range n).map Int.ofNat
theorem mem_rangeI {n : Nat} {x : Int} (h0 : 0 <= x) (h1 : x < n) : x ∈ rangeI n := List.mem_map.2 ⟨x.toNat, List.mem_range.2 (by omega), Int.toNat_of_nonneg h0⟩
def mgrp (i : Int) : Int := if i < 5 then 1 else if i < 9 then 2 else if i < 18 then 3 else if i < 20 then 4 else 5
theorem grp_m (i : Int) : (grp i = 0 /\ mgrp i = 1) \/ (grp i = 4 /\ mgrp i = 2) \/ (grp i = 3 /\ mgrp i = 3) \/ (grp i = 2 /\ mgrp i = 4) \/ (grp i = 1 /\ mgrp i = 5) := by
 unfold mgrp grp; (repeat' split) <;> omega
theorem mgrp_gt (i : Int) : decide (1 < mgrp i) = decide (0 < grp i) := by
 rcases grp_m i with ⟨h1, h2⟩ | ⟨h1, h2⟩ | ⟨h1, h2⟩ | ⟨h1, h2⟩ | ⟨h1, h2⟩ <;> (rw [h1, h2]; first | done | rfl)
theorem mgrp_eq (i j : Int) : decide (mgrp i = mgrp j) = decide (grp i = grp j) := by
 rcases grp_m i with ⟨h1, h2⟩ | ⟨h1, h2⟩ | ⟨h1, h2⟩ | ⟨h1, h2⟩ | ⟨h1, h2⟩ <;> rcases grp_m j with ⟨h3, h4⟩ | ⟨h3, h4⟩ | ⟨h3, h4⟩ | ⟨h3, h4⟩ | ⟨h3, h4⟩ <;> (rw [h1, h2, h3, h4]; first | done | rfl)
theorem grp_runs : (rangeI 22).all (fun i => runsV 108 [I i] (I (grp i))) = true := by kernel_rfl
theorem group_walk {i : Int} (h0 : 0 <= i) (h1 : i < 22) (w : World) : Calls Tryz.prog 108 #[I i] w fun e w' => e = .returned (I (grp i)) /\ Below w.heap.size w w' :=
 runsV_says (args := [I i]) rfl rfl (List.all_eq_true.1 grp_runs i (mem_rangeI h0 (by omega))) w
theorem mgrp_runs : (rangeI 22).all (fun i => runsV 70 [I i] (I (mgrp i))) = true := by kernel_rfl
theorem mgroup_walk {i : Int} (h0 : 0 <= i) (h1 : i < 22) (w : World) : Calls Tryz.prog 70 #[I i] w fun e w' => e = .returned (I (mgrp i)) /\ Below w.heap.size w w' :=
 runsV_says (args := [I i]) rfl rfl (List.all_eq_true.1 mgrp_runs i (mem_rangeI h0 (by omega))) w
end Go.Proofs.YtgkhemnmcgicnaaGreatDoor
