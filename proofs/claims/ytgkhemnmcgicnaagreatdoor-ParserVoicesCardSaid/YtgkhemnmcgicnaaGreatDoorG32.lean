/- Towards the law ParserVoices, true for every text (no condition): one part of the proof. -/
import Derived.Test.YtgkhemnmcgicnaaGreatDoorG01
import Derived.Test.YtgkhemnmcgicnaaGreatDoorG31
import Derived.Deep.AppendLies
import Derived.Test.YtgkhemnmcgicnaaGreatDoorG23
import Derived.MapKept
namespace Go.Proofs.YtgkhemnmcgicnaaGreatDoor
set_option maxHeartbeats 16000000
set_option maxRecDepth 100000
open Go.RowKit
def need (T : List bD) : aU -> Nat
 | .ok p => T.length - p
 | .bad .. => 0
def PC {α : Type} (f : aU -> α × aU) : Prop := ∀ p p', (f (.ok p)).2 = .ok p' -> p < p'
theorem jG (T : List bD) (c : Int) (s : aU) (p : Nat) : bF T c s ≠ .ok p := by cases s <;> (intro h; cases h)
theorem iZ {s : aU} {k p : Nat} (h : s.next k = .ok p) : ∃ q, s = .ok q /\ p = q + k := by
 cases s with
 | ok q => injection h with h; exact ⟨q, rfl, h.symm⟩
 | bad e l c => cases h
theorem PD {T : List bD} {x : ByteArray} {s : aU} {p : Nat} (h : aS T x s = .ok p) : ∃ q, s = .ok q /\ q <= p := by
 unfold aS at h
 split at h
 ·obtain ⟨q, h1, h2⟩ := iZ h; exact ⟨q, h1, by omega⟩
 ·exact ⟨p, h, qb _⟩
theorem JG {T : List bD} {x : ByteArray} {s : aU} {p : Nat} (h : bE T x s = .ok p) : ∃ q, s = .ok q /\ q < p := by
 unfold bE at h
 split at h
 ·obtain ⟨q, h1, h2⟩ := iZ h; exact ⟨q, h1, by omega⟩
 ·exact absurd h (jG T 13 s p)
theorem qR {O : A7} {T : List bD} {s : aU} {p : Nat} (h : (aT O T s).2 = .ok p) : ∃ q, s = .ok q /\ q < p := by
 unfold aT at h
 split at h
 ·split at h
  ·exact absurd h (jG T 18 s p)
  ·obtain ⟨q, h1, h2⟩ := iZ h; exact ⟨q, h1, by omega⟩
 ·exact absurd h (jG T 13 s p)
theorem FT (O : A7) (T : List bD) : PC (bJ O T) := fun p p' h => by
 unfold bJ at h
 simp only at h
 have key : ∀ q, aS T ⟨#[126]⟩ (aT O T (.ok p)).2 = .ok q -> p < q := fun q hq => by
  obtain ⟨q1, h1, h2⟩ := PD hq
  obtain ⟨q2, h3, h4⟩ := qR h1
  injection h3 with h3; omega
 split at h
 ·obtain ⟨q, h1, h2⟩ := iZ h; have := key q h1; omega
 ·split at h
  ·obtain ⟨q, h1, h2⟩ := iZ h; have := key q h1; omega
  ·exact key p' h
theorem DD (O : A7) (T : List bD) (q0 : Int) : PC (aY O T q0) := fun p p' h => by
 unfold aY at h
 simp only at h
 have key : ∀ q, bE T ⟨#[58]⟩ (aT O T (aS T ⟨#[47]⟩ (.ok p))).2 = .ok q -> p < q := fun q hq => by
  obtain ⟨q1, h1, h2⟩ := JG hq
  obtain ⟨q2, h3, h4⟩ := qR h1
  obtain ⟨q3, h5, h6⟩ := PD h3
  injection h5 with h5; omega
 split at h
 ·exact absurd h (jG T 13 _ p')
 ·split at h
  ·exact absurd h (jG T 2 _ p')
  ·obtain ⟨q, h1, h2⟩ := iZ h; have := key q h1; omega
theorem t8 {α : Type} {f : aU -> α × aU} (hf : PC f) {T : List bD} {p k : Nat} (hp : p < T.length) (h : need T (.ok p) <= k + 1) : need T (f (.ok p)).2 <= k := by
 cases h2 : (f (.ok p)).2 with
 | bad e l c => exact qn _
 | ok p' =>
  have := hf p p' h2
  unfold need at h |-
  simp only at h |-
  omega
theorem cA {w : World} {B : Nat} {e : TypeId} {size : Nat} {v : Value} {n : Nat} {xs : List Value} (h : w.ownsRow B e size v n xs) {k : Nat} (hk : v.ownBlock = some k) : ∃ cur, w.heap[k]? = some (.cells cur e (0, 0)) := by
 rcases h.2 with ⟨rfl, _⟩ | ⟨g, cap, cur, rfl, _, hg, _⟩
 ·simp [Value.ownBlock] at hk
 ·simp only [Value.ownBlock, qm] at hk
  subst hk
  exact ⟨cur, hg⟩
theorem PS.grown {T : List bD} {Y M : Nat} {free : Bool} {st : aU} {w w' : World} (h : PS T Y M free st w) {row : Option Nat} (hg : w.grownBy w' row) (hn : ∀ k, row = some k -> k ≠ Y /\ k ≠ M /\ ∃ cur e, w.heap[k]? = some (.cells cur e (0, 0)) /\ e ≠ 59) : PS T Y M free st w' := by
 obtain ⟨g, tv, pos, line, col, e, ls, ln, es, clk, h1, h2, h3⟩ := h
 refine ⟨g, tv, pos, line, col, e, ls, ln, es, clk, ⟨(hg.block Y h1.lt fun e => (hn Y e.symm).1 rfl).trans h1.blk, (hg.block M h1.ltM fun e => (hn M e.symm).2.1 rfl).trans h1.map, fun he => aC (h1.row he) fun k hk => hg.block k ((h1.row he).lt k hk).2 fun e => ?_⟩, h2, h3⟩
 obtain ⟨cur, t, hc, ht⟩ := (hn k e.symm).2.2
 exact dF (h1.row he) hc (by intro cs' fr' hcc; injection hcc with _ h2 _; exact ht h2) hk
theorem aB.grown {bs : List Nat} {a w w' : World} {row : Option Nat} (h : aB bs a w) (hg : w.grownBy w' row) (hr : ∀ k, row = some k -> a.heap.size <= k) : aB bs a w' :=
 ⟨hg.os.trans h.os, hg.tape.trans h.tape, hg.output.trans h.output, qv h.size hg.size, fun k hk hb => (hg.block k (qk hk h.size) fun e => by have := hr k e.symm; omega).trans (h.block k hk hb)⟩
theorem aB.step {bs : List Nat} {a w w' : World} (h : aB bs a w) (hb : Below w.heap.size w w') : aB bs a w' := h.trans (aB.of_below hb)
theorem bX {w : World} {B : Nat} {e : TypeId} {size : Nat} {v : Value} {n : Nat} {xs : List Value} (h : w.ownsRow B e size v n xs) : ∃ ao c, v = .slice ao n c := by
 rcases h.2 with ⟨hv, h0⟩ | ⟨g, cap, cur, hv, _⟩
 ·exact ⟨none, 0, by rw [hv, h0]⟩
 ·exact ⟨_, _, hv⟩
def cH {α : Type} (c : α -> Array Value) (l : List α) : List Value := (l.map c).flatMap (·.toList)
theorem eT {α : Type} (c : α -> Array Value) (l : List α) (x : α) : cH c (l ++ [x]) = cH c l ++ (c x).toList := by simp [cH]
theorem FU {α : Type} {f : aU -> α × aU} {cl : ByteArray} {T : List bD} : ∀ k s, (bT T f cl k s).1.length <= k
 | 0, s => qn _
 | k + 1, s => by
  rw [bT]
  split
  ·have := FU (f := f) (cl := cl) (T := T) k (f s).2
   simp only [qj]; omega
  ·exact qn _
section
variable {T : List bD} {Y M : Nat} {free : Bool} {w : World}
theorem PS.okCell {p : Nat} (h : PS T Y M free (.ok p) w) : w.cell? ⟨Y, 4, none⟩ = some (I 0) := by
 obtain ⟨g, tv, pos, line, col, e, ls, ln, es, clk, h1, h2, h3⟩ := h
 obtain ⟨rfl, rfl, rfl, rfl, hlt⟩ := h3
 exact h1.c4
theorem PS.errCell {e l c : Int} (h : PS T Y M free (.bad e l c) w) : w.cell? ⟨Y, 4, none⟩ = some (I e) /\ ¬ e = 0 := by
 obtain ⟨g, tv, pos, line, col, e', ls, ln, es, clk, h1, h2, h3⟩ := h
 obtain ⟨rfl, he, rfl, rfl, hlt⟩ := h3
 exact ⟨h1.c4, he⟩
end
theorem Tryz.infoheads : (Tryz.prog.info? 80).map (fun i => (i.zero.isSome, i.size, i.bytes)) = some (true, 5, 40) := by kernel_rfl
theorem pW {i : TypeInfo} {z : Value} (h1 : Tryz.prog.info? 80 = some i) (h2 : i.zero = some z) : z.cells.size = 5 := by
 have : (Tryz.prog.info? 80).map (fun i => i.zero.map fun z => z.cells.size) = some (some 5) := by kernel_rfl
 rw [h1] at this
 simp only [qqh, h2, qm] at this
 exact this
section
variable {W0 : World} {T : List bD} {Y M : Nat} {free : Bool} {st : aU} {w : World}
theorem EH (h : PS T Y M free st w) (B : lG W0 [Y, M] w) :
  Calls Tryz.prog 57 #[.pointer (some ⟨Y, 0, none⟩), .func (.func 58) #[.pointer (some ⟨Y, 0, none⟩)] #[], .string ⟨#[62]⟩] w fun rr w' =>
   ∃ v, rr = .returned v /\ w'.ownsRow w.heap.size 80 5 v (kW T (bJ aD T) ⟨#[62]⟩ st).1.length (cH eF.cells (kW T (bJ aD T) ⟨#[62]⟩ st).1) /\ PS T Y M free (kW T (bJ aD T) ⟨#[62]⟩ st).2 w' /\ aB [Y, M] w w' := by
 obtain ⟨i0, hi0, hz0, hz1, hz2⟩ : ∃ i, Tryz.prog.info? 80 = some i /\ i.zero.isSome = true /\ i.size = 5 /\ i.bytes = 40 := by
  have := Tryz.infoheads
  cases hi : Tryz.prog.info? 80 with
  | none => rw [hi] at this; cases this
  | some i => rw [hi] at this; simp only [qqh, qm, qz] at this; exact ⟨i, rfl, this.1, this.2.1, this.2.2⟩
 have g := h.good
 have hm := g.max
 have lY := h.lt
 have lM := h.ltM
 have x1 := N6 h B
 have hpr : PC (bJ aD T) := FT _ _
 have hsev : kW T (bJ aD T) ⟨#[62]⟩ st = ((bJ aD T st).1 :: (bT T (bJ aD T) ⟨#[62]⟩ T.length (bJ aD T st).2).1, bE T ⟨#[62]⟩ (bT T (bJ aD T) ⟨#[62]⟩ T.length (bJ aD T st).2).2) := rfl
 rw [hsev]
 clear hsev
 have hn0 : need T (bJ aD T st).2 <= T.length := by
  cases (bJ aD T st).2 with
  | ok p => exact Nat.sub_le _ _
  | bad e l c => exact qn _
 obtain ⟨tot, htot⟩ : ∃ tot, tot = bT T (bJ aD T) ⟨#[62]⟩ T.length (bJ aD T st).2 := ⟨_, rfl⟩
 rw [<- htot]
 generalize hq1 : bJ aD T st = q1 at x1 htot hn0 |-
 obtain ⟨x, s1⟩ := q1
 simp only at x1 htot hn0 |-
 have c9 := fun w' (h : PS T Y M free tot.2 w') => iR h ⟨#[62]⟩
 generalize bE T ⟨#[62]⟩ tot.2 = s9 at c9 |-
 obtain ⟨N, hN⟩ : ∃ N, Shut (T.length = N) := ⟨_, rfl⟩
 have hN4 : N <= 4001 := by rw [<- hN.out]; exact hm
 rw [hN.out] at htot hn0
 have HT := aQ (And.intro htot hn0)
 have HX0 : ∃ x' : eF, Shut (x' = x) := ⟨x, rfl⟩
 obtain ⟨x', HX'⟩ := HX0
 clear h htot hn0 hq1 g hm
 obtain ⟨⟨y0, y1, y2⟩, y3, y4⟩ := x
 simp only [xB] at x1
 go_enter Tryz.func57, Tryz.ntmps57
 go_wp2_with (go_at_call 58; refine x1.mono ?_)
 intro rr w1; first | (intro he hS1 a1; subst he) | rintro ⟨rfl, hS1, a1⟩
 have sz1 := a1.size
 have hS2 := hS1.step ((qa _ w1).alloc (qb _) (.cells #[I y0, I y1, I y2, .bool y3, I y4] 80))
 have aw2 := a1.alloc (.cells #[I y0, I y1, I y2, .bool y3, I y4] 80)
 have ho2 : (w1.alloc (.cells #[I y0, I y1, I y2, .bool y3, I y4] 80)).ownsRow w.heap.size 80 5 (.slice (some ⟨w1.heap.size, 0, none⟩) 1 1) 1 #[I y0, I y1, I y2, .bool y3, I y4].toList := World.ownsRow_lit (size := 5) w1 #[I y0, I y1, I y2, .bool y3, I y4] 1 sz1 (by decide) rfl
 clear x1 hS1 a1
 go_wp2
 go_loopg [7] N (fun gk s7 wr => ∃ (l : List eF) (s : aU), l.length + gk = N /\ need T s <= gk /\ (l ++ (bT T (bJ aD T) ⟨#[62]⟩ gk s).1, (bT T (bJ aD T) ⟨#[62]⟩ gk s).2) = tot /\ wr.ownsRow w.heap.size 80 5 s7 (l.length + 1) (cH eF.cells (x' :: l)) /\ PS T Y M free s wr /\ aB [Y, M] w wr)
 case atStart => exact ⟨[], s1, by simp, HT.out.2, by rw [HT.out.1]; rfl, by rw [HX'.out]; exact ho2, hS2, aw2⟩
 case round =>
  clear hS2 aw2 ho2
  obtain ⟨l, s, hlen, hneed, htotal, hown, hS, aw⟩ := hrel
  have hN1 : (l.length : Int) <= 4001 := by omega
  have hB2 : lG W0 [Y, M] wr := B.away aw
  obtain ⟨ao, cp, rfl⟩ := bX hown
  have hlo : ∀ j, (Value.slice ao (l.length + 1) cp).ownBlock = some j -> w.heap.size <= j := fun j hj => (hown.lt j hj).1
  have hx9 : ∀ w', Below wr.heap.size wr w' -> s = tot.2 -> Calls Tryz.prog 54 #[.pointer (some ⟨Y, 0, none⟩), .string ⟨#[62]⟩] w' fun r w'' => r = .returned (.tuple #[]) /\ PS T Y M free s9 w'' /\ aB [Y, M] w' w'' := fun w' b e => c9 w' (by rw [<- e]; exact hS.step b)
  have HT2 := aQ (And.intro hlen (And.intro hneed htotal))
  have fin0 : (bT T (bJ aD T) ⟨#[62]⟩ gk s) = ([], s) -> l = tot.1 /\ s = tot.2 := fun e => by
   rw [e] at htotal
   simp only [List.append_nil] at htotal
   exact ⟨congrArg (·.1) htotal, congrArg (·.2) htotal⟩
  clear htotal hlen hneed
  cases s with
  | bad ee el ec =>
   obtain ⟨c4, hee⟩ := hS.errCell
   obtain ⟨hl, hs⟩ := fin0 (m0 _ _ _ _ _ _)
   have xe := hx9 wr (qa _ _) hs
   clear fin0 hx9 hS hB2
   go_wp2_with (go_at_call 54; refine xe.mono ?_)
   intro rr w4; first | (intro he hS4 a4; subst he) | rintro ⟨rfl, hS4, a4⟩
   have hown4 := aC hown fun j hj => a4.block j (hown.lt j hj).2 (by have := hlo j hj; simp; omega)
   have aw4 := aw.trans a4
   clear xe hown aw a4 c4
   go_wp2
   go_ret
   refine ⟨_, rfl, ?_, hS4, aw4⟩
   rw [<- hl]
   have e := HX'.out
   rw [<- e]
   exact hown4
  | ok p =>
   have c4 := hS.okCell
   have hpl := hS.atCell.2.2
   have xi := LY hS ⟨#[62]⟩
   cases hb : isS T ⟨#[62]⟩ (.ok p) with
   | true =>
    rw [hb] at xi
    obtain ⟨hl, hs⟩ := fin0 (by
     cases gk with
     | zero => rfl
     | succ k => rw [bT, if_neg (by rw [hb]; simp)])
    clear fin0 hS hB2
    go_wp2_with (go_at_call 76; refine xi.mono ?_)
    intro rr w3; first | (intro he b3; subst he) | rintro ⟨rfl, b3⟩
    have xe := hx9 w3 b3 hs
    have hown3 := aC hown fun j hj => b3.block j (hown.lt j hj).2
    have aw3 := aw.step b3
    clear xi hx9 hown aw b3 c4
    go_wp2_with (go_at_call 54; refine xe.mono ?_)
    intro rr w4; first | (intro he hS4 a4; subst he) | rintro ⟨rfl, hS4, a4⟩
    have hown4 := aC hown3 fun j hj => a4.block j (hown3.lt j hj).2 (by have := hlo j hj; simp; omega)
    have aw4 := aw3.trans a4
    clear xe hown3 aw3 a4
    go_wp2
    go_ret
    refine ⟨_, rfl, ?_, hS4, aw4⟩
    rw [<- hl]
    have e := HX'.out
    rw [<- e]
    exact hown4
   | false =>
    rw [hb] at xi
    obtain ⟨k, hgk⟩ : ∃ k, gk = k + 1 := by
     have := HT2.out.2.1
     unfold need at this
     exact ⟨gk - 1, by simp only at this; omega⟩
    have hmore : bT T (bJ aD T) ⟨#[62]⟩ gk (.ok p) = ((bJ aD T (.ok p)).1 :: (bT T (bJ aD T) ⟨#[62]⟩ k (bJ aD T (.ok p)).2).1, (bT T (bJ aD T) ⟨#[62]⟩ k (bJ aD T (.ok p)).2).2) := by
     rw [hgk, bT, if_pos ⟨rfl, hb⟩]
    have hnx : need T (bJ aD T (.ok p)).2 <= k := t8 hpr hpl (by have := HT2.out.2.1; omega)
    have htot2 := HT2.out.2.2
    rw [hmore] at htot2
    have hlen2 := HT2.out.1
    have xr := fun W (bW : Below wr.heap.size wr W) => N6 (hS.step bW) (hB2.step bW)
    generalize hqq : bJ aD T (.ok p) = qq at xr hnx htot2
    obtain ⟨y, s2⟩ := qq
    simp only at xr hnx htot2
    have hcat : cH eF.cells (x' :: (l ++ [y])) = cH eF.cells (x' :: l) ++ y.cells.toList := eT _ (x' :: l) y
    obtain ⟨⟨z0, z1, z2⟩, z3, z4⟩ := y
    simp only [xB] at xr
    have HC := aQ hcat
    have HA := aQ (And.intro hnx (And.intro htot2 (And.intro hlen2 hgk)))
    clear fin0 hx9 hmore hnx htot2 hlen2 hcat hqq hb HT2 hS hB2
    generalize hcur : cH eF.cells (x' :: l) = cur at hown HC
    go_wp2_with (go_at_call 76; refine xi.mono ?_)
    intro rr w3; first | (intro he b3; subst he) | rintro ⟨rfl, b3⟩
    have xr3 := xr w3 b3
    have hown3 := aC hown fun j hj => b3.block j (hown.lt j hj).2
    have aw3 := aw.step b3
    clear xr xi c4 hown aw b3
    go_wp2_with (go_at_call 58; refine xr3.mono ?_)
    intro rr w4; first | (intro he hS4 a4; subst he) | rintro ⟨rfl, hS4, a4⟩
    have hown4 := aC hown3 fun j hj => a4.block j (hown3.lt j hj).2 (by have := hlo j hj; simp; omega)
    have aw4 := aw3.trans a4
    have sz4 := aw4.size
    clear xr3 hown3 aw3 a4
    obtain ⟨zz, hzz⟩ := Option.isSome_iff_exists.1 hz0
    go_wp2_with (at_builtin; refine wpList_append_lies _ rfl _ _ 27 rfl w.heap.size 80 i0 _ 5 40 Tryz.underlying27 hi0 hzz hz1 hz2 (pW hi0 hzz) (by omega) _ (l.length + 1) _ rfl (hown4.alloc _) ⟨w4.heap.size, 0, none⟩ 1 1 #[I z0, I z1, I z2, .bool z3, I z4].toList rfl rfl (World.news_of_block (cs := #[I z0, I z1, I z2, .bool z3, I z4]) (t := 80) (fr := (0, 0)) (qc _ _)) (by simp [Value.oneCell']) (by omega) (by unfold maxLen; omega) (by omega) (by simp; omega) (w4.heap.size + 1) (by simp) ?_; intro gg wcap w5 hown5 hgrow hat hgl)
    go_roundg (gk - 1)
    case measure => have := HA.out.2.2.2; omega
    case rel =>
     obtain ⟨q1, q2, q3, q4⟩ := HA.out
     have e1 : gk - 1 = k := by omega
     rw [e1]
     refine ⟨l ++ [⟨⟨z0, z1, z2⟩, z3, z4⟩], s2, by rw [qi]; simp only [qj, qqi]; omega, q1, ?_, ?_, (hS4.step ((qa _ w4).alloc (qb _) _)).grown hgrow (fun j hj => ?_), (aw4.alloc _).grown hgrow hlo⟩
     ·rw [<- q2]; simp
     ·rw [HC.out, qi]; exact hown5
     ·have h1 := hlo j hj
      obtain ⟨cur', hc'⟩ := cA hown4 hj
      exact ⟨by omega, by omega, cur', 80, (Lib.alloc_old w4 _ _ (aA hc')).trans hc', by decide⟩
end
theorem Tryz.infograces : (Tryz.prog.info? 77).map (fun i => (i.zero.isSome, i.size, i.bytes)) = some (true, 5, 40) := by kernel_rfl
theorem oM {i : TypeInfo} {z : Value} (h1 : Tryz.prog.info? 77 = some i) (h2 : i.zero = some z) : z.cells.size = 5 := by
 have : (Tryz.prog.info? 77).map (fun i => i.zero.map fun z => z.cells.size) = some (some 5) := by kernel_rfl
 rw [h1] at this
 simp only [qqh, h2, qm] at this
 exact this
section
variable {W0 : World} {T : List bD} {Y M : Nat} {free : Bool} {st : aU} {w : World}
theorem DE (h : PS T Y M free st w) (B : lG W0 [Y, M] w) :
  Calls Tryz.prog 55 #[.pointer (some ⟨Y, 0, none⟩), .func (.func 56) #[.pointer (some ⟨Y, 0, none⟩)] #[], .string ⟨#[41]⟩] w fun rr w' =>
   ∃ v, rr = .returned v /\ w'.ownsRow w.heap.size 77 5 v (kW T (aY aD T 7) ⟨#[41]⟩ st).1.length (cH cY.cells (kW T (aY aD T 7) ⟨#[41]⟩ st).1) /\ PS T Y M free (kW T (aY aD T 7) ⟨#[41]⟩ st).2 w' /\ aB [Y, M] w w' := by
 obtain ⟨i0, hi0, hz0, hz1, hz2⟩ : ∃ i, Tryz.prog.info? 77 = some i /\ i.zero.isSome = true /\ i.size = 5 /\ i.bytes = 40 := by
  have := Tryz.infograces
  cases hi : Tryz.prog.info? 77 with
  | none => rw [hi] at this; cases this
  | some i => rw [hi] at this; simp only [qqh, qm, qz] at this; exact ⟨i, rfl, this.1, this.2.1, this.2.2⟩
 have g := h.good
 have hm := g.max
 have lY := h.lt
 have lM := h.ltM
 have x1 := QQ h B
 have hpr : PC (aY aD T 7) := DD _ _ _
 have hsev : kW T (aY aD T 7) ⟨#[41]⟩ st = ((aY aD T 7 st).1 :: (bT T (aY aD T 7) ⟨#[41]⟩ T.length (aY aD T 7 st).2).1, bE T ⟨#[41]⟩ (bT T (aY aD T 7) ⟨#[41]⟩ T.length (aY aD T 7 st).2).2) := rfl
 rw [hsev]
 clear hsev
 have hn0 : need T (aY aD T 7 st).2 <= T.length := by
  cases (aY aD T 7 st).2 with
  | ok p => exact Nat.sub_le _ _
  | bad e l c => exact qn _
 obtain ⟨tot, htot⟩ : ∃ tot, tot = bT T (aY aD T 7) ⟨#[41]⟩ T.length (aY aD T 7 st).2 := ⟨_, rfl⟩
 rw [<- htot]
 generalize hq1 : aY aD T 7 st = q1 at x1 htot hn0 |-
 obtain ⟨x, s1⟩ := q1
 simp only at x1 htot hn0 |-
 have c9 := fun w' (h : PS T Y M free tot.2 w') => iR h ⟨#[41]⟩
 generalize bE T ⟨#[41]⟩ tot.2 = s9 at c9 |-
 obtain ⟨N, hN⟩ : ∃ N, Shut (T.length = N) := ⟨_, rfl⟩
 have hN4 : N <= 4001 := by rw [<- hN.out]; exact hm
 rw [hN.out] at htot hn0
 have HT := aQ (And.intro htot hn0)
 have HX0 : ∃ x' : cY, Shut (x' = x) := ⟨x, rfl⟩
 obtain ⟨x', HX'⟩ := HX0
 clear h htot hn0 hq1 g hm
 obtain ⟨⟨y0, y1, y2⟩, y3, y4⟩ := x
 simp only [A6] at x1
 go_enter Tryz.func55, Tryz.ntmps55
 go_wp2_with (go_at_call 56; refine x1.mono ?_)
 intro rr w1; first | (intro he hS1 a1; subst he) | rintro ⟨rfl, hS1, a1⟩
 have sz1 := a1.size
 have hS2 := hS1.step ((qa _ w1).alloc (qb _) (.cells #[I y0, I y1, I y2, I y3, .bool y4] 77))
 have aw2 := a1.alloc (.cells #[I y0, I y1, I y2, I y3, .bool y4] 77)
 have ho2 : (w1.alloc (.cells #[I y0, I y1, I y2, I y3, .bool y4] 77)).ownsRow w.heap.size 77 5 (.slice (some ⟨w1.heap.size, 0, none⟩) 1 1) 1 #[I y0, I y1, I y2, I y3, .bool y4].toList := World.ownsRow_lit (size := 5) w1 #[I y0, I y1, I y2, I y3, .bool y4] 1 sz1 (by decide) rfl
 clear x1 hS1 a1
 go_wp2
 go_loopg [7] N (fun gk s7 wr => ∃ (l : List cY) (s : aU), l.length + gk = N /\ need T s <= gk /\ (l ++ (bT T (aY aD T 7) ⟨#[41]⟩ gk s).1, (bT T (aY aD T 7) ⟨#[41]⟩ gk s).2) = tot /\ wr.ownsRow w.heap.size 77 5 s7 (l.length + 1) (cH cY.cells (x' :: l)) /\ PS T Y M free s wr /\ aB [Y, M] w wr)
 case atStart => exact ⟨[], s1, by simp, HT.out.2, by rw [HT.out.1]; rfl, by rw [HX'.out]; exact ho2, hS2, aw2⟩
 case round =>
  clear hS2 aw2 ho2
  obtain ⟨l, s, hlen, hneed, htotal, hown, hS, aw⟩ := hrel
  have hN1 : (l.length : Int) <= 4001 := by omega
  have hB2 : lG W0 [Y, M] wr := B.away aw
  obtain ⟨ao, cp, rfl⟩ := bX hown
  have hlo : ∀ j, (Value.slice ao (l.length + 1) cp).ownBlock = some j -> w.heap.size <= j := fun j hj => (hown.lt j hj).1
  have hx9 : ∀ w', Below wr.heap.size wr w' -> s = tot.2 -> Calls Tryz.prog 54 #[.pointer (some ⟨Y, 0, none⟩), .string ⟨#[41]⟩] w' fun r w'' => r = .returned (.tuple #[]) /\ PS T Y M free s9 w'' /\ aB [Y, M] w' w'' := fun w' b e => c9 w' (by rw [<- e]; exact hS.step b)
  have HT2 := aQ (And.intro hlen (And.intro hneed htotal))
  have fin0 : (bT T (aY aD T 7) ⟨#[41]⟩ gk s) = ([], s) -> l = tot.1 /\ s = tot.2 := fun e => by
   rw [e] at htotal
   simp only [List.append_nil] at htotal
   exact ⟨congrArg (·.1) htotal, congrArg (·.2) htotal⟩
  clear htotal hlen hneed
  cases s with
  | bad ee el ec =>
   obtain ⟨c4, hee⟩ := hS.errCell
   obtain ⟨hl, hs⟩ := fin0 (m0 _ _ _ _ _ _)
   have xe := hx9 wr (qa _ _) hs
   clear fin0 hx9 hS hB2
   go_wp2_with (go_at_call 54; refine xe.mono ?_)
   intro rr w4; first | (intro he hS4 a4; subst he) | rintro ⟨rfl, hS4, a4⟩
   have hown4 := aC hown fun j hj => a4.block j (hown.lt j hj).2 (by have := hlo j hj; simp; omega)
   have aw4 := aw.trans a4
   clear xe hown aw a4 c4
   go_wp2
   go_ret
   refine ⟨_, rfl, ?_, hS4, aw4⟩
   rw [<- hl]
   have e := HX'.out
   rw [<- e]
   exact hown4
  | ok p =>
   have c4 := hS.okCell
   have hpl := hS.atCell.2.2
   have xi := LY hS ⟨#[41]⟩
   cases hb : isS T ⟨#[41]⟩ (.ok p) with
   | true =>
    rw [hb] at xi
    obtain ⟨hl, hs⟩ := fin0 (by
     cases gk with
     | zero => rfl
     | succ k => rw [bT, if_neg (by rw [hb]; simp)])
    clear fin0 hS hB2
    go_wp2_with (go_at_call 76; refine xi.mono ?_)
    intro rr w3; first | (intro he b3; subst he) | rintro ⟨rfl, b3⟩
    have xe := hx9 w3 b3 hs
    have hown3 := aC hown fun j hj => b3.block j (hown.lt j hj).2
    have aw3 := aw.step b3
    clear xi hx9 hown aw b3 c4
    go_wp2_with (go_at_call 54; refine xe.mono ?_)
    intro rr w4; first | (intro he hS4 a4; subst he) | rintro ⟨rfl, hS4, a4⟩
    have hown4 := aC hown3 fun j hj => a4.block j (hown3.lt j hj).2 (by have := hlo j hj; simp; omega)
    have aw4 := aw3.trans a4
    clear xe hown3 aw3 a4
    go_wp2
    go_ret
    refine ⟨_, rfl, ?_, hS4, aw4⟩
    rw [<- hl]
    have e := HX'.out
    rw [<- e]
    exact hown4
   | false =>
    rw [hb] at xi
    obtain ⟨k, hgk⟩ : ∃ k, gk = k + 1 := by
     have := HT2.out.2.1
     unfold need at this
     exact ⟨gk - 1, by simp only at this; omega⟩
    have hmore : bT T (aY aD T 7) ⟨#[41]⟩ gk (.ok p) = ((aY aD T 7 (.ok p)).1 :: (bT T (aY aD T 7) ⟨#[41]⟩ k (aY aD T 7 (.ok p)).2).1, (bT T (aY aD T 7) ⟨#[41]⟩ k (aY aD T 7 (.ok p)).2).2) := by
     rw [hgk, bT, if_pos ⟨rfl, hb⟩]
    have hnx : need T (aY aD T 7 (.ok p)).2 <= k := t8 hpr hpl (by have := HT2.out.2.1; omega)
    have htot2 := HT2.out.2.2
    rw [hmore] at htot2
    have hlen2 := HT2.out.1
    have xr := fun W (bW : Below wr.heap.size wr W) => QQ (hS.step bW) (hB2.step bW)
    generalize hqq : aY aD T 7 (.ok p) = qq at xr hnx htot2
    obtain ⟨y, s2⟩ := qq
    simp only at xr hnx htot2
    have hcat : cH cY.cells (x' :: (l ++ [y])) = cH cY.cells (x' :: l) ++ y.cells.toList := eT _ (x' :: l) y
    obtain ⟨⟨z0, z1, z2⟩, z3, z4⟩ := y
    simp only [A6] at xr
    have HC := aQ hcat
    have HA := aQ (And.intro hnx (And.intro htot2 (And.intro hlen2 hgk)))
    clear fin0 hx9 hmore hnx htot2 hlen2 hcat hqq hb HT2 hS hB2
    generalize hcur : cH cY.cells (x' :: l) = cur at hown HC
    go_wp2_with (go_at_call 76; refine xi.mono ?_)
    intro rr w3; first | (intro he b3; subst he) | rintro ⟨rfl, b3⟩
    have xr3 := xr w3 b3
    have hown3 := aC hown fun j hj => b3.block j (hown.lt j hj).2
    have aw3 := aw.step b3
    clear xr xi c4 hown aw b3
    go_wp2_with (go_at_call 56; refine xr3.mono ?_)
    intro rr w4; first | (intro he hS4 a4; subst he) | rintro ⟨rfl, hS4, a4⟩
    have hown4 := aC hown3 fun j hj => a4.block j (hown3.lt j hj).2 (by have := hlo j hj; simp; omega)
    have aw4 := aw3.trans a4
    have sz4 := aw4.size
    clear xr3 hown3 aw3 a4
    obtain ⟨zz, hzz⟩ := Option.isSome_iff_exists.1 hz0
    go_wp2_with (at_builtin; refine wpList_append_lies _ rfl _ _ 28 rfl w.heap.size 77 i0 _ 5 40 Tryz.underlying28 hi0 hzz hz1 hz2 (oM hi0 hzz) (by omega) _ (l.length + 1) _ rfl (hown4.alloc _) ⟨w4.heap.size, 0, none⟩ 1 1 #[I z0, I z1, I z2, I z3, .bool z4].toList rfl rfl (World.news_of_block (cs := #[I z0, I z1, I z2, I z3, .bool z4]) (t := 77) (fr := (0, 0)) (qc _ _)) (by simp [Value.oneCell']) (by omega) (by unfold maxLen; omega) (by omega) (by simp; omega) (w4.heap.size + 1) (by simp) ?_; intro gg wcap w5 hown5 hgrow hat hgl)
    go_roundg (gk - 1)
    case measure => have := HA.out.2.2.2; omega
    case rel =>
     obtain ⟨q1, q2, q3, q4⟩ := HA.out
     have e1 : gk - 1 = k := by omega
     rw [e1]
     refine ⟨l ++ [⟨⟨z0, z1, z2⟩, z3, z4⟩], s2, by rw [qi]; simp only [qj, qqi]; omega, q1, ?_, ?_, (hS4.step ((qa _ w4).alloc (qb _) _)).grown hgrow (fun j hj => ?_), (aw4.alloc _).grown hgrow hlo⟩
     ·rw [<- q2]; simp
     ·rw [HC.out, qi]; exact hown5
     ·have h1 := hlo j hj
      obtain ⟨cur', hc'⟩ := cA hown4 hj
      exact ⟨by omega, by omega, cur', 77, (Lib.alloc_old w4 _ _ (aA hc')).trans hc', by decide⟩
end
set_option maxRecDepth 1000000
open Go.RowKit Go.Dam
def pB (i : Nat) : ByteArray := aP.getD i ByteArray.empty
def wE : List ByteArray -> Nat -> List MapEntry
 | [], _ => []
 | y :: r, b => ⟨.string y, I (b : Nat), b⟩ :: wE r (b + 1)
def SG (k : Nat) : Array MapEntry := (wE (aP.take k) 0).toArray
theorem PW : ∀ (l : List ByteArray) (b : Nat) (y : ByteArray), wE (l ++ [y]) b = wE l b ++ [⟨.string y, I ((b + l.length : Nat) : Int), b + l.length⟩]
 | [], b, y => rfl
 | x :: r, b, y => by
  show _ :: wE (r ++ [y]) (b + 1) = _ :: (wE r (b + 1) ++ _)
  rw [PW r (b + 1) y, qj, show b + 1 + r.length = b + (r.length + 1) by omega]
theorem vR : aP.length = 22 := rfl
theorem rQ {i : Nat} (h : i < 22) : aP[i]? = some (pB i) := by
 unfold pB
 rw [qqm, qo (by rw [vR]; exact h)]
 rfl
theorem SJ {k : Nat} (h : k < 22) : (SG k).push ⟨.string (pB k), I (k : Nat), k⟩ = SG (k + 1) := by
 unfold SG
 have e : aP.take (k + 1) = aP.take k ++ [pB k] := by
  rw [List.take_add_one, rQ h]; rfl
 have hl : (aP.take k).length = k := by rw [List.length_take, vR]; omega
 rw [e, PW, hl]
 simp
theorem F3 (x : ByteArray) : ∀ (l : List ByteArray) (b i : Nat), Instr.findNow .string (.string x) (wE l b) i = some ((dY x l).map fun j => (i + j, I ((b + j : Nat) : Int)))
 | [], b, i => rfl
 | y :: r, b, i => by
  unfold wE Instr.findNow dY
  by_cases h : x = y
  ·have : (x == y) = true := (Go.MapKept.bytes_beq x y).2 h
   simp only [Instr.sameNow, this]
   simp [h]
  ·have : (x == y) = false := by
    cases hb : (x == y) with
    | false => rfl
    | true => exact absurd ((Go.MapKept.bytes_beq x y).1 hb) h
   simp only [Instr.sameNow, this]
   rw [if_neg h]
   rw [F3 x r (b + 1) (i + 1)]
   simp only [Option.map_map, qm]
   congr 1
   funext j
   simp only [Function.comp, qz, Value.int.injEq, true_and]
   exact ⟨by omega, by omega⟩
theorem uR {x : ByteArray} : ∀ {l : List ByteArray} {i : Nat}, dY x l = some i -> i < l.length
 | [], i, h => by cases h
 | y :: r, i, h => by
  unfold dY at h
  split at h
  ·injection h with h; subst h; simp
  ·obtain ⟨j, hj, rfl⟩ := Option.map_eq_some_iff.1 h
   have := uR hj
   simp only [qj]; omega
theorem zB {x : ByteArray} : ∀ {l : List ByteArray} {k : Nat}, (∀ j < k, l[j]? ≠ some x) -> l[k]? = some x -> dY x l = some k
 | [], k, _, h => by simp at h
 | y :: r, 0, _, h => by
  have : y = x := by simpa using h
  unfold dY; rw [if_pos this.symm]
 | y :: r, k + 1, h1, h => by
  have h0 : ¬ x = y := fun e => h1 0 (by omega) (by rw [e]; rfl)
  unfold dY
  rw [if_neg h0, zB (l := r) (k := k) (fun j hj => by have := h1 (j + 1) (by omega); simpa using this) (by simpa using h)]
  rfl
theorem vS {x : ByteArray} : ∀ {l : List ByteArray}, (∀ j < l.length, l[j]? ≠ some x) -> dY x l = none
 | [], _ => rfl
 | y :: r, h1 => by
  have h0 : ¬ x = y := fun e => h1 0 (by simp) (by rw [e]; rfl)
  unfold dY
  rw [if_neg h0, vS (l := r) (fun j hj => by have := h1 (j + 1) (by simp only [qj]; omega); simpa using this)]
  rfl
theorem EK {x : ByteArray} : Instr.findNow .string (.string x) (SG 22).toList 0 = some ((dY x aP).map fun j => (j, I (j : Nat))) := by
 have e : (SG 22).toList = wE aP 0 := by unfold SG; rw [List.take_of_length_le (by rw [vR]; omega)]
 rw [e, F3]
 simp
theorem SK : (List.range 22).all (fun i => (dY (pB i) (aP.take i)).isNone) = true := by decide +kernel
theorem JM {i : Nat} (h : i < 22) : Instr.findNow .string (.string (pB i)) (SG i).toList 0 = some none := by
 have := qqn.1 SK i (List.mem_range.2 h)
 unfold SG
 rw [List.toList_toArray, F3, Option.isNone_iff_eq_none.1 this]
 rfl
def dG : Obj := .cells (aP.map Value.string).toArray 9 (0, 0)
theorem MF (w : World) : Calls Tryz.prog 105 #[] w fun r w' => r = .returned (.slice (some ⟨w.heap.size, 0, none⟩) 22 22) /\ w' = w.alloc dG := by
 go_enter Tryz.func105, Tryz.ntmps105
 go_wp2
 go_ret
 exact ⟨rfl, rfl⟩
theorem iB (w : World) : Calls Tryz.prog 69 #[] w fun r w' => r = .returned (.slice (some ⟨w.heap.size, 0, none⟩) 22 22) /\ w' = w.alloc dG := by
 go_enter Tryz.func69, Tryz.ntmps69
 go_wp2
 go_ret
 exact ⟨rfl, rfl⟩
def F4 (n : Nat) : List Int := (List.range n).map Int.ofNat
theorem uS {n : Nat} {x : Int} (h0 : 0 <= x) (h1 : x < n) : x ∈ F4 n := List.mem_map.2 ⟨x.toNat, List.mem_range.2 (by omega), Int.toNat_of_nonneg h0⟩
def m7 (i : Int) : Int := if i < 5 then 1 else if i < 9 then 2 else if i < 18 then 3 else if i < 20 then 4 else 5
theorem SL (i : Int) : (EC i = 0 /\ m7 i = 1) \/ (EC i = 4 /\ m7 i = 2) \/ (EC i = 3 /\ m7 i = 3) \/ (EC i = 2 /\ m7 i = 4) \/ (EC i = 1 /\ m7 i = 5) := by
 unfold m7 EC; (repeat' split) <;> omega
theorem VV (i : Int) : decide (1 < m7 i) = decide (0 < EC i) := by
 rcases SL i with ⟨h1, h2⟩ | ⟨h1, h2⟩ | ⟨h1, h2⟩ | ⟨h1, h2⟩ | ⟨h1, h2⟩ <;> (rw [h1, h2]; first | done | rfl)
theorem VX (i j : Int) : decide (m7 i = m7 j) = decide (EC i = EC j) := by
 rcases SL i with ⟨h1, h2⟩ | ⟨h1, h2⟩ | ⟨h1, h2⟩ | ⟨h1, h2⟩ | ⟨h1, h2⟩ <;> rcases SL j with ⟨h3, h4⟩ | ⟨h3, h4⟩ | ⟨h3, h4⟩ | ⟨h3, h4⟩ | ⟨h3, h4⟩ <;> (rw [h1, h2, h3, h4]; first | done | rfl)
theorem SM : (F4 22).all (fun i => xK 108 [I i] (I (EC i))) = true := by kernel_rfl
theorem BL {i : Int} (h0 : 0 <= i) (h1 : i < 22) (w : World) : Calls Tryz.prog 108 #[I i] w fun e w' => e = .returned (I (EC i)) /\ Below w.heap.size w w' :=
 j3 (args := [I i]) rfl rfl (qqn.1 SM i (uS h0 (by omega))) w
theorem QV : (F4 22).all (fun i => xK 70 [I i] (I (m7 i))) = true := by kernel_rfl
theorem rR {i : Int} (h0 : 0 <= i) (h1 : i < 22) (w : World) : Calls Tryz.prog 70 #[I i] w fun e w' => e = .returned (I (m7 i)) /\ Below w.heap.size w w' :=
 j3 (args := [I i]) rfl rfl (qqn.1 QV i (uS h0 (by omega))) w
end Go.Proofs.YtgkhemnmcgicnaaGreatDoor
