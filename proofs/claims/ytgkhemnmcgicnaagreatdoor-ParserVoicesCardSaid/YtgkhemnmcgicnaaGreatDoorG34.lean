/- Towards the law ParserVoices, true for every text (no condition): one part of the proof. -/
import Derived.Test.YtgkhemnmcgicnaaGreatDoorG01
import Derived.Test.YtgkhemnmcgicnaaGreatDoorG33
namespace Go.Proofs.YtgkhemnmcgicnaaGreatDoor
open Go.RowKit
theorem MJ (i : Int) : 0 <= EC i := by unfold EC; (repeat' split) <;> omega
theorem lS {w : World} {a b : Nat} {c1 c2 : Array Value} {T1 T2 : TypeId} {f1 f2 : Nat × Nat} (h1 : w.heap[a]? = some (.cells c1 T1 f1)) (h2 : w.heap[b]? = some (.cells c2 T2 f2)) (hT : T1 ≠ T2) : a ≠ b := by
 rintro rfl
 rw [h1] at h2
 injection h2 with h2
 injection h2 with _ h _
 exact hT h
theorem SQ {w : World} {a b : Nat} {es : Array MapEntry} {c : Nat} {c2 : Array Value} {T2 : TypeId} {f2 : Nat × Nat} (h1 : w.heap[a]? = some (.map es c)) (h2 : w.heap[b]? = some (.cells c2 T2 f2)) : a ≠ b := by
 rintro rfl
 rw [h1] at h2
 injection h2 with h2
 cases h2
structure EF where
 i0 : Int
 i1 : Int
 kd : Int
 lg : Int
 dt : Int
 hv : Value
 gv : Value
 lv : Value
def EF.c (F : EF) (A : A5) : Array Value := evC F.i0 F.i1 F.kd F.lg F.dt F.hv F.gv A F.lv
def BN (last : Int) : Option Nat -> Bool
 | none => false
 | some i => eW last i
def aU.orFail (T : List bD) (b : Bool) (s : aU) : aU := if b = true then bF T 13 s else s
theorem lU (T : List bD) (s : aU) : ((bU T aP s).1 = none /\ (bU T aP s).2.good = false) \/ (∃ i, (bU T aP s).1 = some i /\ i < 22 /\ (bU T aP s).2 = s.next 1 /\ s.good = true) := by
 have hf : ∀ c, (bF T c s).good = false := fun c => by cases s <;> rfl
 unfold bU
 by_cases hk : (aW T s).kind ≠ 1
 ·rw [if_pos hk]; exact .inl ⟨rfl, hf _⟩
 ·rw [if_neg hk]
  cases hw : dY (aW T s).text aP with
  | none => exact .inl ⟨rfl, hf _⟩
  | some i =>
   refine .inr ⟨i, rfl, uR hw, rfl, ?_⟩
   obtain ⟨p, rfl⟩ := vT (Decidable.byContradiction hk)
   rfl
theorem QW (T : List bD) (e l c : Int) : bU T aP (.bad e l c) = (none, .bad e l c) := by
 unfold bU
 rw [if_pos (by simp [aW, dA])]
 rfl
theorem pC (T : List bD) (c : Int) (s : aU) : ∃ e l k, bF T c s = .bad e l k := by
 cases s <;> exact ⟨_, _, _, rfl⟩
theorem rT (T : List bD) (last : Int) (A : A5) (s : aU) : aJ T last A s =
  ((((bU T aP (s.orFail T (BN last (bU T aP s).1))).1.getD 0 : Nat) : Int),
   (if (bU T aP (s.orFail T (BN last (bU T aP s).1))).2.good = true then xG A ((bU T aP (s.orFail T (BN last (bU T aP s).1))).1.getD 0) else A),
   (bU T aP (s.orFail T (BN last (bU T aP s).1))).2) := by
 generalize hs1 : s.orFail T (BN last (bU T aP s).1) = s1
 unfold aJ
 rcases lU T s with ⟨h1, h2⟩ | ⟨i, h1, h2, h3, h4⟩
 ·rw [h1] at hs1
  obtain rfl : s = s1 := hs1
  generalize hq : bU T aP s = q at h1 h2
  obtain ⟨o, s'⟩ := q
  simp only at h1 h2
  subst h1
  simp only
  rw [if_neg (by rw [h2]; decide)]
  rfl
 ·rw [h1] at hs1
  generalize hq : bU T aP s = q at h1 h3
  obtain ⟨o, s'⟩ := q
  simp only at h1 h3
  subst h1
  simp only [BN] at hs1
  by_cases hb : eW last i = true
  ·rw [hb] at hs1
   obtain rfl : bF T 13 s = s1 := hs1
   obtain ⟨e, l, k, he⟩ := pC T 13 s
   simp only
   rw [if_pos hb, he, QW]
   rfl
  ·rw [Bool.eq_false_iff.2 hb] at hs1
   obtain rfl : s = s1 := hs1
   simp only [hq]
   rw [if_neg hb]
   have hg : s'.good = true := by
    subst h3
    cases s with
    | ok p => rfl
    | bad e l k => cases h4
   rw [if_pos hg]
   rfl
def BP (last : Int) (A : A5) (s : aU) : Prop := s.good = true -> -1 <= last /\ last < 22 /\ ∀ i : Nat, i < 5 -> last < (i : Int) -> 0 <= A.ar /\ A.ar < 2 ^ i
theorem BP.start (s : aU) : BP (-1) ⟨0, 0, 0, 0, 0⟩ s := fun _ => ⟨by decide, by decide, fun i _ _ => ⟨Int.le_refl _, by
 show (0 : Int) < 2 ^ i
 exact Int.pow_pos (by decide)⟩⟩
theorem m8 {last i : Int} (h : eW last i = false) (h1 : -1 <= last) (h2 : 0 <= i) : last < i := by
 unfold eW at h
 by_cases h0 : 0 <= last
 ·rw [qu h0, Bool.true_and, Bool.or_eq_false_iff] at h
  have := of_decide_eq_false h.1
  omega
 ·omega
theorem BP.step {T : List bD} {last : Int} {A : A5} {s : aU} (h : BP last A s) : BP (aJ T last A s).1 (aJ T last A s).2.1 (aJ T last A s).2.2 := by
 unfold aJ
 rcases lU T s with ⟨h1, h2⟩ | ⟨i, h1, h2, h3, h4⟩
 ·generalize hq : bU T aP s = q at h1 h2
  obtain ⟨o, s'⟩ := q
  simp only at h1 h2
  subst h1
  intro hg
  rw [show s'.good = true from hg] at h2
  cases h2
 ·generalize hq : bU T aP s = q at h1 h3
  obtain ⟨o, s'⟩ := q
  simp only at h1 h3
  subst h1
  simp only
  by_cases hb : eW last i = true
  ·rw [if_pos hb]
   intro hg
   obtain ⟨e, l, k, he⟩ := pC T 13 s
   have hg' : (bF T 13 s).good = true := hg
   rw [he] at hg'
   cases hg'
  ·rw [if_neg hb]
   intro _
   obtain ⟨g1, g2, g3⟩ := h h4
   have hlt := m8 (Bool.eq_false_iff.2 hb) g1 (by omega)
   refine ⟨by show (-1 : Int) <= (i : Int); omega, by show (i : Int) < 22; omega, fun j hj hij => ?_⟩
   have hij' : i < j := by have : (i : Int) < (j : Int) := hij; omega
   obtain ⟨a0, a1⟩ := g3 i (by omega) hlt
   have e : (xG A i).ar = A.ar + 2 ^ i := by
    unfold xG
    rw [if_neg (by omega), if_neg (by omega), if_neg (by omega), if_neg (by omega)]
   rw [e]
   have hp : (0 : Int) < 2 ^ i := Int.pow_pos (by decide)
   have hle : (2 : Int) ^ (i + 1) <= 2 ^ j := by
    have : (2 : Nat) ^ (i + 1) <= 2 ^ j := Nat.pow_le_pow_right (by decide) hij'
    exact_mod_cast this
   have h2p : (2 : Int) ^ (i + 1) = 2 ^ i + 2 ^ i := by rw [Int.pow_succ]; omega
   exact ⟨by omega, by omega⟩
structure Cl (T : List bD) (Bw Bp Bl Be Q E Y M : Nat) (free : Bool) (st : aU) (last : Int) (F : EF) (A : A5) (w0 w : World) : Prop where
 prs : PS T Y M free st w
 hw : w.heap[Bw]? = some (.cells #[.map (some Q)] 164 (0, 0))
 hp : w.heap[Bp]? = some (.cells #[.pointer (some ⟨Y, 0, none⟩)] 69 (0, 0))
 hl : w.heap[Bl]? = some (.cells #[I last] 3 (0, 0))
 he : w.heap[Be]? = some (.cells #[.pointer (some ⟨E, 0, none⟩)] 84 (0, 0))
 hq : w.heap[Q]? = some (.map (SG 22) 22)
 hE : w.heap[E]? = some (.cells (F.c A) 31 (0, 0))
 aw : aB [Y, M, E] w0 w
 bl : w0.heap.size <= Bl
 ne : ∀ k ∈ [Bw, Bp, Bl, Be, Q, E], k ≠ Y /\ k ≠ M
section
variable {T : List bD} {Bw Bp Bl Be Q E Y M : Nat} {free : Bool} {st st' : aU} {last : Int} {F : EF} {A : A5} {w0 w w' : World}
theorem Cl.step (h : Cl T Bw Bp Bl Be Q E Y M free st last F A w0 w) (b : Below w.heap.size w w') : Cl T Bw Bp Bl Be Q E Y M free st last F A w0 w' :=
 ⟨h.prs.step b, (b.block _ (aA h.hw)).trans h.hw, (b.block _ (aA h.hp)).trans h.hp, (b.block _ (aA h.hl)).trans h.hl, (b.block _ (aA h.he)).trans h.he, (b.block _ (aA h.hq)).trans h.hq, (b.block _ (aA h.hE)).trans h.hE, h.aw.step b, h.bl, h.ne⟩
theorem Cl.away (h : Cl T Bw Bp Bl Be Q E Y M free st last F A w0 w) (a : aB [Y, M] w w') (hS : PS T Y M free st' w') : Cl T Bw Bp Bl Be Q E Y M free st' last F A w0 w' := by
 have n : ∀ k ∈ [Bw, Bp, Bl, Be, Q, E], k ∉ [Y, M] := fun k hk hm => by
  obtain ⟨h1, h2⟩ := h.ne k hk
  simp only [qqj, qqv, or_false] at hm
  rcases hm with e | e
  ·exact h1 e
  ·exact h2 e
 exact ⟨hS, a.at h.hw (n _ (by simp)), a.at h.hp (n _ (by simp)), a.at h.hl (n _ (by simp)), a.at h.he (n _ (by simp)), a.at h.hq (n _ (by simp)), a.at h.hE (n _ (by simp)), h.aw.trans ⟨a.os, a.tape, a.output, a.size, fun k hk hb => a.block k hk (by simp only [qqj, qqv, or_false] at hb |-; omega)⟩, h.bl, h.ne⟩
theorem PS.put (h : PS T Y M free st w) {R : Nat} (hY : R ≠ Y) (hM : R ≠ M) {cs : Array Value} {t : TypeId} (hk : w.heap[R]? = some (.cells cs t (0, 0))) (ht : t ≠ 59)
  (ho : ∀ j, j ≠ R -> w'.heap[j]? = w.heap[j]?) : PS T Y M free st w' := by
 obtain ⟨g, tv, pos, line, col, e, ls, ln, es, clk, h1, h2, h3⟩ := h
 refine ⟨g, tv, pos, line, col, e, ls, ln, es, clk, ⟨(ho Y (Ne.symm hY)).trans h1.blk, (ho M (Ne.symm hM)).trans h1.map, fun he => aC (h1.row he) fun k hkk => ho k ?_⟩, h2, h3⟩
 rintro rfl
 exact dF (h1.row he) hk (by intro cs' fr' hc; injection hc with _ h2 _; exact ht h2) hkk
theorem Cl.setLast (h : Cl T Bw Bp Bl Be Q E Y M free st last F A w0 w) (v : Int) : Cl T Bw Bp Bl Be Q E Y M free st v F A w0 (w.setCell ⟨Bl, 0, none⟩ (I v)) := by
 have o : ∀ k, k ≠ Bl -> (w.setCell ⟨Bl, 0, none⟩ (I v)).heap[k]? = w.heap[k]? := fun k hk => qg _ _ _ k hk
 obtain ⟨nY, nM⟩ := h.ne Bl (by simp)
 refine ⟨h.prs.put nY nM h.hl (by decide) o, (o _ (lS h.hw h.hl (by decide))).trans h.hw, (o _ (lS h.hp h.hl (by decide))).trans h.hp, ?_, (o _ (lS h.he h.hl (by decide))).trans h.he, (o _ (SQ h.hq h.hl)).trans h.hq, (o _ (lS h.hE h.hl (by decide))).trans h.hE, h.aw.setCell (p := ⟨Bl, 0, none⟩) (.inr h.bl) _, h.bl, h.ne⟩
 rw [Lib.heap_setCell_same (i := 0) h.hl]; rfl
theorem Cl.setE (h : Cl T Bw Bp Bl Be Q E Y M free st last F A w0 w) {A' : A5} (hE : w'.heap[E]? = some (.cells (F.c A') 31 (0, 0))) (a : aB [E] w w') : Cl T Bw Bp Bl Be Q E Y M free st last F A' w0 w' := by
 obtain ⟨nY, nM⟩ := h.ne E (by simp)
 have n : ∀ k, k ≠ E -> k ∉ [E] := fun k hk => by simpa using hk
 obtain ⟨g, tv, pos, line, col, e, ls, ln, es, clk, h1, h2, h3⟩ := h.prs
 have hS : PS T Y M free st w' := by
  refine ⟨g, tv, pos, line, col, e, ls, ln, es, clk, ⟨a.at h1.blk (n _ (Ne.symm nY)), a.at h1.map (n _ (Ne.symm nM)), fun he => aC (h1.row he) fun k hkk => a.block k ((h1.row he).lt k hkk).2 (n _ ?_)⟩, h2, h3⟩
  rintro rfl
  exact dF (h1.row he) h.hE (by intro cs' fr' hc; injection hc with _ h2 _; cases h2) hkk
 exact ⟨hS, a.at h.hw (n _ (lS h.hw h.hE (by decide))), a.at h.hp (n _ (lS h.hp h.hE (by decide))), a.at h.hl (n _ (lS h.hl h.hE (by decide))), a.at h.he (n _ (lS h.he h.hE (by decide))), a.at h.hq (n _ (SQ h.hq h.hE)), hE, h.aw.trans ⟨a.os, a.tape, a.output, a.size, fun k hk hb => a.block k hk (by simp only [qqj, qqv, or_false] at hb |-; omega)⟩, h.bl, h.ne⟩
end
end Go.Proofs.YtgkhemnmcgicnaaGreatDoor
