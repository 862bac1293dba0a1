/- An own evaluator of closed runs of a program, proved sound against the model: one part of it. -/
import Derived.Test.YtgkhemnmcgicnaaGreatDoorG17
import Derived.LoopNIn
import Derived.RangeFuncRecord
import Derived.RangeFuncIn
import Derived.Scope
import Derived.Below
import Derived.Laws.Sem
import Derived.RangeFuncLeaves
namespace Go.Dam
set_option maxHeartbeats 1000000
section
variable {P : Program}
theorem Holds.lt2 {E : Env} {A : Nat -> Prop} {h : List (Nat × Obj)} {w : World} (H : Holds P E A h w) {n : Nat} {o : Obj} (hg : getB h n = some o) : E.β n < w.heap.size := by
 obtain ⟨_, _, oc, hoc, _⟩ := H.blk n o hg
 exact (Array.getElem?_eq_some_iff.1 hoc).1
theorem getB_app (h g : List (Nat × Obj)) (k : Nat) (x : Obj) : getB (h ++ g) k = some x -> getB h k = some x \/ (getB h k = none /\ getB g k = some x) := by
 induction h with
 | nil => intro e; exact .inr ⟨rfl, e⟩
 | cons a r ih =>
  obtain ⟨m, y⟩ := a
  simp only [List.cons_append, getB]
  split
  ·intro e; exact .inl e
  ·exact ih
theorem hasName_of {h : List (Nat × Obj)} {n : Nat} {o : Obj} (hg : getB h n = some o) : hasName n h = true := by
 induction h with
 | nil => cases hg
 | cons a r ih =>
  obtain ⟨m, y⟩ := a
  simp only [getB] at hg
  simp only [hasName, Bool.or_eq_true]
  split at hg
  ·rename_i hm; exact .inl hm
  ·exact .inr (ih hg)
theorem getB_without {h : List (Nat × Obj)} : ∀ {g : List (Nat × Obj)} {n : Nat} {o : Obj}, getB (without h g) n = some o -> getB g n = some o /\ getB h n = none
 | [], n, o, hg => by cases hg
 | (m, x) :: r, n, o, hg => by
  simp only [without] at hg
  split at hg
  ·rename_i hm
   obtain ⟨h1, h2⟩ := getB_without hg
   refine ⟨?_, h2⟩
   simp only [getB]
   split
   ·rename_i he
    obtain rfl := Nat.eq_of_beq_eq_true he
    exfalso
    have : ∀ {h : List (Nat × Obj)}, hasName m h = true -> ∃ o', getB h m = some o' := by
     intro h
     induction h with
     | nil => intro h; cases h
     | cons a r ih =>
      obtain ⟨k, y⟩ := a
      intro h
      simp only [hasName, Bool.or_eq_true] at h
      simp only [getB]
      split
      ·exact ⟨y, rfl⟩
      ·rename_i hk
       exact ih (h.resolve_left hk)
    obtain ⟨o', ho'⟩ := this hm
    rw [h2] at ho'; cases ho'
   ·exact h1
  ·rename_i hm
   simp only [getB] at hg
   split at hg
   ·rename_i he
    obtain rfl := Option.some.inj hg
    refine ⟨by simp [getB, he], ?_⟩
    obtain rfl := Nat.eq_of_beq_eq_true he
    cases hc : getB h m with
    | none => rfl
    | some y => exact absurd (hasName_of hc) hm
   ·rename_i he
    obtain ⟨h1, h2⟩ := getB_without hg
    refine ⟨?_, h2⟩
    simp only [getB, he]
    exact h1
theorem Post.framed2 {E E' : Env} {A : Nat -> Prop} {hs ho g : List (Nat × Obj)} {nx nx' : Nat} {w w' : World} (p : Post P E A hs nx w E' ho nx' w') (H : Holds P E A g w)
  (hsub : ∀ n o, getB hs n = some o -> getB g n = some o) (hA : ∀ n, A n -> ¬ (nx <= n /\ n < nx')) : Post P E A g nx w E' (ho ++ without hs g) nx' w' := by
 have hag : Agree A E E' := p.agreeA hA
 have hg : ∀ n o, getB (without hs g) n = some o -> (A n \/ (nx <= n /\ n < nx')) /\ ScObj (fun n => A n \/ (nx <= n /\ n < nx')) o /\ E'.β n = E.β n /\ E.β n < w.heap.size /\ getB hs n = none /\ getB g n = some o /\ ∃ oc, w'.heap[E'.β n]? = some oc /\ BlkRel P E' n o oc := by
  intro n o hn
  obtain ⟨hng, hnone⟩ := getB_without hn
  obtain ⟨h1, h2, oc, h3, h4⟩ := H.blk n o hng
  have hlt := H.lt2 hng
  have hb := (hag n h1).1
  refine ⟨.inl h1, ScObj_mono (fun _ hx => Or.inl hx) o h2, hb, hlt, hnone, hng, oc, ?_, BlkRel.agree hag h1 h2 h4⟩
  rw [hb, p.same _ hlt ?_]
  ·exact h3
  ·intro k o' hk he
   have := H.inj k n _ _ (hsub k o' hk) hng he
   subst this
   rw [hnone] at hk; cases hk
 have hh : ∀ n o, getB ho n = some o -> (∃ o', getB hs n = some o' /\ E'.β n = E.β n) \/ w.heap.size <= E'.β n \/ ∃ m o', getB hs m = some o' /\ E'.β n = E.β m := by
  intro n o hn
  rcases p.img n o hn with ⟨m, o', hm, e⟩ | hx
  ·exact .inr (.inr ⟨m, o', hm, e⟩)
  ·exact .inr (.inl hx)
 have hdis : ∀ n o m o', getB ho n = some o -> getB (without hs g) m = some o' -> E'.β n ≠ E'.β m := by
  intro n o m o' hn hm he
  obtain ⟨_, _, b1, b2, hnone, hgm, _⟩ := hg m o' hm
  rcases hh n o hn with ⟨o1, h1, h2⟩ | h1 | ⟨k, o1, h1, h2⟩
  ·have := H.inj n m _ _ (hsub n o1 h1) hgm (by rw [<- h2, <- b1]; exact he)
   subst this
   rw [hnone] at h1; cases h1
  ·rw [he, b1] at h1; omega
  ·have := H.inj k m _ _ (hsub k o1 h1) hgm (by rw [<- h2, <- b1]; exact he)
   subst this
   rw [hnone] at h1; cases h1
 exact
  { le := p.le
    even := p.even
    agree := p.agree
    holds := by
     refine ⟨fun n o hn => ?_, fun n m o o' hn hm he => ?_⟩
     ·rcases getB_app _ _ _ _ hn with hn | ⟨_, hn⟩
      ·exact p.holds.blk n o hn
      ·obtain ⟨a1, a2, _, _, _, _, a3⟩ := hg n o hn
       exact ⟨a1, a2, a3⟩
     ·rcases getB_app _ _ _ _ hn with hn | ⟨_, hn⟩ <;> rcases getB_app _ _ _ _ hm with hm | ⟨_, hm⟩
      ·exact p.holds.inj n m _ _ hn hm he
      ·exact absurd he (hdis n o m o' hn hm)
      ·exact absurd he.symm (hdis m o' n o hm hn)
      ·obtain ⟨_, _, b1, _, _, g1, _⟩ := hg n o hn
       obtain ⟨_, _, c1, _, _, g2, _⟩ := hg m o' hm
       exact H.inj n m _ _ g1 g2 (by rw [<- b1, <- c1]; exact he)
    os := p.os
    tape := p.tape
    output := p.output
    size := p.size
    same := fun b hb hnot => p.same b hb fun n o hn => hnot n o (hsub n o hn)
    img := fun n o hn => by
     rcases getB_app _ _ _ _ hn with hn | ⟨_, hn⟩
     ·rcases p.img n o hn with ⟨m, o', hm, e⟩ | hx
      ·exact .inl ⟨m, o', hsub m o' hm, e⟩
      ·exact .inr hx
     ·obtain ⟨_, _, b1, _, _, g1, _⟩ := hg n o hn
      exact .inl ⟨n, o, g1, b1⟩ }
theorem getB_onlyB {ns : List Nat} : ∀ {h : List (Nat × Obj)} {n : Nat} {o : Obj}, getB (onlyB ns h) n = some o -> getB h n = some o
 | [], _, _, h => by cases h
 | (m, x) :: r, n, o, h => by
  simp only [onlyB] at h
  split at h
  ·simp only [getB] at h ⊢
   split
   ·rename_i hm; rw [if_pos hm] at h; exact h
   ·rename_i hm; rw [if_neg hm] at h; exact getB_onlyB h
  ·rename_i hno
   have h' := getB_onlyB h
   simp only [getB]
   split
   ·rename_i hm
    obtain rfl := Nat.eq_of_beq_eq_true hm
    exfalso
    have : ∀ {h : List (Nat × Obj)}, getB (onlyB ns h) m = some o -> hasNat m ns = true := by
     intro h
     induction h with
     | nil => intro h; cases h
     | cons a r ih =>
      obtain ⟨k, y⟩ := a
      intro h
      simp only [onlyB] at h
      split at h
      ·rename_i hk
       simp only [getB] at h
       split at h
       ·rename_i he
        obtain rfl := Nat.eq_of_beq_eq_true he
        exact hk
       ·exact ih h
      ·exact ih h
    exact hno (this h)
   ·exact h'
structure NxOk (nxs : List (Nat × Nat)) (n N : Nat) : Prop where
 le : n <= N
 even : n % 2 = 0
 evenN : N % 2 = 0
 bound : ∀ (l : Nat) (x : Nat × Nat), nxs[l]? = some x -> n <= x.1 /\ x.1 <= x.2 /\ x.2 <= N /\ x.1 % 2 = 0
 order : ∀ (l m : Nat) (x y : Nat × Nat), l < m -> nxs[l]? = some x -> nxs[m]? = some y -> x.2 <= y.1
variable {callF : Fn -> List Value -> St -> Option (Value × St)} {ops : List Oper}
theorem NxOk.cons {l : List (Nat × Nat)} {a b N : Nat} (ha : a % 2 = 0) (hab : a <= b) (h : NxOk l b N) : NxOk ((a, b) :: l) a N := by
 refine ⟨Nat.le_trans hab h.le, ha, h.evenN, ?_, ?_⟩
 ·intro k x hx
  cases k with
  | zero =>
   obtain rfl := Option.some.inj (by simpa using hx)
   exact ⟨Nat.le_refl _, hab, h.le, ha⟩
  | succ k =>
   obtain ⟨h1, h2, h3, h4⟩ := h.bound k x (by simpa using hx)
   exact ⟨Nat.le_trans hab h1, h2, h3, h4⟩
 ·intro k m x y hkm hx hy
  cases m with
  | zero => omega
  | succ m =>
   cases k with
   | zero =>
    obtain rfl := Option.some.inj (by simpa using hx)
    exact (h.bound m y (by simpa using hy)).1
   | succ k => exact h.order k m x y (by omega) (by simpa using hx) (by simpa using hy)
theorem nameRun_ok : ∀ {l : List Oper} {tm tmE : List Value} {S : St} {nxs : List (Nat × Nat)} {N : Nat}, nameRun callF P ops l tm S = some (nxs, tmE, N) -> S.next % 2 = 0 -> NxOk nxs S.next N /\ nxs.length = l.length
 | [], tm, tmE, S, nxs, N, h, hev => by
  simp only [nameRun, Option.some.injEq, Prod.mk.injEq] at h
  obtain ⟨rfl, _, rfl⟩ := h
  exact ⟨⟨Nat.le_refl _, hev, hev, fun l x hx => by simp at hx, fun l m x y _ hx => by simp at hx⟩, rfl⟩
 | o :: r, tm, tmE, S, nxs, N, h, hev => by
  simp only [nameRun] at h
  split at h
  ·split at h
   ·rename_i v S' hs
    split at h
    ·rename_i hc
     simp only [Bool.and_eq_true] at hc
     split at h
     ·rename_i l tmE' N' hr
      simp only [Option.some.injEq, Prod.mk.injEq] at h
      obtain ⟨rfl, _, rfl⟩ := h
      obtain ⟨h1, h2⟩ := nameRun_ok hr (isEven_spec hc.2)
      exact ⟨h1.cons hev (Nat.le_of_ble_eq_true hc.1), by simp [h2]⟩
     ·cases h
    ·cases h
   ·cases h
  ·split at h
   ·rename_i l tmE' N' hr
    simp only [Option.some.injEq, Prod.mk.injEq] at h
    obtain ⟨rfl, _, rfl⟩ := h
    obtain ⟨h1, h2⟩ := nameRun_ok hr hev
    exact ⟨h1.cons hev (Nat.le_refl _), by simp [h2]⟩
   ·cases h
theorem pairAt_get : ∀ {l : List (Nat × Nat)} {i : Nat} {x : Nat × Nat}, l[i]? = some x -> pairAt l i = x
 | [], i, x, h => by simp at h
 | a :: r, 0, x, h => by simpa [pairAt] using h
 | a :: r, n + 1, x, h => by simpa [pairAt] using pairAt_get (l := r) (i := n) (x := x) (by simpa using h)
def Refines (e1 e' : Ent) : Prop := e'.L = e1.L /\ e'.tm = e1.tm /\ ∀ n o, getB e'.h n = some o -> getB e1.h n = some o
theorem mergeEnt_self : ∀ {acc acc' : List Ent} {e : Ent}, mergeEnt e acc = some acc' -> ∃ e' ∈ acc', Refines e e'
 | [], acc', e, h => by
  simp only [mergeEnt, Option.some.injEq] at h
  subst h
  exact ⟨e, by simp, rfl, rfl, fun _ _ h => h⟩
 | x :: r, acc', e, h => by
  simp only [mergeEnt] at h
  split at h
  ·rename_i hL
   split at h
   ·rename_i hc
    simp only [Bool.and_eq_true] at hc
    obtain rfl := Option.some.inj h
    exact ⟨x, by simp, Nat.eq_of_beq_eq_true hL, veqT_spec hc.1, within_spec hc.2⟩
   ·cases h
  ·split at h
   ·rename_i r' hr
    obtain rfl := Option.some.inj h
    obtain ⟨e', h1, h2⟩ := mergeEnt_self hr
    exact ⟨e', by simp [h1], h2⟩
   ·cases h
theorem mergeEnt_keep : ∀ {acc acc' : List Ent} {e : Ent}, mergeEnt e acc = some acc' -> ∀ x ∈ acc, x ∈ acc'
 | [], acc', e, h, x, hx => by cases hx
 | y :: r, acc', e, h, x, hx => by
  simp only [mergeEnt] at h
  split at h
  ·split at h
   ·obtain rfl := Option.some.inj h; exact hx
   ·cases h
  ·split at h
   ·rename_i r' hr
    obtain rfl := Option.some.inj h
    rcases List.mem_cons.1 hx with rfl | hx
    ·simp
    ·exact List.mem_cons_of_mem _ (mergeEnt_keep hr x hx)
   ·cases h
theorem succ1_keep {nxs : List (Nat × Nat)} {e : Ent} : ∀ {l : List Oper} {i : Nat} {acc acc' : List Ent}, succ1 callF P ops nxs e i l acc = some acc' -> ∀ x ∈ acc, x ∈ acc'
 | [], i, acc, acc', h, x, hx => by
  simp only [succ1, Option.some.injEq] at h
  subst h; exact hx
 | o :: r, i, acc, acc', h, x, hx => by
  simp only [succ1] at h
  split at h
  ·split at h
   ·split at h
    ·rename_i hm
     exact succ1_keep h x (mergeEnt_keep hm x hx)
    ·cases h
   ·cases h
  ·exact succ1_keep h x hx
theorem succ1_spec {nxs : List (Nat × Nat)} {e : Ent} : ∀ {l : List Oper} {i : Nat} {acc acc' : List Ent}, succ1 callF P ops nxs e i l acc = some acc' ->
  ∀ (j : Nat) (o : Oper), l[j]? = some o -> Nat.testBit e.L (i + j) = false -> canGo e.L o = true -> ∃ e1, entStep callF P ops nxs (i + j) o e = some e1 /\ ∃ e' ∈ acc', Refines e1 e'
 | [], i, acc, acc', h, j, o, ho, _, _ => by simp at ho
 | o0 :: r, i, acc, acc', h, j, o, ho, hb, hc => by
  simp only [succ1] at h
  cases j with
  | zero =>
   obtain rfl := Option.some.inj (by simpa using ho)
   rw [Nat.add_zero] at hb ⊢
   rw [if_pos (by rw [hb, hc]; rfl)] at h
   split at h
   ·rename_i e1 he1
    split at h
    ·rename_i acc1 hm
     obtain ⟨e', h1, h2⟩ := mergeEnt_self hm
     exact ⟨e1, he1, e', succ1_keep h e' h1, h2⟩
    ·cases h
   ·cases h
  | succ j =>
   have e0 : i + (j + 1) = (i + 1) + j := by omega
   rw [e0] at hb ⊢
   have ho' : r[j]? = some o := by simpa using ho
   split at h
   ·split at h
    ·split at h
     ·exact succ1_spec h j o ho' hb hc
     ·cases h
    ·cases h
   ·exact succ1_spec h j o ho' hb hc
theorem succs_keep {nxs : List (Nat × Nat)} : ∀ {es acc acc' : List Ent}, succs callF P ops nxs es acc = some acc' -> ∀ x ∈ acc, x ∈ acc'
 | [], acc, acc', h, x, hx => by
  simp only [succs, Option.some.injEq] at h
  subst h; exact hx
 | e :: r, acc, acc', h, x, hx => by
  simp only [succs] at h
  split at h
  ·rename_i acc1 h1
   exact succs_keep h x (succ1_keep h1 x hx)
  ·cases h
theorem succs_spec {nxs : List (Nat × Nat)} : ∀ {es acc acc' : List Ent}, succs callF P ops nxs es acc = some acc' -> ∀ e ∈ es, ∀ (j : Nat) (o : Oper), ops[j]? = some o -> Nat.testBit e.L j = false -> canGo e.L o = true ->
  ∃ e1, entStep callF P ops nxs j o e = some e1 /\ ∃ e' ∈ acc', Refines e1 e'
 | [], acc, acc', h, e, he => by cases he
 | e0 :: r, acc, acc', h, e, he => by
  intro j o ho hb hc
  simp only [succs] at h
  split at h
  ·rename_i acc1 h1
   rcases List.mem_cons.1 he with rfl | he
   ·obtain ⟨e1, q1, e', q2, q3⟩ := succ1_spec h1 j o ho (by rw [Nat.zero_add]; exact hb) hc
    rw [Nat.zero_add] at q1
    exact ⟨e1, q1, e', succs_keep h e' q2, q3⟩
   ·exact succs_spec h e he j o ho hb hc
  ·cases h
structure Ctx2 (P : Program) (callF : Fn -> List Value -> St -> Option (Value × St)) (ops : List Oper) (nxs : List (Nat × Nat)) (E0 : Env) (A : Nat -> Prop) (nx N : Nat) : Prop where
 calls : CallOk P callF
 names : NamesOk P
 early : ∀ (i : Nat) (o : Oper) (e : Edge), ops[i]? = some o -> e ∈ o.after -> Region.binds .any e = true -> e.on < i
 nok : NxOk nxs nx N
 len : nxs.length = ops.length
 opd : ∀ (i : Nat) (o : Oper) (x : Operand), ops[i]? = some o -> x ∈ o.op.operands -> okOpd P x = true
 glb : Glb P E0 A
 out : ∀ n, A n -> ¬ (nx <= n /\ n < N)
def AL2 (nxs : List (Nat × Nat)) (A : Nat -> Prop) (L : Nat -> Bool) (n : Nat) : Prop := A n \/ ∃ l x, L l = true /\ nxs[l]? = some x /\ x.1 <= n /\ n < x.2
structure Stand2 (P : Program) (nxs : List (Nat × Nat)) (E0 : Env) (A : Nat -> Prop) (hs : List (Nat × Obj)) (nx N : Nat) (w0 : World) (a0 : Act) (L : Nat -> Bool) (e : Ent) (E : Env) (a : Act) (w : World) : Prop where
 tm : Tm E (AL2 nxs A L) e.tm a
 holds : Holds P E (AL2 nxs A L) e.h w
 post : Post P E0 A hs nx w0 E e.h N w
 dfr : a.defers = a0.defers
section
variable {nxs : List (Nat × Nat)} {E0 : Env} {A : Nat -> Prop} {hs : List (Nat × Obj)} {nx N : Nat} {w0 : World} {a0 : Act} {L L' : Nat -> Bool} {e e1 : Ent} {E : Env} {a : Act} {w : World} {i : Nat} {o : Oper}
theorem Ctx2.apart (C : Ctx2 P callF ops nxs E0 A nx N) {x : Nat × Nat} (hx : nxs[i]? = some x) (hi : L i = false) : ∀ n, AL2 nxs A L n -> ¬ (x.1 <= n /\ n < x.2) := by
 intro n hn hin
 obtain ⟨b1, b2, b3, _⟩ := C.nok.bound i x hx
 rcases hn with hn | ⟨l, y, hl, hy, h1, h2⟩
 ·exact C.out n hn (by omega)
 ·rcases Nat.lt_trichotomy l i with h | h | h
  ·have := C.nok.order l i y x h hy hx; omega
  ·subst h; rw [hi] at hl; cases hl
  ·have := C.nok.order i l x y h hx hy; omega
theorem Stand2.step {opsA : Array Oper} (C : Ctx2 P callF opsA.toList nxs E0 A nx N) (hJ : Stand2 P nxs E0 A hs nx N w0 a0 L e E a w) (ho : opsA.toList[i]? = some o) (hi : L i = false) (he : entStep callF P opsA.toList nxs i o e = some e1) (hL' : ∀ l, L' l = true ↔ L l = true \/ l = i)
  {ro : Option Nat} {K : Act -> World -> Prop} {Q : Exit -> Act -> World -> Prop} (hK : ∀ E' a' w', Stand2 P nxs E0 A hs nx N w0 a0 L' e1 E' a' w' -> K a' w') :
  if Region.wanted o (yielded opsA a.tmps) = true then o.wpIn (rd ro) 0 P a w K Q else K (a.put o.dst undef) w := by
 have hlt : i < nxs.length := by rw [C.len]; exact (List.getElem?_eq_some_iff.1 ho).1
 have hx : nxs[i]? = some nxs[i] := List.getElem?_eq_getElem hlt
 obtain ⟨b1, b2, b3, b4⟩ := C.nok.bound i _ hx
 have hap := C.apart (L := L) hx hi
 have hgrow0 : ∀ n, AL2 nxs A L n -> AL2 nxs A L' n := by
  rintro n (hn | ⟨l, y, hl, hy⟩)
  ·exact .inl hn
  ·exact .inr ⟨l, y, (hL' l).2 (.inl hl), hy⟩
 have hgrow : ∀ n, AL2 nxs A L n \/ (nxs[i].1 <= n /\ n < nxs[i].2) -> AL2 nxs A L' n := by
  rintro n (hn | hn)
  ·exact hgrow0 n hn
  ·exact .inr ⟨i, _, (hL' i).2 (.inr rfl), hx, hn⟩
 have hwide : ∀ n, AL2 nxs A L n \/ (nxs[i].1 <= n /\ n < nxs[i].2) -> A n \/ (nx <= n /\ n < N) := by
  rintro n ((hn | ⟨l, y, _, hy, h1, h2⟩) | hn)
  ·exact .inl hn
  ·have := C.nok.bound l y hy; exact .inr (by omega)
  ·exact .inr (by omega)
 have hg : Glb P E (AL2 nxs A L) := by
  intro g hg
  obtain ⟨h1, h2, h3⟩ := C.glb g hg
  obtain ⟨e1, e2, _⟩ := hJ.post.agree (2 * g) (C.out _ h3)
  exact ⟨by rw [e1, h1], by rw [e2, h2], .inl h3⟩
 rw [wanted_eq hJ.tm]
 unfold entStep at he
 rw [pairAt_get hx] at he
 split at he
 ·rename_i hgd
  rw [if_pos hgd]
  split at he
  ·rename_i v S' hs'
   simp only [Option.ite_none_right_eq_some, Option.some.injEq] at he
   obtain ⟨hn, rfl⟩ := he
   have hn := Nat.eq_of_beq_eq_true hn
   refine astep_sound (A := AL2 nxs A L) C.calls C.names hJ.tm hg (S := ⟨e.h, nxs[i].1⟩) b4 hJ.holds (fun x hx => C.opd i o x ho hx) (by simp only [hn]; exact hap) hs' (astep_noDefer hs') ro K Q ?_
   intro E' w' q hsc
   rw [hn] at q hsc
   refine hK E' _ w' ⟨?_, q.holds.mono hgrow, hJ.post.wide q b1 b3 hwide, ?_⟩
   ·exact hJ.tm.put (q.agreeA hap) (fun n hn => hgrow0 n hn) (Sc_mono hgrow _ hsc)
   ·rw [<- hJ.dfr]; unfold Act.put; split <;> rfl
  ·cases he
 ·rename_i hgd
  rw [if_neg hgd]
  obtain rfl := Option.some.inj he
  refine hK E _ w ⟨?_, hJ.holds.mono hgrow0, hJ.post, ?_⟩
  ·have := hJ.tm.put (E' := E) (B := AL2 nxs A L') (dst := o.dst) (v := undef) (fun n _ => ⟨rfl, rfl, rfl⟩) hgrow0 (Sc_undef _)
   rwa [ren_undef] at this
  ·rw [<- hJ.dfr]; unfold Act.put; split <;> rfl
theorem entStep_L (he : entStep callF P ops nxs i o e = some e1) : e1.L = e.L ||| 2 ^ i := by
 unfold entStep at he
 split at he
 ·split at he
  ·simp only [Option.ite_none_right_eq_some, Option.some.injEq] at he
   rw [<- he.2]
  ·cases he
 ·rw [<- Option.some.inj he]
theorem Stand2.refine (hJ : Stand2 P nxs E0 A hs nx N w0 a0 L e1 E a w) (hr : Refines e1 e) : Stand2 P nxs E0 A hs nx N w0 a0 L e E a w :=
 ⟨by rw [hr.2.1]; exact hJ.tm, hJ.holds.sub hr.2.2, hJ.post.drop hr.2.2, hJ.dfr⟩
theorem bit_or {L i l : Nat} : Nat.testBit (L ||| 2 ^ i) l = true ↔ Nat.testBit L l = true \/ l = i := by
 rw [Nat.testBit_or, Nat.testBit_two_pow, Bool.or_eq_true, decide_eq_true_eq]
 constructor
 ·rintro (h | rfl)
  ·exact .inl h
  ·exact .inr rfl
 ·rintro (h | rfl)
  ·exact .inl h
  ·exact .inr rfl
theorem Stand2.any {opsA : Array Oper} (C : Ctx2 P callF opsA.toList nxs E0 A nx N) {ro : Option Nat} {Q : Exit -> Act -> World -> Prop} {eF : Ent}
  (hQ : ∀ E a w L, Stand2 P nxs E0 A hs nx N w0 a0 L eF E a w -> Q .normal a w) :
  ∀ (fuel : Nat) (listed : Array Bool) (rem : List Nat) (es : List Ent) (e : Ent) (E : Env) (a : Act) (w : World), listed.size = opsA.size -> rem.length = fuel -> rem.Nodup -> (∀ j, j ∈ rem ↔ j < opsA.size /\ listed.getD j false = false) ->
   levels callF P opsA.toList nxs fuel es = some eF -> e ∈ es -> (∀ j, j < opsA.size -> Nat.testBit e.L j = listed.getD j false) ->
   Stand2 P nxs E0 A hs nx N w0 a0 (fun j => listed.getD j false) e E a w -> wpAnyIn (rd ro) 0 P .any opsA Q fuel listed a w := by
 have hall : ∀ (listed : Array Bool), listed.size = opsA.size -> Region.ready .any opsA listed = [] -> ∀ j, j < opsA.size -> listed.getD j false = true := by
  intro listed hsz hr j
  induction j using Nat.strongRecOn with
  | _ j ih =>
   intro hj
   cases hc : listed.getD j false with
   | true => rfl
   | false =>
    exfalso
    have ho : opsA[j]? = some opsA[j] := Array.getElem?_eq_getElem hj
    have : j ∈ Region.ready .any opsA listed := by
     rw [mem_ready]
     refine ⟨?_, opsA[j], ho, fun e he hb => ?_⟩
     ·have hjl : j < listed.size := by omega
      simp only [Array.getD, hjl, dif_pos] at hc ⊢
      exact hc
     ·have := C.early j opsA[j] e (by simp [ho]) he hb
      exact ih e.on this (by omega)
    rw [hr] at this; cases this
 intro fuel
 induction fuel with
 | zero =>
  intro listed rem es e E a w hsz hrem hnd hmem hlev hein hbits hJ
  have hrem0 : rem = [] := List.length_eq_zero_iff.1 hrem
  subst hrem0
  have hL : ∀ j, j < opsA.size -> listed.getD j false = true := by
   intro j hj
   cases hc : listed.getD j false with
   | true => rfl
   | false => have := (hmem j).2 ⟨hj, hc⟩; cases this
  have hes : es = [eF] := by
   unfold levels at hlev
   split at hlev
   ·rename_i heq; rw [Option.some.inj hlev]
   ·cases hlev
   ·rename_i heq; cases heq
  rw [hes] at hein
  obtain rfl := List.mem_singleton.1 hein
  refine ⟨?_, hQ E a w _ hJ⟩
  rw [List.eq_nil_iff_forall_not_mem]
  intro j hj
  obtain ⟨h1, o, ho, _⟩ := mem_ready.1 hj
  have hlt : j < opsA.size := (Array.getElem?_eq_some_iff.1 ho).1
  have h2 := hL j hlt
  have hjl : j < listed.size := by omega
  simp only [Array.getD, hjl, dif_pos] at h1 h2
  rw [h1] at h2; cases h2
 | succ fuel ih =>
  intro listed rem es e E a w hsz hrem hnd hmem hlev hein hbits hJ
  refine ⟨fun hr => ?_, fun i hi => ?_⟩
  ·exfalso
   have hL := hall listed hsz hr
   cases rem with
   | nil => cases hrem
   | cons j r =>
    obtain ⟨h1, h2⟩ := (hmem j).1 (by simp)
    rw [hL j h1] at h2; cases h2
  obtain ⟨h1, o, ho, hedge⟩ := mem_ready.1 hi
  have hlt : i < opsA.size := (Array.getElem?_eq_some_iff.1 ho).1
  have hil : i < listed.size := by omega
  have hi0 : listed.getD i false = false := by
   simp only [Array.getD, hil, dif_pos] at h1 ⊢
   exact h1
  have ho' : opsA.toList[i]? = some o := by simpa using ho
  have hL' : ∀ l, (fun j => (listed.setIfInBounds i true).getD j false) l = true ↔ (fun j => listed.getD j false) l = true \/ l = i := by
   intro l
   by_cases hli : l = i
   ·subst hli
    simp only [or_true, iff_true]
    simp [hil]
   ·simp only [hli, or_false]
    rw [getD_set_ne false (fun e => hli e.symm)]
  have hcan : canGo e.L o = true := by
   unfold canGo
   rw [List.all_eq_true]
   intro d hd
   rw [Bool.or_eq_true]
   cases hb : Region.binds .any d with
   | false => exact .inl rfl
   | true =>
    right
    have hd' : d ∈ o.after := by simpa using hd
    have h3 := hedge d hd' hb
    have h4 := C.early i o d ho' hd' hb
    rw [hbits d.on (by omega)]; exact h3
  have hlev' : (match succs callF P opsA.toList nxs es [] with
   | some es' => levels callF P opsA.toList nxs fuel es'
   | none => none) = some eF := hlev
  clear hlev
  have hlev := hlev'
  clear hlev'
  split at hlev
  ·rename_i es' hsucc
   obtain ⟨e1, he1, e', he', href⟩ := succs_spec hsucc e hein i o ho' (by rw [hbits i hlt]; exact hi0) hcan
   unfold wpOpIn
   rw [ho]
   simp only
   have hstep := Stand2.step (L := fun j => listed.getD j false) (L' := fun j => (listed.setIfInBounds i true).getD j false) C hJ ho' hi0 he1 hL' (ro := ro) (K := wpAnyIn (rd ro) 0 P .any opsA Q fuel (listed.setIfInBounds i true)) (Q := Q) (fun E' a' w' hJ' => by
    have himem : i ∈ rem := (hmem i).2 ⟨hlt, hi0⟩
    refine ih (listed.setIfInBounds i true) (rem.erase i) es' e' E' a' w' (by simpa using hsz) ?_ (hnd.erase i) ?_ hlev he' ?_ (hJ'.refine href)
    ·rw [List.length_erase_of_mem himem]; omega
    ·intro j
     rw [hnd.mem_erase_iff, hmem j]
     constructor
     ·rintro ⟨hne, hj, hc⟩
      refine ⟨hj, ?_⟩
      rw [getD_set_ne false (fun e => hne e.symm)]; exact hc
     ·rintro ⟨hj, hc⟩
      have hne : j ≠ i := by
       rintro rfl
       have := (hL' j).2 (.inr rfl)
       simp only at this
       rw [this] at hc; cases hc
      rw [getD_set_ne false (fun e => hne e.symm)] at hc
      exact ⟨hne, hj, hc⟩
    ·intro j hj
     rw [href.1, entStep_L he1]
     have h5 := hL' j
     simp only at h5
     have h6 := bit_or (L := e.L) (i := i) (l := j)
     rw [hbits j hj] at h6
     rw [Bool.eq_iff_iff, h6, h5])
   split
   ·rename_i hw
    rw [if_pos hw] at hstep; exact hstep
   ·rename_i hw
    rw [if_neg hw] at hstep; exact ⟨fun _ _ => trivial, hstep⟩
  ·cases hlev
end
theorem evalSets_sound (hm : P.follows .mixedOrders = true) (hcf : CallOk P callF) (hnm : NamesOk P) {opsA : Array Oper} {A : Nat -> Prop} {S : St} {E : Env} {tm tm' : List Value} {S' : St} {a : Act} {w : World} {rid : Nat} {ro : Option Nat} {Q : Exit -> Act -> World -> Prop} (hops : okOps P opsA.toList = true) (hd : okDraw opsA.toList = true) (hb : evalSets callF P opsA.toList tm S = some (tm', S'))
  (ht : Tm E A tm a) (hg : Glb P E A) (hev : S.next % 2 = 0) (H : Holds P E A S.heap w) (hA : ∀ n, A n -> ¬ (S.next <= n /\ n < S'.next))
  (hQ : ∀ E' a' w', Post P E A S.heap S.next w E' S'.heap S'.next w' -> Tm E' (fun n => A n \/ (S.next <= n /\ n < S'.next)) tm' a' -> a'.defers = a.defers -> Q .normal a' w') :
  (Code.region rid opsA true).wpIn (rd ro) 0 P Q a w := by
 unfold evalSets at hb
 split at hb
 ·rename_i nxs tmE N hN
  split at hb
  ·rename_i eF hF
   simp only [Option.some.injEq, Prod.mk.injEq] at hb
   obtain ⟨rfl, rfl⟩ := hb
   obtain ⟨hnx, hlen⟩ := nameRun_ok hN hev
   simp only at hA hQ
   have C : Ctx2 P callF opsA.toList nxs E A S.next N := ⟨hcf, hnm, (okDraw_spec hd).early, hnx, hlen, okOps_spec hops, hg, hA⟩
   have hsub : ∀ n o, getB (onlyB (touched opsA.toList tmE) S.heap) n = some o -> getB S.heap n = some o := fun n o h => getB_onlyB h
   generalize onlyB (touched opsA.toList tmE) S.heap = hs at hF hQ hsub
   have Hs := H.sub hsub
   have hno : ∀ j, (Array.replicate opsA.size false).getD j false = false := by
    intro j
    by_cases h : j < opsA.size <;> simp [h]
   have hlen' : opsA.toList.length = opsA.size := by simp
   rw [hlen'] at hF
   refine wpIn_region_any hm (Stand2.any (ro := ro) (w0 := w) (a0 := a) (hs := hs) (eF := eF) C ?_ opsA.size _ (List.range opsA.size) _ ⟨0, tm, hs⟩ E a _ (by simp) (by simp) List.nodup_range (fun j => by rw [List.mem_range, hno]; simp) hF (by simp) (fun j _ => by rw [hno]; simp) ?_)
   ·intro E' a' w' L hJ
    refine hQ E' a' w' (hJ.post.framed2 H hsub hA) ⟨hJ.tm.tmps, fun x hx => Sc_mono ?_ x (hJ.tm.sc x hx)⟩ hJ.dfr
    rintro n (hn | ⟨l, x, _, hx, h1, h2⟩)
    ·exact .inl hn
    ·have := hnx.bound l x hx; exact .inr (by omega)
   ·refine ⟨⟨ht.tmps, fun x hx => Sc_mono (fun n hn => .inl hn) x (ht.sc x hx)⟩, (Hs.world (w' := { w with drawn := w.drawn + 1 }) rfl).mono fun n hn => .inl hn, ?_, rfl⟩
    exact Post.world (w₁ := { w with drawn := w.drawn + 1 }) (Post.start Hs hnx.le (by rw [hnx.evenN, hev])) rfl rfl rfl rfl
  ·cases hb
 ·cases hb
theorem evalAny_sound (hm : P.follows .mixedOrders = true) (hcf : CallOk P callF) (hnm : NamesOk P) {opsA : Array Oper} {A : Nat -> Prop} {S : St} {E : Env} {tm tm' : List Value} {S' : St} {a : Act} {w : World} {rid : Nat} {ro : Option Nat} {Q : Exit -> Act -> World -> Prop} (hops : okOps P opsA.toList = true) (hd : okDraw opsA.toList = true) (hb : evalAny callF P opsA.toList tm S = some (tm', S'))
  (ht : Tm E A tm a) (hg : Glb P E A) (hev : S.next % 2 = 0) (H : Holds P E A S.heap w) (hA : ∀ n, A n -> ¬ (S.next <= n /\ n < S'.next))
  (hQ : ∀ E' a' w', Post P E A S.heap S.next w E' S'.heap S'.next w' -> Tm E' (fun n => A n \/ (S.next <= n /\ n < S'.next)) tm' a' -> a'.defers = a.defers -> Q .normal a' w') :
  (Code.region rid opsA true).wpIn (rd ro) 0 P Q a w := by
 unfold evalAny at hb
 split at hb
 ·rename_i r hr
  obtain rfl := Option.some.inj hb
  exact evalDraw_sound hm hcf hnm hops hd hr ht hg hev H hA hQ
 ·exact evalSets_sound hm hcf hnm hops hd hb ht hg hev H hA hQ
theorem nameRun_mono : ∀ {l : List Oper} {tm tmE : List Value} {S : St} {nxs : List (Nat × Nat)} {N : Nat}, nameRun callF P ops l tm S = some (nxs, tmE, N) -> S.next <= N
 | [], tm, tmE, S, nxs, N, h => by
  simp only [nameRun, Option.some.injEq, Prod.mk.injEq] at h
  rw [h.2.2]; exact Nat.le_refl _
 | o :: r, tm, tmE, S, nxs, N, h => by
  simp only [nameRun] at h
  split at h
  ·split at h
   ·split at h
    ·rename_i hc
     simp only [Bool.and_eq_true] at hc
     split at h
     ·rename_i hr
      simp only [Option.some.injEq, Prod.mk.injEq] at h
      obtain ⟨_, _, rfl⟩ := h
      exact Nat.le_trans (Nat.le_of_ble_eq_true hc.1) (nameRun_mono hr)
     ·cases h
    ·cases h
   ·cases h
  ·split at h
   ·rename_i hr
    simp only [Option.some.injEq, Prod.mk.injEq] at h
    obtain ⟨_, _, rfl⟩ := h
    exact nameRun_mono hr
   ·cases h
end
section
variable {P : Program} {callF : Fn -> List Value -> St -> Option (Value × St)}
theorem evOps_mono {ops : List Oper} : ∀ {l : List Oper} {tm tm' : List Value} {S S' : St}, evOps callF P ops l tm S = some (tm', S') -> S.next <= S'.next
 | [], _, _, _, _, h => by
  simp only [evOps, Option.some.injEq, Prod.mk.injEq] at h
  rw [h.2]; exact Nat.le_refl _
 | o :: r, tm, tm', S, S', h => by
  simp only [evOps] at h
  split at h
  ·split at h
   ·simp only [Option.ite_none_right_eq_some] at h
    exact Nat.le_trans (Nat.le_of_ble_eq_true h.1) (evOps_mono h.2)
   ·simp at h
  ·exact evOps_mono h
def markOf (D : Nat) : Deferred := { target := .collected D, args := #[] }
def Dfr (ro : Option Nat) (w : World) (a : Act) (w' : World) (a' : Act) : Prop :=
 ∃ Ds : List Nat, a'.defers = Ds.map markOf ++ a.defers /\ (ro.isSome = true -> Ds = []) /\ (∀ D ∈ Ds, w.heap.size <= D /\ w'.heap[D]? = some (.deferred (some []))) /\ Ds.Nodup
theorem Dfr.of_eq {ro : Option Nat} {w w' : World} {a a' : Act} (h : a'.defers = a.defers) : Dfr ro w a w' a' :=
 ⟨[], by simpa using h, fun _ => rfl, by simp, by simp⟩
theorem Holds.noDeferred {E : Env} {A : Nat -> Prop} {h : List (Nat × Obj)} {w : World} (H : Holds P E A h w) {D : Nat} {x : Option (List Deferred)} (hD : w.heap[D]? = some (.deferred x)) : ∀ n o, getB h n = some o -> E.β n ≠ D := by
 intro n o hn e
 obtain ⟨_, _, oc, hc, hr⟩ := H.blk n o hn
 rw [e, hD] at hc
 obtain rfl := Option.some.inj hc
 cases o with
 | cells c t fz =>
  simp only [BlkRel] at hr
  split at hr
  ·obtain ⟨cc, fzc, s, e1, _⟩ := hr; cases e1
  ·cases hr.2
 | map es cl => simp [BlkRel] at hr
 | stringIter s p => cases hr.2
 | mapIter m s seen c => cases hr.2
 | loop r => obtain ⟨f, d, e1⟩ := hr; cases e1
 | _ => exact hr
theorem Dfr.trans {ro : Option Nat} {E₁ E₂ : Env} {B : Nat -> Prop} {h₁ h₂ : List (Nat × Obj)} {nx₁ nx₂ : Nat} {w w₁ w₂ : World} {a a₁ a₂ : Act} (d : Dfr ro w a w₁ a₁) (d' : Dfr ro w₁ a₁ w₂ a₂) (hsz : w.heap.size <= w₁.heap.size)
  (H : Holds P E₁ B h₁ w₁) (q : Post P E₁ B h₁ nx₁ w₁ E₂ h₂ nx₂ w₂) : Dfr ro w a w₂ a₂ := by
 obtain ⟨Ds, e1, n1, m1, u1⟩ := d
 obtain ⟨Ds', e2, n2, m2, u2⟩ := d'
 have hlt : ∀ D ∈ Ds, D < w₁.heap.size := by
  intro D hD
  have := (m1 D hD).2
  rcases Nat.lt_or_ge D w₁.heap.size with h | h
  ·exact h
  ·rw [Array.getElem?_eq_none h] at this; cases this
 refine ⟨Ds' ++ Ds, by rw [e2, e1]; simp, fun h => by rw [n1 h, n2 h]; rfl, ?_, ?_⟩
 ·intro D hD
  rcases List.mem_append.1 hD with hD | hD
  ·exact ⟨Nat.le_trans hsz (m2 D hD).1, (m2 D hD).2⟩
  ·refine ⟨(m1 D hD).1, ?_⟩
   rw [q.same D (hlt D hD) (H.noDeferred (m1 D hD).2)]
   exact (m1 D hD).2
 ·rw [List.nodup_append]
  refine ⟨u2, u1, ?_⟩
  intro x hx y hy e
  subst e
  have h1 := (m2 x hx).1
  have h2 := hlt x hy
  omega
def After (P : Program) (ro : Option Nat) (E : Env) (A : Nat -> Prop) (S : St) (w : World) (a : Act) (tm' : List Value) (S' : St) (R : Act -> World -> Prop) : Prop :=
 ∀ E' a' w', Post P E A S.heap S.next w E' S'.heap S'.next w' -> Tm E' (fun n => A n \/ (S.next <= n /\ n < S'.next)) tm' a' -> Dfr ro w a w' a' -> R a' w'
theorem After.trans {ro : Option Nat} {E E₁ : Env} {A : Nat -> Prop} {S S₁ S' : St} {w w₁ : World} {a a₁ : Act} {tm' : List Value} {R : Act -> World -> Prop} (h : After P ro E A S w a tm' S' R) (p : Post P E A S.heap S.next w E₁ S₁.heap S₁.next w₁) (hd : Dfr ro w a w₁ a₁) (hle : S₁.next <= S'.next) :
  After P ro E₁ (fun n => A n \/ (S.next <= n /\ n < S₁.next)) S₁ w₁ a₁ tm' S' R := by
 intro E' a' w' q ht hd'
 refine h E' a' w' (p.trans q) ⟨ht.tmps, fun x hx => Sc_mono ?_ x (ht.sc x hx)⟩ (Dfr.trans hd hd' p.size p.holds q)
 have := p.le
 rintro n ((hn | hn) | hn)
 ·exact .inl hn
 ·exact .inr (by omega)
 ·exact .inr (by omega)
theorem Glb.next {E E' : Env} {A B : Nat -> Prop} (hg : Glb P E A) (hag : Agree A E E') (hAB : ∀ n, A n -> B n) : Glb P E' B := by
 intro g hgs
 obtain ⟨h1, h2, h3⟩ := hg g hgs
 obtain ⟨e1, e2, _⟩ := hag _ h3
 exact ⟨by rw [e1, h1], by rw [e2, h2], hAB _ h3⟩
theorem evOps_sound (hcf : CallOk P callF) (hnm : NamesOk P) {ro : Option Nat} {opsA : Array Oper} {Q : Exit -> Act -> World -> Prop} : ∀ {l : List Oper} {tm tm' : List Value} {S S' : St} {E : Env} {A : Nat -> Prop} {a : Act} {w : World},
  evOps callF P opsA.toList l tm S = some (tm', S') -> (∀ o ∈ l, ∀ x ∈ o.op.operands, okOpd P x = true) -> Tm E A tm a -> Glb P E A -> S.next % 2 = 0 -> Holds P E A S.heap w -> (∀ n, A n -> ¬ (S.next <= n /\ n < S'.next)) ->
  After P ro E A S w a tm' S' (Q .normal) -> wpListIn (rd ro) 0 P opsA Q l a w
 | [], tm, tm', S, S', E, A, a, w, h, hops, ht, hg, hev, H, hA, hQ => by
  simp only [evOps, Option.some.injEq, Prod.mk.injEq] at h
  obtain ⟨rfl, rfl⟩ := h
  exact hQ E a w (Post.refl H) ⟨ht.tmps, fun x hx => Sc_or (ht.sc x hx)⟩ (Dfr.of_eq rfl)
 | o :: r, tm, tm', S, S', E, A, a, w, h, hops, ht, hg, hev, H, hA, hQ => by
  simp only [evOps] at h
  refine wpListIn_step fun K hK => ?_
  rw [wanted_eq ht]
  split at h
  ·rename_i hgd
   rw [if_pos hgd]
   split at h
   ·rename_i v S₁ hs
    simp only [Option.ite_none_right_eq_some] at h
    have hle := Nat.le_of_ble_eq_true h.1
    have hle' := evOps_mono h.2
    have hA₁ : ∀ n, A n -> ¬ (S.next <= n /\ n < S₁.next) := fun n hn hx => hA n hn (by omega)
    refine astep_sound hcf hnm ht hg hev H (hops o (by simp)) hA₁ hs (astep_noDefer hs) ro K Q ?_
    intro E₁ w₁ p hsc
    refine hK _ _ (evOps_sound hcf hnm h.2 (fun o' ho' => hops o' (by simp [ho'])) (ht.put (p.agreeA hA₁) (fun n hn => .inl hn) hsc) (hg.next (p.agreeA hA₁) fun n hn => .inl hn) (by rw [p.even, hev]) p.holds ?_ (hQ.trans p ?_ hle'))
    ·rintro n (hn | hn) hx
     ·exact hA n hn (by omega)
     ·omega
    ·exact Dfr.of_eq (by unfold Act.put; split <;> rfl)
   ·simp at h
  ·rename_i hgd
   rw [if_neg hgd]
   have hp : Tm E A (putD tm o.dst undef) (a.put o.dst undef) := by
    have := ht.put (E' := E) (B := A) (dst := o.dst) (v := undef) (fun n _ => ⟨rfl, rfl, rfl⟩) (fun n hn => hn) (Sc_undef _)
    rwa [ren_undef] at this
   refine ⟨fun _ _ => trivial, hK _ _ (evOps_sound hcf hnm h (fun o' ho' => hops o' (by simp [ho'])) hp hg hev H hA ?_)⟩
   intro E' a' w' p ht' hd'
   refine hQ E' a' w' p ht' ?_
   have he : (a.put o.dst undef).defers = a.defers := by unfold Act.put; split <;> rfl
   obtain ⟨Ds, e1, e2⟩ := hd'
   exact ⟨Ds, by rw [e1, he], e2⟩
theorem evalDraw_mono {ops : List Oper} {tm tm' : List Value} {S S' : St} (h : evalDraw callF P ops tm S = some (tm', S')) : S.next <= S'.next := by
 unfold evalDraw at h
 split at h
 ·rename_i F hF
  simp only [Option.ite_none_right_eq_some, Option.some.injEq, Prod.mk.injEq] at h
  obtain ⟨_, _, rfl⟩ := h
  obtain ⟨_, _, _, _, _, _, _, _, _, _, _, _, h, _⟩ := dRun_prefix hF
  exact h
 ·simp at h
theorem evalAny_mono {ops : List Oper} {tm tm' : List Value} {S S' : St} (h : evalAny callF P ops tm S = some (tm', S')) : S.next <= S'.next := by
 unfold evalAny at h
 split at h
 ·rename_i r hr
  obtain rfl := Option.some.inj h
  exact evalDraw_mono hr
 ·unfold evalSets at h
  split at h
  ·rename_i hN
   split at h
   ·simp only [Option.some.injEq, Prod.mk.injEq] at h
    obtain ⟨_, rfl⟩ := h
    exact nameRun_mono hN
   ·cases h
  ·cases h
theorem evC_mono : ∀ {f : Nat} {c : Code} {tm tm' : List Value} {S S' : St} {e : Exit}, evC callF P f c tm S = some (e, tm', S') -> S.next <= S'.next
 | 0, _, _, _, _, _, _, h => by simp [evC] at h
 | f + 1, c, tm, tm', S, S', e, h => by
  cases c with
  | region rid ops d =>
   cases d with
   | false =>
    simp only [evC] at h
    split at h
    ·rename_i h'
     simp only [Option.some.injEq, Prod.mk.injEq] at h
     obtain ⟨_, _, rfl⟩ := h
     exact evOps_mono h'
    ·simp at h
   | true =>
    simp only [evC] at h
    split at h
    ·rename_i h'
     simp only [Option.some.injEq, Prod.mk.injEq] at h
     obtain ⟨_, _, rfl⟩ := h
     exact evalAny_mono h'
    ·simp at h
  | seq x y =>
   simp only [evC] at h
   split at h
   ·rename_i h'
    exact Nat.le_trans (evC_mono h') (evC_mono h)
   ·exact evC_mono h
  | cond x y z =>
   simp only [evC] at h
   split at h
   ·exact evC_mono h
   ·exact evC_mono h
   ·simp at h
  | block id b =>
   simp only [evC] at h
   split at h
   ·rename_i h'
    split at h <;> (simp only [Option.some.injEq, Prod.mk.injEq] at h; obtain ⟨_, _, rfl⟩ := h; exact evC_mono h')
   ·exact evC_mono h
  | loop b =>
   simp only [evC] at h
   split at h
   ·rename_i h'
    exact Nat.le_trans (evC_mono h') (evC_mono h)
   ·exact evC_mono h
  | scope b =>
   simp only [evC] at h
   exact evC_mono h
  | rangeFunc g ps as b =>
   simp only [evC] at h
   repeat' split at h
   all_goals first
    | (simp at h; done)
    | (rename_i hle _ _ _ _ _ _ _
       simp only [Option.some.injEq, Prod.mk.injEq] at h; obtain ⟨_, _, rfl⟩ := h
       have := Nat.le_of_ble_eq_true hle; simp only; omega)
  | _ =>
   simp only [evC] at h
   first
    | (simp at h; done)
    | (simp only [Option.some.injEq, Prod.mk.injEq] at h; obtain ⟨_, _, rfl⟩ := h; exact Nat.le_refl _)
theorem evC_noGoto : ∀ {f : Nat} {c : Code} {tm tm' : List Value} {S S' : St} {l : Nat}, evC callF P f c tm S ≠ some (.goto l, tm', S')
 | 0, _, _, _, _, _, _ => by simp [evC]
 | f + 1, c, tm, tm', S, S', l => by
  intro h
  cases c with
  | region rid ops d =>
   cases d <;> (simp only [evC] at h; split at h <;> simp at h)
  | seq x y =>
   simp only [evC] at h
   split at h
   ·exact evC_noGoto h
   ·exact evC_noGoto h
  | cond x y z =>
   simp only [evC] at h
   split at h
   ·exact evC_noGoto h
   ·exact evC_noGoto h
   ·simp at h
  | block id b =>
   simp only [evC] at h
   split at h
   ·split at h <;> simp at h
   ·exact evC_noGoto h
  | loop b =>
   simp only [evC] at h
   split at h
   ·exact evC_noGoto h
   ·exact evC_noGoto h
  | scope b =>
   simp only [evC] at h
   exact evC_noGoto h
  | rangeFunc g ps as b =>
   simp only [evC] at h
   repeat' split at h
   all_goals first
    | (simp at h; done)
    | (rename_i e he
       simp only [Option.some.injEq, Prod.mk.injEq] at h
       obtain ⟨rfl, _⟩ := h
       unfold leaveOf at he
       split at he <;> simp at he)
  | _ => simp [evC] at h
section scope
variable {b : Frame} {a : Act} {k : List Item} {cs : List Frame} {w : World} {Q : Exit -> Act -> World -> Prop} {F : Fence} {n : Nat}
theorem stepR_scope' {c : Code} : step P (lone (b.atR a (.code (.scope c) :: k)) cs w) = .next (lone (b.atR a (.code c :: .inScope c :: k)) cs w) :=
 step_lone_go (by simp [stepG, stepG.exec, Frame.atR])
theorem stepR_inScope' {c : Code} : step P (lone (b.atR a (.inScope c :: k)) cs w) = .next (lone (b.atR a k) cs w) :=
 step_lone_go (by simp [stepG, stepG.exec, Frame.atR])
theorem wpIn_scope_straight {c : Code} (h : c.wpIn F n P (Exit.noGoto Q) a w) : (Code.scope c).wpIn F n P Q a w := by
 intro b k cs hro hb hr
 have h0 : (lone (b.atR a (.code (.scope c) :: k)) cs w).fenced P F := fenced_calm hb hr rfl
 obtain ⟨e, a₁, w₁, hq, harr⟩ := h b (.inScope c :: k) cs hro hb hr
 cases e with
 | normal => exact ⟨.normal, a₁, w₁, hq, .head h0 stepR_scope' (StepsIn.trans harr (.one (fenced_calm hb hr rfl) stepR_inScope'))⟩
 | exit id =>
  have hx : exitTo id (.inScope c :: k) = exitTo id k := by simp [exitTo]
  exact ⟨.exit id, a₁, w₁, hq, fun k' hk => .head h0 stepR_scope' (harr.1 k' (by rw [hx]; exact hk)),
   fun hr' hk => let ⟨k₁, h1, h2⟩ := harr.2 hr' (by rw [hx]; exact hk); ⟨k₁, h1, .head h0 stepR_scope' h2⟩⟩
 | goto l => exact hq.elim
 | ret => exact ⟨_, a₁, w₁, hq, .of_steps (.one h0 stepR_scope') harr⟩
 | panic ch => exact ⟨_, a₁, w₁, hq, .of_steps (.one h0 stepR_scope') harr⟩
 | outgrown => exact ⟨_, a₁, w₁, hq, .of_steps (.one h0 stepR_scope') harr⟩
end scope
theorem Holds.grow {E : Env} {A : Nat -> Prop} {h : List (Nat × Obj)} {w w' : World} (H : Holds P E A h w) (hw : ∀ k, k < w.heap.size -> w'.heap[k]? = w.heap[k]?) : Holds P E A h w' := by
 refine ⟨fun n o hn => ?_, H.inj⟩
 obtain ⟨h1, h2, oc, h3, h4⟩ := H.blk n o hn
 have hlt : E.β n < w.heap.size := by
  rcases Nat.lt_or_ge (E.β n) w.heap.size with h' | h'
  ·exact h'
  ·rw [Array.getElem?_eq_none h'] at h3; cases h3
 exact ⟨h1, h2, oc, by rw [hw _ hlt]; exact h3, h4⟩
theorem Holds.lt {E : Env} {A : Nat -> Prop} {h : List (Nat × Obj)} {w : World} (H : Holds P E A h w) {n : Nat} {o : Obj} (hn : getB h n = some o) : E.β n < w.heap.size := by
 obtain ⟨_, _, oc, h3, _⟩ := H.blk n o hn
 rcases Nat.lt_or_ge (E.β n) w.heap.size with h' | h'
 ·exact h'
 ·rw [Array.getElem?_eq_none h'] at h3; cases h3
theorem Post.unnamed {E : Env} {A : Nat -> Prop} {h : List (Nat × Obj)} {nx : Nat} {w : World} (H : Holds P E A h w) (o : Obj) : Post P E A h nx w E h nx (w.alloc o) where
 le := Nat.le_refl _
 even := rfl
 agree _ _ := ⟨rfl, rfl, rfl⟩
 holds := (H.grow fun k hk => RowKit.Below.heap_alloc w o k hk).mono fun _ hn => .inl hn
 os := rfl
 tape := rfl
 output := rfl
 size := by simp
 same b hb _ := RowKit.Below.heap_alloc w o b hb
 img n o' hn := .inl ⟨n, o', hn, rfl⟩
theorem Post.turn {E E' : Env} {A : Nat -> Prop} {h h' : List (Nat × Obj)} {nx nx' l : Nat} {w w' : World} {o : Obj} (p : Post P E A h nx w E' h' nx' w') (hl : w.heap.size <= l) (hn : ∀ n x, getB h' n = some x -> E'.β n ≠ l) :
  Post P E A h nx w E' h' nx' (w'.putObj l o) where
 le := p.le
 even := p.even
 agree := p.agree
 holds := ⟨fun n x hx => by
  obtain ⟨h1, h2, oc, h3, h4⟩ := p.holds.blk n x hx
  exact ⟨h1, h2, oc, by rw [World.putObj_heap_other (hn n x hx)]; exact h3, h4⟩, p.holds.inj⟩
 os := p.os
 tape := p.tape
 output := p.output
 size := by simp [World.putObj]; exact p.size
 same b hb hnot := by rw [World.putObj_heap_other (by omega)]; exact p.same b hb hnot
 img := p.img
theorem Tm.agree {E E' : Env} {A B : Nat -> Prop} {tm : List Value} {a a' : Act} (ht : Tm E A tm a) (hag : Agree A E E') (hAB : ∀ n, A n -> B n) (ha : a'.tmps = a.tmps) : Tm E' B tm a' := by
 refine ⟨?_, fun x hx => Sc_mono hAB x (ht.sc x hx)⟩
 rw [ha, ht.tmps, List.map_congr_left fun x hx => ren_agree hag x (ht.sc x hx)]
end
set_option maxHeartbeats 2000000
section
variable {P : Program} {callF : Fn -> List Value -> St -> Option (Value × St)}
theorem evRange_sound (hcf : CallOk P callF) (hnm : NamesOk P) {f : Nat} {g : Operand} {ps : Array Tmp} {as b : Code} {tm tm' : List Value} {S S' : St} {e : Exit} (h : evC callF P (f + 1) (.rangeFunc g ps as b) tm S = some (e, tm', S'))
  (hok : okCode P (.rangeFunc g ps as b) = true) {E : Env} {A : Nat -> Prop} {a : Act} {w : World} {Q : Exit -> Act -> World -> Prop} (ht : Tm E A tm a) (hg : Glb P E A) (hev : S.next % 2 = 0) (H : Holds P E A S.heap w)
  (hA : ∀ n, A n -> ¬ (S.next <= n /\ n < S'.next)) (hQ : After P none E A S w a tm' S' (Q e)) : (Code.rangeFunc g ps as b).wpIn (rd none) 0 P Q a w := by
 simp only [okCode] at hok
 obtain ⟨h1, h2⟩ := eval_ok ht hg hok
 simp only [evC] at h
 split at h
 case h_2 => simp at h
 rename_i gf first captured hfv
 rw [hfv, ren_func, renFn_func] at h1
 rw [hfv, Sc_func] at h2
 split at h
 case isFalse => simp at h
 rename_i hc
 simp only [Bool.and_eq_true] at hc
 obtain ⟨hc1, hc2⟩ := hc
 have e1 : first = #[] := by apply Array.ext'; simpa using hc1
 subst e1
 split at h
 case h_2 => simp at h
 rename_i v2 S2 hcall
 split at h
 case isFalse => simp at h
 rename_i hle
 have hle := Nat.le_of_ble_eq_true hle
 split at h
 case h_2 => simp at h
 rename_i r hr
 split at h
 case isTrue => simp at h
 rename_i hbusy
 split at h
 case h_2 => simp at h
 rename_i e' hleave
 simp only [Option.some.injEq, Prod.mk.injEq] at h
 obtain ⟨rfl, rfl, rfl⟩ := h
 simp only at hA hQ
 obtain ⟨fn0, hfn0, hbody0⟩ : ∃ fn, P.funcs[gf]? = some fn /\ fn.body.isSome = true := by
  unfold hasBody at hc2
  split at hc2
  ·rename_i fn hfn; exact ⟨fn, hfn, hc2⟩
  ·cases hc2
 refine wpIn_rangeFunc ?_
 intro fn _
 have p0 := Post.unnamed (nx := S.next) H (.deferred (some []))
 have hs0 : (w.alloc (.deferred (some []))).heap.size = w.heap.size + 1 := by simp
 have pn : Post P E (fun n => A n \/ (S.next <= n /\ n < S.next)) S.heap S.next (w.alloc (.deferred (some []))) (E.bind S.next (w.alloc (.deferred (some []))).heap.size 0 0)
   ((S.next, .loop ⟨.ready, none, 0, tm.toArray, ps, as, b, 0⟩) :: S.heap) (S.next + 2)
   ((w.alloc (.deferred (some []))).alloc (.loop { state := .ready, pending := none, fn, tmps := a.tmps, params := ps, assign := as, body := b, defers := w.heap.size })) := by
  refine Post.new p0.holds ?_ ⟨by omega, by omega⟩ ?_ ?_ rfl rfl rfl rfl
  ·rintro n (hn | hn) hx
   ·exact hA n hn (by omega)
   ·omega
  ·intro x hx
   exact Sc_mono (A := A) (fun n hn => Or.inl hn) x (ht.sc x (by simpa using hx))
  ·refine ⟨fn, w.heap.size, ?_⟩
   have hag : Agree A E (E.bind S.next (w.alloc (.deferred (some []))).heap.size 0 0) := by
    intro n hn
    have : n ≠ S.next := by rintro rfl; exact hA _ hn (by omega)
    simp [Env.bind, this]
   simp only
   rw [ht.tmps, List.map_congr_left fun x hx => (ren_agree hag x (ht.sc x hx)).symm]
   simp
 have p1 := p0.trans pn
 obtain ⟨E1, hE1⟩ : ∃ E1, E.bind S.next (w.alloc (.deferred (some []))).heap.size 0 0 = E1 := ⟨_, rfl⟩
 obtain ⟨W1, hW1⟩ : ∃ W1, (w.alloc (.deferred (some []))).alloc (.loop { state := .ready, pending := none, fn, tmps := a.tmps, params := ps, assign := as, body := b, defers := w.heap.size }) = W1 := ⟨_, rfl⟩
 have hβ : E1.β S.next = w.heap.size + 1 := by rw [<- hE1]; simp [Env.bind]
 have hD1 : W1.heap[w.heap.size]? = some (.deferred (some [])) := by
  rw [<- hW1, RowKit.Below.heap_alloc _ _ _ (by simp)]
  exact World.alloc_heap_new w _
 have hD1' : w.heap.size < W1.heap.size := by rw [<- hW1]; simp; omega
 rw [hE1, hW1] at p1
 have hA2 : ∀ n, (A n \/ (S.next <= n /\ n < S.next + 2)) -> ¬ (S.next + 2 <= n /\ n < S2.next) := by
  rintro n (hn | hn) hx
  ·exact hA n hn (by omega)
  ·omega
 have hA1 : ∀ n, A n -> ¬ (S.next <= n /\ n < S.next + 2) := fun n hn hx => hA n hn (by omega)
 have hag1 : Agree A E E1 := p1.agreeA hA1
 have hcalls := hcf (.func gf) _ _ _ _ hcall E1 _ W1 (hg.next hag1 fun n hn => .inl hn) (by simp only; omega) (by
  intro x hx
  rcases List.mem_cons.1 hx with rfl | hx
  ·rw [Sc_func]; exact ⟨.inr ⟨Nat.le_refl _, by omega⟩, by simp, by simp⟩
  ·exact Sc_mono (B := fun n => A n \/ (S.next <= n /\ n < S.next + 2)) (fun n hn => Or.inl hn) x (h2.2.2 x (by simpa using hx))) p1.holds hA2
 have hargs : ((Value.func (.yield S.next) #[] #[] :: captured.toList).map (ren E1)).toArray = #[.func (.yield (w.heap.size + 1)) #[] #[]] ++ captured.map (ren E) := by
  apply Array.ext'
  simp only [List.map_cons, ren_func, renFn_yield, hβ, Array.toList_append, Array.toList_map]
  rw [List.map_congr_left fun x hx => ren_agree hag1 x (h2.2.2 x (by simpa using hx))]
  simp
 rw [hargs] at hcalls
 have hen : (Instr.enterLoop fn a.tmps ps as b none).run P w = .ok (w.heap.size + 1, [markOf w.heap.size]) W1 := by
  rw [<- hW1]; exact run_enterLoop_outer _ _ _ _ _
 have hres : (resolve a.eval (rangeCall g (w.heap.size + 1)) 0).run P W1 = .ok { target := .fn (.func gf) (captured.map (ren E)), args := #[.func (.yield (w.heap.size + 1)) #[] #[]] } W1 := by
  unfold resolve rangeCall
  simp only [h1]
  simp [Deferred.ofValue, Act.eval]
 have hinv : (invoke (.fn (.func gf) (captured.map (ren E))) #[.func (.yield (w.heap.size + 1)) #[] #[]]).run P W1 = .ok (.enter gf (#[.func (.yield (w.heap.size + 1)) #[] #[]] ++ captured.map (ren E))) W1 :=
  run_callFunc_body hfn0 hbody0 (hnm gf fn0 hfn0 hbody0) W1
 refine ⟨_, _, W1, _, W1, gf, _, W1, hen, hres, fun _ _ => trivial, hinv, rd_depth none, (calls_rd hcalls).mono ?_⟩
 rintro en w2 ⟨E2, rfl, q, _⟩
 have pT := p1.trans q
 obtain ⟨_, _, oc, hoc, f', d', hoc'⟩ := q.holds.blk S.next _ hr
 have hβ2 : E2.β S.next = w.heap.size + 1 := by rw [(q.agree S.next (by simp only; omega)).1, hβ]
 rw [hβ2, hoc'] at hoc
 have hst : r.state ≠ .busy := by intro hx; rw [hx] at hbusy; exact hbusy rfl
 refine ⟨_, _, run_endLoop hoc hst, ?_⟩
 have hn : ∀ n x, getB (delB S2.heap S.next) n = some x -> E2.β n ≠ w.heap.size + 1 := by
  intro n x hx he
  obtain ⟨k1, k2⟩ := getB_delB _ _ _ _ hx
  exact k1 (q.holds.inj n S.next _ _ k2 hr (by rw [he, hβ2]))
 have pF := (pT.drop fun n o hx => (getB_delB _ _ _ _ hx).2).turn (l := w.heap.size + 1) (o := .loop { { r with fn := f', defers := d', tmps := r.tmps.map (ren E2) } with state := .exhausted }) (by omega) hn
 have hq := hQ E2 { a with defers := [markOf w.heap.size] ++ a.defers } _ pF (ht.agree (pT.agreeA hA) (fun n hn => .inl hn) rfl) ⟨[w.heap.size], rfl, by simp, by
  intro D hD
  obtain rfl := List.mem_singleton.1 hD
  refine ⟨Nat.le_refl _, ?_⟩
  rw [World.putObj_heap_other (by omega), q.same _ hD1' (p1.holds.noDeferred hD1)]
  exact hD1, by simp⟩
 unfold leaveOf at hleave
 split at hleave
 ·rename_i hp
  obtain rfl := Option.some.inj hleave
  simp only [hp] at hq ⊢
  exact hq
 ·rename_i hp
  obtain rfl := Option.some.inj hleave
  simp only [hp] at hq ⊢
  exact wpIn_ret hq
 ·rename_i j hp
  obtain rfl := Option.some.inj hleave
  simp only [hp] at hq ⊢
  exact wpIn_exit hq
 ·cases hleave
end
section
variable {P : Program} {callF : Fn -> List Value -> St -> Option (Value × St)}
def Sound (P : Program) (ev : Code -> List Value -> St -> Option (Exit × List Value × St)) : Prop :=
 ∀ c tm S e tm' S', ev c tm S = some (e, tm', S') -> okCode P c = true -> ∀ (ro : Option Nat), (ro.isSome = true -> noRF c = true) -> ∀ (E : Env) (A : Nat -> Prop) (a : Act) (w : World) (Q : Exit -> Act -> World -> Prop), Tm E A tm a -> Glb P E A -> S.next % 2 = 0 -> Holds P E A S.heap w ->
  (∀ n, A n -> ¬ (S.next <= n /\ n < S'.next)) -> After P ro E A S w a tm' S' (Q e) -> c.wpIn (rd ro) 0 P Q a w
theorem evC_sound (hm : P.follows .mixedOrders = true) (hcf : CallOk P callF) (hnm : NamesOk P) : ∀ (f : Nat), (Sound P (evC callF P f)) /\
  (∀ b tm S e tm' S', evC callF P f (.loop b) tm S = some (e, tm', S') -> okCode P b = true -> ∀ (ro : Option Nat), (ro.isSome = true -> noRF b = true) -> ∀ (E : Env) (A : Nat -> Prop) (a : Act) (w : World) (Q : Exit -> Act -> World -> Prop), Tm E A tm a -> Glb P E A -> S.next % 2 = 0 -> Holds P E A S.heap w ->
   (∀ n, A n -> ¬ (S.next <= n /\ n < S'.next)) -> After P ro E A S w a tm' S' (Q e) -> Code.roundsIn (rd ro) 0 P b Q f a w)
 | 0 => ⟨fun _ _ _ _ _ _ h => by simp [evC] at h, fun _ _ _ _ _ _ h => by simp [evC] at h⟩
 | f + 1 => by
  obtain ⟨IS, IR⟩ := evC_sound hm hcf hnm f
  have two : ∀ (ro : Option Nat) (x : Code) (next : Act -> World -> Prop) (tm : List Value) (S : St) (e : Exit) (tm' : List Value) (S' : St) (E : Env) (A : Nat -> Prop) (a : Act) (w : World) (Q : Exit -> Act -> World -> Prop) (rest : List Value -> St -> Option (Exit × List Value × St)),
    okCode P x = true -> (ro.isSome = true -> noRF x = true) -> (match evC callF P f x tm S with | some (.normal, tm₁, S₁) => rest tm₁ S₁ | r => r) = some (e, tm', S') -> (∀ tm₁ S₁, rest tm₁ S₁ = some (e, tm', S') -> S₁.next <= S'.next) ->
    (∀ tm₁ S₁ E₁ A₁ a₁ w₁, rest tm₁ S₁ = some (e, tm', S') -> Tm E₁ A₁ tm₁ a₁ -> Glb P E₁ A₁ -> S₁.next % 2 = 0 -> Holds P E₁ A₁ S₁.heap w₁ -> (∀ n, A₁ n -> ¬ (S₁.next <= n /\ n < S'.next)) -> After P ro E₁ A₁ S₁ w₁ a₁ tm' S' (Q e) -> next a₁ w₁) ->
    Tm E A tm a -> Glb P E A -> S.next % 2 = 0 -> Holds P E A S.heap w -> (∀ n, A n -> ¬ (S.next <= n /\ n < S'.next)) -> After P ro E A S w a tm' S' (Q e) -> x.wpIn (rd ro) 0 P (Exit.then next Q) a w := by
   intro ro x next tm S e tm' S' E A a w Q rest hx hro h hmono hrest ht hg hev H hA hQ
   split at h
   ·rename_i tm₁ S₁ h1
    have hle := evC_mono h1
    have hle' := hmono _ _ h
    have hA₁ : ∀ n, A n -> ¬ (S.next <= n /\ n < S₁.next) := fun n hn hx => hA n hn (by omega)
    refine IS x tm S .normal tm₁ S₁ h1 hx ro hro E A a w _ ht hg hev H hA₁ ?_
    intro E₁ a₁ w₁ p ht₁ hd₁
    refine hrest tm₁ S₁ E₁ _ a₁ w₁ h ht₁ (hg.next (p.agreeA hA₁) fun n hn => .inl hn) (by rw [p.even, hev]) p.holds ?_ (hQ.trans p hd₁ hle')
    rintro n (hn | hn) hx'
    ·exact hA n hn (by omega)
    ·omega
   ·rename_i hne
    refine IS x tm S e tm' S' h hx ro hro E A a w _ ht hg hev H hA ?_
    intro E₁ a₁ w₁ p ht₁ hd₁
    have hq := hQ E₁ a₁ w₁ p ht₁ hd₁
    cases e with
    | normal => exact absurd h (by intro h; exact hne _ _ h)
    | _ => exact hq
  refine ⟨?_, ?_⟩
  ·intro c tm S e tm' S' h hok ro hro E A a w Q ht hg hev H hA hQ
   cases c with
   | skip =>
    simp only [evC, Option.some.injEq, Prod.mk.injEq] at h; obtain ⟨rfl, rfl, rfl⟩ := h
    exact wpIn_skip (hQ E a w (Post.refl H) ⟨ht.tmps, fun x hx => Sc_or (ht.sc x hx)⟩ (Dfr.of_eq rfl))
   | label l =>
    simp only [evC, Option.some.injEq, Prod.mk.injEq] at h; obtain ⟨rfl, rfl, rfl⟩ := h
    exact wpIn_label (hQ E a w (Post.refl H) ⟨ht.tmps, fun x hx => Sc_or (ht.sc x hx)⟩ (Dfr.of_eq rfl))
   | exit id =>
    simp only [evC, Option.some.injEq, Prod.mk.injEq] at h; obtain ⟨rfl, rfl, rfl⟩ := h
    exact wpIn_exit (hQ E a w (Post.refl H) ⟨ht.tmps, fun x hx => Sc_or (ht.sc x hx)⟩ (Dfr.of_eq rfl))
   | ret =>
    simp only [evC, Option.some.injEq, Prod.mk.injEq] at h; obtain ⟨rfl, rfl, rfl⟩ := h
    exact wpIn_ret (hQ E a w (Post.refl H) ⟨ht.tmps, fun x hx => Sc_or (ht.sc x hx)⟩ (Dfr.of_eq rfl))
   | region rid ops d =>
    simp only [okCode, Bool.and_eq_true, Bool.or_eq_true, Bool.not_eq_true'] at hok
    cases d with
    | false =>
     simp only [evC] at h
     split at h
     ·rename_i h'
      simp only [Option.some.injEq, Prod.mk.injEq] at h
      obtain ⟨rfl, rfl, rfl⟩ := h
      refine wpIn_region_list (evOps_sound hcf hnm h' (fun o ho x hx => ?_) ht hg hev H hA hQ)
      obtain ⟨i, hi⟩ := List.mem_iff_getElem?.1 ho
      exact okOps_spec hok.1 i o x hi hx
     ·simp at h
    | true =>
     simp only [evC] at h
     split at h
     ·rename_i h'
      simp only [Option.some.injEq, Prod.mk.injEq] at h
      obtain ⟨rfl, rfl, rfl⟩ := h
      exact evalAny_sound hm hcf hnm hok.1 (hok.2.resolve_left (by simp)) h' ht hg hev H hA fun E' a' w' p ht' hd' => hQ E' a' w' p ht' (Dfr.of_eq hd')
     ·simp at h
   | seq x y =>
    simp only [okCode, Bool.and_eq_true] at hok
    simp only [evC] at h
    simp only [noRF, Bool.and_eq_true] at hro
    refine wpIn_seq (two ro x (y.wpIn (rd ro) 0 P Q) tm S e tm' S' E A a w Q (fun tm₁ S₁ => evC callF P f y tm₁ S₁) hok.1 (fun hr => (hro hr).1) h (fun _ _ h => evC_mono h) ?_ ht hg hev H hA hQ)
    intro tm₁ S₁ E₁ A₁ a₁ w₁ h1 ht₁ hg₁ hev₁ H₁ hA₁ hQ₁
    exact IS y tm₁ S₁ e tm' S' h1 hok.2 ro (fun hr => (hro hr).2) E₁ A₁ a₁ w₁ Q ht₁ hg₁ hev₁ H₁ hA₁ hQ₁
   | cond x y z =>
    simp only [okCode, Bool.and_eq_true] at hok
    simp only [evC] at h
    simp only [noRF, Bool.and_eq_true] at hro
    have hx := (eval_ok ht hg hok.1).1
    split at h
    ·rename_i hv
     rw [hv, ren_bool] at hx
     exact wpIn_cond_true hx (IS y tm S e tm' S' h hok.2.1 ro (fun hr => (hro hr).1) E A a w Q ht hg hev H hA hQ)
    ·rename_i hv
     rw [hv, ren_bool] at hx
     exact wpIn_cond_false hx (IS z tm S e tm' S' h hok.2.2 ro (fun hr => (hro hr).2) E A a w Q ht hg hev H hA hQ)
    ·simp at h
   | block id b =>
    simp only [okCode] at hok
    simp only [evC] at h
    split at h
    ·rename_i j tm₁ S₁ h1
     split at h
     ·rename_i hj
      simp only [Option.some.injEq, Prod.mk.injEq] at h
      obtain ⟨rfl, rfl, rfl⟩ := h
      refine wpIn_block (IS b tm S _ _ _ h1 hok ro hro E A a w _ ht hg hev H hA ?_)
      intro E₁ a₁ w₁ p ht₁ hd₁
      simp only [Exit.inBlock]
      rw [if_pos (Nat.eq_of_beq_eq_true hj)]
      exact hQ E₁ a₁ w₁ p ht₁ hd₁
     ·rename_i hj
      simp only [Option.some.injEq, Prod.mk.injEq] at h
      obtain ⟨rfl, rfl, rfl⟩ := h
      refine wpIn_block (IS b tm S _ _ _ h1 hok ro hro E A a w _ ht hg hev H hA ?_)
      intro E₁ a₁ w₁ p ht₁ hd₁
      simp only [Exit.inBlock]
      rw [if_neg (fun e => hj (by rw [e]; simp))]
      exact hQ E₁ a₁ w₁ p ht₁ hd₁
    ·rename_i hne
     refine wpIn_block (IS b tm S _ _ _ h hok ro hro E A a w _ ht hg hev H hA ?_)
     intro E₁ a₁ w₁ p ht₁ hd₁
     have hq := hQ E₁ a₁ w₁ p ht₁ hd₁
     cases e with
     | exit j => exact absurd h (by intro h; exact hne _ _ _ h)
     | _ => exact hq
   | loop b =>
    simp only [okCode] at hok
    have h0 := h
    simp only [evC] at h
    refine wpIn_loop_rounds (f + 1) ?_
    rw [roundsIn_succ]
    refine two ro b (Code.roundsIn (rd ro) 0 P b Q f) tm S e tm' S' E A a w Q (fun tm₁ S₁ => evC callF P f (.loop b) tm₁ S₁) hok hro h (fun _ _ h => evC_mono h) ?_ ht hg hev H hA hQ
    intro tm₁ S₁ E₁ A₁ a₁ w₁ h1 ht₁ hg₁ hev₁ H₁ hA₁ hQ₁
    exact IR b tm₁ S₁ e tm' S' h1 hok ro hro E₁ A₁ a₁ w₁ Q ht₁ hg₁ hev₁ H₁ hA₁ hQ₁
   | scope b =>
    simp only [okCode] at hok
    simp only [noRF] at hro
    simp only [evC] at h
    refine wpIn_scope_straight (IS b tm S e tm' S' h hok ro hro E A a w _ ht hg hev H hA ?_)
    intro E₁ a₁ w₁ p ht₁ hd₁
    have hq := hQ E₁ a₁ w₁ p ht₁ hd₁
    cases e with
    | goto l => exact absurd h (evC_noGoto)
    | _ => exact hq
   | rangeFunc g ps as b =>
    cases ro with
    | some l => have := hro rfl; cases this
    | none =>
     exact evRange_sound hcf hnm h hok ht hg hev H hA hQ
   | _ => simp [evC] at h
  ·intro b tm S e tm' S' h hok ro hro E A a w Q ht hg hev H hA hQ
   simp only [evC] at h
   rw [roundsIn_succ]
   refine two ro b (Code.roundsIn (rd ro) 0 P b Q f) tm S e tm' S' E A a w Q (fun tm₁ S₁ => evC callF P f (.loop b) tm₁ S₁) hok hro h (fun _ _ h => evC_mono h) ?_ ht hg hev H hA hQ
   intro tm₁ S₁ E₁ A₁ a₁ w₁ h1 ht₁ hg₁ hev₁ H₁ hA₁ hQ₁
   exact IR b tm₁ S₁ e tm' S' h1 hok ro hro E₁ A₁ a₁ w₁ Q ht₁ hg₁ hev₁ H₁ hA₁ hQ₁
end
section
variable {P : Program}
theorem asAddr_some (x : Addr) : asAddr (.pointer (some x)) = pure x := rfl
theorem aresults_sound {E : Env} {A : Nat -> Prop} {h : List (Nat × Obj)} {w : World} {tm : List Value} {a : Act} (H : Holds P E A h w) (ht : Tm E A tm a) : ∀ {rs : List ResultVar} {vs : List Value}, aresults P h tm rs = some vs ->
  (rs.mapM (m := Sem) fun | .tmp t => pure (a.tmps.getD t undef) | .cell ad t => do loadVar t (<- asAddr (a.tmps.getD ad undef))).run P w = .ok (vs.map (ren E)) w /\ (∀ v ∈ vs, Sc A v)
 | [], vs, hb => by
  simp only [aresults, Option.some.injEq] at hb; subst hb
  simp
 | .tmp t :: r, vs, hb => by
  simp only [aresults] at hb
  split at hb
  ·rename_i l hl
   simp only [Option.some.injEq] at hb; subst hb
   obtain ⟨h1, h2⟩ := aresults_sound H ht hl
   have hv : a.tmps.getD t undef = ren E (nth tm t) /\ Sc A (nth tm t) := by
    simp only [nth_get, ht.tmps]
    cases hx : tm[t]? with
    | none => simp [hx, ren_undef, Sc_undef]
    | some v => simp [hx]; exact ht.sc v (List.mem_of_getElem? hx)
   refine ⟨?_, ?_⟩
   ·simp only [List.mapM_cons, Sem.run_bind, Sem.run_pure, Result.andThen_ok, h1, hv.1, List.map_cons]
   ·intro v hv'
    rcases List.mem_cons.1 hv' with rfl | hv'
    ·exact hv.2
    ·exact h2 v hv'
  ·simp at hb
 | .cell ad t :: r, vs, hb => by
  simp only [aresults] at hb
  split at hb
  ·rename_i v l hv hl
   simp only [Option.some.injEq] at hb; subst hb
   obtain ⟨h1, h2⟩ := aresults_sound H ht hl
   have hav : a.tmps.getD ad undef = ren E (nth tm ad) := by
    simp only [nth_get, ht.tmps]
    cases hx : tm[ad]? with
    | none => simp [hx, ren_undef]
    | some v => simp [hx]
   obtain ⟨l1, l2⟩ := aload_sound H hv
   obtain ⟨p, hp⟩ : ∃ p, nth tm ad = .pointer (some p) := by
    unfold aload at hv
    split at hv
    ·rename_i e; exact ⟨_, e⟩
    ·simp at hv
   rw [hp, ren_ptr] at l1
   simp only [Instr.loadAt, Instr.sureAddr, Sem.run_bind, Sem.run_pure, Result.andThen_ok] at l1
   refine ⟨?_, ?_⟩
   ·simp only [List.mapM_cons, Sem.run_bind, Sem.run_pure, Result.andThen_ok, hav, hp, ren_ptr, asAddr_some, l1, h1, List.map_cons]
   ·intro v' hv'
    rcases List.mem_cons.1 hv' with rfl | hv'
    ·exact l2
    ·exact h2 v' hv'
  ·simp at hb
def oneOf (vs : List Value) : Value :=
 match vs with
 | [v] => v
 | vs => .tuple vs.toArray
theorem results_sound {E : Env} {A : Nat -> Prop} {h : List (Nat × Obj)} {w : World} {tm : List Value} {a : Act} {fn : Func} {vs : List Value} (H : Holds P E A h w) (ht : Tm E A tm a) (hb : aresults P h tm fn.results.toList = some vs) :
  (results fn a.tmps).run P w = .ok (ren E (oneOf vs)) w /\ Sc A (oneOf vs) := by
 obtain ⟨h1, h2⟩ := aresults_sound H ht hb
 constructor
 ·unfold results
  rw [Array.mapM_eq_mapM_toList]
  simp only [Sem.run_bind, Sem.run_map]
  generalize hR : Sem.run P (List.mapM _ fn.results.toList) w = R
  have hR' : R = .ok (vs.map (ren E)) w := hR.symm.trans h1
  subst hR'
  simp only [Result.andThen_ok, Sem.run_pure]
  rcases vs with _ | ⟨v, _ | ⟨u, r⟩⟩
  ·simp [oneOf, ren]
  ·simp [oneOf]
  ·simp [oneOf, ren]
 ·rcases vs with _ | ⟨v, _ | ⟨u, r⟩⟩
  ·simp [oneOf, Sc]
  ·exact h2 v (by simp)
  ·simp only [oneOf, Sc]
   intro x hx
   exact h2 x (by simpa using hx)
theorem okFuncs_spec {fs : Nat} : ∀ {n : Nat}, okFuncs P n fs = true -> ∀ f, f < n -> Nat.testBit fs f = true -> ∀ (fn : Func) (c : Code), P.funcs[f]? = some fn -> fn.body = some c -> okCode P c = true
 | 0, _, _, h, _, _, _, _, _ => by omega
 | n + 1, h, f, hf, hb, fn, c, hfn, hc => by
  simp only [okFuncs, Bool.and_eq_true, Bool.or_eq_true, Bool.not_eq_true'] at h
  by_cases hfn' : f = n
  ·subst hfn'
   rcases h.1 with h1 | h1
   ·rw [hb] at h1; cases h1
   ·rw [hfn] at h1
    simp only [hc] at h1
    exact h1
  ·exact okFuncs_spec h.2 f (by omega) hb fn c hfn hc
theorem leaves_marks {fn : Func} {tmps : Array Value} {R : Ending -> World -> Prop} {E E' : Env} {A : Nat -> Prop} {h h' : List (Nat × Obj)} {nx nx' : Nat} {w : World} (hfin : ∀ w'', Post P E A h nx w E' h' nx' w'' -> ∃ v, (results fn tmps).run P w'' = .ok v w'' /\ R (.returned v) w'') :
  ∀ (Ds : List Nat) (w' : World), Post P E A h nx w E' h' nx' w' -> (∀ D ∈ Ds, w.heap.size <= D /\ w'.heap[D]? = some (.deferred (some []))) -> Ds.Nodup -> LeavesInM (rd none) 0 P fn tmps R (Ds.map markOf) .returning w'
 | [], w', p, _, _ => hfin w' p
 | D :: Ds, w', p, hD, hnd => by
  obtain ⟨h1, h2⟩ := hD D (by simp)
  rw [List.nodup_cons] at hnd
  refine ⟨by simp, .inl ⟨D, _, rfl, run_takeDeferred h2, leaves_marks hfin Ds _ (p.turn h1 (p.holds.noDeferred h2)) ?_ hnd.2⟩⟩
  intro D' hD'
  obtain ⟨k1, k2⟩ := hD D' (by simp [hD'])
  refine ⟨k1, ?_⟩
  rw [World.putObj_heap_other (by rintro rfl; exact hnd.1 hD')]
  exact k2
theorem Post.loop {E : Env} {A : Nat -> Prop} {h : List (Nat × Obj)} {nx : Nat} {w : World} {l : Nat} {r r' : Loop} (H : Holds P E A h w) (hr : getB h l = some (.loop r)) (ht : r'.tmps = r.tmps) (hA : ∀ n, A n -> ¬ (nx <= n /\ n < nx)) (f : FuncId) (d : Nat) :
  Post P E A h nx w E (setB h l (.loop r')) nx (w.putObj (E.β l) (.loop { r' with fn := f, defers := d, tmps := r'.tmps.map (ren E) })) := by
 obtain ⟨h1, h2, _⟩ := H.blk l _ hr
 have hlt := H.lt hr
 refine Post.put (m := l) (b := E.β l) (o' := .loop r') H (Nat.le_refl _) rfl (fun _ _ => ⟨rfl, rfl, rfl⟩) (fun _ _ => rfl) hA (.inl h1) rfl ?_ ?_ ⟨f, d, rfl⟩ (World.putObj_heap_same hlt) (fun k hk _ => World.putObj_heap_other hk) (by simp [World.putObj]) rfl rfl rfl (.inl ⟨l, _, hr, rfl⟩)
 ·intro k x hk
  rcases getB_setB _ _ _ _ _ hk with ⟨rfl, rfl⟩ | ⟨hne, hg⟩
  ·exact .inl ⟨rfl, rfl⟩
  ·exact .inr ⟨hne, hg, fun e => hne (H.inj k l _ _ hg hr e)⟩
 ·intro x hx
  rw [ht] at hx
  exact Sc_mono (A := A) (fun n hn => Or.inl hn) x (h2 x hx)
theorem putAll_sound (E : Env) : ∀ (ps : List Tmp) (args tm : List Value), ps.length = args.length ->
  (ps.zip (args.map (ren E))).foldl (fun (t : Array Value) (x : Tmp × Value) => t.setIfInBounds x.1 x.2) (tm.map (ren E)).toArray = ((putAll ps args tm).map (ren E)).toArray
 | [], [], tm, _ => rfl
 | [], _ :: _, _, h => by simp at h
 | _ :: _, [], _, h => by simp at h
 | p :: ps, x :: xs, tm, h => by
  simp only [List.map_cons, List.zip_cons_cons, List.foldl_cons, putAll]
  rw [<- putAll_sound E ps xs (setNth tm p x) (by simpa using h)]
  rw [setNth_toArray]
  simp
theorem putAll_Sc {A : Nat -> Prop} : ∀ (ps : List Tmp) (args tm : List Value), (∀ x ∈ args, Sc A x) -> (∀ x ∈ tm, Sc A x) -> ∀ x ∈ putAll ps args tm, Sc A x
 | [], args, tm, _, h => by simpa [putAll] using h
 | _ :: _, [], tm, _, h => by simpa [putAll] using h
 | p :: ps, x :: xs, tm, ha, h => by
  simp only [putAll]
  exact putAll_Sc ps xs _ (fun y hy => ha y (by simp [hy])) (fun y hy => (mem_setNth hy).elim (fun e => by rw [e]; exact ha x (by simp)) (h y))
theorem evRound_sound {callF : Fn -> List Value -> St -> Option (Value × St)} (hm : P.follows .mixedOrders = true) (hcf : CallOk P callF) (hnm : NamesOk P) {fuel l : Nat} {args : List Value} {S S' : St} {v : Value} (h : evRound callF P fuel l args S = some (v, S'))
  {E : Env} {A : Nat -> Prop} {w : World} (hg : Glb P E A) (hev : S.next % 2 = 0) (hargs : ∀ x ∈ args, Sc A x) (H : Holds P E A S.heap w) (hA : ∀ n, A n -> ¬ (S.next <= n /\ n < S'.next)) :
  YieldAt Fence.wide 0 P (E.β l) (args.map (ren E)).toArray w fun e w' => ∃ E', e = .returned (ren E' v) /\ Post P E A S.heap S.next w E' S'.heap S'.next w' /\ Sc (fun n => A n \/ (S.next <= n /\ n < S'.next)) v := by
 unfold evRound at h
 split at h
 case h_2 => simp at h
 rename_i r hr
 split at h
 case isFalse => simp at h
 rename_i hc
 simp only [Bool.and_eq_true] at hc
 obtain ⟨⟨⟨c1, c2⟩, c3, c4⟩, c5, c6⟩ := hc
 have c2 := Nat.eq_of_beq_eq_true c2
 split at h
 case h_2 => simp at h
 rename_i tm1 S1 hs1
 split at h
 case h_2 => simp at h
 rename_i r1 hr1
 split at h
 case isFalse => simp at h
 rename_i hready
 split at h
 case h_2 => simp at h
 rename_i e tm3 S3 hs3
 split at h
 case h_2 => simp at h
 rename_i r3 j hr3 hj
 simp only [Option.some.injEq, Prod.mk.injEq] at h
 obtain ⟨rfl, rfl⟩ := h
 simp only at hA ⊢
 have m1 := evC_mono hs1
 have m3 := evC_mono hs3
 simp only at m3
 obtain ⟨hAl, hscr, oc, hoc, f', d', rfl⟩ := H.blk l _ hr
 have IS := (evC_sound hm hcf hnm fuel).1
 refine ⟨f', _, r.assign, r.body, run_yield hoc (by simp [c2]), ?_⟩
 have htm : ((r.params.zip (args.map (ren E)).toArray).foldl (fun (t : Array Value) (x : Tmp × Value) => t.setIfInBounds x.1 x.2) (r.tmps.map (ren E))) = ((putAll r.params.toList args r.tmps.toList).map (ren E)).toArray := by
  rw [<- putAll_sound E _ _ _ (by simpa using c2.symm), <- Array.foldl_toList]
  congr 1
  ·apply Array.ext'; simp
  ·simp
 have hgoal : RoundIn Fence.wide 0 P (E.β l) f' ((putAll r.params.toList args r.tmps.toList).map (ren E)).toArray r.assign r.body w fun e w' => ∃ E', e = .returned (ren E' (.bool j.isNone)) /\
   Post P E A S.heap S.next w E' (setB S3.heap l (.loop { r3 with state := if j.isNone then .ready else .done, pending := j })) S3.next w' /\ Sc (fun n => A n \/ (S.next <= n /\ n < S3.next)) (.bool j.isNone) := by
  refine roundIn_of_wpIn trivial ?_
  have ht0 : Tm E A (putAll r.params.toList args r.tmps.toList) { tmps := ((putAll r.params.toList args r.tmps.toList).map (ren E)).toArray, defers := [] } :=
   ⟨rfl, putAll_Sc _ _ _ hargs fun x hx => hscr x (by simpa using hx)⟩
  have hA1 : ∀ n, A n -> ¬ (S.next <= n /\ n < S1.next) := fun n hn hx => hA n hn (by omega)
  refine IS r.assign _ S .normal tm1 S1 hs1 c5 (some (E.β l)) (fun _ => c3) E A _ w _ ht0 hg hev H hA1 ?_
  intro E1 a1 w1 p1 ht1 hd1
  obtain ⟨hAl1, _, oc1, hoc1, f1, d1, rfl⟩ := p1.holds.blk l _ hr1
  have hb1 : E1.β l = E.β l := (p1.agree l (hA1 l hAl)).1
  rw [hb1] at hoc1
  have hst : r1.state = .ready := by
   unfold isReady at hready
   split at hready
   ·assumption
   ·cases hready
  refine ⟨_, run_beginRound hoc1 hst, ?_⟩
  have hAA : ∀ n, (A n \/ (S.next <= n /\ n < S1.next)) -> ¬ (S1.next <= n /\ n < S1.next) := fun n _ hx => by omega
  have pb := Post.loop (nx := S1.next) (r' := { r1 with state := .busy }) p1.holds hr1 rfl hAA f1 d1
  rw [hb1] at pb
  have p12 := p1.trans pb
  have hA3 : ∀ n, (A n \/ (S.next <= n /\ n < S1.next)) -> ¬ (S1.next <= n /\ n < S3.next) := by
   rintro n (hn | hn) hx
   ·exact hA n hn (by omega)
   ·omega
  refine IS r.body tm1 ⟨setB S1.heap l (.loop { r1 with state := .busy }), S1.next⟩ e tm3 S3 hs3 c6 (some (E.β l)) (fun _ => c4) E1 _ a1 _ _ ht1 (hg.next (p1.agreeA hA1) fun n hn => .inl hn) (by rw [<- hev]; exact p1.even) p12.holds hA3 ?_
  intro E3 a3 w3 p3 ht3 hd3
  have p123 := p12.trans p3
  obtain ⟨_, _, oc3, hoc3, f3, d3, rfl⟩ := p123.holds.blk l _ hr3
  have hb3 : E3.β l = E.β l := (p123.agree l (hA l hAl)).1
  have hBB : ∀ n, (A n \/ (S.next <= n /\ n < S3.next)) -> ¬ (S3.next <= n /\ n < S3.next) := fun n _ hx => by omega
  have pe := Post.loop (nx := S3.next) (r' := { r3 with state := if j.isNone then .ready else .done, pending := j }) p123.holds hr3 rfl hBB f3 d3
  have pF := p123.trans pe
  rw [hb3] at hoc3 pF
  have hres : ∀ jj, jj = j -> ∃ v w', (Instr.endRound (E.β l) jj).run P w3 = .ok v w' /\ ∃ E', Ending.returned v = .returned (ren E' (.bool j.isNone)) /\
    Post P E A S.heap S.next w E' (setB S3.heap l (.loop { r3 with state := if j.isNone then .ready else .done, pending := j })) S3.next w' /\ Sc (fun n => A n \/ (S.next <= n /\ n < S3.next)) (.bool j.isNone) := by
   rintro jj rfl
   exact ⟨_, _, run_endRound jj hoc3, E3, by rw [ren_bool], pF, Sc_bool _ _⟩
  cases e with
  | normal => exact hres none (by simpa [jumpOf] using hj)
  | ret => exact hres (some .ret) (by simpa [jumpOf] using hj)
  | exit id => exact hres (some (.exit id)) (by simpa [jumpOf] using hj)
  | _ => simp [jumpOf] at hj
 rw [<- htm] at hgoal
 exact hgoal
def OrcOk (P : Program) (orc : FuncId -> List Value -> St -> Option (Value × St)) : Prop :=
 ∀ f args S v S', orc f args S = some (v, S') -> ∀ (E : Env) (A : Nat -> Prop) (w : World), Glb P E A -> S.next % 2 = 0 -> (∀ x ∈ args, Sc A x) -> Holds P E A S.heap w ->
  (∀ n, A n -> ¬ (S.next <= n /\ n < S'.next)) ->
  Calls P f (args.map (ren E)).toArray w fun e w' => ∃ E', e = .returned (ren E' v) /\ Post P E A S.heap S.next w E' S'.heap S'.next w' /\ Sc (fun n => A n \/ (S.next <= n /\ n < S'.next)) v
theorem evCall_sound (hm : P.follows .mixedOrders = true) (hnm : NamesOk P) {orc : FuncId -> List Value -> St -> Option (Value × St)} (horc : OrcOk P orc) {fs : Nat} (hok : okFuncs P P.funcs.size fs = true) (fuel : Nat) : ∀ d, CallOk P (evCall orc P fs fuel d)
 | 0 => fun _ _ _ _ _ h => by simp [evCall] at h
 | d + 1 => by
  intro F args S v S' h E A w hg hev hargs H hA
  have ih := evCall_sound hm hnm horc hok fuel d
  cases F with
  | method m => simp [evCall] at h
  | methodOf t m => simp [evCall] at h
  | via t p f b => simp [evCall] at h
  | yield l =>
   simp only [evCall] at h
   exact evRound_sound hm ih hnm h hg hev hargs H hA
  | func f =>
  simp only [FnDoes]
  simp only [evCall] at h
  split at h
  ·rename_i hfs
   split at h
   ·simp at h
   ·rename_i fn hfn
    split at h
    ·simp at h
    ·rename_i c hc
     have hokc : okCode P c = true := okFuncs_spec hok f (Array.getElem?_eq_some_iff.1 hfn).1 hfs fn c hfn hc
     refine (callsIn_wide (n := 0)).1 (callsIn_of_wp_marks hfn hc trivial ?_)
     have ht : Tm E A (args ++ List.replicate (fn.ntmps - args.length) undef) { tmps := (args.map (ren E)).toArray ++ Array.replicate (fn.ntmps - (args.map (ren E)).toArray.size) undef, defers := [] } := by
      refine ⟨?_, ?_⟩
      ·simp [ren_undef]
      ·intro x hx
       rcases List.mem_append.1 hx with hx | hx
       ·exact hargs x hx
       ·rw [(List.mem_replicate.1 hx).2]; exact Sc_undef _
     have key : ∀ (e : Exit) (tm : List Value) (S₁ : St), evC (evCall orc P fs fuel d) P fuel c (args ++ List.replicate (fn.ntmps - args.length) undef) S = some (e, tm, S₁) -> (e = .normal \/ e = .ret) ->
       (match aresults P S₁.heap tm fn.results.toList with
        | some vs => if (plain (oneOf vs) && noPtrAll args) = true then some (oneOf vs, (⟨dropNew S.next S₁.heap, S₁.next⟩ : St)) else some (oneOf vs, S₁)
        | none => none) = some (v, S') ->
       c.wpIn (rd none) 0 P (bodyPostM (rd none) 0 P fn fun e w' => ∃ E', e = .returned (ren E' v) /\ Post P E A S.heap S.next w E' S'.heap S'.next w' /\ Sc (fun n => A n \/ (S.next <= n /\ n < S'.next)) v) { tmps := (args.map (ren E)).toArray ++ Array.replicate (fn.ntmps - (args.map (ren E)).toArray.size) undef, defers := [] } w := by
      intro e tm S₁ h1 he h2
      split at h2
      ·rename_i vs hvs
       have hS' : S'.next = S₁.next /\ v = oneOf vs /\ (∀ n o, getB S'.heap n = some o -> getB S₁.heap n = some o) := by
        split at h2
        ·simp only [Option.some.injEq, Prod.mk.injEq] at h2; obtain ⟨rfl, rfl⟩ := h2
         exact ⟨rfl, rfl, fun n o hn => (getB_dropNew _ _ _ _ hn).1⟩
        ·simp only [Option.some.injEq, Prod.mk.injEq] at h2; obtain ⟨rfl, rfl⟩ := h2
         exact ⟨rfl, rfl, fun _ _ hn => hn⟩
       obtain ⟨e1, rfl, e3⟩ := hS'
       refine (evC_sound hm ih hnm fuel).1 c _ S e tm S₁ h1 hokc none (fun hx => by cases hx) E A _ w _ ht hg hev H (by rw [<- e1]; exact hA) ?_
       intro E' a' w' p ht' hd
       obtain ⟨Ds, hd1, _, hd2, hd3⟩ := hd
       simp only [List.append_nil] at hd1
       have this : LeavesInM (rd none) 0 P fn a'.tmps (fun e w' => ∃ E', e = .returned (ren E' (oneOf vs)) /\ Post P E A S.heap S.next w E' S'.heap S'.next w' /\ Sc (fun n => A n \/ (S.next <= n /\ n < S'.next)) (oneOf vs)) a'.defers .returning w' := by
        rw [hd1]
        refine leaves_marks (fun w'' p'' => ?_) Ds w' p hd2 hd3
        obtain ⟨r1, r2⟩ := results_sound (fn := fn) p''.holds ht' hvs
        refine ⟨_, r1, E', rfl, ?_, ?_⟩
        ·rw [e1]; exact p''.drop e3
        ·rw [e1]; exact r2
       rcases he with rfl | rfl
       ·exact this
       ·exact this
      ·simp at h2
     split at h
     ·rename_i tm S₁ h1
      exact key _ tm S₁ h1 (.inl rfl) h
     ·rename_i tm S₁ h1
      exact key _ tm S₁ h1 (.inr rfl) h
     ·simp at h
  ·exact horc f args S v S' h E A w hg hev hargs H hA
end
end Go.Dam
