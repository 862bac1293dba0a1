/- An own evaluator of closed runs of a program, proved sound against the model: one part of it. -/
import Derived.Test.YtgkhemnmcgicnaaGreatDoorG21
import Derived.LoopNIn
import Derived.RangeFuncRecord
import Derived.RangeFuncIn
import Derived.Scope
import Derived.Below
import Derived.Laws.Sem
namespace Go.Dam
theorem FA {p q : Nat -> Bool} : ∀ {al : List (Nat × Nat × Obj)}, (∀ x ∈ al, p x.1 = q x.1) -> own p al = own q al
 | [], _ => rfl
 | (j, n, o) :: r, h => by
  have hj : p j = q j := h (j, n, o) (by simp)
  simp only [own]
  rw [FA (al := r) fun x hx => h x (by simp [hx]), hj]
section
variable {P : Program} {callF : Fn -> List Value -> St -> Option (Value × St)} {opsA : Array Oper} {ms : List Nat} {tm0 : List Value} {F : DR} {E0 : bV} {A : Nat -> Prop} {S : St} {w0 : World} {a0 : Act}
variable {L L' : Nat -> Bool} {E : bV} {tm : List Value} {k : Nat} {a : Act} {w : World} {i : Nat} {o : Oper} {r : JY}
theorem KT.globals (C : KT P callF opsA.toList ms tm0 F E0 A S) (hJ : rF P opsA.toList ms tm0 F E0 A S w0 a0 L E tm k a w) : rM P E (AL F.recs A L) := by
 intro g hg
 obtain ⟨h1, h2, h3⟩ := C.glb g hg
 obtain ⟨e1, e2, _⟩ := hJ.post.agree (2 * g) (C.out _ h3)
 exact ⟨by rw [e1, h1], by rw [e2, h2], .inl h3⟩
theorem QC (C : KT P callF opsA.toList ms tm0 F E0 A S) (hL' : ∀ l, L' l = true ↔ L l = true \/ l = i) (hno : ∀ n y, (i, n, y) ∉ F.al) : ∀ n x, aL (hp ms F L' k) n = some x -> aL (hp ms F L k) n = some x := by
 intro n x hg
 unfold hp at hg |-
 rcases C.getHp hg with ⟨j, hj, hp⟩ | ⟨hn, hg⟩
 ·simp only [yd] at hp
  rcases (hL' j).1 hp.1 with hl | rfl
  ·exact C.inOwn hj (by simp only [yd]; exact ⟨hl, hp.2⟩)
  ·exact absurd hj (hno n x)
 ·rw [pM]
  ·exact hg
  ·intro j y hj
   have := hn j y hj
   cases hl : L j with
   | false => rfl
   | true => rw [(hL' j).2 (.inl hl)] at this; simpa using this
theorem rF.step (C : KT P callF opsA.toList ms tm0 F E0 A S) (hJ : rF P opsA.toList ms tm0 F E0 A S w0 a0 L E tm k a w) (ho : opsA.toList[i]? = some o) (hi : L i = false)
  (hm : ∀ j, Nat.testBit (eG ms i) j = true -> L j = true) (hdown : ∀ l, L l = true -> ∀ j, Nat.testBit (eG ms l) j = true -> L j = true) (hL' : ∀ l, L' l = true ↔ L l = true \/ l = i)
  {ro : Option Nat} {K : Act -> World -> Prop} {Q : Exit -> Act -> World -> Prop} (hK : ∀ E' tm' k' a' w', rF P opsA.toList ms tm0 F E0 A S w0 a0 L' E' tm' k' a' w' -> K a' w') :
  if Region.wanted o (yielded opsA a.tmps) = true then o.wpIn (rd ro) 0 P a w K Q else K (a.put o.dst undef) w := by
 obtain ⟨r, hf, hn1, hn2⟩ := C.facts.fact i o (Nat.zero_le _) ho
 have hr := hf.record
 have hslot : ∀ t, u9 ms opsA.toList i t = true -> tN tm t = tN r.tm t := fun t ht =>
  kP.agree C.facts.recs hJ.slots hf.slots ht hi ((yR i i).2 (yh _)) hm (fun l hl => (tW l i).2 (C.ok.mask i o l ho hl).1)
   (fun l hl hs => by
    cases hLl : L l with
    | false => rfl
    | true => rw [hdown l hLl i hl] at hi; cases hi)
   (fun l hl hs => by
    obtain ⟨o', ho'⟩ := Option.isSome_iff_exists.1 hs
    have := (C.ok.mask l o' i ho' hl).1
    exact (yR l i).2 (by omega))
 have hopd : ∀ x ∈ o.op.operands, aH tm x = aH r.tm x := by
  intro x hx
  cases x with
  | tmp t => exact hslot t (C.ok.slot i o _ t ho hx rfl)
  | _ => rfl
 have hgd : pZ opsA.toList tm o = r.on := by
  rw [hf.on]
  exact GY fun g want p d hg hp hd => hslot d (C.ok.guard i o g want p d ho hg hp hd)
 have hnoeff : ¬ (r.on = true /\ kind o.op ≠ 0 /\ kind o.op ≠ 1 /\ kind o.op ≠ 2) -> ∀ t e, F.es[t]? = some e -> (L' e = true ↔ t < k) := by
  intro hne t e he
  rw [hL', <- hJ.keff t e he]
  refine ⟨fun h => h.resolve_right ?_, .inl⟩
  rintro rfl
  rcases C.facts.effects t e he with h | ⟨o', r', ho', hr', h⟩
  ·exact h
  ·rw [ho] at ho'; obtain rfl := yg ho'
   rw [hr] at hr'; obtain rfl := yg hr'
   exact hne h
 have hnolay : ¬ (r.on = true /\ kind o.op = 2) -> ∀ n y, (i, n, y) ∉ F.al := by
  intro hne n y hy
  rcases C.facts.laid _ hy with h | ⟨o', r', ho', hr', h1, h2, _⟩
  ·exact h
  ·rw [ho] at ho'; obtain rfl := yg ho'
   rw [hr] at hr'; obtain rfl := yg hr'
   exact hne ⟨h1, h2⟩
 rw [yQ hJ.tm, hgd]
 cases hon : r.on with
 | false =>
  obtain ⟨u1, u2⟩ := hf.off hon
  have hq : aX P E (AL F.recs A L) (hp ms F L k) r.nx w E (hp ms F L k) r.nx' w := by rw [u2]; exact aX.refl hJ.holds
  have := hJ.next C ho hr hi hL' (k' := k) hq (fun _ _ h => h) (fun n x hg => .inl (QC C hL' (hnolay (by simp [hon])) n x hg)) (by rw [u1]; exact l6 _) hJ.kle (hnoeff (by simp [hon]))
  rw [u1, iV] at this
  simp only [ym, if_false]
  exact hK _ _ _ _ _ this
 | true =>
  simp only [if_true]
  have hsel : ∀ {T S' : St} {v : Value}, bQ callF P r.tm T o = some (v, S') -> ∀ cs b, o.op ≠ .select cs b := by
   intro T S' v h cs b e
   obtain ⟨dst, op, ty, pos, after, guard⟩ := o
   simp only at e
   subst e
   simp [bQ] at h
  have run : ∀ {h : List (Nat × Obj)} {S' : St} {k' : Nat}, bQ callF P r.tm ⟨h, r.nx⟩ o = some (r.v, S') -> S'.next = r.nx' ->
    (∀ n x, aL h n = some x -> aL (hp ms F L k) n = some x) -> (∀ n x, aL (hp ms F L' k') n = some x -> aL S'.heap n = some x \/ (aL (hp ms F L k) n = some x /\ aL h n = none)) ->
    k' <= F.es.length -> (∀ t e, F.es[t]? = some e -> (L' e = true ↔ t < k')) -> o.wpIn (rd ro) 0 P a w K Q := by
   intro h S' k' hs hnx hsub hh hk' heff'
   have hs' : bQ callF P tm ⟨h, r.nx⟩ o = some (r.v, S') := by rw [KP (hsel hs) hopd]; exact hs
   refine sU (A := AL F.recs A L) C.calls C.names hJ.tm (C.globals hJ) (S := ⟨h, r.nx⟩) hf.ev (hJ.holds.sub hsub) (fun x hx => C.opd i o x ho hx) (by simp only [hnx]; exact C.apartAL hr hi) hs' (o5 hs') ro K Q ?_
   intro E' w' hq hsc
   rw [hnx] at hq hsc
   exact hK _ _ _ _ _ (hJ.next C ho hr hi hL' hq hsub hh hsc hk' heff')
  by_cases hk2 : kind o.op = 2
  ·obtain ⟨n, b, hmem, hs⟩ := hf.lays hon hk2
   refine run (k' := k) hs rfl (fun _ _ h => by simp [aL] at h) ?_ hJ.kle (hnoeff (by simp [hk2]))
   intro n' x hg
   unfold hp at hg
   rcases C.getHp hg with ⟨j, hj, hp'⟩ | ⟨hn, hg⟩
   ·simp only [yd] at hp'
    rcases (hL' j).1 hp'.1 with hl | rfl
    ·exact .inr ⟨C.inOwn hj (by simp only [yd]; exact ⟨hl, hp'.2⟩), rfl⟩
    ·left
     rcases C.facts.laid _ hj with h | ⟨o', r', ho', hr', _, _, h3⟩
     ·exact h.elim
     ·rw [ho] at ho'; obtain rfl := yg ho'
      rw [hr] at hr'; obtain rfl := yg hr'
      rw [hs] at h3
      simp only [ya, yc, St.mk.injEq, List.cons.injEq, and_true, true_and] at h3
      obtain ⟨rfl, rfl⟩ := h3
      simp [aL]
   ·right
    refine ⟨?_, rfl⟩
    unfold hp
    rw [pM]
    ·exact hg
    ·intro j y hj
     have := hn j y hj
     cases hl : L j with
     | false => rfl
     | true => rw [(hL' j).2 (.inl hl)] at this; simpa using this
  by_cases hk01 : kind o.op = 0 \/ kind o.op = 1
  ·obtain ⟨hnx, k0, S', hk0, hs⟩ := hf.reads hon hk01
   have hst := zZ hk01 hs
   have hsk : bQ callF P r.tm ⟨seen ms F.es F.hs F.al i k, r.nx⟩ o = some (r.v, ⟨seen ms F.es F.hs F.al i k, r.nx⟩) := by
    rcases hk01 with h0 | h1
    ·exact NB h0 hs
    ·have hrd := C.reads i o r ho hr hon h1 k hJ.kle
     unfold GE at hrd
     simp only [yu] at hrd
     rcases hrd with (hrd | hrd) | hrd
     ·obtain ⟨t, e, ht, he, hb⟩ := E8 hrd
      rw [hdown e ((hJ.keff t e he).2 ht) i hb] at hi; cases hi
     ·obtain ⟨e, he, hb⟩ := List.any_eq_true.1 hrd
      obtain ⟨t, ht⟩ := List.mem_iff_getElem?.1 he
      rw [List.getElem?_drop] at ht
      have := (hJ.keff _ e ht).1 (hm e hb)
      omega
     ·split at hrd
      ·rename_i v S₂ hs2
       obtain rfl := nJ hrd
       obtain rfl := zZ (.inr h1) hs2
       exact hs2
      ·cases hrd
   refine run (k' := k) hsk hnx.symm (C.seen_sub hJ.kle hm) ?_ hJ.kle (hnoeff (by rcases hk01 with h | h <;> simp [h]))
   intro n x hg
   have h1 := QC C hL' (hnolay (by simp [hk2])) n x hg
   cases hc : aL (seen ms F.es F.hs F.al i k) n with
   | none => exact .inr ⟨h1, rfl⟩
   | some y =>
    have := C.seen_sub hJ.kle hm n y hc
    rw [h1] at this; obtain rfl := yg this
    exact .inl rfl
  ·have hk0 : kind o.op ≠ 0 := fun h => hk01 (.inl h)
   have hk1 : kind o.op ≠ 1 := fun h => hk01 (.inr h)
   obtain ⟨t, S', ht, hprev, hs, hnx, hheap⟩ := hf.effect hon hk0 hk1 hk2
   have htl := (yi.1 ht).1
   have htk : t = k := by
    have h1 : ¬ t < k := fun h => by rw [(hJ.keff t i ht).2 h] at hi; cases hi
    rcases Nat.lt_or_ge k t with h | h
    ·have hkl : k < F.es.length := by omega
     have hek : F.es[k]? = some F.es[k] := yyi hkl
     have := (hJ.keff k _ hek).1 (hm _ (hprev k _ h hek))
     omega
    ·omega
   subst htk
   refine run (k' := t + 1) hs hnx (C.seen_sub hJ.kle hm) ?_ htl ?_
   ·intro n x hg
    unfold hp at hg
    rcases C.getHp hg with ⟨j, hj, hp'⟩ | ⟨hn, hg⟩
    ·simp only [yd, yyb, E9 ht, Bool.or_eq_false_iff] at hp'
     obtain ⟨q1, q2, q3⟩ := hp'
     right
     rcases (hL' j).1 q1 with hl | rfl
     ·refine ⟨C.inOwn hj (by simp only [yd, yyb]; exact ⟨hl, q2⟩), ?_⟩
      unfold seen
      rw [pM]
      ·exact qF C.apart j n x t hj hJ.kle q2
      ·intro j' y hj'
       obtain ⟨rfl, _⟩ := wS C.twice hj' hj
       simp [q3]
     ·exact absurd hj (hnolay (by simp [hk2]) n x)
    ·left; rw [<- hheap]; exact hg
   ·intro s e he
    rw [hL', hJ.keff s e he]
    constructor
    ·rintro (h | rfl)
     ·omega
     ·rcases Nat.lt_trichotomy s t with h | h | h
      ·omega
      ·omega
      ·have h1 := List.pairwise_iff_getElem.1 C.facts.sorted t s htl (yi.1 he).1 h
       rw [(yi.1 ht).2, (yi.1 he).2] at h1
       omega
    ·intro h
     rcases Nat.lt_or_ge s t with h' | h'
     ·exact .inl h'
     ·obtain rfl : s = t := by omega
      rw [ht] at he; exact .inr (yg he).symm
end
section
variable {P : Program} {callF : Fn -> List Value -> St -> Option (Value × St)} {opsA : Array Oper} {ms : List Nat} {tm0 : List Value} {F : DR} {E0 : bV} {A : Nat -> Prop} {S : St} {w0 : World} {a0 : Act}
theorem rF.any (C : KT P callF opsA.toList ms tm0 F E0 A S) {ro : Option Nat} {Q : Exit -> Act -> World -> Prop}
  (hQ : ∀ E tm k a w L, (∀ j, j < opsA.size -> L j = true) -> rF P opsA.toList ms tm0 F E0 A S w0 a0 L E tm k a w -> Q .normal a w) :
  ∀ (fuel : Nat) (listed : Array Bool) (rem : List Nat) (E : bV) (tm : List Value) (k : Nat) (a : Act) (w : World), listed.size = opsA.size -> rem.length <= fuel -> (∀ j, j < opsA.size -> listed.getD j false = false -> j ∈ rem) ->
   (∀ l, listed.getD l false = true -> ∀ j, Nat.testBit (eG ms l) j = true -> listed.getD j false = true) ->
   rF P opsA.toList ms tm0 F E0 A S w0 a0 (fun j => listed.getD j false) E tm k a w -> wpAnyIn (rd ro) 0 P .any opsA Q fuel listed a w := by
 have hall : ∀ (listed : Array Bool), listed.size = opsA.size -> Region.ready .any opsA listed = [] -> ∀ j, j < opsA.size -> listed.getD j false = true := by
  intro listed hsz hr j
  induction j using Nat.strongRecOn with
  | _ j ih =>
   intro hj
   cases hc : listed.getD j false with
   | true => rfl
   | false =>
    exfalso
    have ho : opsA[j]? = some opsA[j] := Array.getElem?_eq_getElem hj
    have : j ∈ Region.ready .any opsA listed := by
     rw [mem_ready]
     refine ⟨?_, opsA[j], ho, fun e he hb => ?_⟩
     ·have hjl : j < listed.size := by omega
      simp only [Array.getD, hjl, dif_pos] at hc |-
      exact hc
     ·have := C.ok.early j opsA[j] e (by simp [ho]) he hb
      exact ih e.on this (by omega)
    rw [hr] at this; cases this
 intro fuel
 induction fuel with
 | zero =>
  intro listed rem E tm k a w hsz hrem hmem hdown hJ
  have hrem0 : rem = [] := List.length_eq_zero_iff.1 (by omega)
  subst hrem0
  have hL : ∀ j, j < opsA.size -> listed.getD j false = true := by
   intro j hj
   cases hc : listed.getD j false with
   | true => rfl
   | false => have := hmem j hj hc; cases this
  refine ⟨?_, hQ E tm k a w _ hL hJ⟩
  rw [List.eq_nil_iff_forall_not_mem]
  intro j hj
  obtain ⟨h1, o, ho, _⟩ := mem_ready.1 hj
  have hlt : j < opsA.size := (yz.1 ho).1
  have h2 := hL j hlt
  have hjl : j < listed.size := by omega
  simp only [Array.getD, hjl, dif_pos] at h1 h2
  rw [h1] at h2; cases h2
 | succ fuel ih =>
  intro listed rem E tm k a w hsz hrem hmem hdown hJ
  refine ⟨fun hr => hQ E tm k a w _ (hall listed hsz hr) hJ, fun i hi => ?_⟩
  obtain ⟨h1, o, ho, hedge⟩ := mem_ready.1 hi
  have hlt : i < opsA.size := (yz.1 ho).1
  have hil : i < listed.size := by omega
  have hi0 : listed.getD i false = false := by
   simp only [Array.getD, hil, dif_pos] at h1 |-
   exact h1
  have ho' : opsA.toList[i]? = some o := by simpa using ho
  have hm : ∀ j, Nat.testBit (eG ms i) j = true -> listed.getD j false = true := by
   intro j hj
   obtain ⟨_, e, he, hb, hx⟩ := C.ok.mask i o j ho' hj
   rcases hx with rfl | hx
   ·exact hedge e he hb
   ·exact hdown e.on (hedge e he hb) j hx
  have hL' : ∀ l, (fun j => (listed.setIfInBounds i true).getD j false) l = true ↔ (fun j => listed.getD j false) l = true \/ l = i := by
   intro l
   by_cases hli : l = i
   ·subst hli
    simp only [or_true, iff_true]
    simp [hil]
   ·simp only [hli, or_false]
    rw [getD_set_ne false (fun e => hli e.symm)]
  unfold wpOpIn
  rw [ho]
  simp only
  have hstep := rF.step (L := fun j => listed.getD j false) (L' := fun j => (listed.setIfInBounds i true).getD j false) C hJ ho' hi0 hm hdown hL' (ro := ro) (K := wpAnyIn (rd ro) 0 P .any opsA Q fuel (listed.setIfInBounds i true)) (Q := Q) (fun E' tm' k' a' w' hJ' => by
   refine ih (listed.setIfInBounds i true) (rem.erase i) E' tm' k' a' w' (by simpa using hsz) ?_ ?_ ?_ hJ'
   ·have : i ∈ rem := hmem i hlt hi0
    rw [List.length_erase_of_mem this]; omega
   ·intro j hj hc
    have hne : j ≠ i := by
     rintro rfl
     have := (hL' j).2 (.inr rfl)
     simp only at this
     rw [this] at hc; cases hc
    rw [getD_set_ne false (fun e => hne e.symm)] at hc
    exact (List.mem_erase_of_ne hne).2 (hmem j hj hc)
   ·intro l hl j hj
    refine (hL' j).2 (.inl ?_)
    rcases (hL' l).1 hl with hl | rfl
    ·exact hdown l hl j hj
    ·exact hm j hj)
  split
  ·rename_i hw
   rw [if_pos hw] at hstep; exact hstep
  ·rename_i hw
   rw [if_neg hw] at hstep; exact ⟨fun _ _ => trivial, hstep⟩
theorem vG {l : List Oper} (h : P3 P l = true) : ∀ (i : Nat) (o : Oper) (x : Operand), l[i]? = some o -> x ∈ o.op.operands -> pD P x = true := by
 intro i o x ho hx
 have := kN h i o ho
 exact List.all_eq_true.1 this x (by simpa using hx)
theorem CT (hm : P.follows .mixedOrders = true) (hcf : gE P callF) (hnm : eM P) {E : bV} {tm tm' : List Value} {S' : St} {a : Act} {w : World} {rid : Nat} {ro : Option Nat} {Q : Exit -> Act -> World -> Prop} (hops : P3 P opsA.toList = true) (hd : MU opsA.toList = true) (hb : sA callF P opsA.toList tm S = some (tm', S'))
  (ht : Tm E A tm a) (hg : rM P E A) (hev : S.next % 2 = 0) (H : aV P E A S.heap w) (hA : ∀ n, A n -> ¬ (S.next <= n /\ n < S'.next))
  (hQ : ∀ E' a' w', aX P E A S.heap S.next w E' S'.heap S'.next w' -> Tm E' (fun n => A n \/ (S.next <= n /\ n < S'.next)) tm' a' -> a'.defers = a.defers -> Q .normal a' w') :
  (Code.region rid opsA true).wpIn (rd ro) 0 P Q a w := by
 unfold sA at hb
 split at hb
 ·rename_i F hF
  simp only [yb, ya, yc, yd] at hb
  obtain ⟨⟨⟨k1, k2⟩, k3⟩, rfl, rfl⟩ := hb
  have hok := KQ hd
  have hsl0 : kP opsA.toList F.recs tm (fun l => Nat.blt l 0) tm := ⟨rfl, fun d _ => ⟨fun l o r _ _ hl => by rw [tW] at hl; omega, fun _ => rfl⟩⟩
  have hfacts := CS (tm0 := tm) hok hF (fun j => by simp) (by simp) rfl rfl hev hsl0 (by simp) (by simp)
  have hfacts : TD callF P opsA.toList (eA opsA.toList []) tm F 0 S.next (fun _ => False) (fun _ => False) :=
   { hfacts with
     effects := fun t e he => (hfacts.effects t e he).imp (fun h => by simp at h) id
     laid := fun x hx => (hfacts.laid x hx).imp (fun h => by simp at h) id }
  obtain ⟨_, _, _, _, _, _, _, phs, _⟩ := mB hF
  have h0 : kY F.hs 0 = S.heap := by
   obtain ⟨recs', es', hs', al', q1, q2, q3, q4, _⟩ := mB hF
   rw [q4]; rfl
  simp only at hA hQ
  have C : KT P callF opsA.toList (eA opsA.toList []) tm F E A S :=
   { calls := hcf, names := hnm, ok := hok, facts := hfacts, opd := vG hops, glb := hg, out := hA, twice := k2, apart := k3,
     reads := fun j o r ho hr hon hk k hkl => by simpa using wU k1 j o r ho hr hon hk k hkl }
  refine wpIn_region_any hm (rF.any (ro := ro) (w0 := w) (a0 := a) C ?_ opsA.size _ (List.range opsA.size) E tm 0 a _ (by simp) (by simp) (fun j hj _ => List.mem_range.2 hj) ?_ ?_)
  ·intro E' tm₁ k a' w' L hL hJ
   have hke : k = F.es.length := by
    rcases Nat.lt_or_ge k F.es.length with h | h
    ·have hek : F.es[k]? = some F.es[k] := yyi h
     have hlt : F.es[k] < opsA.size := by
      rcases hfacts.effects k _ hek with h | ⟨o, r, ho, _⟩
      ·exact h.elim
      ·simpa using (yi.1 ho).1
     have := (hJ.keff k _ hek).1 (hL _ hlt)
     omega
    ·have := hJ.kle; omega
   subst hke
   have htm : tm₁ = F.tm := by
    refine QB (by rw [hJ.slots.1, hfacts.slots.1]) fun d hd => ?_
    rw [hJ.slots.1] at hd
    obtain ⟨p3, p4⟩ := hJ.slots.2 d hd
    obtain ⟨q3, q4⟩ := hfacts.slots.2 d hd
    by_cases hex : ∃ (l : Nat) (o : Oper), opsA.toList[l]? = some o /\ o.dst = some d
    ·obtain ⟨l, o, ho, hdo⟩ := hex
     have hlt := (yi.1 ho).1
     have hl : l < F.recs.length := by rw [hfacts.recs]; exact hlt
     have hr := yyi hl
     rw [p3 l o _ ho hr (hL l (by simpa using hlt)) hdo, q3 l o _ ho hr ((tW _ _).2 hlt) hdo]
    ·rw [p4 fun l o ho _ hdo => hex ⟨l, o, ho, hdo⟩, q4 fun l o ho _ hdo => hex ⟨l, o, ho, hdo⟩]
   subst htm
   have hhp : hp (eA opsA.toList []) F L F.es.length = own (fun j => !p9 (eA opsA.toList []) F.es F.es.length j) F.al ++ kY F.hs F.es.length := by
    unfold hp
    rw [FA]
    intro x hx
    rcases hfacts.laid x hx with h | ⟨o, r, ho, _⟩
    ·exact h.elim
    ·simp [hL x.1 (by simpa using (yi.1 ho).1)]
   have hpost := hJ.post
   rw [hhp] at hpost
   refine hQ E' a' w' hpost ⟨hJ.tm.tmps, fun x hx => gB ?_ x (hJ.tm.sc x hx)⟩ hJ.dfr
   rintro n (hn | ⟨l, r, hl, hr, hx⟩)
   ·exact .inl hn
   ·have := C.bounds hr; exact .inr (by omega)
  ·intro l hl
   exfalso
   by_cases h : l < opsA.size <;> simp [h] at hl
  ·have hno : ∀ j, (Array.replicate opsA.size false).getD j false = false := by
    intro j
    by_cases h : j < opsA.size <;> simp [h]
   have hhp : ∀ n x, aL (hp (eA opsA.toList []) F (fun j => (Array.replicate opsA.size false).getD j false) 0) n = some x -> aL S.heap n = some x := by
    intro n x hg
    unfold hp at hg
    rw [pM (fun j y _ => by simp only [hno]; rfl), h0] at hg
    exact hg
   have hhd : aV P E A S.heap { w with drawn := w.drawn + 1 } := H.world rfl
   refine ⟨⟨rfl, fun d _ => ⟨fun l o r _ _ hl => (by simp only [hno] at hl; cases hl), fun _ => rfl⟩⟩, ⟨ht.tmps, fun x hx => gB (fun n hn => .inl hn) x (ht.sc x hx)⟩, Nat.zero_le _, fun t e _ => ?_, (hhd.sub hhp).mono fun n hn => .inl hn, ?_, rfl⟩
   ·simp only [hno]; simp
   ·exact (aX.world (w₁ := { w with drawn := w.drawn + 1 }) (aX.start H hfacts.le (by rw [hfacts.ev, hev])) rfl rfl rfl rfl).drop hhp
 ·simp at hb
end
section
variable {P : Program}
theorem aV.lt2 {E : bV} {A : Nat -> Prop} {h : List (Nat × Obj)} {w : World} (H : aV P E A h w) {n : Nat} {o : Obj} (hg : aL h n = some o) : E.β n < w.heap.size := by
 obtain ⟨_, _, oc, hoc, _⟩ := H.blk n o hg
 exact (yz.1 hoc).1
theorem mC (h g : List (Nat × Obj)) (k : Nat) (x : Obj) : aL (h ++ g) k = some x -> aL h k = some x \/ (aL h k = none /\ aL g k = some x) := by
 induction h with
 | nil => intro e; exact .inr ⟨rfl, e⟩
 | cons a r ih =>
  obtain ⟨m, y⟩ := a
  simp only [List.cons_append, aL]
  split
  ·intro e; exact .inl e
  ·exact ih
theorem ND {h : List (Nat × Obj)} {n : Nat} {o : Obj} (hg : aL h n = some o) : tQ n h = true := by
 induction h with
 | nil => cases hg
 | cons a r ih =>
  obtain ⟨m, y⟩ := a
  simp only [aL] at hg
  simp only [tQ, yu]
  split at hg
  ·rename_i hm; exact .inl hm
  ·exact .inr (ih hg)
theorem qG {h : List (Nat × Obj)} : ∀ {g : List (Nat × Obj)} {n : Nat} {o : Obj}, aL (oD h g) n = some o -> aL g n = some o /\ aL h n = none
 | [], n, o, hg => by cases hg
 | (m, x) :: r, n, o, hg => by
  simp only [oD] at hg
  split at hg
  ·rename_i hm
   obtain ⟨h1, h2⟩ := qG hg
   refine ⟨?_, h2⟩
   simp only [aL]
   split
   ·rename_i he
    obtain rfl := yf he
    exfalso
    have : ∀ {h : List (Nat × Obj)}, tQ m h = true -> ∃ o', aL h m = some o' := by
     intro h
     induction h with
     | nil => intro h; cases h
     | cons a r ih =>
      obtain ⟨k, y⟩ := a
      intro h
      simp only [tQ, yu] at h
      simp only [aL]
      split
      ·exact ⟨y, rfl⟩
      ·rename_i hk
       exact ih (h.resolve_left hk)
    obtain ⟨o', ho'⟩ := this hm
    rw [h2] at ho'; cases ho'
   ·exact h1
  ·rename_i hm
   simp only [aL] at hg
   split at hg
   ·rename_i he
    obtain rfl := yg hg
    refine ⟨by simp [aL, he], ?_⟩
    obtain rfl := yf he
    cases hc : aL h m with
    | none => rfl
    | some y => exact absurd (ND hc) hm
   ·rename_i he
    obtain ⟨h1, h2⟩ := qG hg
    refine ⟨?_, h2⟩
    simp only [aL, he]
    exact h1
theorem aX.framed2 {E E' : bV} {A : Nat -> Prop} {hs ho g : List (Nat × Obj)} {nx nx' : Nat} {w w' : World} (p : aX P E A hs nx w E' ho nx' w') (H : aV P E A g w)
  (hsub : ∀ n o, aL hs n = some o -> aL g n = some o) (hA : ∀ n, A n -> ¬ (nx <= n /\ n < nx')) : aX P E A g nx w E' (ho ++ oD hs g) nx' w' := by
 have hag : l7 A E E' := p.agreeA hA
 have hg : ∀ n o, aL (oD hs g) n = some o -> (A n \/ (nx <= n /\ n < nx')) /\ uE (fun n => A n \/ (nx <= n /\ n < nx')) o /\ E'.β n = E.β n /\ E.β n < w.heap.size /\ aL hs n = none /\ aL g n = some o /\ ∃ oc, w'.heap[E'.β n]? = some oc /\ cK P E' n o oc := by
  intro n o hn
  obtain ⟨hng, hnone⟩ := qG hn
  obtain ⟨h1, h2, oc, h3, h4⟩ := H.blk n o hng
  have hlt := H.lt2 hng
  have hb := (hag n h1).1
  refine ⟨.inl h1, jW (fun _ hx => Or.inl hx) o h2, hb, hlt, hnone, hng, oc, ?_, cK.agree hag h1 h2 h4⟩
  rw [hb, p.same _ hlt ?_]
  ·exact h3
  ·intro k o' hk he
   have := H.inj k n _ _ (hsub k o' hk) hng he
   subst this
   rw [hnone] at hk; cases hk
 have hh : ∀ n o, aL ho n = some o -> (∃ o', aL hs n = some o' /\ E'.β n = E.β n) \/ w.heap.size <= E'.β n \/ ∃ m o', aL hs m = some o' /\ E'.β n = E.β m := by
  intro n o hn
  rcases p.img n o hn with ⟨m, o', hm, e⟩ | hx
  ·exact .inr (.inr ⟨m, o', hm, e⟩)
  ·exact .inr (.inl hx)
 have hdis : ∀ n o m o', aL ho n = some o -> aL (oD hs g) m = some o' -> E'.β n ≠ E'.β m := by
  intro n o m o' hn hm he
  obtain ⟨_, _, b1, b2, hnone, hgm, _⟩ := hg m o' hm
  rcases hh n o hn with ⟨o1, h1, h2⟩ | h1 | ⟨k, o1, h1, h2⟩
  ·have := H.inj n m _ _ (hsub n o1 h1) hgm (by rw [<- h2, <- b1]; exact he)
   subst this
   rw [hnone] at h1; cases h1
  ·rw [he, b1] at h1; omega
  ·have := H.inj k m _ _ (hsub k o1 h1) hgm (by rw [<- h2, <- b1]; exact he)
   subst this
   rw [hnone] at h1; cases h1
 exact
  { le := p.le
    even := p.even
    agree := p.agree
    holds := by
     refine ⟨fun n o hn => ?_, fun n m o o' hn hm he => ?_⟩
     ·rcases mC _ _ _ _ hn with hn | ⟨_, hn⟩
      ·exact p.holds.blk n o hn
      ·obtain ⟨a1, a2, _, _, _, _, a3⟩ := hg n o hn
       exact ⟨a1, a2, a3⟩
     ·rcases mC _ _ _ _ hn with hn | ⟨_, hn⟩ <;> rcases mC _ _ _ _ hm with hm | ⟨_, hm⟩
      ·exact p.holds.inj n m _ _ hn hm he
      ·exact absurd he (hdis n o m o' hn hm)
      ·exact absurd he.symm (hdis m o' n o hm hn)
      ·obtain ⟨_, _, b1, _, _, g1, _⟩ := hg n o hn
       obtain ⟨_, _, c1, _, _, g2, _⟩ := hg m o' hm
       exact H.inj n m _ _ g1 g2 (by rw [<- b1, <- c1]; exact he)
    os := p.os
    tape := p.tape
    output := p.output
    size := p.size
    same := fun b hb hnot => p.same b hb fun n o hn => hnot n o (hsub n o hn)
    img := fun n o hn => by
     rcases mC _ _ _ _ hn with hn | ⟨_, hn⟩
     ·rcases p.img n o hn with ⟨m, o', hm, e⟩ | hx
      ·exact .inl ⟨m, o', hsub m o' hm, e⟩
      ·exact .inr hx
     ·obtain ⟨_, _, b1, _, _, g1, _⟩ := hg n o hn
      exact .inl ⟨n, o, g1, b1⟩ }
end
section
variable {P : Program} {callF : Fn -> List Value -> St -> Option (Value × St)}
theorem jY {ops : List Oper} : ∀ {l : List Oper} {tm tm' : List Value} {S S' : St}, nA callF P ops l tm S = some (tm', S') -> S.next <= S'.next
 | [], _, _, _, _, h => by
  simp only [nA, ya, yc] at h
  rw [h.2]; exact yh _
 | o :: r, tm, tm', S, S', h => by
  simp only [nA] at h
  split at h
  ·split at h
   ·simp only [yb] at h
    exact yya (ye h.1) (jY h.2)
   ·simp at h
  ·exact jY h
def G0 (D : Nat) : Deferred := { target := .collected D, args := #[] }
def D6 (ro : Option Nat) (w : World) (a : Act) (w' : World) (a' : Act) : Prop :=
 ∃ Ds : List Nat, a'.defers = Ds.map G0 ++ a.defers /\ (ro.isSome = true -> Ds = []) /\ (∀ D ∈ Ds, w.heap.size <= D /\ w'.heap[D]? = some (.deferred (some []))) /\ Ds.Nodup
theorem D6.of_eq {ro : Option Nat} {w w' : World} {a a' : Act} (h : a'.defers = a.defers) : D6 ro w a w' a' :=
 ⟨[], by simpa using h, fun _ => rfl, by simp, by simp⟩
theorem aV.noDeferred {E : bV} {A : Nat -> Prop} {h : List (Nat × Obj)} {w : World} (H : aV P E A h w) {D : Nat} {x : Option (List Deferred)} (hD : w.heap[D]? = some (.deferred x)) : ∀ n o, aL h n = some o -> E.β n ≠ D := by
 intro n o hn e
 obtain ⟨_, _, oc, hc, hr⟩ := H.blk n o hn
 rw [e, hD] at hc
 obtain rfl := yg hc
 cases o with
 | cells c t fz =>
  simp only [cK] at hr
  split at hr
  ·obtain ⟨cc, fzc, s, e1, _⟩ := hr; cases e1
  ·cases hr.2
 | map es cl => simp [cK] at hr
 | stringIter s p => cases hr.2
 | mapIter m s seen c => cases hr.2
 | loop r => obtain ⟨f, d, e1⟩ := hr; cases e1
 | _ => exact hr
theorem D6.trans {ro : Option Nat} {E₁ E₂ : bV} {B : Nat -> Prop} {h₁ h₂ : List (Nat × Obj)} {nx₁ nx₂ : Nat} {w w₁ w₂ : World} {a a₁ a₂ : Act} (d : D6 ro w a w₁ a₁) (d' : D6 ro w₁ a₁ w₂ a₂) (hsz : w.heap.size <= w₁.heap.size)
  (H : aV P E₁ B h₁ w₁) (q : aX P E₁ B h₁ nx₁ w₁ E₂ h₂ nx₂ w₂) : D6 ro w a w₂ a₂ := by
 obtain ⟨Ds, e1, n1, m1, u1⟩ := d
 obtain ⟨Ds', e2, n2, m2, u2⟩ := d'
 have hlt : ∀ D ∈ Ds, D < w₁.heap.size := by
  intro D hD
  have := (m1 D hD).2
  rcases Nat.lt_or_ge D w₁.heap.size with h | h
  ·exact h
  ·rw [yye h] at this; cases this
 refine ⟨Ds' ++ Ds, by rw [e2, e1]; simp, fun h => by rw [n1 h, n2 h]; rfl, ?_, ?_⟩
 ·intro D hD
  rcases yy.1 hD with hD | hD
  ·exact ⟨yya hsz (m2 D hD).1, (m2 D hD).2⟩
  ·refine ⟨(m1 D hD).1, ?_⟩
   rw [q.same D (hlt D hD) (H.noDeferred (m1 D hD).2)]
   exact (m1 D hD).2
 ·rw [List.nodup_append]
  refine ⟨u2, u1, ?_⟩
  intro x hx y hy e
  subst e
  have h1 := (m2 x hx).1
  have h2 := hlt x hy
  omega
def gF (P : Program) (ro : Option Nat) (E : bV) (A : Nat -> Prop) (S : St) (w : World) (a : Act) (tm' : List Value) (S' : St) (R : Act -> World -> Prop) : Prop :=
 ∀ E' a' w', aX P E A S.heap S.next w E' S'.heap S'.next w' -> Tm E' (fun n => A n \/ (S.next <= n /\ n < S'.next)) tm' a' -> D6 ro w a w' a' -> R a' w'
theorem gF.trans {ro : Option Nat} {E E₁ : bV} {A : Nat -> Prop} {S S₁ S' : St} {w w₁ : World} {a a₁ : Act} {tm' : List Value} {R : Act -> World -> Prop} (h : gF P ro E A S w a tm' S' R) (p : aX P E A S.heap S.next w E₁ S₁.heap S₁.next w₁) (hd : D6 ro w a w₁ a₁) (hle : S₁.next <= S'.next) :
  gF P ro E₁ (fun n => A n \/ (S.next <= n /\ n < S₁.next)) S₁ w₁ a₁ tm' S' R := by
 intro E' a' w' q ht hd'
 refine h E' a' w' (p.trans q) ⟨ht.tmps, fun x hx => gB ?_ x (ht.sc x hx)⟩ (D6.trans hd hd' p.size p.holds q)
 have := p.le
 rintro n ((hn | hn) | hn)
 ·exact .inl hn
 ·exact .inr (by omega)
 ·exact .inr (by omega)
theorem rM.next {E E' : bV} {A B : Nat -> Prop} (hg : rM P E A) (hag : l7 A E E') (hAB : ∀ n, A n -> B n) : rM P E' B := by
 intro g hgs
 obtain ⟨h1, h2, h3⟩ := hg g hgs
 obtain ⟨e1, e2, _⟩ := hag _ h3
 exact ⟨by rw [e1, h1], by rw [e2, h2], hAB _ h3⟩
theorem sW (hcf : gE P callF) (hnm : eM P) {ro : Option Nat} {opsA : Array Oper} {Q : Exit -> Act -> World -> Prop} : ∀ {l : List Oper} {tm tm' : List Value} {S S' : St} {E : bV} {A : Nat -> Prop} {a : Act} {w : World},
  nA callF P opsA.toList l tm S = some (tm', S') -> (∀ o ∈ l, ∀ x ∈ o.op.operands, pD P x = true) -> Tm E A tm a -> rM P E A -> S.next % 2 = 0 -> aV P E A S.heap w -> (∀ n, A n -> ¬ (S.next <= n /\ n < S'.next)) ->
  gF P ro E A S w a tm' S' (Q .normal) -> wpListIn (rd ro) 0 P opsA Q l a w
 | [], tm, tm', S, S', E, A, a, w, h, hops, ht, hg, hev, H, hA, hQ => by
  simp only [nA, ya, yc] at h
  obtain ⟨rfl, rfl⟩ := h
  exact hQ E a w (aX.refl H) ⟨ht.tmps, fun x hx => kX (ht.sc x hx)⟩ (D6.of_eq rfl)
 | o :: r, tm, tm', S, S', E, A, a, w, h, hops, ht, hg, hev, H, hA, hQ => by
  simp only [nA] at h
  refine wpListIn_step fun K hK => ?_
  rw [yQ ht]
  split at h
  ·rename_i hgd
   rw [if_pos hgd]
   split at h
   ·rename_i v S₁ hs
    simp only [yb] at h
    have hle := ye h.1
    have hle' := jY h.2
    have hA₁ : ∀ n, A n -> ¬ (S.next <= n /\ n < S₁.next) := fun n hn hx => hA n hn (by omega)
    refine sU hcf hnm ht hg hev H (hops o (by simp)) hA₁ hs (o5 hs) ro K Q ?_
    intro E₁ w₁ p hsc
    refine hK _ _ (sW hcf hnm h.2 (fun o' ho' => hops o' (by simp [ho'])) (ht.put (p.agreeA hA₁) (fun n hn => .inl hn) hsc) (hg.next (p.agreeA hA₁) fun n hn => .inl hn) (by rw [p.even, hev]) p.holds ?_ (hQ.trans p ?_ hle'))
    ·rintro n (hn | hn) hx
     ·exact hA n hn (by omega)
     ·omega
    ·exact D6.of_eq (by unfold Act.put; split <;> rfl)
   ·simp at h
  ·rename_i hgd
   rw [if_neg hgd]
   have hp : Tm E A (n7 tm o.dst undef) (a.put o.dst undef) := by
    have := ht.put (E' := E) (B := A) (dst := o.dst) (v := undef) (fun n _ => ⟨rfl, rfl, rfl⟩) (fun n hn => hn) (l6 _)
    rwa [iV] at this
   refine ⟨fun _ _ => trivial, hK _ _ (sW hcf hnm h (fun o' ho' => hops o' (by simp [ho'])) hp hg hev H hA ?_)⟩
   intro E' a' w' p ht' hd'
   refine hQ E' a' w' p ht' ?_
   have he : (a.put o.dst undef).defers = a.defers := by unfold Act.put; split <;> rfl
   obtain ⟨Ds, e1, e2⟩ := hd'
   exact ⟨Ds, by rw [e1, he], e2⟩
theorem D7 {ops : List Oper} {tm tm' : List Value} {S S' : St} (h : sA callF P ops tm S = some (tm', S')) : S.next <= S'.next := by
 unfold sA at h
 split at h
 ·rename_i F hF
  simp only [yb, ya, yc] at h
  obtain ⟨_, _, rfl⟩ := h
  obtain ⟨_, _, _, _, _, _, _, _, _, _, _, _, h, _⟩ := mB hF
  exact h
 ·simp at h
theorem dX : ∀ {f : Nat} {c : Code} {tm tm' : List Value} {S S' : St} {e : Exit}, evC callF P f c tm S = some (e, tm', S') -> S.next <= S'.next
 | 0, _, _, _, _, _, _, h => by simp [evC] at h
 | f + 1, c, tm, tm', S, S', e, h => by
  cases c with
  | region rid ops d =>
   cases d with
   | false =>
    simp only [evC] at h
    split at h
    ·rename_i h'
     simp only [ya, yc] at h
     obtain ⟨_, _, rfl⟩ := h
     exact jY h'
    ·simp at h
   | true =>
    simp only [evC] at h
    split at h
    ·rename_i h'
     simp only [ya, yc] at h
     obtain ⟨_, _, rfl⟩ := h
     exact D7 h'
    ·simp at h
  | seq x y =>
   simp only [evC] at h
   split at h
   ·rename_i h'
    exact yya (dX h') (dX h)
   ·exact dX h
  | cond x y z =>
   simp only [evC] at h
   split at h
   ·exact dX h
   ·exact dX h
   ·simp at h
  | block id b =>
   simp only [evC] at h
   split at h
   ·rename_i h'
    split at h <;> (simp only [ya, yc] at h; obtain ⟨_, _, rfl⟩ := h; exact dX h')
   ·exact dX h
  | loop b =>
   simp only [evC] at h
   split at h
   ·rename_i h'
    exact yya (dX h') (dX h)
   ·exact dX h
  | scope b =>
   simp only [evC] at h
   exact dX h
  | rangeFunc g ps a9 b =>
   simp only [evC] at h
   repeat' split at h
   all_goals first
    | (simp at h; done)
    | (rename_i hle _ _ _ _ _ _ _
       simp only [ya, yc] at h; obtain ⟨_, _, rfl⟩ := h
       have := ye hle; simp only; omega)
  | _ =>
   simp only [evC] at h
   first
    | (simp at h; done)
    | (simp only [ya, yc] at h; obtain ⟨_, _, rfl⟩ := h; exact yh _)
theorem gN : ∀ {f : Nat} {c : Code} {tm tm' : List Value} {S S' : St} {l : Nat}, evC callF P f c tm S ≠ some (.goto l, tm', S')
 | 0, _, _, _, _, _, _ => by simp [evC]
 | f + 1, c, tm, tm', S, S', l => by
  intro h
  cases c with
  | region rid ops d =>
   cases d <;> (simp only [evC] at h; split at h <;> simp at h)
  | seq x y =>
   simp only [evC] at h
   split at h
   ·exact gN h
   ·exact gN h
  | cond x y z =>
   simp only [evC] at h
   split at h
   ·exact gN h
   ·exact gN h
   ·simp at h
  | block id b =>
   simp only [evC] at h
   split at h
   ·split at h <;> simp at h
   ·exact gN h
  | loop b =>
   simp only [evC] at h
   split at h
   ·exact gN h
   ·exact gN h
  | scope b =>
   simp only [evC] at h
   exact gN h
  | rangeFunc g ps a9 b =>
   simp only [evC] at h
   repeat' split at h
   all_goals first
    | (simp at h; done)
    | (rename_i e he
       simp only [ya, yc] at h
       obtain ⟨rfl, _⟩ := h
       unfold GH at he
       split at he <;> simp at he)
  | _ => simp [evC] at h
section scope
variable {b : Frame} {a : Act} {k : List Item} {cs : List Frame} {w : World} {Q : Exit -> Act -> World -> Prop} {F : Fence} {n : Nat}
theorem iX {c : Code} : step P (lone (b.atR a (.code (.scope c) :: k)) cs w) = .next (lone (b.atR a (.code c :: .inScope c :: k)) cs w) :=
 step_lone_go (by simp [stepG, stepG.exec, Frame.atR])
theorem CU {c : Code} : step P (lone (b.atR a (.inScope c :: k)) cs w) = .next (lone (b.atR a k) cs w) :=
 step_lone_go (by simp [stepG, stepG.exec, Frame.atR])
theorem uA {c : Code} (h : c.wpIn F n P (Exit.noGoto Q) a w) : (Code.scope c).wpIn F n P Q a w := by
 intro b k cs hro hb hr
 have h0 : (lone (b.atR a (.code (.scope c) :: k)) cs w).fenced P F := fenced_calm hb hr rfl
 obtain ⟨e, a₁, w₁, hq, harr⟩ := h b (.inScope c :: k) cs hro hb hr
 cases e with
 | normal => exact ⟨.normal, a₁, w₁, hq, .head h0 iX (StepsIn.trans harr (.one (fenced_calm hb hr rfl) CU))⟩
 | exit id =>
  have hx : exitTo id (.inScope c :: k) = exitTo id k := by simp [exitTo]
  exact ⟨.exit id, a₁, w₁, hq, fun k' hk => .head h0 iX (harr.1 k' (by rw [hx]; exact hk)),
   fun hr' hk => let ⟨k₁, h1, h2⟩ := harr.2 hr' (by rw [hx]; exact hk); ⟨k₁, h1, .head h0 iX h2⟩⟩
 | goto l => exact hq.elim
 | ret => exact ⟨_, a₁, w₁, hq, .of_steps (.one h0 iX) harr⟩
 | panic ch => exact ⟨_, a₁, w₁, hq, .of_steps (.one h0 iX) harr⟩
 | outgrown => exact ⟨_, a₁, w₁, hq, .of_steps (.one h0 iX) harr⟩
end scope
theorem aV.grow {E : bV} {A : Nat -> Prop} {h : List (Nat × Obj)} {w w' : World} (H : aV P E A h w) (hw : ∀ k, k < w.heap.size -> w'.heap[k]? = w.heap[k]?) : aV P E A h w' := by
 refine ⟨fun n o hn => ?_, H.inj⟩
 obtain ⟨h1, h2, oc, h3, h4⟩ := H.blk n o hn
 have hlt : E.β n < w.heap.size := by
  rcases Nat.lt_or_ge (E.β n) w.heap.size with h' | h'
  ·exact h'
  ·rw [yye h'] at h3; cases h3
 exact ⟨h1, h2, oc, by rw [hw _ hlt]; exact h3, h4⟩
theorem aV.lt {E : bV} {A : Nat -> Prop} {h : List (Nat × Obj)} {w : World} (H : aV P E A h w) {n : Nat} {o : Obj} (hn : aL h n = some o) : E.β n < w.heap.size := by
 obtain ⟨_, _, oc, h3, _⟩ := H.blk n o hn
 rcases Nat.lt_or_ge (E.β n) w.heap.size with h' | h'
 ·exact h'
 ·rw [yye h'] at h3; cases h3
theorem aX.unnamed {E : bV} {A : Nat -> Prop} {h : List (Nat × Obj)} {nx : Nat} {w : World} (H : aV P E A h w) (o : Obj) : aX P E A h nx w E h nx (w.alloc o) where
 le := yh _
 even := rfl
 agree _ _ := ⟨rfl, rfl, rfl⟩
 holds := (H.grow fun k hk => RowKit.Below.heap_alloc w o k hk).mono fun _ hn => .inl hn
 os := rfl
 tape := rfl
 output := rfl
 size := by simp
 same b hb _ := RowKit.Below.heap_alloc w o b hb
 img n o' hn := .inl ⟨n, o', hn, rfl⟩
theorem aX.turn {E E' : bV} {A : Nat -> Prop} {h h' : List (Nat × Obj)} {nx nx' l : Nat} {w w' : World} {o : Obj} (p : aX P E A h nx w E' h' nx' w') (hl : w.heap.size <= l) (hn : ∀ n x, aL h' n = some x -> E'.β n ≠ l) :
  aX P E A h nx w E' h' nx' (w'.putObj l o) where
 le := p.le
 even := p.even
 agree := p.agree
 holds := ⟨fun n x hx => by
  obtain ⟨h1, h2, oc, h3, h4⟩ := p.holds.blk n x hx
  exact ⟨h1, h2, oc, by rw [World.putObj_heap_other (hn n x hx)]; exact h3, h4⟩, p.holds.inj⟩
 os := p.os
 tape := p.tape
 output := p.output
 size := by simp [World.putObj]; exact p.size
 same b hb hnot := by rw [World.putObj_heap_other (by omega)]; exact p.same b hb hnot
 img := p.img
theorem Tm.agree {E E' : bV} {A B : Nat -> Prop} {tm : List Value} {a a' : Act} (ht : Tm E A tm a) (hag : l7 A E E') (hAB : ∀ n, A n -> B n) (ha : a'.tmps = a.tmps) : Tm E' B tm a' := by
 refine ⟨?_, fun x hx => gB hAB x (ht.sc x hx)⟩
 rw [ha, ht.tmps, yp fun x hx => eQ hag x (ht.sc x hx)]
end
end Go.Dam
