/- An own evaluator of closed runs of a program, proved sound against the model: one part of it. -/
import Derived.Test.YtgkhemnmcgicnaaGreatDoorG16
namespace Go.Dam
section
variable {P : Program} {E E' E₁ E₂ : Env} {A B : Nat -> Prop} {h h' h₁ h₂ hs hs' : List (Nat × Obj)} {nx nx' i i' N : Nat} {w w' w₁ w₂ : World}
theorem Post.frame (H : Holds P E A h w) (hsub : ∀ n o, getB hs n = some o -> getB h n = some o) (q : Post P E A hs nx w E' hs' nx' w') (hA : ∀ n, A n -> ¬ (nx <= n /\ n < nx'))
  (hh : ∀ n o, getB h₂ n = some o -> getB hs' n = some o \/ (getB h n = some o /\ getB hs n = none)) : Post P E A h nx w E' h₂ nx' w' where
 le := q.le
 even := q.even
 agree := q.agree
 os := q.os
 tape := q.tape
 output := q.output
 size := q.size
 same b hb hn := q.same b hb fun n o hg => hn n o (hsub n o hg)
 img n o hn := by
  rcases hh n o hn with hg | ⟨hg, hno⟩
  ·exact (q.img n o hg).imp (fun ⟨m, o', hm, e⟩ => ⟨m, o', hsub m o' hm, e⟩) id
  ·exact .inl ⟨n, o, hg, (q.agree n (hA n (H.blk n o hg).1)).1⟩
 holds := by
  have hag : Agree A E E' := q.agreeA hA
  have hfr : ∀ n o, getB h n = some o -> getB hs n = none -> E'.β n = E.β n /\ E.β n < w.heap.size /\ w'.heap[E.β n]? = w.heap[E.β n]? := by
   intro n o hg hno
   obtain ⟨a, s, oc, hc, hr⟩ := H.blk n o hg
   have hlt : E.β n < w.heap.size := by
    rcases Nat.lt_or_ge (E.β n) w.heap.size with h' | h'
    ·exact h'
    ·rw [Array.getElem?_eq_none h'] at hc; cases hc
   refine ⟨(hag n a).1, hlt, q.same _ hlt fun m x hm e => ?_⟩
   have := H.inj m n x o (hsub m x hm) hg e
   subst this
   rw [hno] at hm; cases hm
  have cross : ∀ n m o o', getB hs' n = some o -> getB h m = some o' -> getB hs m = none -> E'.β n ≠ E'.β m := by
   intro n m o o' hn hm hno e
   obtain ⟨e1, e2, _⟩ := hfr m o' hm hno
   rcases q.img n o hn with ⟨k, x, hk, ek⟩ | ek
   ·have := H.inj k m x o' (hsub k x hk) hm (by rw [<- ek, e, e1])
    subst this
    rw [hno] at hk; cases hk
   ·rw [e, e1] at ek; omega
  refine ⟨fun n o hn => ?_, fun n m o o' hn hm e => ?_⟩
  ·rcases hh n o hn with hg | ⟨hg, hno⟩
   ·exact q.holds.blk n o hg
   ·obtain ⟨a, s, oc, hc, hr⟩ := H.blk n o hg
    obtain ⟨e1, e2, e3⟩ := hfr n o hg hno
    exact ⟨.inl a, ScObj_mono (fun _ h => .inl h) o s, oc, by rw [e1, e3]; exact hc, BlkRel.agree hag a s hr⟩
  ·rcases hh n o hn with hg | ⟨hg, hno⟩ <;> rcases hh m o' hm with hg' | ⟨hg', hno'⟩
   ·exact q.holds.inj n m o o' hg hg' e
   ·exact absurd e (cross n m o o' hg hg' hno')
   ·exact absurd e.symm (cross m n o' o hg' hg hno)
   ·rw [(hfr n o hg hno).1, (hfr m o' hg' hno').1] at e
    exact H.inj n m o o' hg hg' e
theorem Post.wide (p : Post P E A h nx w E₁ h₁ N w₁) (q : Post P E₁ B h₁ i w₁ E₂ h₂ i' w₂) (hi : nx <= i) (hi' : i' <= N) (hB : ∀ n, B n \/ (i <= n /\ n < i') -> A n \/ (nx <= n /\ n < N)) : Post P E A h nx w E₂ h₂ N w₂ where
 le := p.le
 even := p.even
 agree n hn := by
  obtain ⟨a1, a2, a3⟩ := p.agree n hn
  obtain ⟨b1, b2, b3⟩ := q.agree n (by omega)
  exact ⟨b1.trans a1, b2.trans a2, b3.trans a3⟩
 holds := q.holds.mono hB
 os := q.os.trans p.os
 tape := q.tape.trans p.tape
 output := q.output.trans p.output
 size := Nat.le_trans p.size q.size
 same b hb hnot := by
  have hp := p.same b hb hnot
  rw [<- hp]
  refine q.same b (Nat.lt_of_lt_of_le hb p.size) fun n o hn he => ?_
  rcases p.img n o hn with ⟨m, o', hm, e⟩ | e
  ·exact hnot m o' hm (by rw [<- e]; exact he)
  ·omega
 img n o hn := by
  rcases q.img n o hn with ⟨m, o', hm, e⟩ | e
  ·rcases p.img m o' hm with ⟨k, o'', hk, e'⟩ | e'
   ·exact .inl ⟨k, o'', hk, e.trans e'⟩
   ·exact .inr (by rw [e]; exact e')
  ·exact .inr (Nat.le_trans p.size e)
theorem Post.start (H : Holds P E A h w) (hle : nx <= nx') (he : nx' % 2 = nx % 2) : Post P E A h nx w E h nx' w :=
 ⟨hle, he, fun _ _ => ⟨rfl, rfl, rfl⟩, H.mono fun _ hn => .inl hn, rfl, rfl, rfl, Nat.le_refl _, fun _ _ _ => rfl, fun n o hn => .inl ⟨n, o, hn, rfl⟩⟩
end
theorem length_setNth : ∀ (l : List Value) (n : Nat) (x : Value), (setNth l n x).length = l.length
 | [], _, _ => rfl
 | _ :: _, 0, _ => rfl
 | _ :: r, n + 1, x => by simp [setNth, length_setNth r n x]
theorem nth_setNth_self : ∀ (l : List Value) (n : Nat) (x : Value), n < l.length -> nth (setNth l n x) n = x
 | [], _, _, h => by simp at h
 | _ :: _, 0, _, _ => rfl
 | _ :: r, n + 1, x, h => by simpa [setNth, nth] using nth_setNth_self r n x (by simpa using h)
theorem nth_setNth_ne : ∀ (l : List Value) (n m : Nat) (x : Value), n ≠ m -> nth (setNth l n x) m = nth l m
 | [], _, _, _, _ => rfl
 | _ :: _, 0, 0, _, h => absurd rfl h
 | _ :: _, 0, _ + 1, _, _ => rfl
 | _ :: _, _ + 1, 0, _, _ => rfl
 | _ :: r, n + 1, m + 1, x, h => by simpa [setNth, nth] using nth_setNth_ne r n m x (by omega)
theorem nth_over : ∀ (l : List Value) (n : Nat), l.length <= n -> nth l n = undef
 | [], _, _ => rfl
 | _ :: _, 0, h => by simp at h
 | _ :: r, n + 1, h => by simpa [nth] using nth_over r n (by simpa using h)
theorem setNth_toArray : ∀ (l : List Value) (n : Nat) (x : Value) (f : Value -> Value), ((setNth l n x).map f) = (l.map f).set n (f x)
 | [], _, _, _ => rfl
 | _ :: _, 0, _, _ => rfl
 | _ :: r, n + 1, x, f => by simp [setNth, setNth_toArray r n x f]
theorem nth_ext : ∀ {l m : List Value}, l.length = m.length -> (∀ d, d < l.length -> nth l d = nth m d) -> l = m
 | [], [], _, _ => rfl
 | [], _ :: _, h, _ => by simp at h
 | _ :: _, [], h, _ => by simp at h
 | a :: r, b :: s, h, hd => by
  have h0 : a = b := hd 0 (by simp)
  rw [h0, nth_ext (l := r) (m := s) (by simpa using h) fun d hd' => by simpa [nth] using hd (d + 1) (by simpa using hd')]
def SlotAt (ops : List Oper) (recs : List Rec) (tm0 : List Value) (p : Nat -> Bool) (tm : List Value) : Prop :=
 tm.length = tm0.length /\ ∀ d, d < tm0.length ->
  (∀ (l : Nat) (o : Oper) (r : Rec), ops[l]? = some o -> recs[l]? = some r -> p l = true -> o.dst = some d -> nth tm d = r.v) /\
  ((∀ (l : Nat) (o : Oper), ops[l]? = some o -> p l = true -> o.dst ≠ some d) -> nth tm d = nth tm0 d)
section
variable {ops : List Oper} {ms : List Nat} {recs : List Rec} {tm0 tm tm' : List Value} {p q : Nat -> Bool}
theorem SlotAt.put (hok : OkD ops ms) (h : SlotAt ops recs tm0 p tm) {i : Nat} {o : Oper} {r : Rec} (ho : ops[i]? = some o) (hr : recs[i]? = some r) (hp : p i = false)
  (hq : ∀ l, q l = true ↔ (p l = true \/ l = i)) : SlotAt ops recs tm0 q (putD tm o.dst r.v) := by
 obtain ⟨h1, h2⟩ := h
 refine ⟨?_, fun d hd => ?_⟩
 ·unfold putD; split
  ·rw [length_setNth]; exact h1
  ·exact h1
 obtain ⟨h3, h4⟩ := h2 d hd
 by_cases hdo : o.dst = some d
 ·have hv : nth (putD tm o.dst r.v) d = r.v := by
   simp only [putD, hdo]; exact nth_setNth_self tm d r.v (by omega)
  refine ⟨fun l o' r' hl hr' hql hd' => ?_, fun hn => absurd hdo (hn i o ho ((hq i).2 (.inr rfl)))⟩
  by_cases hli : l = i
  ·subst hli
   rw [hr] at hr'; obtain rfl := Option.some.inj hr'
   exact hv
  ·exact absurd hd' (hok.dst i l o o' d ho hl (fun e => hli e.symm) hdo)
 ·have hv : nth (putD tm o.dst r.v) d = nth tm d := by
   unfold putD; split
   ·rename_i e he
    exact nth_setNth_ne tm e d r.v (fun e' => hdo (by rw [he, e']))
   ·rfl
  rw [hv]
  refine ⟨fun l o' r' hl hr' hql hd' => ?_, fun hn => h4 fun l o' hl hpl => hn l o' hl ((hq l).2 (.inl hpl))⟩
  rcases (hq l).1 hql with hpl | rfl
  ·exact h3 l o' r' hl hr' hpl hd'
  ·rw [ho] at hl; obtain rfl := Option.some.inj hl
   exact absurd hd' hdo
theorem SlotAt.agree (hlen : recs.length = ops.length) (hp : SlotAt ops recs tm0 p tm) (hq : SlotAt ops recs tm0 q tm') {i t : Nat} (hs : slotOk ms ops i t = true)
  (hpi : p i = false) (hqi : q i = false) (hpm : ∀ l, Nat.testBit (natAt ms i) l = true -> p l = true) (hqm : ∀ l, Nat.testBit (natAt ms i) l = true -> q l = true)
  (hpn : ∀ l, Nat.testBit (natAt ms l) i = true -> ops[l]?.isSome = true -> p l = false) (hqn : ∀ l, Nat.testBit (natAt ms l) i = true -> ops[l]?.isSome = true -> q l = false) : nth tm t = nth tm' t := by
 by_cases hd : t < tm0.length
 ·obtain ⟨p3, p4⟩ := hp.2 t hd
  obtain ⟨q3, q4⟩ := hq.2 t hd
  by_cases hex : ∃ (l : Nat) (o : Oper), ops[l]? = some o /\ o.dst = some t /\ Nat.testBit (natAt ms i) l = true
  ·obtain ⟨l, o, ho, hdo, hb⟩ := hex
   have hl : l < recs.length := by rw [hlen]; exact (List.getElem?_eq_some_iff.1 ho).1
   obtain ⟨r, hr⟩ : ∃ r, recs[l]? = some r := ⟨_, List.getElem?_eq_getElem hl⟩
   rw [p3 l o r ho hr (hpm l hb) hdo, q3 l o r ho hr (hqm l hb) hdo]
  ·have hno : ∀ (l : Nat) (o : Oper), ops[l]? = some o -> o.dst = some t -> p l = false /\ q l = false := by
    intro l o ho hdo
    rcases slotOk_spec hs ho hdo with rfl | hb | hb
    ·exact ⟨hpi, hqi⟩
    ·exact absurd ⟨l, o, ho, hdo, hb⟩ hex
    ·exact ⟨hpn l hb (by rw [ho]; rfl), hqn l hb (by rw [ho]; rfl)⟩
   rw [p4 (fun l o ho hpl hdo => by rw [(hno l o ho hdo).1] at hpl; cases hpl), q4 (fun l o ho hql hdo => by rw [(hno l o ho hdo).2] at hql; cases hql)]
 ·rw [nth_over tm t (by have := hp.1; omega), nth_over tm' t (by have := hq.1; omega)]
end
theorem aguard_congr {ops : List Oper} {tm tm' : List Value} {o : Oper} (h : ∀ (g : Nat) (want : Bool) (p : Oper) (d : Nat), o.guard = some (g, want) -> ops[g]? = some p -> p.dst = some d -> nth tm d = nth tm' d) : aguard ops tm o = aguard ops tm' o := by
 unfold aguard
 cases hg : o.guard with
 | none => rfl
 | some gw =>
  obtain ⟨g, want⟩ := gw
  simp only
  cases hp : ops[g]? with
  | none => rfl
  | some p =>
   simp only
   cases hd : p.dst with
   | none => rfl
   | some d => simp only [h g want p d hg hp hd]
theorem ren_bool_iff (E : Env) (v : Value) (b : Bool) : ren E v = .bool b ↔ v = .bool b := by
 cases v with
 | pointer a => cases a <;> simp [ren]
 | slice a l c => cases a <;> simp [ren]
 | map a => cases a <;> simp [ren]
 | _ => simp [ren]
theorem wanted_eq {E : Env} {A : Nat -> Prop} {tm : List Value} {a : Act} (ht : Tm E A tm a) (ops : Array Oper) (o : Oper) : Region.wanted o (yielded ops a.tmps) = aguard ops.toList tm o := by
 unfold Region.wanted aguard
 cases hg : o.guard with
 | none => rfl
 | some gw =>
  obtain ⟨g, want⟩ := gw
  simp only [yielded, Array.getElem?_toList]
  cases hp : ops[g]? with
  | none => simp
  | some p =>
   simp only [Option.bind_some]
   cases hd : p.dst with
   | none => simp
   | some d =>
    simp only [Option.bind_some, ht.tmps, nth_get]
    cases hv : tm[d]? with
    | none => simp [hv, undef]
    | some v =>
     simp only [List.getElem?_toArray, List.getElem?_map, hv, Option.map_some, Option.getD_some]
     by_cases hb : ∃ b, v = .bool b
     ·obtain ⟨b, rfl⟩ := hb
      rw [ren_bool]
      simp only [Option.some_beq_some]
     ·have h1 : ∀ b, ren E v ≠ .bool b := fun b e => hb ⟨b, (ren_bool_iff E v b).1 e⟩
      have h2 : ∀ b, v ≠ .bool b := fun b e => hb ⟨b, e⟩
      split
      ·rename_i b e; exact absurd (Option.some.inj e) (h1 b)
      ·split
       ·rename_i b e; exact absurd rfl (h2 b)
       ·rfl
section
variable {P : Program} {callF : Fn -> List Value -> St -> Option (Value × St)} {ops : List Oper} {ms : List Nat} {tm0 : List Value}
structure Fact (callF : Fn -> List Value -> St -> Option (Value × St)) (P : Program) (ops : List Oper) (ms : List Nat) (tm0 : List Value) (F : DR) (i : Nat) (o : Oper) (r : Rec) : Prop where
 record : F.recs[i]? = some r
 slots : SlotAt ops F.recs tm0 (fun l => Nat.blt l i) r.tm
 on : r.on = aguard ops r.tm o
 le : r.nx <= r.nx'
 ev : r.nx % 2 = 0
 off : r.on = false -> r.v = undef /\ r.nx' = r.nx
 effect : r.on = true -> kind o.op ≠ 0 -> kind o.op ≠ 1 -> kind o.op ≠ 2 -> ∃ t S', F.es[t]? = some i /\ (∀ s e, s < t -> F.es[s]? = some e -> Nat.testBit (natAt ms i) e = true) /\
  astep callF P r.tm ⟨seen ms F.es F.hs F.al i t, r.nx⟩ o = some (r.v, S') /\ S'.next = r.nx' /\ heapAt F.hs (t + 1) = S'.heap
 lays : r.on = true -> kind o.op = 2 -> ∃ n b, (i, n, b) ∈ F.al /\ astep callF P r.tm ⟨[], r.nx⟩ o = some (r.v, ⟨[(n, b)], r.nx'⟩)
 reads : r.on = true -> (kind o.op = 0 \/ kind o.op = 1) -> r.nx' = r.nx /\ ∃ k S', k <= F.es.length /\ astep callF P r.tm ⟨seen ms F.es F.hs F.al i k, r.nx⟩ o = some (r.v, S')
theorem dStep_prefix {i : Nat} {o : Oper} {R R' : DR} (h : dStep callF P ops ms i o R = some R') :
  ∃ r es' hs' al', R'.recs = R.recs ++ [r] /\ R'.es = R.es ++ es' /\ R'.hs = R.hs ++ hs' /\ R'.al = R.al ++ al' /\ (∀ e ∈ es', e = i) /\ (∀ x ∈ al', x.1 = i) /\ es'.length = hs'.length /\ R.nx <= R'.nx /\
   R'.tm = putD R.tm o.dst r.v /\ r.tm = R.tm /\ r.nx = R.nx /\ r.nx' = R'.nx /\ (R.nx % 2 = 0 -> R'.nx % 2 = 0) /\ es'.length <= 1 := by
 unfold dStep at h
 split at h
 ·split at h
  ·simp only [Option.ite_none_right_eq_some] at h
   obtain ⟨_, h⟩ := h
   split at h
   ·rename_i v S' hs
    simp only [Option.ite_none_right_eq_some, Option.some.injEq, Bool.and_eq_true] at h
    obtain ⟨⟨h1, h2⟩, rfl⟩ := h
    exact ⟨_, [i], [S'.heap], [], rfl, rfl, rfl, by simp, by simp, by simp, rfl, Nat.le_of_ble_eq_true h1, rfl, rfl, rfl, rfl, fun _ => isEven_spec h2, by simp⟩
   ·simp at h
  ·split at h
   ·rename_i v n b nx hs
    simp only [Option.ite_none_right_eq_some, Option.some.injEq, Bool.and_eq_true] at h
    obtain ⟨⟨h1, h2⟩, rfl⟩ := h
    exact ⟨_, [], [], [(i, n, b)], rfl, by simp, by simp, rfl, by simp, by simp, rfl, Nat.le_of_ble_eq_true h1, rfl, rfl, rfl, rfl, fun _ => isEven_spec h2, by simp⟩
   ·simp at h
  ·split at h
   ·rename_i v S' hs
    simp only [Option.some.injEq] at h; subst h
    exact ⟨_, [], [], [], rfl, by simp, by simp, by simp, by simp, by simp, rfl, Nat.le_refl _, rfl, rfl, rfl, rfl, id, by simp⟩
   ·simp at h
 ·simp only [Option.some.injEq] at h; subst h
  exact ⟨_, [], [], [], rfl, by simp, by simp, by simp, by simp, by simp, rfl, Nat.le_refl _, rfl, rfl, rfl, rfl, id, by simp⟩
theorem dRun_prefix : ∀ {l : List Oper} {i : Nat} {R F : DR}, dRun callF P ops ms i l R = some F ->
  ∃ recs' es' hs' al', F.recs = R.recs ++ recs' /\ recs'.length = l.length /\ F.es = R.es ++ es' /\ F.hs = R.hs ++ hs' /\ F.al = R.al ++ al' /\ (∀ e ∈ es', i <= e) /\ (∀ x ∈ al', i <= x.1) /\ es'.length = hs'.length /\ R.nx <= F.nx /\
   (R.nx % 2 = 0 -> F.nx % 2 = 0)
 | [], i, R, F, h => by
  simp only [dRun, Option.some.injEq] at h; subst h
  exact ⟨[], [], [], [], by simp, rfl, by simp, by simp, by simp, by simp, by simp, rfl, Nat.le_refl _, id⟩
 | o :: l, i, R, F, h => by
  simp only [dRun] at h
  split at h
  ·rename_i R' hs
   obtain ⟨r, es1, hs1, al1, a1, a2, a3, a4, a5, a6, a7, a8, _, _, _, _, a9, _⟩ := dStep_prefix hs
   obtain ⟨rs2, es2, hs2, al2, b1, b2, b3, b4, b5, b6, b7, b8, b9, b10⟩ := dRun_prefix h
   refine ⟨r :: rs2, es1 ++ es2, hs1 ++ hs2, al1 ++ al2, by rw [b1, a1]; simp, by simp [b2], by rw [b3, a2]; simp, by rw [b4, a3]; simp, by rw [b5, a4]; simp, ?_, ?_, by simp [a7, b8], by omega, fun e => b10 (a9 e)⟩
   ·intro e he
    rcases List.mem_append.1 he with he | he
    ·rw [a5 e he]; exact Nat.le_refl _
    ·have := b6 e he; omega
   ·intro e he
    rcases List.mem_append.1 he with he | he
    ·rw [a6 e he]; exact Nat.le_refl _
    ·have := b7 e he; omega
  ·simp at h
theorem dStep_fact (hok : OkD ops ms) {i : Nat} {o : Oper} {R R' F : DR} (ho : ops[i]? = some o) (h : dStep callF P ops ms i o R = some R')
  (hlen : R.recs.length = i) (hhl : R.hs.length = R.es.length + 1) (hev : R.nx % 2 = 0) (hsl : SlotAt ops F.recs tm0 (fun l => Nat.blt l i) R.tm)
  {recs' : List Rec} {es' : List Nat} {hs' : List (List (Nat × Obj))} {al' : List (Nat × Nat × Obj)} (p1 : F.recs = R'.recs ++ recs') (p2 : F.es = R'.es ++ es') (p3 : F.hs = R'.hs ++ hs') (p4 : F.al = R'.al ++ al')
  (p6 : ∀ x ∈ al', i + 1 <= x.1) : ∃ r, Fact callF P ops ms tm0 F i o r /\ r.nx = R.nx /\ r.nx' = R'.nx /\ R'.tm = putD R.tm o.dst r.v /\ R'.recs = R.recs ++ [r] /\
   (∀ e, R'.es = R.es ++ [e] -> e = i /\ r.on = true /\ kind o.op ≠ 0 /\ kind o.op ≠ 1 /\ kind o.op ≠ 2) /\ (∀ x, R'.al = R.al ++ [x] -> x.1 = i /\ r.on = true /\ kind o.op = 2 /\ astep callF P r.tm ⟨[], r.nx⟩ o = some (r.v, ⟨[(x.2.1, x.2.2)], r.nx'⟩)) := by
 have hnom : ∀ (x : Nat × Nat × Obj), i <= x.1 -> Nat.testBit (natAt ms i) x.1 = false := by
  intro x hx
  cases hb : Nat.testBit (natAt ms i) x.1 with
  | false => rfl
  | true => have := (hok.mask i o _ ho hb).1; omega
 have hrec : ∀ r, R'.recs = R.recs ++ [r] -> F.recs[i]? = some r := by
  intro r hr
  rw [p1, hr, List.append_assoc, List.getElem?_append_right (by omega)]
  simp [hlen]
 unfold dStep at h
 split at h
 ·rename_i hg
  split at h
  ·rename_i hk
   simp only [Option.ite_none_right_eq_some] at h
   obtain ⟨hall, h⟩ := h
   split at h
   ·rename_i v S' hs
    simp only [Option.ite_none_right_eq_some, Option.some.injEq, Bool.and_eq_true] at h
    obtain ⟨⟨h1, h2⟩, rfl⟩ := h
    simp only at p1 p2 p3 p4
    refine ⟨⟨true, R.tm, v, R.nx, S'.next⟩, ⟨hrec _ rfl, hsl, hg.symm, Nat.le_of_ble_eq_true h1, hev, by simp, fun _ _ _ _ => ?_, by rw [hk]; simp, by rw [hk]; simp⟩, rfl, rfl, rfl, rfl, ?_, ?_⟩
    ·refine ⟨R.es.length, S', by rw [p2]; simp, ?_, ?_, rfl, ?_⟩
     ·intro s e hs' he
      rw [p2, List.append_assoc, List.getElem?_append_left hs'] at he
      exact List.all_eq_true.1 hall e (List.mem_of_getElem? he)
     ·rw [p2, p3, p4, List.append_assoc, List.append_assoc, seen_append (fun x hx => hnom x (by have := p6 x hx; omega)) (Nat.le_refl _) (by omega)]
      exact hs
     ·rw [p3, heapAt_append (by simp [hhl])]
      have : ∀ (l : List (List (Nat × Obj))) x n, n = l.length -> heapAt (l ++ [x]) n = x := by
       intro l
       induction l with
       | nil => intro x n hn; subst hn; rfl
       | cons y r ih => intro x n hn; subst hn; exact ih x _ rfl
      exact this _ _ _ hhl.symm
    ·intro e he
     simp only [List.append_cancel_left_eq, List.cons.injEq, and_true] at he
     exact ⟨he.symm, rfl, by rw [hk]; simp, by rw [hk]; simp, by rw [hk]; simp⟩
    ·intro x hx
     simp at hx
   ·simp at h
  ·rename_i hk
   split at h
   ·rename_i v n b nx hs
    simp only [Option.ite_none_right_eq_some, Option.some.injEq, Bool.and_eq_true] at h
    obtain ⟨⟨h1, h2⟩, rfl⟩ := h
    simp only at p1 p2 p3 p4
    refine ⟨⟨true, R.tm, v, R.nx, nx⟩, ⟨hrec _ rfl, hsl, hg.symm, Nat.le_of_ble_eq_true h1, hev, by simp, by rw [hk]; simp, fun _ _ => ⟨n, b, by rw [p4]; simp, hs⟩, by rw [hk]; simp⟩, rfl, rfl, rfl, rfl, ?_, ?_⟩
    ·intro e he; simp at he
    ·intro x hx
     simp only [List.append_cancel_left_eq, List.cons.injEq, and_true] at hx
     subst hx
     exact ⟨rfl, rfl, hk, hs⟩
   ·simp at h
  ·rename_i hk3 hk2
   split at h
   ·rename_i v S' hs
    simp only [Option.some.injEq] at h; subst h
    simp only at p1 p2 p3 p4
    have hk01 : kind o.op = 0 \/ kind o.op = 1 := by
     have : kind o.op <= 3 := by unfold kind; split <;> omega
     have h3 : kind o.op ≠ 3 := hk3
     have h2 : kind o.op ≠ 2 := hk2
     omega
    refine ⟨⟨true, R.tm, v, R.nx, R.nx⟩, ⟨hrec _ rfl, hsl, hg.symm, Nat.le_refl _, hev, by simp, fun _ a b _ => ?_, fun _ a => absurd a hk2, fun _ _ => ⟨rfl, R.es.length, S', by rw [p2]; simp, ?_⟩⟩, rfl, rfl, rfl, rfl, ?_, ?_⟩
    ·rcases hk01 with h | h
     ·exact absurd h a
     ·exact absurd h b
    ·rw [p2, p3, p4, seen_append (fun x hx => hnom x (by have := p6 x hx; omega)) (Nat.le_refl _) (by omega)]
     exact hs
    ·intro e he; simp at he
    ·intro e he; simp at he
   ·simp at h
 ·rename_i hg
  simp only [Option.some.injEq] at h; subst h
  refine ⟨⟨false, R.tm, undef, R.nx, R.nx⟩, ⟨hrec _ rfl, hsl, by simpa using hg, Nat.le_refl _, hev, fun _ => ⟨rfl, rfl⟩, by simp, by simp, by simp⟩, rfl, rfl, rfl, rfl, ?_, ?_⟩
  ·intro e he; simp at he
  ·intro e he; simp at he
end
theorem blt_iff (a b : Nat) : Nat.blt a b = true ↔ a < b := ⟨Nat.le_of_ble_eq_true, Nat.ble_eq_true_of_le⟩
theorem blt_false (a b : Nat) : Nat.blt a b = false ↔ b <= a := by rw [<- Bool.not_eq_true, blt_iff]; omega
section
variable {P : Program} {callF : Fn -> List Value -> St -> Option (Value × St)} {ops : List Oper} {ms : List Nat} {tm0 : List Value}
structure Facts (callF : Fn -> List Value -> St -> Option (Value × St)) (P : Program) (ops : List Oper) (ms : List Nat) (tm0 : List Value) (F : DR) (i n : Nat) (es : Nat -> Prop) (al : Nat × Nat × Obj -> Prop) : Prop where
 fact : ∀ (j : Nat) (o : Oper), i <= j -> ops[j]? = some o -> ∃ r, Fact callF P ops ms tm0 F j o r /\ n <= r.nx /\ r.nx' <= F.nx
 order : ∀ (j j' : Nat) (r r' : Rec), i <= j -> j < j' -> F.recs[j]? = some r -> F.recs[j']? = some r' -> r.nx' <= r'.nx
 effects : ∀ (t e : Nat), F.es[t]? = some e -> es t \/ ∃ o r, ops[e]? = some o /\ F.recs[e]? = some r /\ r.on = true /\ kind o.op ≠ 0 /\ kind o.op ≠ 1 /\ kind o.op ≠ 2
 laid : ∀ x ∈ F.al, al x \/ ∃ o r, ops[x.1]? = some o /\ F.recs[x.1]? = some r /\ r.on = true /\ kind o.op = 2 /\ astep callF P r.tm ⟨[], r.nx⟩ o = some (r.v, ⟨[(x.2.1, x.2.2)], r.nx'⟩)
 sorted : F.es.Pairwise (· < ·)
 slots : SlotAt ops F.recs tm0 (fun l => Nat.blt l ops.length) F.tm
 heaps : F.hs.length = F.es.length + 1
 le : n <= F.nx
 ev : F.nx % 2 = 0
 recs : F.recs.length = ops.length
theorem dRun_facts (hok : OkD ops ms) : ∀ {l : List Oper} {i : Nat} {R F : DR}, dRun callF P ops ms i l R = some F -> (∀ j, l[j]? = ops[i + j]?) -> i + l.length = ops.length -> R.recs.length = i -> R.hs.length = R.es.length + 1 -> R.nx % 2 = 0 ->
  SlotAt ops F.recs tm0 (fun l => Nat.blt l i) R.tm -> (∀ e ∈ R.es, e < i) -> R.es.Pairwise (· < ·) -> Facts callF P ops ms tm0 F i R.nx (fun t => t < R.es.length) (fun x => x ∈ R.al)
 | [], i, R, F, h, hl, hn, hlen, hhl, hev, hsl, hes, hso => by
  simp only [dRun, Option.some.injEq] at h; subst h
  simp only [List.length_nil, Nat.add_zero] at hn
  refine ⟨?_, ?_, ?_, ?_, hso, by rw [<- hn]; exact hsl, hhl, Nat.le_refl _, hev, by omega⟩
  ·intro j o hj ho
   have := (List.getElem?_eq_some_iff.1 ho).1
   omega
  ·intro j j' r r' hj hjj hr hr'
   have := (List.getElem?_eq_some_iff.1 hr).1
   omega
  ·intro t e he
   exact .inl (List.getElem?_eq_some_iff.1 he).1
  ·intro x hx
   exact .inl hx
 | o :: l, i, R, F, h, hl, hn, hlen, hhl, hev, hsl, hes, hso => by
  simp only [dRun] at h
  split at h
  ·rename_i R' hs
   have ho : ops[i]? = some o := by have := hl 0; simpa using this.symm
   obtain ⟨r0, es1, hs1, al1, a1, a2, a3, a4, a5, a6, a7, a8, _, _, _, _, a9, a10⟩ := dStep_prefix hs
   obtain ⟨rs2, es2, hs2, al2, b1, b2, b3, b4, b5, b6, b7, b8, b9, b10⟩ := dRun_prefix h
   obtain ⟨r, hf, f1, f2, f3, f4, f5, f6⟩ := dStep_fact (tm0 := tm0) hok ho hs hlen hhl hev hsl b1 b3 b4 b5 b7
   have hsl' : SlotAt ops F.recs tm0 (fun l => Nat.blt l (i + 1)) R'.tm := by
    rw [f3]
    refine hsl.put hok ho hf.record ((blt_false i i).2 (Nat.le_refl _)) fun l => ?_
    simp only [blt_iff]
    omega
   have hlen' : R'.recs.length = i + 1 := by rw [f4]; simp [hlen]
   have hn' : i + 1 + l.length = ops.length := by simp only [List.length_cons] at hn; omega
   have IH := dRun_facts hok h (fun j => by have := hl (j + 1); simpa [Nat.add_assoc, Nat.add_comm 1 j] using this) hn' hlen' (by rw [a3, a2]; simp [hhl, a7]; omega) (a9 hev) hsl'
    (fun e he => by
     rw [a2] at he
     rcases List.mem_append.1 he with he | he
     ·have := hes e he; omega
     ·have := a5 e he; omega)
    (by
     rw [a2, List.pairwise_append]
     refine ⟨hso, ?_, fun x hx y hy => by rw [a5 y hy]; exact hes x hx⟩
     match es1, a10 with
     | [], _ => simp
     | [x], _ => simp
     | _ :: _ :: _, hlt => simp at hlt)
   refine ⟨?_, ?_, ?_, ?_, IH.sorted, IH.slots, IH.heaps, Nat.le_trans a8 IH.le, IH.ev, IH.recs⟩
   ·intro j o' hj ho'
    by_cases hji : j = i
    ·subst hji
     rw [ho] at ho'; obtain rfl := Option.some.inj ho'
     exact ⟨r, hf, by rw [f1]; exact Nat.le_refl _, by rw [f2]; exact IH.le⟩
    ·obtain ⟨r', q1, q2, q3⟩ := IH.fact j o' (by omega) ho'
     exact ⟨r', q1, by omega, q3⟩
   ·intro j j' r1 r2 hj hjj hr1 hr2
    by_cases hji : j = i
    ·subst hji
     rw [hf.record] at hr1; obtain rfl := Option.some.inj hr1
     have hlt : j' < ops.length := by rw [<- IH.recs]; exact (List.getElem?_eq_some_iff.1 hr2).1
     obtain ⟨r', q1, q2, q3⟩ := IH.fact j' ops[j'] (by omega) (List.getElem?_eq_getElem hlt)
     rw [q1.record] at hr2; obtain rfl := Option.some.inj hr2
     rw [f2]; exact q2
    ·exact IH.order j j' r1 r2 (by omega) hjj hr1 hr2
   ·intro t e he
    rcases IH.effects t e he with ht | hx
    ·rw [a2] at ht
     by_cases htl : t < R.es.length
     ·exact .inl htl
     ·right
      match es1, a10, a2, a5 with
      | [], _, a2, _ => simp at ht; omega
      | [x], _, a2, a5 =>
       have : t = R.es.length := by simp at ht; omega
       subst this
       have hx : x = i := a5 x (by simp)
       subst hx
       obtain ⟨_, g2, g3⟩ := f5 x a2
       rw [b3, a2, List.append_assoc] at he
       simp at he
       subst he
       exact ⟨o, r, ho, hf.record, g2, g3⟩
      | _ :: _ :: _, hlt, _, _ => simp at hlt
    ·exact .inr hx
   ·intro x hx
    rcases IH.laid x hx with hy | hz
    ·rw [a4] at hy
     rcases List.mem_append.1 hy with hy | hy
     ·exact .inl hy
     ·right
      have hyi := a6 x hy
      rw [hyi]
      refine ⟨o, r, ho, hf.record, ?_⟩
      match al1, a4, hy with
      | [z], a4, hy =>
       obtain rfl : x = z := by simpa using hy
       exact (f6 x a4).2
      | z :: z' :: rest, a4, hy =>
       exfalso
       unfold dStep at hs
       split at hs
       ·split at hs
        ·simp only [Option.ite_none_right_eq_some] at hs
         obtain ⟨_, hs⟩ := hs
         split at hs
         ·simp only [Option.ite_none_right_eq_some, Option.some.injEq] at hs
          obtain ⟨_, rfl⟩ := hs
          simp at a4
         ·simp at hs
        ·split at hs
         ·simp only [Option.ite_none_right_eq_some, Option.some.injEq] at hs
          obtain ⟨_, rfl⟩ := hs
          simp at a4
         ·simp at hs
        ·split at hs
         ·simp only [Option.some.injEq] at hs; subst hs
          simp at a4
         ·simp at hs
       ·simp only [Option.some.injEq] at hs; subst hs
        simp at a4
    ·exact .inr hz
  ·simp at h
theorem readsOk_spec {F : DR} : ∀ {l : List Oper} {rs : List Rec} {i : Nat}, readsOk callF P ms F i l rs = true -> ∀ (j : Nat) (o : Oper) (r : Rec), l[j]? = some o -> rs[j]? = some r -> r.on = true -> kind o.op = 1 ->
  ∀ k, k <= F.es.length -> readOk callF P ms F (i + j) o r k = true
 | [], _, _, _, j, o, r, h, _, _, _, _, _ => by simp at h
 | _ :: _, [], _, h, _, _, _, _, _, _, _, _, _ => by simp [readsOk] at h
 | p :: l, q :: rs, i, h, j, o, r, hl, hr, hon, hk, k, hkl => by
  simp only [readsOk, Bool.and_eq_true, Bool.or_eq_true, Bool.not_eq_true'] at h
  cases j with
  | zero =>
   simp only [List.getElem?_cons_zero, Option.some.injEq] at hl hr
   subst hl; subst hr
   rcases h.1 with (h1 | h1) | h1
   ·rw [hon] at h1; cases h1
   ·rw [hk] at h1; simp at h1
   ·exact upTo_spec h1 k hkl
  | succ j =>
   have := readsOk_spec h.2 j o r (by simpa using hl) (by simpa using hr) hon hk k hkl
   rwa [Nat.add_assoc, Nat.add_comm 1 j] at this
end
theorem mem_setNth : ∀ {l : List Value} {n : Nat} {x y : Value}, y ∈ setNth l n x -> y = x \/ y ∈ l
 | [], _, _, _, h => by simp [setNth] at h
 | _ :: _, 0, _, _, h => by
  simp only [setNth, List.mem_cons] at h
  exact h.imp id fun h => by simp [h]
 | _ :: r, n + 1, _, _, h => by
  simp only [setNth, List.mem_cons] at h
  rcases h with h | h
  ·exact .inr (by simp [h])
  ·exact (mem_setNth h).imp id fun h => by simp [h]
theorem Tm.move {E E' : Env} {A B : Nat -> Prop} {tm : List Value} {a : Act} (ht : Tm E A tm a) (hag : Agree A E E') (hAB : ∀ n, A n -> B n) : Tm E' B tm a :=
 ⟨by rw [ht.tmps]; congr 1; exact List.map_congr_left fun x hx => (ren_agree hag x (ht.sc x hx)).symm, fun x hx => Sc_mono hAB x (ht.sc x hx)⟩
theorem Tm.put {E E' : Env} {A B : Nat -> Prop} {tm : List Value} {a : Act} (ht : Tm E A tm a) (hag : Agree A E E') (hAB : ∀ n, A n -> B n) {dst : Option Tmp} {v : Value} (hs : Sc B v) : Tm E' B (putD tm dst v) (a.put dst (ren E' v)) := by
 have h := ht.move hag hAB
 cases dst with
 | none => exact h
 | some d =>
  refine ⟨?_, fun x hx => ?_⟩
  ·simp only [Act.put, putD, h.tmps, setNth_toArray]
   simp
  ·rcases mem_setNth hx with rfl | hx
   ·exact hs
   ·exact h.sc x hx
structure Ctx (P : Program) (callF : Fn -> List Value -> St -> Option (Value × St)) (ops : List Oper) (ms : List Nat) (tm0 : List Value) (F : DR) (E0 : Env) (A : Nat -> Prop) (S : St) : Prop where
 calls : CallOk P callF
 names : NamesOk P
 ok : OkD ops ms
 facts : Facts callF P ops ms tm0 F 0 S.next (fun _ => False) (fun _ => False)
 opd : ∀ (i : Nat) (o : Oper) (x : Operand), ops[i]? = some o -> x ∈ o.op.operands -> okOpd P x = true
 glb : Glb P E0 A
 out : ∀ n, A n -> ¬ (S.next <= n /\ n < F.nx)
 reads : ∀ (j : Nat) (o : Oper) (r : Rec), ops[j]? = some o -> F.recs[j]? = some r -> r.on = true -> kind o.op = 1 -> ∀ k, k <= F.es.length -> readOk callF P ms F j o r k = true
 twice : noTwice F.al = true
 apart : apartOk ms F F.al = true
def AL (recs : List Rec) (A : Nat -> Prop) (L : Nat -> Bool) (n : Nat) : Prop := A n \/ ∃ l r, L l = true /\ recs[l]? = some r /\ r.nx <= n /\ n < r.nx'
def hp (ms : List Nat) (F : DR) (L : Nat -> Bool) (k : Nat) : List (Nat × Obj) := own (fun j => L j && !absd ms F.es k j) F.al ++ heapAt F.hs k
structure Stand (P : Program) (ops : List Oper) (ms : List Nat) (tm0 : List Value) (F : DR) (E0 : Env) (A : Nat -> Prop) (S : St) (w0 : World) (a0 : Act) (L : Nat -> Bool) (E : Env) (tm : List Value) (k : Nat) (a : Act) (w : World) : Prop where
 slots : SlotAt ops F.recs tm0 L tm
 tm : Tm E (AL F.recs A L) tm a
 kle : k <= F.es.length
 keff : ∀ t e, F.es[t]? = some e -> (L e = true ↔ t < k)
 holds : Holds P E (AL F.recs A L) (hp ms F L k) w
 post : Post P E0 A S.heap S.next w0 E (hp ms F L k) F.nx w
 dfr : a.defers = a0.defers
section
variable {P : Program} {callF : Fn -> List Value -> St -> Option (Value × St)} {ops : List Oper} {ms : List Nat} {tm0 : List Value} {F : DR} {E0 : Env} {A : Nat -> Prop} {S : St} {w0 : World} {a0 : Act}
variable {L L' : Nat -> Bool} {E : Env} {tm : List Value} {k : Nat} {a : Act} {w : World} {i : Nat} {o : Oper} {r : Rec}
theorem Ctx.bounds (C : Ctx P callF ops ms tm0 F E0 A S) {l : Nat} {r : Rec} (hr : F.recs[l]? = some r) : S.next <= r.nx /\ r.nx <= r.nx' /\ r.nx' <= F.nx := by
 have hlt : l < ops.length := by rw [<- C.facts.recs]; exact (List.getElem?_eq_some_iff.1 hr).1
 obtain ⟨r', h1, h2, h3⟩ := C.facts.fact l ops[l] (Nat.zero_le _) (List.getElem?_eq_getElem hlt)
 rw [h1.record] at hr; obtain rfl := Option.some.inj hr
 exact ⟨h2, h1.le, h3⟩
theorem Ctx.apartAL (C : Ctx P callF ops ms tm0 F E0 A S) (hr : F.recs[i]? = some r) (hi : L i = false) : ∀ n, AL F.recs A L n -> ¬ (r.nx <= n /\ n < r.nx') := by
 intro n hn hin
 obtain ⟨b1, b2, b3⟩ := C.bounds hr
 rcases hn with hn | ⟨l, r', hl, hr', h1, h2⟩
 ·exact C.out n hn (by omega)
 ·rcases Nat.lt_trichotomy l i with h | h | h
  ·have := C.facts.order l i r' r (Nat.zero_le _) h hr' hr; omega
  ·subst h; rw [hi] at hl; cases hl
  ·have := C.facts.order i l r r' (Nat.zero_le _) h hr hr'; omega
theorem Stand.next (C : Ctx P callF ops ms tm0 F E0 A S) (hJ : Stand P ops ms tm0 F E0 A S w0 a0 L E tm k a w) (ho : ops[i]? = some o) (hr : F.recs[i]? = some r) (hi : L i = false)
  (hL' : ∀ l, L' l = true ↔ L l = true \/ l = i) {E' : Env} {w' : World} {k' : Nat} {hs hs' : List (Nat × Obj)} (q : Post P E (AL F.recs A L) hs r.nx w E' hs' r.nx' w')
  (hsub : ∀ n x, getB hs n = some x -> getB (hp ms F L k) n = some x) (hh : ∀ n x, getB (hp ms F L' k') n = some x -> getB hs' n = some x \/ (getB (hp ms F L k) n = some x /\ getB hs n = none))
  (hsc : Sc (fun n => AL F.recs A L n \/ (r.nx <= n /\ n < r.nx')) r.v) (hk' : k' <= F.es.length) (heff' : ∀ t e, F.es[t]? = some e -> (L' e = true ↔ t < k')) :
  Stand P ops ms tm0 F E0 A S w0 a0 L' E' (putD tm o.dst r.v) k' (a.put o.dst (ren E' r.v)) w' := by
 have hAL := C.apartAL (L := L) hr hi
 have hgrow : ∀ n, AL F.recs A L n \/ (r.nx <= n /\ n < r.nx') -> AL F.recs A L' n := by
  intro n hn
  rcases hn with (hn | ⟨l, r', hl, hx⟩) | hn
  ·exact .inl hn
  ·exact .inr ⟨l, r', (hL' l).2 (.inl hl), hx⟩
  ·exact .inr ⟨i, r, (hL' i).2 (.inr rfl), hr, hn⟩
 have hq := Post.frame hJ.holds hsub q hAL hh
 obtain ⟨b1, b2, b3⟩ := C.bounds hr
 refine ⟨hJ.slots.put C.ok ho hr hi hL', ?_, hk', heff', hq.holds.mono hgrow, hJ.post.wide hq b1 b3 ?_, ?_⟩
 ·exact hJ.tm.put (q.agreeA hAL) (fun n hn => hgrow n (.inl hn)) (Sc_mono hgrow _ hsc)
 ·intro n hn
  rcases hn with (hn | ⟨l, r', hl, hr', hx⟩) | hn
  ·exact .inl hn
  ·have := C.bounds hr'; exact .inr (by omega)
  ·exact .inr (by omega)
 ·rw [<- hJ.dfr]; unfold Act.put; split <;> rfl
theorem Ctx.getHp (C : Ctx P callF ops ms tm0 F E0 A S) {p : Nat -> Bool} {h : List (Nat × Obj)} {n : Nat} {x : Obj} (hg : getB (own p F.al ++ h) n = some x) :
  (∃ j, (j, n, x) ∈ F.al /\ p j = true) \/ ((∀ j y, (j, n, y) ∈ F.al -> p j = false) /\ getB h n = some x) := by
 rw [getB_append] at hg
 cases hc : getB (own p F.al) n with
 | some y =>
  rw [hc] at hg; obtain rfl := Option.some.inj hg
  exact .inl (getOwn_some hc)
 | none =>
  rw [hc] at hg
  refine .inr ⟨fun j y hj => ?_, hg⟩
  cases hp : p j with
  | false => rfl
  | true => rw [getOwn_mem C.twice hj hp] at hc; cases hc
theorem Ctx.inOwn (C : Ctx P callF ops ms tm0 F E0 A S) {p : Nat -> Bool} {h : List (Nat × Obj)} {j n : Nat} {x : Obj} (hj : (j, n, x) ∈ F.al) (hp : p j = true) : getB (own p F.al ++ h) n = some x := by
 rw [getB_append, getOwn_mem C.twice hj hp]
theorem getNotOwn {p : Nat -> Bool} {al : List (Nat × Nat × Obj)} {h : List (Nat × Obj)} {n : Nat} (hn : ∀ j y, (j, n, y) ∈ al -> p j = false) : getB (own p al ++ h) n = getB h n := by
 rw [getB_append]
 cases hc : getB (own p al) n with
 | none => rfl
 | some y => obtain ⟨j, hj, hp⟩ := getOwn_some hc; rw [hn j y hj] at hp; cases hp
theorem Ctx.seen_sub (C : Ctx P callF ops ms tm0 F E0 A S) (hk : k <= F.es.length) (hm : ∀ j, Nat.testBit (natAt ms i) j = true -> L j = true) : ∀ n x, getB (seen ms F.es F.hs F.al i k) n = some x -> getB (hp ms F L k) n = some x := by
 intro n x hg
 unfold seen at hg
 unfold hp
 rcases C.getHp hg with ⟨j, hj, hp⟩ | ⟨hno, hg⟩
 ·simp only [Bool.and_eq_true] at hp
  exact C.inOwn hj (by simp only [Bool.and_eq_true]; exact ⟨hm j hp.1, hp.2⟩)
 ·rw [getNotOwn]
  ·exact hg
  ·intro j y hj
   cases hab : absd ms F.es k j with
   | true => simp
   | false => rw [apartOk_spec C.apart j n y k hj hk hab] at hg; cases hg
end
theorem own_congr {p q : Nat -> Bool} : ∀ {al : List (Nat × Nat × Obj)}, (∀ x ∈ al, p x.1 = q x.1) -> own p al = own q al
 | [], _ => rfl
 | (j, n, o) :: r, h => by
  have hj : p j = q j := h (j, n, o) (by simp)
  simp only [own]
  rw [own_congr (al := r) fun x hx => h x (by simp [hx]), hj]
section
variable {P : Program} {callF : Fn -> List Value -> St -> Option (Value × St)} {opsA : Array Oper} {ms : List Nat} {tm0 : List Value} {F : DR} {E0 : Env} {A : Nat -> Prop} {S : St} {w0 : World} {a0 : Act}
variable {L L' : Nat -> Bool} {E : Env} {tm : List Value} {k : Nat} {a : Act} {w : World} {i : Nat} {o : Oper} {r : Rec}
theorem Ctx.globals (C : Ctx P callF opsA.toList ms tm0 F E0 A S) (hJ : Stand P opsA.toList ms tm0 F E0 A S w0 a0 L E tm k a w) : Glb P E (AL F.recs A L) := by
 intro g hg
 obtain ⟨h1, h2, h3⟩ := C.glb g hg
 obtain ⟨e1, e2, _⟩ := hJ.post.agree (2 * g) (C.out _ h3)
 exact ⟨by rw [e1, h1], by rw [e2, h2], .inl h3⟩
theorem hp_same (C : Ctx P callF opsA.toList ms tm0 F E0 A S) (hL' : ∀ l, L' l = true ↔ L l = true \/ l = i) (hno : ∀ n y, (i, n, y) ∉ F.al) : ∀ n x, getB (hp ms F L' k) n = some x -> getB (hp ms F L k) n = some x := by
 intro n x hg
 unfold hp at hg ⊢
 rcases C.getHp hg with ⟨j, hj, hp⟩ | ⟨hn, hg⟩
 ·simp only [Bool.and_eq_true] at hp
  rcases (hL' j).1 hp.1 with hl | rfl
  ·exact C.inOwn hj (by simp only [Bool.and_eq_true]; exact ⟨hl, hp.2⟩)
  ·exact absurd hj (hno n x)
 ·rw [getNotOwn]
  ·exact hg
  ·intro j y hj
   have := hn j y hj
   cases hl : L j with
   | false => rfl
   | true => rw [(hL' j).2 (.inl hl)] at this; simpa using this
theorem Stand.step (C : Ctx P callF opsA.toList ms tm0 F E0 A S) (hJ : Stand P opsA.toList ms tm0 F E0 A S w0 a0 L E tm k a w) (ho : opsA.toList[i]? = some o) (hi : L i = false)
  (hm : ∀ j, Nat.testBit (natAt ms i) j = true -> L j = true) (hdown : ∀ l, L l = true -> ∀ j, Nat.testBit (natAt ms l) j = true -> L j = true) (hL' : ∀ l, L' l = true ↔ L l = true \/ l = i)
  {ro : Option Nat} {K : Act -> World -> Prop} {Q : Exit -> Act -> World -> Prop} (hK : ∀ E' tm' k' a' w', Stand P opsA.toList ms tm0 F E0 A S w0 a0 L' E' tm' k' a' w' -> K a' w') :
  if Region.wanted o (yielded opsA a.tmps) = true then o.wpIn (rd ro) 0 P a w K Q else K (a.put o.dst undef) w := by
 obtain ⟨r, hf, hn1, hn2⟩ := C.facts.fact i o (Nat.zero_le _) ho
 have hr := hf.record
 have hslot : ∀ t, slotOk ms opsA.toList i t = true -> nth tm t = nth r.tm t := fun t ht =>
  SlotAt.agree C.facts.recs hJ.slots hf.slots ht hi ((blt_false i i).2 (Nat.le_refl _)) hm (fun l hl => (blt_iff l i).2 (C.ok.mask i o l ho hl).1)
   (fun l hl hs => by
    cases hLl : L l with
    | false => rfl
    | true => rw [hdown l hLl i hl] at hi; cases hi)
   (fun l hl hs => by
    obtain ⟨o', ho'⟩ := Option.isSome_iff_exists.1 hs
    have := (C.ok.mask l o' i ho' hl).1
    exact (blt_false l i).2 (by omega))
 have hopd : ∀ x ∈ o.op.operands, aeval tm x = aeval r.tm x := by
  intro x hx
  cases x with
  | tmp t => exact hslot t (C.ok.slot i o _ t ho hx rfl)
  | _ => rfl
 have hgd : aguard opsA.toList tm o = r.on := by
  rw [hf.on]
  exact aguard_congr fun g want p d hg hp hd => hslot d (C.ok.guard i o g want p d ho hg hp hd)
 have hnoeff : ¬ (r.on = true /\ kind o.op ≠ 0 /\ kind o.op ≠ 1 /\ kind o.op ≠ 2) -> ∀ t e, F.es[t]? = some e -> (L' e = true ↔ t < k) := by
  intro hne t e he
  rw [hL', <- hJ.keff t e he]
  refine ⟨fun h => h.resolve_right ?_, .inl⟩
  rintro rfl
  rcases C.facts.effects t e he with h | ⟨o', r', ho', hr', h⟩
  ·exact h
  ·rw [ho] at ho'; obtain rfl := Option.some.inj ho'
   rw [hr] at hr'; obtain rfl := Option.some.inj hr'
   exact hne h
 have hnolay : ¬ (r.on = true /\ kind o.op = 2) -> ∀ n y, (i, n, y) ∉ F.al := by
  intro hne n y hy
  rcases C.facts.laid _ hy with h | ⟨o', r', ho', hr', h1, h2, _⟩
  ·exact h
  ·rw [ho] at ho'; obtain rfl := Option.some.inj ho'
   rw [hr] at hr'; obtain rfl := Option.some.inj hr'
   exact hne ⟨h1, h2⟩
 rw [wanted_eq hJ.tm, hgd]
 cases hon : r.on with
 | false =>
  obtain ⟨u1, u2⟩ := hf.off hon
  have hq : Post P E (AL F.recs A L) (hp ms F L k) r.nx w E (hp ms F L k) r.nx' w := by rw [u2]; exact Post.refl hJ.holds
  have := hJ.next C ho hr hi hL' (k' := k) hq (fun _ _ h => h) (fun n x hg => .inl (hp_same C hL' (hnolay (by simp [hon])) n x hg)) (by rw [u1]; exact Sc_undef _) hJ.kle (hnoeff (by simp [hon]))
  rw [u1, ren_undef] at this
  simp only [Bool.false_eq_true, if_false]
  exact hK _ _ _ _ _ this
 | true =>
  simp only [if_true]
  have hsel : ∀ {T S' : St} {v : Value}, astep callF P r.tm T o = some (v, S') -> ∀ cs b, o.op ≠ .select cs b := by
   intro T S' v h cs b e
   obtain ⟨dst, op, ty, pos, after, guard⟩ := o
   simp only at e
   subst e
   simp [astep] at h
  have run : ∀ {h : List (Nat × Obj)} {S' : St} {k' : Nat}, astep callF P r.tm ⟨h, r.nx⟩ o = some (r.v, S') -> S'.next = r.nx' ->
    (∀ n x, getB h n = some x -> getB (hp ms F L k) n = some x) -> (∀ n x, getB (hp ms F L' k') n = some x -> getB S'.heap n = some x \/ (getB (hp ms F L k) n = some x /\ getB h n = none)) ->
    k' <= F.es.length -> (∀ t e, F.es[t]? = some e -> (L' e = true ↔ t < k')) -> o.wpIn (rd ro) 0 P a w K Q := by
   intro h S' k' hs hnx hsub hh hk' heff'
   have hs' : astep callF P tm ⟨h, r.nx⟩ o = some (r.v, S') := by rw [astep_congr (hsel hs) hopd]; exact hs
   refine astep_sound (A := AL F.recs A L) C.calls C.names hJ.tm (C.globals hJ) (S := ⟨h, r.nx⟩) hf.ev (hJ.holds.sub hsub) (fun x hx => C.opd i o x ho hx) (by simp only [hnx]; exact C.apartAL hr hi) hs' (astep_noDefer hs') ro K Q ?_
   intro E' w' hq hsc
   rw [hnx] at hq hsc
   exact hK _ _ _ _ _ (hJ.next C ho hr hi hL' hq hsub hh hsc hk' heff')
  by_cases hk2 : kind o.op = 2
  ·obtain ⟨n, b, hmem, hs⟩ := hf.lays hon hk2
   refine run (k' := k) hs rfl (fun _ _ h => by simp [getB] at h) ?_ hJ.kle (hnoeff (by simp [hk2]))
   intro n' x hg
   unfold hp at hg
   rcases C.getHp hg with ⟨j, hj, hp'⟩ | ⟨hn, hg⟩
   ·simp only [Bool.and_eq_true] at hp'
    rcases (hL' j).1 hp'.1 with hl | rfl
    ·exact .inr ⟨C.inOwn hj (by simp only [Bool.and_eq_true]; exact ⟨hl, hp'.2⟩), rfl⟩
    ·left
     rcases C.facts.laid _ hj with h | ⟨o', r', ho', hr', _, _, h3⟩
     ·exact h.elim
     ·rw [ho] at ho'; obtain rfl := Option.some.inj ho'
      rw [hr] at hr'; obtain rfl := Option.some.inj hr'
      rw [hs] at h3
      simp only [Option.some.injEq, Prod.mk.injEq, St.mk.injEq, List.cons.injEq, and_true, true_and] at h3
      obtain ⟨rfl, rfl⟩ := h3
      simp [getB]
   ·right
    refine ⟨?_, rfl⟩
    unfold hp
    rw [getNotOwn]
    ·exact hg
    ·intro j y hj
     have := hn j y hj
     cases hl : L j with
     | false => rfl
     | true => rw [(hL' j).2 (.inl hl)] at this; simpa using this
  by_cases hk01 : kind o.op = 0 \/ kind o.op = 1
  ·obtain ⟨hnx, k0, S', hk0, hs⟩ := hf.reads hon hk01
   have hst := astep_still hk01 hs
   have hsk : astep callF P r.tm ⟨seen ms F.es F.hs F.al i k, r.nx⟩ o = some (r.v, ⟨seen ms F.es F.hs F.al i k, r.nx⟩) := by
    rcases hk01 with h0 | h1
    ·exact astep_pure h0 hs
    ·have hrd := C.reads i o r ho hr hon h1 k hJ.kle
     unfold readOk at hrd
     simp only [Bool.or_eq_true] at hrd
     rcases hrd with (hrd | hrd) | hrd
     ·obtain ⟨t, e, ht, he, hb⟩ := absd_spec hrd
      rw [hdown e ((hJ.keff t e he).2 ht) i hb] at hi; cases hi
     ·obtain ⟨e, he, hb⟩ := List.any_eq_true.1 hrd
      obtain ⟨t, ht⟩ := List.mem_iff_getElem?.1 he
      rw [List.getElem?_drop] at ht
      have := (hJ.keff _ e ht).1 (hm e hb)
      omega
     ·split at hrd
      ·rename_i v S₂ hs2
       obtain rfl := veq_spec hrd
       obtain rfl := astep_still (.inr h1) hs2
       exact hs2
      ·cases hrd
   refine run (k' := k) hsk hnx.symm (C.seen_sub hJ.kle hm) ?_ hJ.kle (hnoeff (by rcases hk01 with h | h <;> simp [h]))
   intro n x hg
   have h1 := hp_same C hL' (hnolay (by simp [hk2])) n x hg
   cases hc : getB (seen ms F.es F.hs F.al i k) n with
   | none => exact .inr ⟨h1, rfl⟩
   | some y =>
    have := C.seen_sub hJ.kle hm n y hc
    rw [h1] at this; obtain rfl := Option.some.inj this
    exact .inl rfl
  ·have hk0 : kind o.op ≠ 0 := fun h => hk01 (.inl h)
   have hk1 : kind o.op ≠ 1 := fun h => hk01 (.inr h)
   obtain ⟨t, S', ht, hprev, hs, hnx, hheap⟩ := hf.effect hon hk0 hk1 hk2
   have htl := (List.getElem?_eq_some_iff.1 ht).1
   have htk : t = k := by
    have h1 : ¬ t < k := fun h => by rw [(hJ.keff t i ht).2 h] at hi; cases hi
    rcases Nat.lt_or_ge k t with h | h
    ·have hkl : k < F.es.length := by omega
     have hek : F.es[k]? = some F.es[k] := List.getElem?_eq_getElem hkl
     have := (hJ.keff k _ hek).1 (hm _ (hprev k _ h hek))
     omega
    ·omega
   subst htk
   refine run (k' := t + 1) hs hnx (C.seen_sub hJ.kle hm) ?_ htl ?_
   ·intro n x hg
    unfold hp at hg
    rcases C.getHp hg with ⟨j, hj, hp'⟩ | ⟨hn, hg⟩
    ·simp only [Bool.and_eq_true, Bool.not_eq_true', absd_succ ht, Bool.or_eq_false_iff] at hp'
     obtain ⟨q1, q2, q3⟩ := hp'
     right
     rcases (hL' j).1 q1 with hl | rfl
     ·refine ⟨C.inOwn hj (by simp only [Bool.and_eq_true, Bool.not_eq_true']; exact ⟨hl, q2⟩), ?_⟩
      unfold seen
      rw [getNotOwn]
      ·exact apartOk_spec C.apart j n x t hj hJ.kle q2
      ·intro j' y hj'
       obtain ⟨rfl, _⟩ := noTwice_uniq C.twice hj' hj
       simp [q3]
     ·exact absurd hj (hnolay (by simp [hk2]) n x)
    ·left; rw [<- hheap]; exact hg
   ·intro s e he
    rw [hL', hJ.keff s e he]
    constructor
    ·rintro (h | rfl)
     ·omega
     ·rcases Nat.lt_trichotomy s t with h | h | h
      ·omega
      ·omega
      ·have h1 := List.pairwise_iff_getElem.1 C.facts.sorted t s htl (List.getElem?_eq_some_iff.1 he).1 h
       rw [(List.getElem?_eq_some_iff.1 ht).2, (List.getElem?_eq_some_iff.1 he).2] at h1
       omega
    ·intro h
     rcases Nat.lt_or_ge s t with h' | h'
     ·exact .inl h'
     ·obtain rfl : s = t := by omega
      rw [ht] at he; exact .inr (Option.some.inj he).symm
end
section
variable {P : Program} {callF : Fn -> List Value -> St -> Option (Value × St)} {opsA : Array Oper} {ms : List Nat} {tm0 : List Value} {F : DR} {E0 : Env} {A : Nat -> Prop} {S : St} {w0 : World} {a0 : Act}
theorem Stand.any (C : Ctx P callF opsA.toList ms tm0 F E0 A S) {ro : Option Nat} {Q : Exit -> Act -> World -> Prop}
  (hQ : ∀ E tm k a w L, (∀ j, j < opsA.size -> L j = true) -> Stand P opsA.toList ms tm0 F E0 A S w0 a0 L E tm k a w -> Q .normal a w) :
  ∀ (fuel : Nat) (listed : Array Bool) (rem : List Nat) (E : Env) (tm : List Value) (k : Nat) (a : Act) (w : World), listed.size = opsA.size -> rem.length <= fuel -> (∀ j, j < opsA.size -> listed.getD j false = false -> j ∈ rem) ->
   (∀ l, listed.getD l false = true -> ∀ j, Nat.testBit (natAt ms l) j = true -> listed.getD j false = true) ->
   Stand P opsA.toList ms tm0 F E0 A S w0 a0 (fun j => listed.getD j false) E tm k a w -> wpAnyIn (rd ro) 0 P .any opsA Q fuel listed a w := by
 have hall : ∀ (listed : Array Bool), listed.size = opsA.size -> Region.ready .any opsA listed = [] -> ∀ j, j < opsA.size -> listed.getD j false = true := by
  intro listed hsz hr j
  induction j using Nat.strongRecOn with
  | _ j ih =>
   intro hj
   cases hc : listed.getD j false with
   | true => rfl
   | false =>
    exfalso
    have ho : opsA[j]? = some opsA[j] := Array.getElem?_eq_getElem hj
    have : j ∈ Region.ready .any opsA listed := by
     rw [mem_ready]
     refine ⟨?_, opsA[j], ho, fun e he hb => ?_⟩
     ·have hjl : j < listed.size := by omega
      simp only [Array.getD, hjl, dif_pos] at hc ⊢
      exact hc
     ·have := C.ok.early j opsA[j] e (by simp [ho]) he hb
      exact ih e.on this (by omega)
    rw [hr] at this; cases this
 intro fuel
 induction fuel with
 | zero =>
  intro listed rem E tm k a w hsz hrem hmem hdown hJ
  have hrem0 : rem = [] := List.length_eq_zero_iff.1 (by omega)
  subst hrem0
  have hL : ∀ j, j < opsA.size -> listed.getD j false = true := by
   intro j hj
   cases hc : listed.getD j false with
   | true => rfl
   | false => have := hmem j hj hc; cases this
  refine ⟨?_, hQ E tm k a w _ hL hJ⟩
  rw [List.eq_nil_iff_forall_not_mem]
  intro j hj
  obtain ⟨h1, o, ho, _⟩ := mem_ready.1 hj
  have hlt : j < opsA.size := (Array.getElem?_eq_some_iff.1 ho).1
  have h2 := hL j hlt
  have hjl : j < listed.size := by omega
  simp only [Array.getD, hjl, dif_pos] at h1 h2
  rw [h1] at h2; cases h2
 | succ fuel ih =>
  intro listed rem E tm k a w hsz hrem hmem hdown hJ
  refine ⟨fun hr => hQ E tm k a w _ (hall listed hsz hr) hJ, fun i hi => ?_⟩
  obtain ⟨h1, o, ho, hedge⟩ := mem_ready.1 hi
  have hlt : i < opsA.size := (Array.getElem?_eq_some_iff.1 ho).1
  have hil : i < listed.size := by omega
  have hi0 : listed.getD i false = false := by
   simp only [Array.getD, hil, dif_pos] at h1 ⊢
   exact h1
  have ho' : opsA.toList[i]? = some o := by simpa using ho
  have hm : ∀ j, Nat.testBit (natAt ms i) j = true -> listed.getD j false = true := by
   intro j hj
   obtain ⟨_, e, he, hb, hx⟩ := C.ok.mask i o j ho' hj
   rcases hx with rfl | hx
   ·exact hedge e he hb
   ·exact hdown e.on (hedge e he hb) j hx
  have hL' : ∀ l, (fun j => (listed.setIfInBounds i true).getD j false) l = true ↔ (fun j => listed.getD j false) l = true \/ l = i := by
   intro l
   by_cases hli : l = i
   ·subst hli
    simp only [or_true, iff_true]
    simp [hil]
   ·simp only [hli, or_false]
    rw [getD_set_ne false (fun e => hli e.symm)]
  unfold wpOpIn
  rw [ho]
  simp only
  have hstep := Stand.step (L := fun j => listed.getD j false) (L' := fun j => (listed.setIfInBounds i true).getD j false) C hJ ho' hi0 hm hdown hL' (ro := ro) (K := wpAnyIn (rd ro) 0 P .any opsA Q fuel (listed.setIfInBounds i true)) (Q := Q) (fun E' tm' k' a' w' hJ' => by
   refine ih (listed.setIfInBounds i true) (rem.erase i) E' tm' k' a' w' (by simpa using hsz) ?_ ?_ ?_ hJ'
   ·have : i ∈ rem := hmem i hlt hi0
    rw [List.length_erase_of_mem this]; omega
   ·intro j hj hc
    have hne : j ≠ i := by
     rintro rfl
     have := (hL' j).2 (.inr rfl)
     simp only at this
     rw [this] at hc; cases hc
    rw [getD_set_ne false (fun e => hne e.symm)] at hc
    exact (List.mem_erase_of_ne hne).2 (hmem j hj hc)
   ·intro l hl j hj
    refine (hL' j).2 (.inl ?_)
    rcases (hL' l).1 hl with hl | rfl
    ·exact hdown l hl j hj
    ·exact hm j hj)
  split
  ·rename_i hw
   rw [if_pos hw] at hstep; exact hstep
  ·rename_i hw
   rw [if_neg hw] at hstep; exact ⟨fun _ _ => trivial, hstep⟩
theorem okOps_spec {l : List Oper} (h : okOps P l = true) : ∀ (i : Nat) (o : Oper) (x : Operand), l[i]? = some o -> x ∈ o.op.operands -> okOpd P x = true := by
 intro i o x ho hx
 have := allFrom_spec h i o ho
 exact List.all_eq_true.1 this x (by simpa using hx)
theorem evalDraw_sound (hm : P.follows .mixedOrders = true) (hcf : CallOk P callF) (hnm : NamesOk P) {E : Env} {tm tm' : List Value} {S' : St} {a : Act} {w : World} {rid : Nat} {ro : Option Nat} {Q : Exit -> Act -> World -> Prop} (hops : okOps P opsA.toList = true) (hd : okDraw opsA.toList = true) (hb : evalDraw callF P opsA.toList tm S = some (tm', S'))
  (ht : Tm E A tm a) (hg : Glb P E A) (hev : S.next % 2 = 0) (H : Holds P E A S.heap w) (hA : ∀ n, A n -> ¬ (S.next <= n /\ n < S'.next))
  (hQ : ∀ E' a' w', Post P E A S.heap S.next w E' S'.heap S'.next w' -> Tm E' (fun n => A n \/ (S.next <= n /\ n < S'.next)) tm' a' -> a'.defers = a.defers -> Q .normal a' w') :
  (Code.region rid opsA true).wpIn (rd ro) 0 P Q a w := by
 unfold evalDraw at hb
 split at hb
 ·rename_i F hF
  simp only [Option.ite_none_right_eq_some, Option.some.injEq, Prod.mk.injEq, Bool.and_eq_true] at hb
  obtain ⟨⟨⟨k1, k2⟩, k3⟩, rfl, rfl⟩ := hb
  have hok := okDraw_spec hd
  have hsl0 : SlotAt opsA.toList F.recs tm (fun l => Nat.blt l 0) tm := ⟨rfl, fun d _ => ⟨fun l o r _ _ hl => by rw [blt_iff] at hl; omega, fun _ => rfl⟩⟩
  have hfacts := dRun_facts (tm0 := tm) hok hF (fun j => by simp) (by simp) rfl rfl hev hsl0 (by simp) (by simp)
  have hfacts : Facts callF P opsA.toList (maskList opsA.toList []) tm F 0 S.next (fun _ => False) (fun _ => False) :=
   { hfacts with
     effects := fun t e he => (hfacts.effects t e he).imp (fun h => by simp at h) id
     laid := fun x hx => (hfacts.laid x hx).imp (fun h => by simp at h) id }
  obtain ⟨_, _, _, _, _, _, _, phs, _⟩ := dRun_prefix hF
  have h0 : heapAt F.hs 0 = S.heap := by
   obtain ⟨recs', es', hs', al', q1, q2, q3, q4, _⟩ := dRun_prefix hF
   rw [q4]; rfl
  simp only at hA hQ
  have C : Ctx P callF opsA.toList (maskList opsA.toList []) tm F E A S :=
   { calls := hcf, names := hnm, ok := hok, facts := hfacts, opd := okOps_spec hops, glb := hg, out := hA, twice := k2, apart := k3,
     reads := fun j o r ho hr hon hk k hkl => by simpa using readsOk_spec k1 j o r ho hr hon hk k hkl }
  refine wpIn_region_any hm (Stand.any (ro := ro) (w0 := w) (a0 := a) C ?_ opsA.size _ (List.range opsA.size) E tm 0 a _ (by simp) (by simp) (fun j hj _ => List.mem_range.2 hj) ?_ ?_)
  ·intro E' tm₁ k a' w' L hL hJ
   have hke : k = F.es.length := by
    rcases Nat.lt_or_ge k F.es.length with h | h
    ·have hek : F.es[k]? = some F.es[k] := List.getElem?_eq_getElem h
     have hlt : F.es[k] < opsA.size := by
      rcases hfacts.effects k _ hek with h | ⟨o, r, ho, _⟩
      ·exact h.elim
      ·simpa using (List.getElem?_eq_some_iff.1 ho).1
     have := (hJ.keff k _ hek).1 (hL _ hlt)
     omega
    ·have := hJ.kle; omega
   subst hke
   have htm : tm₁ = F.tm := by
    refine nth_ext (by rw [hJ.slots.1, hfacts.slots.1]) fun d hd => ?_
    rw [hJ.slots.1] at hd
    obtain ⟨p3, p4⟩ := hJ.slots.2 d hd
    obtain ⟨q3, q4⟩ := hfacts.slots.2 d hd
    by_cases hex : ∃ (l : Nat) (o : Oper), opsA.toList[l]? = some o /\ o.dst = some d
    ·obtain ⟨l, o, ho, hdo⟩ := hex
     have hlt := (List.getElem?_eq_some_iff.1 ho).1
     have hl : l < F.recs.length := by rw [hfacts.recs]; exact hlt
     have hr := List.getElem?_eq_getElem hl
     rw [p3 l o _ ho hr (hL l (by simpa using hlt)) hdo, q3 l o _ ho hr ((blt_iff _ _).2 hlt) hdo]
    ·rw [p4 fun l o ho _ hdo => hex ⟨l, o, ho, hdo⟩, q4 fun l o ho _ hdo => hex ⟨l, o, ho, hdo⟩]
   subst htm
   have hhp : hp (maskList opsA.toList []) F L F.es.length = own (fun j => !absd (maskList opsA.toList []) F.es F.es.length j) F.al ++ heapAt F.hs F.es.length := by
    unfold hp
    rw [own_congr]
    intro x hx
    rcases hfacts.laid x hx with h | ⟨o, r, ho, _⟩
    ·exact h.elim
    ·simp [hL x.1 (by simpa using (List.getElem?_eq_some_iff.1 ho).1)]
   have hpost := hJ.post
   rw [hhp] at hpost
   refine hQ E' a' w' hpost ⟨hJ.tm.tmps, fun x hx => Sc_mono ?_ x (hJ.tm.sc x hx)⟩ hJ.dfr
   rintro n (hn | ⟨l, r, hl, hr, hx⟩)
   ·exact .inl hn
   ·have := C.bounds hr; exact .inr (by omega)
  ·intro l hl
   exfalso
   by_cases h : l < opsA.size <;> simp [h] at hl
  ·have hno : ∀ j, (Array.replicate opsA.size false).getD j false = false := by
    intro j
    by_cases h : j < opsA.size <;> simp [h]
   have hhp : ∀ n x, getB (hp (maskList opsA.toList []) F (fun j => (Array.replicate opsA.size false).getD j false) 0) n = some x -> getB S.heap n = some x := by
    intro n x hg
    unfold hp at hg
    rw [getNotOwn (fun j y _ => by simp only [hno]; rfl), h0] at hg
    exact hg
   have hhd : Holds P E A S.heap { w with drawn := w.drawn + 1 } := H.world rfl
   refine ⟨⟨rfl, fun d _ => ⟨fun l o r _ _ hl => (by simp only [hno] at hl; cases hl), fun _ => rfl⟩⟩, ⟨ht.tmps, fun x hx => Sc_mono (fun n hn => .inl hn) x (ht.sc x hx)⟩, Nat.zero_le _, fun t e _ => ?_, (hhd.sub hhp).mono fun n hn => .inl hn, ?_, rfl⟩
   ·simp only [hno]; simp
   ·exact (Post.world (w₁ := { w with drawn := w.drawn + 1 }) (Post.start H hfacts.le (by rw [hfacts.ev, hev])) rfl rfl rfl rfl).drop hhp
 ·simp at hb
end
end Go.Dam
