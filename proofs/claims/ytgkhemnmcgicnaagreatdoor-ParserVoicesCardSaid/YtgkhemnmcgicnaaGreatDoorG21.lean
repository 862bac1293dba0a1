/- An own evaluator of closed runs of a program, proved sound against the model: one part of it. -/
import Derived.Test.YtgkhemnmcgicnaaGreatDoorG20
namespace Go.Dam
section
variable {P : Program} {E E' E₁ E₂ : bV} {A B : Nat -> Prop} {h h' h₁ h₂ hs hs' : List (Nat × Obj)} {nx nx' i i' N : Nat} {w w' w₁ w₂ : World}
theorem aX.frame (H : aV P E A h w) (hsub : ∀ n o, aL hs n = some o -> aL h n = some o) (q : aX P E A hs nx w E' hs' nx' w') (hA : ∀ n, A n -> ¬ (nx <= n /\ n < nx'))
  (hh : ∀ n o, aL h₂ n = some o -> aL hs' n = some o \/ (aL h n = some o /\ aL hs n = none)) : aX P E A h nx w E' h₂ nx' w' where
 le := q.le
 even := q.even
 agree := q.agree
 os := q.os
 tape := q.tape
 output := q.output
 size := q.size
 same b hb hn := q.same b hb fun n o hg => hn n o (hsub n o hg)
 img n o hn := by
  rcases hh n o hn with hg | ⟨hg, hno⟩
  ·exact (q.img n o hg).imp (fun ⟨m, o', hm, e⟩ => ⟨m, o', hsub m o' hm, e⟩) id
  ·exact .inl ⟨n, o, hg, (q.agree n (hA n (H.blk n o hg).1)).1⟩
 holds := by
  have hag : l7 A E E' := q.agreeA hA
  have hfr : ∀ n o, aL h n = some o -> aL hs n = none -> E'.β n = E.β n /\ E.β n < w.heap.size /\ w'.heap[E.β n]? = w.heap[E.β n]? := by
   intro n o hg hno
   obtain ⟨a, s, oc, hc, hr⟩ := H.blk n o hg
   have hlt : E.β n < w.heap.size := by
    rcases Nat.lt_or_ge (E.β n) w.heap.size with h' | h'
    ·exact h'
    ·rw [yye h'] at hc; cases hc
   refine ⟨(hag n a).1, hlt, q.same _ hlt fun m x hm e => ?_⟩
   have := H.inj m n x o (hsub m x hm) hg e
   subst this
   rw [hno] at hm; cases hm
  have cross : ∀ n m o o', aL hs' n = some o -> aL h m = some o' -> aL hs m = none -> E'.β n ≠ E'.β m := by
   intro n m o o' hn hm hno e
   obtain ⟨e1, e2, _⟩ := hfr m o' hm hno
   rcases q.img n o hn with ⟨k, x, hk, ek⟩ | ek
   ·have := H.inj k m x o' (hsub k x hk) hm (by rw [<- ek, e, e1])
    subst this
    rw [hno] at hk; cases hk
   ·rw [e, e1] at ek; omega
  refine ⟨fun n o hn => ?_, fun n m o o' hn hm e => ?_⟩
  ·rcases hh n o hn with hg | ⟨hg, hno⟩
   ·exact q.holds.blk n o hg
   ·obtain ⟨a, s, oc, hc, hr⟩ := H.blk n o hg
    obtain ⟨e1, e2, e3⟩ := hfr n o hg hno
    exact ⟨.inl a, jW (fun _ h => .inl h) o s, oc, by rw [e1, e3]; exact hc, cK.agree hag a s hr⟩
  ·rcases hh n o hn with hg | ⟨hg, hno⟩ <;> rcases hh m o' hm with hg' | ⟨hg', hno'⟩
   ·exact q.holds.inj n m o o' hg hg' e
   ·exact absurd e (cross n m o o' hg hg' hno')
   ·exact absurd e.symm (cross m n o' o hg' hg hno)
   ·rw [(hfr n o hg hno).1, (hfr m o' hg' hno').1] at e
    exact H.inj n m o o' hg hg' e
theorem aX.wide (p : aX P E A h nx w E₁ h₁ N w₁) (q : aX P E₁ B h₁ i w₁ E₂ h₂ i' w₂) (hi : nx <= i) (hi' : i' <= N) (hB : ∀ n, B n \/ (i <= n /\ n < i') -> A n \/ (nx <= n /\ n < N)) : aX P E A h nx w E₂ h₂ N w₂ where
 le := p.le
 even := p.even
 agree n hn := by
  obtain ⟨a1, a2, a3⟩ := p.agree n hn
  obtain ⟨b1, b2, b3⟩ := q.agree n (by omega)
  exact ⟨b1.trans a1, b2.trans a2, b3.trans a3⟩
 holds := q.holds.mono hB
 os := q.os.trans p.os
 tape := q.tape.trans p.tape
 output := q.output.trans p.output
 size := yya p.size q.size
 same b hb hnot := by
  have hp := p.same b hb hnot
  rw [<- hp]
  refine q.same b (Nat.lt_of_lt_of_le hb p.size) fun n o hn he => ?_
  rcases p.img n o hn with ⟨m, o', hm, e⟩ | e
  ·exact hnot m o' hm (by rw [<- e]; exact he)
  ·omega
 img n o hn := by
  rcases q.img n o hn with ⟨m, o', hm, e⟩ | e
  ·rcases p.img m o' hm with ⟨k, o'', hk, e'⟩ | e'
   ·exact .inl ⟨k, o'', hk, e.trans e'⟩
   ·exact .inr (by rw [e]; exact e')
  ·exact .inr (yya p.size e)
theorem aX.start (H : aV P E A h w) (hle : nx <= nx') (he : nx' % 2 = nx % 2) : aX P E A h nx w E h nx' w :=
 ⟨hle, he, fun _ _ => ⟨rfl, rfl, rfl⟩, H.mono fun _ hn => .inl hn, rfl, rfl, rfl, yh _, fun _ _ _ => rfl, fun n o hn => .inl ⟨n, o, hn, rfl⟩⟩
end
theorem uK : ∀ (l : List Value) (n : Nat) (x : Value), (jA l n x).length = l.length
 | [], _, _ => rfl
 | _ :: _, 0, _ => rfl
 | _ :: r, n + 1, x => by simp [jA, uK r n x]
theorem rE : ∀ (l : List Value) (n : Nat) (x : Value), n < l.length -> tN (jA l n x) n = x
 | [], _, _, h => by simp at h
 | _ :: _, 0, _, _ => rfl
 | _ :: r, n + 1, x, h => by simpa [jA, tN] using rE r n x (by simpa using h)
theorem uL : ∀ (l : List Value) (n m : Nat) (x : Value), n ≠ m -> tN (jA l n x) m = tN l m
 | [], _, _, _, _ => rfl
 | _ :: _, 0, 0, _, h => absurd rfl h
 | _ :: _, 0, _ + 1, _, _ => rfl
 | _ :: _, _ + 1, 0, _, _ => rfl
 | _ :: r, n + 1, m + 1, x, h => by simpa [jA, tN] using uL r n m x (by omega)
theorem CR : ∀ (l : List Value) (n : Nat), l.length <= n -> tN l n = undef
 | [], _, _ => rfl
 | _ :: _, 0, h => by simp at h
 | _ :: r, n + 1, h => by simpa [tN] using CR r n (by simpa using h)
theorem nL : ∀ (l : List Value) (n : Nat) (x : Value) (f : Value -> Value), ((jA l n x).map f) = (l.map f).set n (f x)
 | [], _, _, _ => rfl
 | _ :: _, 0, _, _ => rfl
 | _ :: r, n + 1, x, f => by simp [jA, nL r n x f]
theorem QB : ∀ {l m : List Value}, l.length = m.length -> (∀ d, d < l.length -> tN l d = tN m d) -> l = m
 | [], [], _, _ => rfl
 | [], _ :: _, h, _ => by simp at h
 | _ :: _, [], h, _ => by simp at h
 | a :: r, b :: s, h, hd => by
  have h0 : a = b := hd 0 (by simp)
  rw [h0, QB (l := r) (m := s) (by simpa using h) fun d hd' => by simpa [tN] using hd (d + 1) (by simpa using hd')]
def kP (ops : List Oper) (recs : List JY) (tm0 : List Value) (p : Nat -> Bool) (tm : List Value) : Prop :=
 tm.length = tm0.length /\ ∀ d, d < tm0.length ->
  (∀ (l : Nat) (o : Oper) (r : JY), ops[l]? = some o -> recs[l]? = some r -> p l = true -> o.dst = some d -> tN tm d = r.v) /\
  ((∀ (l : Nat) (o : Oper), ops[l]? = some o -> p l = true -> o.dst ≠ some d) -> tN tm d = tN tm0 d)
section
variable {ops : List Oper} {ms : List Nat} {recs : List JY} {tm0 tm tm' : List Value} {p q : Nat -> Bool}
theorem kP.put (hok : ZM ops ms) (h : kP ops recs tm0 p tm) {i : Nat} {o : Oper} {r : JY} (ho : ops[i]? = some o) (hr : recs[i]? = some r) (hp : p i = false)
  (hq : ∀ l, q l = true ↔ (p l = true \/ l = i)) : kP ops recs tm0 q (n7 tm o.dst r.v) := by
 obtain ⟨h1, h2⟩ := h
 refine ⟨?_, fun d hd => ?_⟩
 ·unfold n7; split
  ·rw [uK]; exact h1
  ·exact h1
 obtain ⟨h3, h4⟩ := h2 d hd
 by_cases hdo : o.dst = some d
 ·have hv : tN (n7 tm o.dst r.v) d = r.v := by
   simp only [n7, hdo]; exact rE tm d r.v (by omega)
  refine ⟨fun l o' r' hl hr' hql hd' => ?_, fun hn => absurd hdo (hn i o ho ((hq i).2 (.inr rfl)))⟩
  by_cases hli : l = i
  ·subst hli
   rw [hr] at hr'; obtain rfl := yg hr'
   exact hv
  ·exact absurd hd' (hok.dst i l o o' d ho hl (fun e => hli e.symm) hdo)
 ·have hv : tN (n7 tm o.dst r.v) d = tN tm d := by
   unfold n7; split
   ·rename_i e he
    exact uL tm e d r.v (fun e' => hdo (by rw [he, e']))
   ·rfl
  rw [hv]
  refine ⟨fun l o' r' hl hr' hql hd' => ?_, fun hn => h4 fun l o' hl hpl => hn l o' hl ((hq l).2 (.inl hpl))⟩
  rcases (hq l).1 hql with hpl | rfl
  ·exact h3 l o' r' hl hr' hpl hd'
  ·rw [ho] at hl; obtain rfl := yg hl
   exact absurd hd' hdo
theorem kP.agree (hlen : recs.length = ops.length) (hp : kP ops recs tm0 p tm) (hq : kP ops recs tm0 q tm') {i t : Nat} (hs : u9 ms ops i t = true)
  (hpi : p i = false) (hqi : q i = false) (hpm : ∀ l, Nat.testBit (eG ms i) l = true -> p l = true) (hqm : ∀ l, Nat.testBit (eG ms i) l = true -> q l = true)
  (hpn : ∀ l, Nat.testBit (eG ms l) i = true -> ops[l]?.isSome = true -> p l = false) (hqn : ∀ l, Nat.testBit (eG ms l) i = true -> ops[l]?.isSome = true -> q l = false) : tN tm t = tN tm' t := by
 by_cases hd : t < tm0.length
 ·obtain ⟨p3, p4⟩ := hp.2 t hd
  obtain ⟨q3, q4⟩ := hq.2 t hd
  by_cases hex : ∃ (l : Nat) (o : Oper), ops[l]? = some o /\ o.dst = some t /\ Nat.testBit (eG ms i) l = true
  ·obtain ⟨l, o, ho, hdo, hb⟩ := hex
   have hl : l < recs.length := by rw [hlen]; exact (yi.1 ho).1
   obtain ⟨r, hr⟩ : ∃ r, recs[l]? = some r := ⟨_, yyi hl⟩
   rw [p3 l o r ho hr (hpm l hb) hdo, q3 l o r ho hr (hqm l hb) hdo]
  ·have hno : ∀ (l : Nat) (o : Oper), ops[l]? = some o -> o.dst = some t -> p l = false /\ q l = false := by
    intro l o ho hdo
    rcases KR hs ho hdo with rfl | hb | hb
    ·exact ⟨hpi, hqi⟩
    ·exact absurd ⟨l, o, ho, hdo, hb⟩ hex
    ·exact ⟨hpn l hb (by rw [ho]; rfl), hqn l hb (by rw [ho]; rfl)⟩
   rw [p4 (fun l o ho hpl hdo => by rw [(hno l o ho hdo).1] at hpl; cases hpl), q4 (fun l o ho hql hdo => by rw [(hno l o ho hdo).2] at hql; cases hql)]
 ·rw [CR tm t (by have := hp.1; omega), CR tm' t (by have := hq.1; omega)]
end
theorem GY {ops : List Oper} {tm tm' : List Value} {o : Oper} (h : ∀ (g : Nat) (want : Bool) (p : Oper) (d : Nat), o.guard = some (g, want) -> ops[g]? = some p -> p.dst = some d -> tN tm d = tN tm' d) : pZ ops tm o = pZ ops tm' o := by
 unfold pZ
 cases hg : o.guard with
 | none => rfl
 | some gw =>
  obtain ⟨g, want⟩ := gw
  simp only
  cases hp : ops[g]? with
  | none => rfl
  | some p =>
   simp only
   cases hd : p.dst with
   | none => rfl
   | some d => simp only [h g want p d hg hp hd]
theorem GZ (E : bV) (v : Value) (b : Bool) : aK E v = .bool b ↔ v = .bool b := by
 cases v with
 | pointer a => cases a <;> simp [aK]
 | slice a l c => cases a <;> simp [aK]
 | map a => cases a <;> simp [aK]
 | _ => simp [aK]
theorem yQ {E : bV} {A : Nat -> Prop} {tm : List Value} {a : Act} (ht : Tm E A tm a) (ops : Array Oper) (o : Oper) : Region.wanted o (yielded ops a.tmps) = pZ ops.toList tm o := by
 unfold Region.wanted pZ
 cases hg : o.guard with
 | none => rfl
 | some gw =>
  obtain ⟨g, want⟩ := gw
  simp only [yielded, Array.getElem?_toList]
  cases hp : ops[g]? with
  | none => simp
  | some p =>
   simp only [yj]
   cases hd : p.dst with
   | none => simp
   | some d =>
    simp only [yj, ht.tmps, wN]
    cases hv : tm[d]? with
    | none => simp [hv, undef]
    | some v =>
     simp only [List.getElem?_toArray, yyl, hv, yr, Option.getD_some]
     by_cases hb : ∃ b, v = .bool b
     ·obtain ⟨b, rfl⟩ := hb
      rw [fP]
      simp only [Option.some_beq_some]
     ·have h1 : ∀ b, aK E v ≠ .bool b := fun b e => hb ⟨b, (GZ E v b).1 e⟩
      have h2 : ∀ b, v ≠ .bool b := fun b e => hb ⟨b, e⟩
      split
      ·rename_i b e; exact absurd (yg e) (h1 b)
      ·split
       ·rename_i b e; exact absurd rfl (h2 b)
       ·rfl
section
variable {P : Program} {callF : Fn -> List Value -> St -> Option (Value × St)} {ops : List Oper} {ms : List Nat} {tm0 : List Value}
structure ZN (callF : Fn -> List Value -> St -> Option (Value × St)) (P : Program) (ops : List Oper) (ms : List Nat) (tm0 : List Value) (F : DR) (i : Nat) (o : Oper) (r : JY) : Prop where
 record : F.recs[i]? = some r
 slots : kP ops F.recs tm0 (fun l => Nat.blt l i) r.tm
 on : r.on = pZ ops r.tm o
 le : r.nx <= r.nx'
 ev : r.nx % 2 = 0
 off : r.on = false -> r.v = undef /\ r.nx' = r.nx
 effect : r.on = true -> kind o.op ≠ 0 -> kind o.op ≠ 1 -> kind o.op ≠ 2 -> ∃ t S', F.es[t]? = some i /\ (∀ s e, s < t -> F.es[s]? = some e -> Nat.testBit (eG ms i) e = true) /\
  bQ callF P r.tm ⟨seen ms F.es F.hs F.al i t, r.nx⟩ o = some (r.v, S') /\ S'.next = r.nx' /\ kY F.hs (t + 1) = S'.heap
 lays : r.on = true -> kind o.op = 2 -> ∃ n b, (i, n, b) ∈ F.al /\ bQ callF P r.tm ⟨[], r.nx⟩ o = some (r.v, ⟨[(n, b)], r.nx'⟩)
 reads : r.on = true -> (kind o.op = 0 \/ kind o.op = 1) -> r.nx' = r.nx /\ ∃ k S', k <= F.es.length /\ bQ callF P r.tm ⟨seen ms F.es F.hs F.al i k, r.nx⟩ o = some (r.v, S')
theorem wT {i : Nat} {o : Oper} {R R' : DR} (h : ES callF P ops ms i o R = some R') :
  ∃ r es' hs' al', R'.recs = R.recs ++ [r] /\ R'.es = R.es ++ es' /\ R'.hs = R.hs ++ hs' /\ R'.al = R.al ++ al' /\ (∀ e ∈ es', e = i) /\ (∀ x ∈ al', x.1 = i) /\ es'.length = hs'.length /\ R.nx <= R'.nx /\
   R'.tm = n7 R.tm o.dst r.v /\ r.tm = R.tm /\ r.nx = R.nx /\ r.nx' = R'.nx /\ (R.nx % 2 = 0 -> R'.nx % 2 = 0) /\ es'.length <= 1 := by
 unfold ES at h
 split at h
 ·split at h
  ·simp only [yb] at h
   obtain ⟨_, h⟩ := h
   split at h
   ·rename_i v S' hs
    simp only [yb, ya, yd] at h
    obtain ⟨⟨h1, h2⟩, rfl⟩ := h
    exact ⟨_, [i], [S'.heap], [], rfl, rfl, rfl, by simp, by simp, by simp, rfl, ye h1, rfl, rfl, rfl, rfl, fun _ => AA h2, by simp⟩
   ·simp at h
  ·split at h
   ·rename_i v n b nx hs
    simp only [yb, ya, yd] at h
    obtain ⟨⟨h1, h2⟩, rfl⟩ := h
    exact ⟨_, [], [], [(i, n, b)], rfl, by simp, by simp, rfl, by simp, by simp, rfl, ye h1, rfl, rfl, rfl, rfl, fun _ => AA h2, by simp⟩
   ·simp at h
  ·split at h
   ·rename_i v S' hs
    simp only [ya] at h; subst h
    exact ⟨_, [], [], [], rfl, by simp, by simp, by simp, by simp, by simp, rfl, yh _, rfl, rfl, rfl, rfl, id, by simp⟩
   ·simp at h
 ·simp only [ya] at h; subst h
  exact ⟨_, [], [], [], rfl, by simp, by simp, by simp, by simp, by simp, rfl, yh _, rfl, rfl, rfl, rfl, id, by simp⟩
theorem mB : ∀ {l : List Oper} {i : Nat} {R F : DR}, JZ callF P ops ms i l R = some F ->
  ∃ recs' es' hs' al', F.recs = R.recs ++ recs' /\ recs'.length = l.length /\ F.es = R.es ++ es' /\ F.hs = R.hs ++ hs' /\ F.al = R.al ++ al' /\ (∀ e ∈ es', i <= e) /\ (∀ x ∈ al', i <= x.1) /\ es'.length = hs'.length /\ R.nx <= F.nx /\
   (R.nx % 2 = 0 -> F.nx % 2 = 0)
 | [], i, R, F, h => by
  simp only [JZ, ya] at h; subst h
  exact ⟨[], [], [], [], by simp, rfl, by simp, by simp, by simp, by simp, by simp, rfl, yh _, id⟩
 | o :: l, i, R, F, h => by
  simp only [JZ] at h
  split at h
  ·rename_i R' hs
   obtain ⟨r, es1, hs1, al1, a1, a2, a3, a4, a5, a6, a7, a8, _, _, _, _, a9, _⟩ := wT hs
   obtain ⟨rs2, es2, hs2, al2, b1, b2, b3, b4, b5, b6, b7, b8, b9, b10⟩ := mB h
   refine ⟨r :: rs2, es1 ++ es2, hs1 ++ hs2, al1 ++ al2, by rw [b1, a1]; simp, by simp [b2], by rw [b3, a2]; simp, by rw [b4, a3]; simp, by rw [b5, a4]; simp, ?_, ?_, by simp [a7, b8], by omega, fun e => b10 (a9 e)⟩
   ·intro e he
    rcases yy.1 he with he | he
    ·rw [a5 e he]; exact yh _
    ·have := b6 e he; omega
   ·intro e he
    rcases yy.1 he with he | he
    ·rw [a6 e he]; exact yh _
    ·have := b7 e he; omega
  ·simp at h
theorem NC (hok : ZM ops ms) {i : Nat} {o : Oper} {R R' F : DR} (ho : ops[i]? = some o) (h : ES callF P ops ms i o R = some R')
  (hlen : R.recs.length = i) (hhl : R.hs.length = R.es.length + 1) (hev : R.nx % 2 = 0) (hsl : kP ops F.recs tm0 (fun l => Nat.blt l i) R.tm)
  {recs' : List JY} {es' : List Nat} {hs' : List (List (Nat × Obj))} {al' : List (Nat × Nat × Obj)} (p1 : F.recs = R'.recs ++ recs') (p2 : F.es = R'.es ++ es') (p3 : F.hs = R'.hs ++ hs') (p4 : F.al = R'.al ++ al')
  (p6 : ∀ x ∈ al', i + 1 <= x.1) : ∃ r, ZN callF P ops ms tm0 F i o r /\ r.nx = R.nx /\ r.nx' = R'.nx /\ R'.tm = n7 R.tm o.dst r.v /\ R'.recs = R.recs ++ [r] /\
   (∀ e, R'.es = R.es ++ [e] -> e = i /\ r.on = true /\ kind o.op ≠ 0 /\ kind o.op ≠ 1 /\ kind o.op ≠ 2) /\ (∀ x, R'.al = R.al ++ [x] -> x.1 = i /\ r.on = true /\ kind o.op = 2 /\ bQ callF P r.tm ⟨[], r.nx⟩ o = some (r.v, ⟨[(x.2.1, x.2.2)], r.nx'⟩)) := by
 have hnom : ∀ (x : Nat × Nat × Obj), i <= x.1 -> Nat.testBit (eG ms i) x.1 = false := by
  intro x hx
  cases hb : Nat.testBit (eG ms i) x.1 with
  | false => rfl
  | true => have := (hok.mask i o _ ho hb).1; omega
 have hrec : ∀ r, R'.recs = R.recs ++ [r] -> F.recs[i]? = some r := by
  intro r hr
  rw [p1, hr, List.append_assoc, yyc (by omega)]
  simp [hlen]
 unfold ES at h
 split at h
 ·rename_i hg
  split at h
  ·rename_i hk
   simp only [yb] at h
   obtain ⟨hall, h⟩ := h
   split at h
   ·rename_i v S' hs
    simp only [yb, ya, yd] at h
    obtain ⟨⟨h1, h2⟩, rfl⟩ := h
    simp only at p1 p2 p3 p4
    refine ⟨⟨true, R.tm, v, R.nx, S'.next⟩, ⟨hrec _ rfl, hsl, hg.symm, ye h1, hev, by simp, fun _ _ _ _ => ?_, by rw [hk]; simp, by rw [hk]; simp⟩, rfl, rfl, rfl, rfl, ?_, ?_⟩
    ·refine ⟨R.es.length, S', by rw [p2]; simp, ?_, ?_, rfl, ?_⟩
     ·intro s e hs' he
      rw [p2, List.append_assoc, yyf hs'] at he
      exact List.all_eq_true.1 hall e (yyd he)
     ·rw [p2, p3, p4, List.append_assoc, List.append_assoc, AC (fun x hx => hnom x (by have := p6 x hx; omega)) (yh _) (by omega)]
      exact hs
     ·rw [p3, o6 (by simp [hhl])]
      have : ∀ (l : List (List (Nat × Obj))) x n, n = l.length -> kY (l ++ [x]) n = x := by
       intro l
       induction l with
       | nil => intro x n hn; subst hn; rfl
       | cons y r ih => intro x n hn; subst hn; exact ih x _ rfl
      exact this _ _ _ hhl.symm
    ·intro e he
     simp only [List.append_cancel_left_eq, List.cons.injEq, and_true] at he
     exact ⟨he.symm, rfl, by rw [hk]; simp, by rw [hk]; simp, by rw [hk]; simp⟩
    ·intro x hx
     simp at hx
   ·simp at h
  ·rename_i hk
   split at h
   ·rename_i v n b nx hs
    simp only [yb, ya, yd] at h
    obtain ⟨⟨h1, h2⟩, rfl⟩ := h
    simp only at p1 p2 p3 p4
    refine ⟨⟨true, R.tm, v, R.nx, nx⟩, ⟨hrec _ rfl, hsl, hg.symm, ye h1, hev, by simp, by rw [hk]; simp, fun _ _ => ⟨n, b, by rw [p4]; simp, hs⟩, by rw [hk]; simp⟩, rfl, rfl, rfl, rfl, ?_, ?_⟩
    ·intro e he; simp at he
    ·intro x hx
     simp only [List.append_cancel_left_eq, List.cons.injEq, and_true] at hx
     subst hx
     exact ⟨rfl, rfl, hk, hs⟩
   ·simp at h
  ·rename_i hk3 hk2
   split at h
   ·rename_i v S' hs
    simp only [ya] at h; subst h
    simp only at p1 p2 p3 p4
    have hk01 : kind o.op = 0 \/ kind o.op = 1 := by
     have : kind o.op <= 3 := by unfold kind; split <;> omega
     have h3 : kind o.op ≠ 3 := hk3
     have h2 : kind o.op ≠ 2 := hk2
     omega
    refine ⟨⟨true, R.tm, v, R.nx, R.nx⟩, ⟨hrec _ rfl, hsl, hg.symm, yh _, hev, by simp, fun _ a b _ => ?_, fun _ a => absurd a hk2, fun _ _ => ⟨rfl, R.es.length, S', by rw [p2]; simp, ?_⟩⟩, rfl, rfl, rfl, rfl, ?_, ?_⟩
    ·rcases hk01 with h | h
     ·exact absurd h a
     ·exact absurd h b
    ·rw [p2, p3, p4, AC (fun x hx => hnom x (by have := p6 x hx; omega)) (yh _) (by omega)]
     exact hs
    ·intro e he; simp at he
    ·intro e he; simp at he
   ·simp at h
 ·rename_i hg
  simp only [ya] at h; subst h
  refine ⟨⟨false, R.tm, undef, R.nx, R.nx⟩, ⟨hrec _ rfl, hsl, by simpa using hg, yh _, hev, fun _ => ⟨rfl, rfl⟩, by simp, by simp, by simp⟩, rfl, rfl, rfl, rfl, ?_, ?_⟩
  ·intro e he; simp at he
  ·intro e he; simp at he
end
theorem tW (a b : Nat) : Nat.blt a b = true ↔ a < b := ⟨ye, Nat.ble_eq_true_of_le⟩
theorem yR (a b : Nat) : Nat.blt a b = false ↔ b <= a := by rw [<- Bool.not_eq_true, tW]; omega
section
variable {P : Program} {callF : Fn -> List Value -> St -> Option (Value × St)} {ops : List Oper} {ms : List Nat} {tm0 : List Value}
structure TD (callF : Fn -> List Value -> St -> Option (Value × St)) (P : Program) (ops : List Oper) (ms : List Nat) (tm0 : List Value) (F : DR) (i n : Nat) (es : Nat -> Prop) (al : Nat × Nat × Obj -> Prop) : Prop where
 fact : ∀ (j : Nat) (o : Oper), i <= j -> ops[j]? = some o -> ∃ r, ZN callF P ops ms tm0 F j o r /\ n <= r.nx /\ r.nx' <= F.nx
 order : ∀ (j j' : Nat) (r r' : JY), i <= j -> j < j' -> F.recs[j]? = some r -> F.recs[j']? = some r' -> r.nx' <= r'.nx
 effects : ∀ (t e : Nat), F.es[t]? = some e -> es t \/ ∃ o r, ops[e]? = some o /\ F.recs[e]? = some r /\ r.on = true /\ kind o.op ≠ 0 /\ kind o.op ≠ 1 /\ kind o.op ≠ 2
 laid : ∀ x ∈ F.al, al x \/ ∃ o r, ops[x.1]? = some o /\ F.recs[x.1]? = some r /\ r.on = true /\ kind o.op = 2 /\ bQ callF P r.tm ⟨[], r.nx⟩ o = some (r.v, ⟨[(x.2.1, x.2.2)], r.nx'⟩)
 sorted : F.es.Pairwise (· < ·)
 slots : kP ops F.recs tm0 (fun l => Nat.blt l ops.length) F.tm
 heaps : F.hs.length = F.es.length + 1
 le : n <= F.nx
 ev : F.nx % 2 = 0
 recs : F.recs.length = ops.length
theorem CS (hok : ZM ops ms) : ∀ {l : List Oper} {i : Nat} {R F : DR}, JZ callF P ops ms i l R = some F -> (∀ j, l[j]? = ops[i + j]?) -> i + l.length = ops.length -> R.recs.length = i -> R.hs.length = R.es.length + 1 -> R.nx % 2 = 0 ->
  kP ops F.recs tm0 (fun l => Nat.blt l i) R.tm -> (∀ e ∈ R.es, e < i) -> R.es.Pairwise (· < ·) -> TD callF P ops ms tm0 F i R.nx (fun t => t < R.es.length) (fun x => x ∈ R.al)
 | [], i, R, F, h, hl, hn, hlen, hhl, hev, hsl, hes, hso => by
  simp only [JZ, ya] at h; subst h
  simp only [List.length_nil, Nat.add_zero] at hn
  refine ⟨?_, ?_, ?_, ?_, hso, by rw [<- hn]; exact hsl, hhl, yh _, hev, by omega⟩
  ·intro j o hj ho
   have := (yi.1 ho).1
   omega
  ·intro j j' r r' hj hjj hr hr'
   have := (yi.1 hr).1
   omega
  ·intro t e he
   exact .inl (yi.1 he).1
  ·intro x hx
   exact .inl hx
 | o :: l, i, R, F, h, hl, hn, hlen, hhl, hev, hsl, hes, hso => by
  simp only [JZ] at h
  split at h
  ·rename_i R' hs
   have ho : ops[i]? = some o := by have := hl 0; simpa using this.symm
   obtain ⟨r0, es1, hs1, al1, a1, a2, a3, a4, a5, a6, a7, a8, _, _, _, _, a9, a10⟩ := wT hs
   obtain ⟨rs2, es2, hs2, al2, b1, b2, b3, b4, b5, b6, b7, b8, b9, b10⟩ := mB h
   obtain ⟨r, hf, f1, f2, f3, f4, f5, f6⟩ := NC (tm0 := tm0) hok ho hs hlen hhl hev hsl b1 b3 b4 b5 b7
   have hsl' : kP ops F.recs tm0 (fun l => Nat.blt l (i + 1)) R'.tm := by
    rw [f3]
    refine hsl.put hok ho hf.record ((yR i i).2 (yh _)) fun l => ?_
    simp only [tW]
    omega
   have hlen' : R'.recs.length = i + 1 := by rw [f4]; simp [hlen]
   have hn' : i + 1 + l.length = ops.length := by simp only [List.length_cons] at hn; omega
   have IH := CS hok h (fun j => by have := hl (j + 1); simpa [yx, Nat.add_comm 1 j] using this) hn' hlen' (by rw [a3, a2]; simp [hhl, a7]; omega) (a9 hev) hsl'
    (fun e he => by
     rw [a2] at he
     rcases yy.1 he with he | he
     ·have := hes e he; omega
     ·have := a5 e he; omega)
    (by
     rw [a2, List.pairwise_append]
     refine ⟨hso, ?_, fun x hx y hy => by rw [a5 y hy]; exact hes x hx⟩
     match es1, a10 with
     | [], _ => simp
     | [x], _ => simp
     | _ :: _ :: _, hlt => simp at hlt)
   refine ⟨?_, ?_, ?_, ?_, IH.sorted, IH.slots, IH.heaps, yya a8 IH.le, IH.ev, IH.recs⟩
   ·intro j o' hj ho'
    by_cases hji : j = i
    ·subst hji
     rw [ho] at ho'; obtain rfl := yg ho'
     exact ⟨r, hf, by rw [f1]; exact yh _, by rw [f2]; exact IH.le⟩
    ·obtain ⟨r', q1, q2, q3⟩ := IH.fact j o' (by omega) ho'
     exact ⟨r', q1, by omega, q3⟩
   ·intro j j' r1 r2 hj hjj hr1 hr2
    by_cases hji : j = i
    ·subst hji
     rw [hf.record] at hr1; obtain rfl := yg hr1
     have hlt : j' < ops.length := by rw [<- IH.recs]; exact (yi.1 hr2).1
     obtain ⟨r', q1, q2, q3⟩ := IH.fact j' ops[j'] (by omega) (yyi hlt)
     rw [q1.record] at hr2; obtain rfl := yg hr2
     rw [f2]; exact q2
    ·exact IH.order j j' r1 r2 (by omega) hjj hr1 hr2
   ·intro t e he
    rcases IH.effects t e he with ht | hx
    ·rw [a2] at ht
     by_cases htl : t < R.es.length
     ·exact .inl htl
     ·right
      match es1, a10, a2, a5 with
      | [], _, a2, _ => simp at ht; omega
      | [x], _, a2, a5 =>
       have : t = R.es.length := by simp at ht; omega
       subst this
       have hx : x = i := a5 x (by simp)
       subst hx
       obtain ⟨_, g2, g3⟩ := f5 x a2
       rw [b3, a2, List.append_assoc] at he
       simp at he
       subst he
       exact ⟨o, r, ho, hf.record, g2, g3⟩
      | _ :: _ :: _, hlt, _, _ => simp at hlt
    ·exact .inr hx
   ·intro x hx
    rcases IH.laid x hx with hy | hz
    ·rw [a4] at hy
     rcases yy.1 hy with hy | hy
     ·exact .inl hy
     ·right
      have hyi := a6 x hy
      rw [hyi]
      refine ⟨o, r, ho, hf.record, ?_⟩
      match al1, a4, hy with
      | [z], a4, hy =>
       obtain rfl : x = z := by simpa using hy
       exact (f6 x a4).2
      | z :: z' :: rest, a4, hy =>
       exfalso
       unfold ES at hs
       split at hs
       ·split at hs
        ·simp only [yb] at hs
         obtain ⟨_, hs⟩ := hs
         split at hs
         ·simp only [yb, ya] at hs
          obtain ⟨_, rfl⟩ := hs
          simp at a4
         ·simp at hs
        ·split at hs
         ·simp only [yb, ya] at hs
          obtain ⟨_, rfl⟩ := hs
          simp at a4
         ·simp at hs
        ·split at hs
         ·simp only [ya] at hs; subst hs
          simp at a4
         ·simp at hs
       ·simp only [ya] at hs; subst hs
        simp at a4
    ·exact .inr hz
  ·simp at h
theorem wU {F : DR} : ∀ {l : List Oper} {rs : List JY} {i : Nat}, wC callF P ms F i l rs = true -> ∀ (j : Nat) (o : Oper) (r : JY), l[j]? = some o -> rs[j]? = some r -> r.on = true -> kind o.op = 1 ->
  ∀ k, k <= F.es.length -> GE callF P ms F (i + j) o r k = true
 | [], _, _, _, j, o, r, h, _, _, _, _, _ => by simp at h
 | _ :: _, [], _, h, _, _, _, _, _, _, _, _, _ => by simp [wC] at h
 | p :: l, q :: rs, i, h, j, o, r, hl, hr, hon, hk, k, hkl => by
  simp only [wC, yd, yu, yyb] at h
  cases j with
  | zero =>
   simp only [List.getElem?_cons_zero, ya] at hl hr
   subst hl; subst hr
   rcases h.1 with (h1 | h1) | h1
   ·rw [hon] at h1; cases h1
   ·rw [hk] at h1; simp at h1
   ·exact yN h1 k hkl
  | succ j =>
   have := wU h.2 j o r (by simpa using hl) (by simpa using hr) hon hk k hkl
   rwa [yx, Nat.add_comm 1 j] at this
end
theorem vF : ∀ {l : List Value} {n : Nat} {x y : Value}, y ∈ jA l n x -> y = x \/ y ∈ l
 | [], _, _, _, h => by simp [jA] at h
 | _ :: _, 0, _, _, h => by
  simp only [jA, yk] at h
  exact h.imp id fun h => by simp [h]
 | _ :: r, n + 1, _, _, h => by
  simp only [jA, yk] at h
  rcases h with h | h
  ·exact .inr (by simp [h])
  ·exact (vF h).imp id fun h => by simp [h]
theorem Tm.move {E E' : bV} {A B : Nat -> Prop} {tm : List Value} {a : Act} (ht : Tm E A tm a) (hag : l7 A E E') (hAB : ∀ n, A n -> B n) : Tm E' B tm a :=
 ⟨by rw [ht.tmps]; congr 1; exact yp fun x hx => (eQ hag x (ht.sc x hx)).symm, fun x hx => gB hAB x (ht.sc x hx)⟩
theorem Tm.put {E E' : bV} {A B : Nat -> Prop} {tm : List Value} {a : Act} (ht : Tm E A tm a) (hag : l7 A E E') (hAB : ∀ n, A n -> B n) {dst : Option Tmp} {v : Value} (hs : Sc B v) : Tm E' B (n7 tm dst v) (a.put dst (aK E' v)) := by
 have h := ht.move hag hAB
 cases dst with
 | none => exact h
 | some d =>
  refine ⟨?_, fun x hx => ?_⟩
  ·simp only [Act.put, n7, h.tmps, nL]
   simp
  ·rcases vF hx with rfl | hx
   ·exact hs
   ·exact h.sc x hx
structure KT (P : Program) (callF : Fn -> List Value -> St -> Option (Value × St)) (ops : List Oper) (ms : List Nat) (tm0 : List Value) (F : DR) (E0 : bV) (A : Nat -> Prop) (S : St) : Prop where
 calls : gE P callF
 names : eM P
 ok : ZM ops ms
 facts : TD callF P ops ms tm0 F 0 S.next (fun _ => False) (fun _ => False)
 opd : ∀ (i : Nat) (o : Oper) (x : Operand), ops[i]? = some o -> x ∈ o.op.operands -> pD P x = true
 glb : rM P E0 A
 out : ∀ n, A n -> ¬ (S.next <= n /\ n < F.nx)
 reads : ∀ (j : Nat) (o : Oper) (r : JY), ops[j]? = some o -> F.recs[j]? = some r -> r.on = true -> kind o.op = 1 -> ∀ k, k <= F.es.length -> GE callF P ms F j o r k = true
 twice : qA F.al = true
 apart : wD ms F F.al = true
def AL (recs : List JY) (A : Nat -> Prop) (L : Nat -> Bool) (n : Nat) : Prop := A n \/ ∃ l r, L l = true /\ recs[l]? = some r /\ r.nx <= n /\ n < r.nx'
def hp (ms : List Nat) (F : DR) (L : Nat -> Bool) (k : Nat) : List (Nat × Obj) := own (fun j => L j && !p9 ms F.es k j) F.al ++ kY F.hs k
structure rF (P : Program) (ops : List Oper) (ms : List Nat) (tm0 : List Value) (F : DR) (E0 : bV) (A : Nat -> Prop) (S : St) (w0 : World) (a0 : Act) (L : Nat -> Bool) (E : bV) (tm : List Value) (k : Nat) (a : Act) (w : World) : Prop where
 slots : kP ops F.recs tm0 L tm
 tm : Tm E (AL F.recs A L) tm a
 kle : k <= F.es.length
 keff : ∀ t e, F.es[t]? = some e -> (L e = true ↔ t < k)
 holds : aV P E (AL F.recs A L) (hp ms F L k) w
 post : aX P E0 A S.heap S.next w0 E (hp ms F L k) F.nx w
 dfr : a.defers = a0.defers
section
variable {P : Program} {callF : Fn -> List Value -> St -> Option (Value × St)} {ops : List Oper} {ms : List Nat} {tm0 : List Value} {F : DR} {E0 : bV} {A : Nat -> Prop} {S : St} {w0 : World} {a0 : Act}
variable {L L' : Nat -> Bool} {E : bV} {tm : List Value} {k : Nat} {a : Act} {w : World} {i : Nat} {o : Oper} {r : JY}
theorem KT.bounds (C : KT P callF ops ms tm0 F E0 A S) {l : Nat} {r : JY} (hr : F.recs[l]? = some r) : S.next <= r.nx /\ r.nx <= r.nx' /\ r.nx' <= F.nx := by
 have hlt : l < ops.length := by rw [<- C.facts.recs]; exact (yi.1 hr).1
 obtain ⟨r', h1, h2, h3⟩ := C.facts.fact l ops[l] (Nat.zero_le _) (yyi hlt)
 rw [h1.record] at hr; obtain rfl := yg hr
 exact ⟨h2, h1.le, h3⟩
theorem KT.apartAL (C : KT P callF ops ms tm0 F E0 A S) (hr : F.recs[i]? = some r) (hi : L i = false) : ∀ n, AL F.recs A L n -> ¬ (r.nx <= n /\ n < r.nx') := by
 intro n hn hin
 obtain ⟨b1, b2, b3⟩ := C.bounds hr
 rcases hn with hn | ⟨l, r', hl, hr', h1, h2⟩
 ·exact C.out n hn (by omega)
 ·rcases Nat.lt_trichotomy l i with h | h | h
  ·have := C.facts.order l i r' r (Nat.zero_le _) h hr' hr; omega
  ·subst h; rw [hi] at hl; cases hl
  ·have := C.facts.order i l r r' (Nat.zero_le _) h hr hr'; omega
theorem rF.next (C : KT P callF ops ms tm0 F E0 A S) (hJ : rF P ops ms tm0 F E0 A S w0 a0 L E tm k a w) (ho : ops[i]? = some o) (hr : F.recs[i]? = some r) (hi : L i = false)
  (hL' : ∀ l, L' l = true ↔ L l = true \/ l = i) {E' : bV} {w' : World} {k' : Nat} {hs hs' : List (Nat × Obj)} (q : aX P E (AL F.recs A L) hs r.nx w E' hs' r.nx' w')
  (hsub : ∀ n x, aL hs n = some x -> aL (hp ms F L k) n = some x) (hh : ∀ n x, aL (hp ms F L' k') n = some x -> aL hs' n = some x \/ (aL (hp ms F L k) n = some x /\ aL hs n = none))
  (hsc : Sc (fun n => AL F.recs A L n \/ (r.nx <= n /\ n < r.nx')) r.v) (hk' : k' <= F.es.length) (heff' : ∀ t e, F.es[t]? = some e -> (L' e = true ↔ t < k')) :
  rF P ops ms tm0 F E0 A S w0 a0 L' E' (n7 tm o.dst r.v) k' (a.put o.dst (aK E' r.v)) w' := by
 have hAL := C.apartAL (L := L) hr hi
 have hgrow : ∀ n, AL F.recs A L n \/ (r.nx <= n /\ n < r.nx') -> AL F.recs A L' n := by
  intro n hn
  rcases hn with (hn | ⟨l, r', hl, hx⟩) | hn
  ·exact .inl hn
  ·exact .inr ⟨l, r', (hL' l).2 (.inl hl), hx⟩
  ·exact .inr ⟨i, r, (hL' i).2 (.inr rfl), hr, hn⟩
 have hq := aX.frame hJ.holds hsub q hAL hh
 obtain ⟨b1, b2, b3⟩ := C.bounds hr
 refine ⟨hJ.slots.put C.ok ho hr hi hL', ?_, hk', heff', hq.holds.mono hgrow, hJ.post.wide hq b1 b3 ?_, ?_⟩
 ·exact hJ.tm.put (q.agreeA hAL) (fun n hn => hgrow n (.inl hn)) (gB hgrow _ hsc)
 ·intro n hn
  rcases hn with (hn | ⟨l, r', hl, hr', hx⟩) | hn
  ·exact .inl hn
  ·have := C.bounds hr'; exact .inr (by omega)
  ·exact .inr (by omega)
 ·rw [<- hJ.dfr]; unfold Act.put; split <;> rfl
theorem KT.getHp (C : KT P callF ops ms tm0 F E0 A S) {p : Nat -> Bool} {h : List (Nat × Obj)} {n : Nat} {x : Obj} (hg : aL (own p F.al ++ h) n = some x) :
  (∃ j, (j, n, x) ∈ F.al /\ p j = true) \/ ((∀ j y, (j, n, y) ∈ F.al -> p j = false) /\ aL h n = some x) := by
 rw [sV] at hg
 cases hc : aL (own p F.al) n with
 | some y =>
  rw [hc] at hg; obtain rfl := yg hg
  exact .inl (oG hc)
 | none =>
  rw [hc] at hg
  refine .inr ⟨fun j y hj => ?_, hg⟩
  cases hp : p j with
  | false => rfl
  | true => rw [qE C.twice hj hp] at hc; cases hc
theorem KT.inOwn (C : KT P callF ops ms tm0 F E0 A S) {p : Nat -> Bool} {h : List (Nat × Obj)} {j n : Nat} {x : Obj} (hj : (j, n, x) ∈ F.al) (hp : p j = true) : aL (own p F.al ++ h) n = some x := by
 rw [sV, qE C.twice hj hp]
theorem pM {p : Nat -> Bool} {al : List (Nat × Nat × Obj)} {h : List (Nat × Obj)} {n : Nat} (hn : ∀ j y, (j, n, y) ∈ al -> p j = false) : aL (own p al ++ h) n = aL h n := by
 rw [sV]
 cases hc : aL (own p al) n with
 | none => rfl
 | some y => obtain ⟨j, hj, hp⟩ := oG hc; rw [hn j y hj] at hp; cases hp
theorem KT.seen_sub (C : KT P callF ops ms tm0 F E0 A S) (hk : k <= F.es.length) (hm : ∀ j, Nat.testBit (eG ms i) j = true -> L j = true) : ∀ n x, aL (seen ms F.es F.hs F.al i k) n = some x -> aL (hp ms F L k) n = some x := by
 intro n x hg
 unfold seen at hg
 unfold hp
 rcases C.getHp hg with ⟨j, hj, hp⟩ | ⟨hno, hg⟩
 ·simp only [yd] at hp
  exact C.inOwn hj (by simp only [yd]; exact ⟨hm j hp.1, hp.2⟩)
 ·rw [pM]
  ·exact hg
  ·intro j y hj
   cases hab : p9 ms F.es k j with
   | true => simp
   | false => rw [qF C.apart j n y k hj hk hab] at hg; cases hg
end
end Go.Dam
