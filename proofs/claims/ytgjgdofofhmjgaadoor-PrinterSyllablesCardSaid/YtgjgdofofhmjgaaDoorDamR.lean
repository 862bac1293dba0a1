/-
  An own evaluator of closed runs of a program, proved sound against the model for every order of draws and every capacity of append. This text is one part of it; the last part's theorem 'closed' says what a run in the kernel proves. Used for the law's closed self-test.
-/
import Derived.Test.YtgjgdofofhmjgaaDoorDamQ
namespace Go.Dam

section
variable {P : Program} {E E' E₁ E₂ : Env} {A B : Nat → Prop} {h h' h₁ h₂ hs hs' : List (Nat × Obj)} {nx nx' i i' N : Nat} {w w' w₁ w₂ : World}

/-- What a step does not see stays. -/
theorem Post.frame (H : Holds P E A h w) (hsub : ∀ n o, getB hs n = some o → getB h n = some o) (q : Post P E A hs nx w E' hs' nx' w') (hA : ∀ n, A n → ¬ (nx ≤ n ∧ n < nx'))
    (hh : ∀ n o, getB h₂ n = some o → getB hs' n = some o ∨ (getB h n = some o ∧ getB hs n = none)) : Post P E A h nx w E' h₂ nx' w' where
  le := q.le
  even := q.even
  agree := q.agree
  os := q.os
  tape := q.tape
  output := q.output
  size := q.size
  same b hb hn := q.same b hb fun n o hg => hn n o (hsub n o hg)
  img n o hn := by
    rcases hh n o hn with hg | ⟨hg, hno⟩
    · exact (q.img n o hg).imp (fun ⟨m, o', hm, e⟩ => ⟨m, o', hsub m o' hm, e⟩) id
    · exact .inl ⟨n, o, hg, (q.agree n (hA n (H.blk n o hg).1)).1⟩
  holds := by
    have hag : Agree A E E' := q.agreeA hA
    have hfr : ∀ n o, getB h n = some o → getB hs n = none → E'.β n = E.β n ∧ E.β n < w.heap.size ∧ w'.heap[E.β n]? = w.heap[E.β n]? := by
      intro n o hg hno
      obtain ⟨a, s, oc, hc, hr⟩ := H.blk n o hg
      have hlt : E.β n < w.heap.size := by
        rcases Nat.lt_or_ge (E.β n) w.heap.size with h' | h'
        · exact h'
        · rw [Array.getElem?_eq_none h'] at hc; cases hc
      refine ⟨(hag n a).1, hlt, q.same _ hlt fun m x hm e => ?_⟩
      have := H.inj m n x o (hsub m x hm) hg e
      subst this
      rw [hno] at hm; cases hm
    have cross : ∀ n m o o', getB hs' n = some o → getB h m = some o' → getB hs m = none → E'.β n ≠ E'.β m := by
      intro n m o o' hn hm hno e
      obtain ⟨e1, e2, _⟩ := hfr m o' hm hno
      rcases q.img n o hn with ⟨k, x, hk, ek⟩ | ek
      · have := H.inj k m x o' (hsub k x hk) hm (by rw [← ek, e, e1])
        subst this
        rw [hno] at hk; cases hk
      · rw [e, e1] at ek; omega
    refine ⟨fun n o hn => ?_, fun n m o o' hn hm e => ?_⟩
    · rcases hh n o hn with hg | ⟨hg, hno⟩
      · exact q.holds.blk n o hg
      · obtain ⟨a, s, oc, hc, hr⟩ := H.blk n o hg
        obtain ⟨e1, e2, e3⟩ := hfr n o hg hno
        exact ⟨.inl a, ScObj_mono (fun _ h => .inl h) o s, oc, by rw [e1, e3]; exact hc, BlkRel.agree hag a s hr⟩
    · rcases hh n o hn with hg | ⟨hg, hno⟩ <;> rcases hh m o' hm with hg' | ⟨hg', hno'⟩
      · exact q.holds.inj n m o o' hg hg' e
      · exact absurd e (cross n m o o' hg hg' hno')
      · exact absurd e.symm (cross m n o' o hg' hg hno)
      · rw [(hfr n o hg hno).1, (hfr m o' hg' hno').1] at e
        exact H.inj n m o o' hg hg' e

/-- A step in the midst of a longer way. -/
theorem Post.wide (p : Post P E A h nx w E₁ h₁ N w₁) (q : Post P E₁ B h₁ i w₁ E₂ h₂ i' w₂) (hi : nx ≤ i) (hi' : i' ≤ N) (hB : ∀ n, B n ∨ (i ≤ n ∧ n < i') → A n ∨ (nx ≤ n ∧ n < N)) : Post P E A h nx w E₂ h₂ N w₂ where
  le := p.le
  even := p.even
  agree n hn := by
    obtain ⟨a1, a2, a3⟩ := p.agree n hn
    obtain ⟨b1, b2, b3⟩ := q.agree n (by omega)
    exact ⟨b1.trans a1, b2.trans a2, b3.trans a3⟩
  holds := q.holds.mono hB
  os := q.os.trans p.os
  tape := q.tape.trans p.tape
  output := q.output.trans p.output
  size := Nat.le_trans p.size q.size
  same b hb hnot := by
    have hp := p.same b hb hnot
    rw [← hp]
    refine q.same b (Nat.lt_of_lt_of_le hb p.size) fun n o hn he => ?_
    rcases p.img n o hn with ⟨m, o', hm, e⟩ | e
    · exact hnot m o' hm (by rw [← e]; exact he)
    · omega
  img n o hn := by
    rcases q.img n o hn with ⟨m, o', hm, e⟩ | e
    · rcases p.img m o' hm with ⟨k, o'', hk, e'⟩ | e'
      · exact .inl ⟨k, o'', hk, e.trans e'⟩
      · exact .inr (by rw [e]; exact e')
    · exact .inr (Nat.le_trans p.size e)

/-- Nothing done yet, the names to come set aside. -/
theorem Post.start (H : Holds P E A h w) (hle : nx ≤ nx') (he : nx' % 2 = nx % 2) : Post P E A h nx w E h nx' w :=
  ⟨hle, he, fun _ _ => ⟨rfl, rfl, rfl⟩, H.mono fun _ hn => .inl hn, rfl, rfl, rfl, Nat.le_refl _, fun _ _ _ => rfl, fun n o hn => .inl ⟨n, o, hn, rfl⟩⟩

end

/-! the slots on the way -/

theorem length_setNth : ∀ (l : List Value) (n : Nat) (x : Value), (setNth l n x).length = l.length
  | [], _, _ => rfl
  | _ :: _, 0, _ => rfl
  | _ :: r, n + 1, x => by simp [setNth, length_setNth r n x]

theorem nth_setNth_self : ∀ (l : List Value) (n : Nat) (x : Value), n < l.length → nth (setNth l n x) n = x
  | [], _, _, h => by simp at h
  | _ :: _, 0, _, _ => rfl
  | _ :: r, n + 1, x, h => by simpa [setNth, nth] using nth_setNth_self r n x (by simpa using h)

theorem nth_setNth_ne : ∀ (l : List Value) (n m : Nat) (x : Value), n ≠ m → nth (setNth l n x) m = nth l m
  | [], _, _, _, _ => rfl
  | _ :: _, 0, 0, _, h => absurd rfl h
  | _ :: _, 0, _ + 1, _, _ => rfl
  | _ :: _, _ + 1, 0, _, _ => rfl
  | _ :: r, n + 1, m + 1, x, h => by simpa [setNth, nth] using nth_setNth_ne r n m x (by omega)

theorem nth_over : ∀ (l : List Value) (n : Nat), l.length ≤ n → nth l n = undef
  | [], _, _ => rfl
  | _ :: _, 0, h => by simp at h
  | _ :: r, n + 1, h => by simpa [nth] using nth_over r n (by simpa using h)

theorem setNth_toArray : ∀ (l : List Value) (n : Nat) (x : Value) (f : Value → Value), ((setNth l n x).map f) = (l.map f).set n (f x)
  | [], _, _, _ => rfl
  | _ :: _, 0, _, _ => rfl
  | _ :: r, n + 1, x, f => by simp [setNth, setNth_toArray r n x f]

theorem nth_ext : ∀ {l m : List Value}, l.length = m.length → (∀ d, d < l.length → nth l d = nth m d) → l = m
  | [], [], _, _ => rfl
  | [], _ :: _, h, _ => by simp at h
  | _ :: _, [], h, _ => by simp at h
  | a :: r, b :: s, h, hd => by
    have h0 : a = b := hd 0 (by simp)
    rw [h0, nth_ext (l := r) (m := s) (by simpa using h) fun d hd' => by simpa [nth] using hd (d + 1) (by simpa using hd')]

/-- The slots, the operations of which p holds being done. -/
def SlotAt (ops : List Oper) (recs : List Rec) (tm0 : List Value) (p : Nat → Bool) (tm : List Value) : Prop :=
  tm.length = tm0.length ∧ ∀ d, d < tm0.length →
    (∀ (l : Nat) (o : Oper) (r : Rec), ops[l]? = some o → recs[l]? = some r → p l = true → o.dst = some d → nth tm d = r.v) ∧
    ((∀ (l : Nat) (o : Oper), ops[l]? = some o → p l = true → o.dst ≠ some d) → nth tm d = nth tm0 d)

section
variable {ops : List Oper} {ms : List Nat} {recs : List Rec} {tm0 tm tm' : List Value} {p q : Nat → Bool}

theorem SlotAt.put (hok : OkD ops ms) (h : SlotAt ops recs tm0 p tm) {i : Nat} {o : Oper} {r : Rec} (ho : ops[i]? = some o) (hr : recs[i]? = some r) (hp : p i = false)
    (hq : ∀ l, q l = true ↔ (p l = true ∨ l = i)) : SlotAt ops recs tm0 q (putD tm o.dst r.v) := by
  obtain ⟨h1, h2⟩ := h
  refine ⟨?_, fun d hd => ?_⟩
  · unfold putD; split
    · rw [length_setNth]; exact h1
    · exact h1
  obtain ⟨h3, h4⟩ := h2 d hd
  by_cases hdo : o.dst = some d
  · have hv : nth (putD tm o.dst r.v) d = r.v := by
      simp only [putD, hdo]; exact nth_setNth_self tm d r.v (by omega)
    refine ⟨fun l o' r' hl hr' hql hd' => ?_, fun hn => absurd hdo (hn i o ho ((hq i).2 (.inr rfl)))⟩
    by_cases hli : l = i
    · subst hli
      rw [hr] at hr'; obtain rfl := Option.some.inj hr'
      exact hv
    · exact absurd hd' (hok.dst i l o o' d ho hl (fun e => hli e.symm) hdo)
  · have hv : nth (putD tm o.dst r.v) d = nth tm d := by
      unfold putD; split
      · rename_i e he
        exact nth_setNth_ne tm e d r.v (fun e' => hdo (by rw [he, e']))
      · rfl
    rw [hv]
    refine ⟨fun l o' r' hl hr' hql hd' => ?_, fun hn => h4 fun l o' hl hpl => hn l o' hl ((hq l).2 (.inl hpl))⟩
    rcases (hq l).1 hql with hpl | rfl
    · exact h3 l o' r' hl hr' hpl hd'
    · rw [ho] at hl; obtain rfl := Option.some.inj hl
      exact absurd hd' hdo

theorem SlotAt.agree (hlen : recs.length = ops.length) (hp : SlotAt ops recs tm0 p tm) (hq : SlotAt ops recs tm0 q tm') {i t : Nat} (hs : slotOk ms ops i t = true)
    (hpi : p i = false) (hqi : q i = false) (hpm : ∀ l, Nat.testBit (natAt ms i) l = true → p l = true) (hqm : ∀ l, Nat.testBit (natAt ms i) l = true → q l = true)
    (hpn : ∀ l, Nat.testBit (natAt ms l) i = true → ops[l]?.isSome = true → p l = false) (hqn : ∀ l, Nat.testBit (natAt ms l) i = true → ops[l]?.isSome = true → q l = false) : nth tm t = nth tm' t := by
  by_cases hd : t < tm0.length
  · obtain ⟨p3, p4⟩ := hp.2 t hd
    obtain ⟨q3, q4⟩ := hq.2 t hd
    by_cases hex : ∃ (l : Nat) (o : Oper), ops[l]? = some o ∧ o.dst = some t ∧ Nat.testBit (natAt ms i) l = true
    · obtain ⟨l, o, ho, hdo, hb⟩ := hex
      have hl : l < recs.length := by rw [hlen]; exact (List.getElem?_eq_some_iff.1 ho).1
      obtain ⟨r, hr⟩ : ∃ r, recs[l]? = some r := ⟨_, List.getElem?_eq_getElem hl⟩
      rw [p3 l o r ho hr (hpm l hb) hdo, q3 l o r ho hr (hqm l hb) hdo]
    · have hno : ∀ (l : Nat) (o : Oper), ops[l]? = some o → o.dst = some t → p l = false ∧ q l = false := by
        intro l o ho hdo
        rcases slotOk_spec hs ho hdo with rfl | hb | hb
        · exact ⟨hpi, hqi⟩
        · exact absurd ⟨l, o, ho, hdo, hb⟩ hex
        · exact ⟨hpn l hb (by rw [ho]; rfl), hqn l hb (by rw [ho]; rfl)⟩
      rw [p4 (fun l o ho hpl hdo => by rw [(hno l o ho hdo).1] at hpl; cases hpl), q4 (fun l o ho hql hdo => by rw [(hno l o ho hdo).2] at hql; cases hql)]
  · rw [nth_over tm t (by have := hp.1; omega), nth_over tm' t (by have := hq.1; omega)]

end

theorem aguard_congr {ops : List Oper} {tm tm' : List Value} {o : Oper} (h : ∀ (g : Nat) (want : Bool) (p : Oper) (d : Nat), o.guard = some (g, want) → ops[g]? = some p → p.dst = some d → nth tm d = nth tm' d) : aguard ops tm o = aguard ops tm' o := by
  unfold aguard
  cases hg : o.guard with
  | none => rfl
  | some gw =>
    obtain ⟨g, want⟩ := gw
    simp only
    cases hp : ops[g]? with
    | none => rfl
    | some p =>
      simp only
      cases hd : p.dst with
      | none => rfl
      | some d => simp only [h g want p d hg hp hd]

theorem ren_bool_iff (E : Env) (v : Value) (b : Bool) : ren E v = .bool b ↔ v = .bool b := by
  cases v with
  | pointer a => cases a <;> simp [ren]
  | slice a l c => cases a <;> simp [ren]
  | map a => cases a <;> simp [ren]
  | _ => simp [ren]

theorem wanted_eq {E : Env} {A : Nat → Prop} {tm : List Value} {a : Act} (ht : Tm E A tm a) (ops : Array Oper) (o : Oper) : Region.wanted o (yielded ops a.tmps) = aguard ops.toList tm o := by
  unfold Region.wanted aguard
  cases hg : o.guard with
  | none => rfl
  | some gw =>
    obtain ⟨g, want⟩ := gw
    simp only [yielded, Array.getElem?_toList]
    cases hp : ops[g]? with
    | none => simp
    | some p =>
      simp only [Option.bind_some]
      cases hd : p.dst with
      | none => simp
      | some d =>
        simp only [Option.bind_some, ht.tmps, nth_get]
        cases hv : tm[d]? with
        | none => simp [hv, undef]
        | some v =>
          simp only [List.getElem?_toArray, List.getElem?_map, hv, Option.map_some, Option.getD_some]
          by_cases hb : ∃ b, v = .bool b
          · obtain ⟨b, rfl⟩ := hb
            rw [ren_bool]
            simp only [Option.some_beq_some]
          · have h1 : ∀ b, ren E v ≠ .bool b := fun b e => hb ⟨b, (ren_bool_iff E v b).1 e⟩
            have h2 : ∀ b, v ≠ .bool b := fun b e => hb ⟨b, e⟩
            split
            · rename_i b e; exact absurd (Option.some.inj e) (h1 b)
            · split
              · rename_i b e; exact absurd rfl (h2 b)
              · rfl

end Go.Dam
