/-
  An own evaluator of closed runs of a program, proved sound against the model for every order of draws and every capacity of append. This text is one part of it; the last part's theorem 'closed' says what a run in the kernel proves. Used for the law's closed self-test.
-/
import Derived.Test.YtgjgdofofhmjgaaDoorDamS
namespace Go.Dam

theorem blt_iff (a b : Nat) : Nat.blt a b = true ↔ a < b := ⟨Nat.le_of_ble_eq_true, Nat.ble_eq_true_of_le⟩
theorem blt_false (a b : Nat) : Nat.blt a b = false ↔ b ≤ a := by rw [← Bool.not_eq_true, blt_iff]; omega

section
variable {P : Program} {callF : FuncId → List Value → St → Option (Value × St)} {ops : List Oper} {ms : List Nat} {tm0 : List Value}

/-- What the whole run found. -/
structure Facts (callF : FuncId → List Value → St → Option (Value × St)) (P : Program) (ops : List Oper) (ms : List Nat) (tm0 : List Value) (F : DR) (i n : Nat) (es : Nat → Prop) (al : Nat × Nat × Obj → Prop) : Prop where
  fact : ∀ (j : Nat) (o : Oper), i ≤ j → ops[j]? = some o → ∃ r, Fact callF P ops ms tm0 F j o r ∧ n ≤ r.nx ∧ r.nx' ≤ F.nx
  order : ∀ (j j' : Nat) (r r' : Rec), i ≤ j → j < j' → F.recs[j]? = some r → F.recs[j']? = some r' → r.nx' ≤ r'.nx
  effects : ∀ (t e : Nat), F.es[t]? = some e → es t ∨ ∃ o r, ops[e]? = some o ∧ F.recs[e]? = some r ∧ r.on = true ∧ kind o.op ≠ 0 ∧ kind o.op ≠ 1 ∧ kind o.op ≠ 2
  laid : ∀ x ∈ F.al, al x ∨ ∃ o r, ops[x.1]? = some o ∧ F.recs[x.1]? = some r ∧ r.on = true ∧ kind o.op = 2 ∧ astep callF P r.tm ⟨[], r.nx⟩ o = some (r.v, ⟨[(x.2.1, x.2.2)], r.nx'⟩)
  sorted : F.es.Pairwise (· < ·)
  slots : SlotAt ops F.recs tm0 (fun l => Nat.blt l ops.length) F.tm
  heaps : F.hs.length = F.es.length + 1
  le : n ≤ F.nx
  ev : F.nx % 2 = 0
  recs : F.recs.length = ops.length

theorem dRun_facts (hok : OkD ops ms) : ∀ {l : List Oper} {i : Nat} {R F : DR}, dRun callF P ops ms i l R = some F → (∀ j, l[j]? = ops[i + j]?) → i + l.length = ops.length → R.recs.length = i → R.hs.length = R.es.length + 1 → R.nx % 2 = 0 →
    SlotAt ops F.recs tm0 (fun l => Nat.blt l i) R.tm → (∀ e ∈ R.es, e < i) → R.es.Pairwise (· < ·) → Facts callF P ops ms tm0 F i R.nx (fun t => t < R.es.length) (fun x => x ∈ R.al)
  | [], i, R, F, h, hl, hn, hlen, hhl, hev, hsl, hes, hso => by
    simp only [dRun, Option.some.injEq] at h; subst h
    simp only [List.length_nil, Nat.add_zero] at hn
    refine ⟨?_, ?_, ?_, ?_, hso, by rw [← hn]; exact hsl, hhl, Nat.le_refl _, hev, by omega⟩
    · intro j o hj ho
      have := (List.getElem?_eq_some_iff.1 ho).1
      omega
    · intro j j' r r' hj hjj hr hr'
      have := (List.getElem?_eq_some_iff.1 hr).1
      omega
    · intro t e he
      exact .inl (List.getElem?_eq_some_iff.1 he).1
    · intro x hx
      exact .inl hx
  | o :: l, i, R, F, h, hl, hn, hlen, hhl, hev, hsl, hes, hso => by
    simp only [dRun] at h
    split at h
    · rename_i R' hs
      have ho : ops[i]? = some o := by have := hl 0; simpa using this.symm
      obtain ⟨r0, es1, hs1, al1, a1, a2, a3, a4, a5, a6, a7, a8, _, _, _, _, a9, a10⟩ := dStep_prefix hs
      obtain ⟨rs2, es2, hs2, al2, b1, b2, b3, b4, b5, b6, b7, b8, b9, b10⟩ := dRun_prefix h
      obtain ⟨r, hf, f1, f2, f3, f4, f5, f6⟩ := dStep_fact (tm0 := tm0) hok ho hs hlen hhl hev hsl b1 b3 b4 b5 b7
      have hsl' : SlotAt ops F.recs tm0 (fun l => Nat.blt l (i + 1)) R'.tm := by
        rw [f3]
        refine hsl.put hok ho hf.record ((blt_false i i).2 (Nat.le_refl _)) fun l => ?_
        simp only [blt_iff]
        omega
      have hlen' : R'.recs.length = i + 1 := by rw [f4]; simp [hlen]
      have hn' : i + 1 + l.length = ops.length := by simp only [List.length_cons] at hn; omega
      have IH := dRun_facts hok h (fun j => by have := hl (j + 1); simpa [Nat.add_assoc, Nat.add_comm 1 j] using this) hn' hlen' (by rw [a3, a2]; simp [hhl, a7]; omega) (a9 hev) hsl'
        (fun e he => by
          rw [a2] at he
          rcases List.mem_append.1 he with he | he
          · have := hes e he; omega
          · have := a5 e he; omega)
        (by
          rw [a2, List.pairwise_append]
          refine ⟨hso, ?_, fun x hx y hy => by rw [a5 y hy]; exact hes x hx⟩
          match es1, a10 with
          | [], _ => simp
          | [x], _ => simp
          | _ :: _ :: _, hlt => simp at hlt)
      refine ⟨?_, ?_, ?_, ?_, IH.sorted, IH.slots, IH.heaps, Nat.le_trans a8 IH.le, IH.ev, IH.recs⟩
      · intro j o' hj ho'
        by_cases hji : j = i
        · subst hji
          rw [ho] at ho'; obtain rfl := Option.some.inj ho'
          exact ⟨r, hf, by rw [f1]; exact Nat.le_refl _, by rw [f2]; exact IH.le⟩
        · obtain ⟨r', q1, q2, q3⟩ := IH.fact j o' (by omega) ho'
          exact ⟨r', q1, by omega, q3⟩
      · intro j j' r1 r2 hj hjj hr1 hr2
        by_cases hji : j = i
        · subst hji
          rw [hf.record] at hr1; obtain rfl := Option.some.inj hr1
          have hlt : j' < ops.length := by rw [← IH.recs]; exact (List.getElem?_eq_some_iff.1 hr2).1
          obtain ⟨r', q1, q2, q3⟩ := IH.fact j' ops[j'] (by omega) (List.getElem?_eq_getElem hlt)
          rw [q1.record] at hr2; obtain rfl := Option.some.inj hr2
          rw [f2]; exact q2
        · exact IH.order j j' r1 r2 (by omega) hjj hr1 hr2
      · intro t e he
        rcases IH.effects t e he with ht | hx
        · rw [a2] at ht
          by_cases htl : t < R.es.length
          · exact .inl htl
          · right
            match es1, a10, a2, a5 with
            | [], _, a2, _ => simp at ht; omega
            | [x], _, a2, a5 =>
              have : t = R.es.length := by simp at ht; omega
              subst this
              have hx : x = i := a5 x (by simp)
              subst hx
              obtain ⟨_, g2, g3⟩ := f5 x a2
              rw [b3, a2, List.append_assoc] at he
              simp at he
              subst he
              exact ⟨o, r, ho, hf.record, g2, g3⟩
            | _ :: _ :: _, hlt, _, _ => simp at hlt
        · exact .inr hx
      · intro x hx
        rcases IH.laid x hx with hy | hz
        · rw [a4] at hy
          rcases List.mem_append.1 hy with hy | hy
          · exact .inl hy
          · right
            have hyi := a6 x hy
            rw [hyi]
            refine ⟨o, r, ho, hf.record, ?_⟩
            match al1, a4, hy with
            | [z], a4, hy =>
              obtain rfl : x = z := by simpa using hy
              exact (f6 x a4).2
            | z :: z' :: rest, a4, hy =>
              exfalso
              unfold dStep at hs
              split at hs
              · split at hs
                · simp only [Option.ite_none_right_eq_some] at hs
                  obtain ⟨_, hs⟩ := hs
                  split at hs
                  · simp only [Option.ite_none_right_eq_some, Option.some.injEq] at hs
                    obtain ⟨_, rfl⟩ := hs
                    simp at a4
                  · simp at hs
                · split at hs
                  · simp only [Option.ite_none_right_eq_some, Option.some.injEq] at hs
                    obtain ⟨_, rfl⟩ := hs
                    simp at a4
                  · simp at hs
                · split at hs
                  · simp only [Option.some.injEq] at hs; subst hs
                    simp at a4
                  · simp at hs
              · simp only [Option.some.injEq] at hs; subst hs
                simp at a4
        · exact .inr hz
    · simp at h

theorem readsOk_spec {F : DR} : ∀ {l : List Oper} {rs : List Rec} {i : Nat}, readsOk callF P ms F i l rs = true → ∀ (j : Nat) (o : Oper) (r : Rec), l[j]? = some o → rs[j]? = some r → r.on = true → kind o.op = 1 →
    ∀ k, k ≤ F.es.length → readOk callF P ms F (i + j) o r k = true
  | [], _, _, _, j, o, r, h, _, _, _, _, _ => by simp at h
  | _ :: _, [], _, h, _, _, _, _, _, _, _, _, _ => by simp [readsOk] at h
  | p :: l, q :: rs, i, h, j, o, r, hl, hr, hon, hk, k, hkl => by
    simp only [readsOk, Bool.and_eq_true, Bool.or_eq_true, Bool.not_eq_true'] at h
    cases j with
    | zero =>
      simp only [List.getElem?_cons_zero, Option.some.injEq] at hl hr
      subst hl; subst hr
      rcases h.1 with (h1 | h1) | h1
      · rw [hon] at h1; cases h1
      · rw [hk] at h1; simp at h1
      · exact upTo_spec h1 k hkl
    | succ j =>
      have := readsOk_spec h.2 j o r (by simpa using hl) (by simpa using hr) hon hk k hkl
      rwa [Nat.add_assoc, Nat.add_comm 1 j] at this

end
end Go.Dam
