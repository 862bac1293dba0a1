/-
  An own evaluator of closed runs of a program, proved sound against the model for every order of draws and every capacity of append. This text is one part of it; the last part's theorem 'closed' says what a run in the kernel proves. Used for the law's closed self-test.
-/
import Derived.Test.YtgjgdofofhmjgaaDoorDamR
namespace Go.Dam

section
variable {P : Program} {callF : FuncId → List Value → St → Option (Value × St)} {ops : List Oper} {ms : List Nat} {tm0 : List Value}

/-- What the run in the text's order found of operation i. -/
structure Fact (callF : FuncId → List Value → St → Option (Value × St)) (P : Program) (ops : List Oper) (ms : List Nat) (tm0 : List Value) (F : DR) (i : Nat) (o : Oper) (r : Rec) : Prop where
  record : F.recs[i]? = some r
  slots : SlotAt ops F.recs tm0 (fun l => Nat.blt l i) r.tm
  on : r.on = aguard ops r.tm o
  le : r.nx ≤ r.nx'
  ev : r.nx % 2 = 0
  off : r.on = false → r.v = undef ∧ r.nx' = r.nx
  effect : r.on = true → kind o.op ≠ 0 → kind o.op ≠ 1 → kind o.op ≠ 2 → ∃ t S', F.es[t]? = some i ∧ (∀ s e, s < t → F.es[s]? = some e → Nat.testBit (natAt ms i) e = true) ∧
    astep callF P r.tm ⟨seen ms F.es F.hs F.al i t, r.nx⟩ o = some (r.v, S') ∧ S'.next = r.nx' ∧ heapAt F.hs (t + 1) = S'.heap
  lays : r.on = true → kind o.op = 2 → ∃ n b, (i, n, b) ∈ F.al ∧ astep callF P r.tm ⟨[], r.nx⟩ o = some (r.v, ⟨[(n, b)], r.nx'⟩)
  reads : r.on = true → (kind o.op = 0 ∨ kind o.op = 1) → r.nx' = r.nx ∧ ∃ k S', k ≤ F.es.length ∧ astep callF P r.tm ⟨seen ms F.es F.hs F.al i k, r.nx⟩ o = some (r.v, S')

theorem dStep_prefix {i : Nat} {o : Oper} {R R' : DR} (h : dStep callF P ops ms i o R = some R') :
    ∃ r es' hs' al', R'.recs = R.recs ++ [r] ∧ R'.es = R.es ++ es' ∧ R'.hs = R.hs ++ hs' ∧ R'.al = R.al ++ al' ∧ (∀ e ∈ es', e = i) ∧ (∀ x ∈ al', x.1 = i) ∧ es'.length = hs'.length ∧ R.nx ≤ R'.nx ∧
      R'.tm = putD R.tm o.dst r.v ∧ r.tm = R.tm ∧ r.nx = R.nx ∧ r.nx' = R'.nx ∧ (R.nx % 2 = 0 → R'.nx % 2 = 0) ∧ es'.length ≤ 1 := by
  unfold dStep at h
  split at h
  · split at h
    · simp only [Option.ite_none_right_eq_some] at h
      obtain ⟨_, h⟩ := h
      split at h
      · rename_i v S' hs
        simp only [Option.ite_none_right_eq_some, Option.some.injEq, Bool.and_eq_true] at h
        obtain ⟨⟨h1, h2⟩, rfl⟩ := h
        exact ⟨_, [i], [S'.heap], [], rfl, rfl, rfl, by simp, by simp, by simp, rfl, Nat.le_of_ble_eq_true h1, rfl, rfl, rfl, rfl, fun _ => isEven_spec h2, by simp⟩
      · simp at h
    · split at h
      · rename_i v n b nx hs
        simp only [Option.ite_none_right_eq_some, Option.some.injEq, Bool.and_eq_true] at h
        obtain ⟨⟨h1, h2⟩, rfl⟩ := h
        exact ⟨_, [], [], [(i, n, b)], rfl, by simp, by simp, rfl, by simp, by simp, rfl, Nat.le_of_ble_eq_true h1, rfl, rfl, rfl, rfl, fun _ => isEven_spec h2, by simp⟩
      · simp at h
    · split at h
      · rename_i v S' hs
        simp only [Option.some.injEq] at h; subst h
        exact ⟨_, [], [], [], rfl, by simp, by simp, by simp, by simp, by simp, rfl, Nat.le_refl _, rfl, rfl, rfl, rfl, id, by simp⟩
      · simp at h
  · simp only [Option.some.injEq] at h; subst h
    exact ⟨_, [], [], [], rfl, by simp, by simp, by simp, by simp, by simp, rfl, Nat.le_refl _, rfl, rfl, rfl, rfl, id, by simp⟩

theorem dRun_prefix : ∀ {l : List Oper} {i : Nat} {R F : DR}, dRun callF P ops ms i l R = some F →
    ∃ recs' es' hs' al', F.recs = R.recs ++ recs' ∧ recs'.length = l.length ∧ F.es = R.es ++ es' ∧ F.hs = R.hs ++ hs' ∧ F.al = R.al ++ al' ∧ (∀ e ∈ es', i ≤ e) ∧ (∀ x ∈ al', i ≤ x.1) ∧ es'.length = hs'.length ∧ R.nx ≤ F.nx ∧
      (R.nx % 2 = 0 → F.nx % 2 = 0)
  | [], i, R, F, h => by
    simp only [dRun, Option.some.injEq] at h; subst h
    exact ⟨[], [], [], [], by simp, rfl, by simp, by simp, by simp, by simp, by simp, rfl, Nat.le_refl _, id⟩
  | o :: l, i, R, F, h => by
    simp only [dRun] at h
    split at h
    · rename_i R' hs
      obtain ⟨r, es1, hs1, al1, a1, a2, a3, a4, a5, a6, a7, a8, _, _, _, _, a9, _⟩ := dStep_prefix hs
      obtain ⟨rs2, es2, hs2, al2, b1, b2, b3, b4, b5, b6, b7, b8, b9, b10⟩ := dRun_prefix h
      refine ⟨r :: rs2, es1 ++ es2, hs1 ++ hs2, al1 ++ al2, by rw [b1, a1]; simp, by simp [b2], by rw [b3, a2]; simp, by rw [b4, a3]; simp, by rw [b5, a4]; simp, ?_, ?_, by simp [a7, b8], by omega, fun e => b10 (a9 e)⟩
      · intro e he
        rcases List.mem_append.1 he with he | he
        · rw [a5 e he]; exact Nat.le_refl _
        · have := b6 e he; omega
      · intro e he
        rcases List.mem_append.1 he with he | he
        · rw [a6 e he]; exact Nat.le_refl _
        · have := b7 e he; omega
    · simp at h

/-- The facts of one step, seen from the end. -/
theorem dStep_fact (hok : OkD ops ms) {i : Nat} {o : Oper} {R R' F : DR} (ho : ops[i]? = some o) (h : dStep callF P ops ms i o R = some R')
    (hlen : R.recs.length = i) (hhl : R.hs.length = R.es.length + 1) (hev : R.nx % 2 = 0) (hsl : SlotAt ops F.recs tm0 (fun l => Nat.blt l i) R.tm)
    {recs' : List Rec} {es' : List Nat} {hs' : List (List (Nat × Obj))} {al' : List (Nat × Nat × Obj)} (p1 : F.recs = R'.recs ++ recs') (p2 : F.es = R'.es ++ es') (p3 : F.hs = R'.hs ++ hs') (p4 : F.al = R'.al ++ al')
    (p6 : ∀ x ∈ al', i + 1 ≤ x.1) : ∃ r, Fact callF P ops ms tm0 F i o r ∧ r.nx = R.nx ∧ r.nx' = R'.nx ∧ R'.tm = putD R.tm o.dst r.v ∧ R'.recs = R.recs ++ [r] ∧
      (∀ e, R'.es = R.es ++ [e] → e = i ∧ r.on = true ∧ kind o.op ≠ 0 ∧ kind o.op ≠ 1 ∧ kind o.op ≠ 2) ∧ (∀ x, R'.al = R.al ++ [x] → x.1 = i ∧ r.on = true ∧ kind o.op = 2 ∧ astep callF P r.tm ⟨[], r.nx⟩ o = some (r.v, ⟨[(x.2.1, x.2.2)], r.nx'⟩)) := by
  have hnom : ∀ (x : Nat × Nat × Obj), i ≤ x.1 → Nat.testBit (natAt ms i) x.1 = false := by
    intro x hx
    cases hb : Nat.testBit (natAt ms i) x.1 with
    | false => rfl
    | true => have := (hok.mask i o _ ho hb).1; omega
  have hrec : ∀ r, R'.recs = R.recs ++ [r] → F.recs[i]? = some r := by
    intro r hr
    rw [p1, hr, List.append_assoc, List.getElem?_append_right (by omega)]
    simp [hlen]
  unfold dStep at h
  split at h
  · rename_i hg
    split at h
    · rename_i hk
      simp only [Option.ite_none_right_eq_some] at h
      obtain ⟨hall, h⟩ := h
      split at h
      · rename_i v S' hs
        simp only [Option.ite_none_right_eq_some, Option.some.injEq, Bool.and_eq_true] at h
        obtain ⟨⟨h1, h2⟩, rfl⟩ := h
        simp only at p1 p2 p3 p4
        refine ⟨⟨true, R.tm, v, R.nx, S'.next⟩, ⟨hrec _ rfl, hsl, hg.symm, Nat.le_of_ble_eq_true h1, hev, by simp, fun _ _ _ _ => ?_, by rw [hk]; simp, by rw [hk]; simp⟩, rfl, rfl, rfl, rfl, ?_, ?_⟩
        · refine ⟨R.es.length, S', by rw [p2]; simp, ?_, ?_, rfl, ?_⟩
          · intro s e hs' he
            rw [p2, List.append_assoc, List.getElem?_append_left hs'] at he
            exact List.all_eq_true.1 hall e (List.mem_of_getElem? he)
          · rw [p2, p3, p4, List.append_assoc, List.append_assoc, seen_append (fun x hx => hnom x (by have := p6 x hx; omega)) (Nat.le_refl _) (by omega)]
            exact hs
          · rw [p3, heapAt_append (by simp [hhl])]
            have : ∀ (l : List (List (Nat × Obj))) x n, n = l.length → heapAt (l ++ [x]) n = x := by
              intro l
              induction l with
              | nil => intro x n hn; subst hn; rfl
              | cons y r ih => intro x n hn; subst hn; exact ih x _ rfl
            exact this _ _ _ hhl.symm
        · intro e he
          simp only [List.append_cancel_left_eq, List.cons.injEq, and_true] at he
          exact ⟨he.symm, rfl, by rw [hk]; simp, by rw [hk]; simp, by rw [hk]; simp⟩
        · intro x hx
          simp at hx
      · simp at h
    · rename_i hk
      split at h
      · rename_i v n b nx hs
        simp only [Option.ite_none_right_eq_some, Option.some.injEq, Bool.and_eq_true] at h
        obtain ⟨⟨h1, h2⟩, rfl⟩ := h
        simp only at p1 p2 p3 p4
        refine ⟨⟨true, R.tm, v, R.nx, nx⟩, ⟨hrec _ rfl, hsl, hg.symm, Nat.le_of_ble_eq_true h1, hev, by simp, by rw [hk]; simp, fun _ _ => ⟨n, b, by rw [p4]; simp, hs⟩, by rw [hk]; simp⟩, rfl, rfl, rfl, rfl, ?_, ?_⟩
        · intro e he; simp at he
        · intro x hx
          simp only [List.append_cancel_left_eq, List.cons.injEq, and_true] at hx
          subst hx
          exact ⟨rfl, rfl, hk, hs⟩
      · simp at h
    · rename_i hk3 hk2
      split at h
      · rename_i v S' hs
        simp only [Option.some.injEq] at h; subst h
        simp only at p1 p2 p3 p4
        have hk01 : kind o.op = 0 ∨ kind o.op = 1 := by
          have : kind o.op ≤ 3 := by unfold kind; split <;> omega
          have h3 : kind o.op ≠ 3 := hk3
          have h2 : kind o.op ≠ 2 := hk2
          omega
        refine ⟨⟨true, R.tm, v, R.nx, R.nx⟩, ⟨hrec _ rfl, hsl, hg.symm, Nat.le_refl _, hev, by simp, fun _ a b _ => ?_, fun _ a => absurd a hk2, fun _ _ => ⟨rfl, R.es.length, S', by rw [p2]; simp, ?_⟩⟩, rfl, rfl, rfl, rfl, ?_, ?_⟩
        · rcases hk01 with h | h
          · exact absurd h a
          · exact absurd h b
        · rw [p2, p3, p4, seen_append (fun x hx => hnom x (by have := p6 x hx; omega)) (Nat.le_refl _) (by omega)]
          exact hs
        · intro e he; simp at he
        · intro e he; simp at he
      · simp at h
  · rename_i hg
    simp only [Option.some.injEq] at h; subst h
    refine ⟨⟨false, R.tm, undef, R.nx, R.nx⟩, ⟨hrec _ rfl, hsl, by simpa using hg, Nat.le_refl _, hev, fun _ => ⟨rfl, rfl⟩, by simp, by simp, by simp⟩, rfl, rfl, rfl, rfl, ?_, ?_⟩
    · intro e he; simp at he
    · intro e he; simp at he

end
end Go.Dam
