/-
  An own evaluator of closed runs of a program, proved sound against the model for every order of draws and every capacity of append. This text is one part of it; the theorems 'closed', 'evCall_sound' say what a run in the kernel proves. Used for the law's closed self-test and for what it calls on constants.
-/
import Derived.Test.YtmoddgkjaimpfaaGreatDoorDamE
namespace Go.Dam

theorem allFrom_spec {f : Nat → Oper → Bool} : ∀ {l : List Oper} {k : Nat}, allFrom f k l = true → ∀ j o, l[j]? = some o → f (k + j) o = true
  | [], _, _, j, o, h => by simp at h
  | p :: r, k, hf, j, o, h => by
    simp only [allFrom, Bool.and_eq_true] at hf
    cases j with
    | zero => simp only [List.getElem?_cons_zero, Option.some.injEq] at h; subst h; exact hf.1
    | succ j =>
      have := allFrom_spec hf.2 j o (by simpa using h)
      rwa [Nat.add_assoc, Nat.add_comm 1 j] at this

theorem upTo_spec {f : Nat → Bool} : ∀ {n : Nat}, upTo n f = true → ∀ k, k ≤ n → f k = true
  | 0, h, k, hk => by obtain rfl : k = 0 := by omega
                      exact h
  | n + 1, h, k, hk => by
    simp only [upTo, Bool.and_eq_true] at h
    rcases Nat.lt_or_ge n k with h' | h'
    · obtain rfl : k = n + 1 := by omega
      exact h.1
    · exact upTo_spec h.2 k h'

theorem isEven_spec {n : Nat} (h : isEven n = true) : n % 2 = 0 := by simpa [isEven] using h

theorem testBit_or {a b j : Nat} : Nat.testBit (a ||| b) j = (Nat.testBit a j || Nat.testBit b j) := Nat.testBit_or a b j

theorem fold_mask (ms : List Nat) : ∀ (l : List Edge) (s j : Nat), Nat.testBit (l.foldl (fun s e => if Region.binds .any e = true then s ||| (2 ^ e.on) ||| natAt ms e.on else s) s) j = true →
    Nat.testBit s j = true ∨ ∃ e ∈ l, Region.binds .any e = true ∧ (j = e.on ∨ Nat.testBit (natAt ms e.on) j = true)
  | [], s, j, h => .inl h
  | e :: l, s, j, h => by
    simp only [List.foldl_cons] at h
    rcases fold_mask ms l _ j h with h | ⟨e', he, h⟩
    · split at h
      · rename_i hb
        rw [testBit_or, testBit_or, Nat.testBit_two_pow] at h
        simp only [Bool.or_eq_true, decide_eq_true_eq] at h
        rcases h with (h | h) | h
        · exact .inl h
        · exact .inr ⟨e, by simp, hb, .inl h.symm⟩
        · exact .inr ⟨e, by simp, hb, .inr h⟩
      · exact .inl h
    · exact .inr ⟨e', by simp [he], h⟩

theorem sameDst_false {a b : Option Nat} (h : sameDst a b = false) {d : Nat} (ha : a = some d) : b ≠ some d := by
  subst ha
  rintro rfl
  simp [sameDst] at h

/-- What 'okDraw' says of the operations. -/
structure OkD (ops : List Oper) (ms : List Nat) : Prop where
  mask : ∀ (i : Nat) (o : Oper) (j : Nat), ops[i]? = some o → Nat.testBit (natAt ms i) j = true → j < i ∧ ∃ e ∈ o.after, Region.binds .any e = true ∧ (j = e.on ∨ Nat.testBit (natAt ms e.on) j = true)
  early : ∀ (i : Nat) (o : Oper) (e : Edge), ops[i]? = some o → e ∈ o.after → Region.binds .any e = true → e.on < i
  slot : ∀ (i : Nat) (o : Oper) (x : Operand) (t : Nat), ops[i]? = some o → x ∈ o.op.operands → x = .tmp t → slotOk ms ops i t = true
  guard : ∀ (i : Nat) (o : Oper) (g : Nat) (want : Bool) (p : Oper) (d : Nat), ops[i]? = some o → o.guard = some (g, want) → ops[g]? = some p → p.dst = some d → slotOk ms ops i d = true
  dst : ∀ (i l : Nat) (o o' : Oper) (d : Nat), ops[i]? = some o → ops[l]? = some o' → i ≠ l → o.dst = some d → o'.dst ≠ some d

theorem fold_mask_mem (ms : List Nat) : ∀ (l : List Edge) (s j : Nat), (Nat.testBit s j = true ∨ ∃ e ∈ l, Region.binds .any e = true ∧ j = e.on) →
    Nat.testBit (l.foldl (fun s e => if Region.binds .any e = true then s ||| (2 ^ e.on) ||| natAt ms e.on else s) s) j = true
  | [], s, j, h => by
    rcases h with h | ⟨e, he, _⟩
    · exact h
    · cases he
  | e :: l, s, j, h => by
    simp only [List.foldl_cons]
    refine fold_mask_mem ms l _ j ?_
    rcases h with h | ⟨e', he, hb, rfl⟩
    · left
      split
      · rw [testBit_or, testBit_or, h]; rfl
      · exact h
    · rcases List.mem_cons.1 he with rfl | he
      · left; rw [if_pos hb, testBit_or, testBit_or, Nat.testBit_two_pow]; simp
      · exact .inr ⟨e', he, hb, rfl⟩

theorem okDraw_spec {ops : List Oper} (h : okDraw ops = true) : OkD ops (maskList ops []) := by
  have key : ∀ i o, ops[i]? = some o → natAt (maskList ops []) i = afterMask (maskList ops []) o ∧ natAt (maskList ops []) i < 2 ^ i ∧ (∀ x ∈ o.op.operands, opdSlotOk (maskList ops []) ops i x = true) ∧
      guardSlotOk (maskList ops []) ops i o = true ∧ ∀ l o', ops[l]? = some o' → i = l ∨ sameDst o.dst o'.dst = false := by
    intro i o ho
    have := allFrom_spec h i o ho
    simp only [Nat.zero_add, Bool.and_eq_true, List.all_eq_true] at this
    obtain ⟨⟨⟨h1, h2⟩, h3, h4⟩, h5⟩ := this
    refine ⟨Nat.eq_of_beq_eq_true h1, Nat.le_of_ble_eq_true h2, fun x hx => h3 x (by simpa using hx), h4, fun l o' hl => ?_⟩
    have := allFrom_spec h5 l o' hl
    simp only [Nat.zero_add, Bool.or_eq_true, Bool.not_eq_true'] at this
    exact this.imp Nat.eq_of_beq_eq_true id
  have small : ∀ i o j, ops[i]? = some o → Nat.testBit (natAt (maskList ops []) i) j = true → j < i := by
    intro i o j ho hj
    rcases Nat.lt_or_ge j i with h' | h'
    · exact h'
    · have := Nat.testBit_lt_two_pow (Nat.lt_of_lt_of_le (key i o ho).2.1 (Nat.pow_le_pow_right (by decide) h'))
      rw [this] at hj; cases hj
  constructor
  · intro i o j ho hj
    refine ⟨small i o j ho hj, ?_⟩
    rw [(key i o ho).1] at hj
    rcases fold_mask _ _ _ _ hj with h | ⟨e, he, h⟩
    · simp at h
    · exact ⟨e, by simpa using he, h⟩
  · intro i o e ho he hb
    refine small i o _ ho ?_
    rw [(key i o ho).1]
    exact fold_mask_mem _ _ _ _ (.inr ⟨e, by simpa using he, hb, rfl⟩)
  · rintro i o _ t ho hx rfl
    exact (key i o ho).2.2.1 _ hx
  · intro i o g want p d ho hg hp hd
    have := (key i o ho).2.2.2.1
    simpa [guardSlotOk, hg, hp, hd] using this
  · intro i l o o' d ho hl hne hd
    rcases (key i o ho).2.2.2.2 l o' hl with h | h
    · exact absurd h hne
    · exact sameDst_false h hd

theorem slotOk_spec {ms : List Nat} {ops : List Oper} {i t : Nat} (h : slotOk ms ops i t = true) {l : Nat} {o : Oper} (ho : ops[l]? = some o) (hd : o.dst = some t) :
    l = i ∨ Nat.testBit (natAt ms i) l = true ∨ Nat.testBit (natAt ms l) i = true := by
  have := allFrom_spec h l o ho
  simp only [Nat.zero_add, Bool.or_eq_true, Bool.not_eq_true'] at this
  rcases this with ((h | h) | h) | h
  · exact absurd rfl (sameDst_false (b := some t) h hd)
  · exact .inl (Nat.eq_of_beq_eq_true h)
  · exact .inr (.inl h)
  · exact .inr (.inr h)

/-! values that are the same -/
theorem veq1_spec {a b : Value} (h : veq1 a b = true) : a = b := by
  unfold veq1 at h
  split at h
  case h_3 a b =>
    have : a.data.toList = b.data.toList := by simpa using h
    congr 1
    cases a; cases b
    congr 1
    exact Array.ext' this
  all_goals simp_all

theorem veqL_spec : ∀ {a b : List Value}, veqL a b = true → a = b
  | [], [], _ => rfl
  | [], _ :: _, h => by simp [veqL] at h
  | _ :: _, [], h => by simp [veqL] at h
  | a :: r, b :: s, h => by
    simp only [veqL, Bool.and_eq_true] at h
    rw [veq1_spec h.1, veqL_spec h.2]

theorem fnSame_spec {a b : Fn} (h : fnSame a b = true) : a = b := by
  unfold fnSame at h
  split at h
  · rw [Nat.eq_of_beq_eq_true h]
  · rw [Nat.eq_of_beq_eq_true h]
  · cases h

theorem veq2_spec {a b : Value} (h : veq2 a b = true) : a = b := by
  unfold veq2 at h
  split at h
  · congr 1; exact Array.ext' (veqL_spec h)
  · simp only [Bool.and_eq_true] at h
    rw [fnSame_spec h.1, Array.ext' (veqL_spec h.2.1), Array.ext' (veqL_spec h.2.2)]
  · exact veq1_spec h

theorem veqL2_spec : ∀ {a b : List Value}, veqL2 a b = true → a = b
  | [], [], _ => rfl
  | a :: r, b :: s, h => by
    simp only [veqL2, Bool.and_eq_true] at h
    rw [veq2_spec h.1, veqL2_spec h.2]
  | [], _ :: _, h => by simp [veqL2] at h
  | _ :: _, [], h => by simp [veqL2] at h

theorem veq_spec {a b : Value} (h : veq a b = true) : a = b := by
  unfold veq at h
  split at h
  · congr 1; exact Array.ext' (veqL2_spec h)
  · exact veq2_spec h

/-! the blocks laid on the way -/
theorem getOwn_some {p : Nat → Bool} {n : Nat} {o : Obj} : ∀ {al : List (Nat × Nat × Obj)}, getB (own p al) n = some o → ∃ j, (j, n, o) ∈ al ∧ p j = true
  | [], h => by simp [own, getB] at h
  | (j, m, x) :: r, h => by
    simp only [own] at h
    split at h
    · rename_i hp
      simp only [getB] at h
      split at h
      · rename_i hm
        obtain rfl := Nat.eq_of_beq_eq_true hm
        obtain rfl := Option.some.inj h
        exact ⟨j, by simp, hp⟩
      · obtain ⟨j', h1, h2⟩ := getOwn_some h
        exact ⟨j', by simp [h1], h2⟩
    · obtain ⟨j', h1, h2⟩ := getOwn_some h
      exact ⟨j', by simp [h1], h2⟩

theorem fresh1_spec {n : Nat} : ∀ {al : List (Nat × Nat × Obj)}, fresh1 n al = true → ∀ x ∈ al, x.2.1 ≠ n
  | [], _, x, hx => by cases hx
  | (j, m, y) :: r, h, x, hx => by
    simp only [fresh1, Bool.and_eq_true, Bool.not_eq_true'] at h
    rcases List.mem_cons.1 hx with rfl | hx
    · intro e; subst e; simp at h
    · exact fresh1_spec h.2 x hx

theorem getOwn_mem {p : Nat → Bool} {n j : Nat} {o : Obj} : ∀ {al : List (Nat × Nat × Obj)}, noTwice al = true → (j, n, o) ∈ al → p j = true → getB (own p al) n = some o
  | [], _, h, _ => by cases h
  | (i, m, x) :: r, hn, h, hp => by
    simp only [noTwice, Bool.and_eq_true] at hn
    rcases List.mem_cons.1 h with h | h
    · obtain ⟨rfl, rfl, rfl⟩ : j = i ∧ n = m ∧ o = x := by simpa using h
      simp [own, hp, getB]
    · have hne : n ≠ m := fun e => fresh1_spec hn.1 _ h e
      simp only [own]
      split
      · simp only [getB]
        rw [if_neg (by simpa using fun e => hne e.symm)]
        exact getOwn_mem hn.2 h hp
      · exact getOwn_mem hn.2 h hp

theorem noTwice_uniq : ∀ {al : List (Nat × Nat × Obj)}, noTwice al = true → ∀ {i j n : Nat} {o o' : Obj}, (i, n, o) ∈ al → (j, n, o') ∈ al → i = j ∧ o = o'
  | [], _, _, _, _, _, _, h, _ => by cases h
  | (k, m, x) :: r, hn, i, j, n, o, o', h1, h2 => by
    simp only [noTwice, Bool.and_eq_true] at hn
    rcases List.mem_cons.1 h1 with e1 | m1 <;> rcases List.mem_cons.1 h2 with e2 | m2
    · simp only [Prod.mk.injEq] at e1 e2
      obtain ⟨rfl, rfl, rfl⟩ := e1
      obtain ⟨rfl, _, rfl⟩ := e2
      exact ⟨rfl, rfl⟩
    · simp only [Prod.mk.injEq] at e1
      obtain ⟨rfl, rfl, rfl⟩ := e1
      exact absurd rfl (fresh1_spec hn.1 (_, _, _) m2)
    · simp only [Prod.mk.injEq] at e2
      obtain ⟨rfl, rfl, rfl⟩ := e2
      exact absurd rfl (fresh1_spec hn.1 (_, _, _) m1)
    · exact noTwice_uniq hn.2 m1 m2

theorem apartOk_spec {ms : List Nat} {F : DR} : ∀ {al : List (Nat × Nat × Obj)}, apartOk ms F al = true → ∀ j n o k, (j, n, o) ∈ al → k ≤ F.es.length → absd ms F.es k j = false → getB (heapAt F.hs k) n = none
  | [], _, _, _, _, _, h, _, _ => by cases h
  | (i, m, x) :: r, ha, j, n, o, k, h, hk, hab => by
    simp only [apartOk, Bool.and_eq_true] at ha
    rcases List.mem_cons.1 h with e | h
    · simp only [Prod.mk.injEq] at e
      obtain ⟨rfl, rfl, rfl⟩ := e
      have := upTo_spec ha.1 k hk
      simpa [hab] using this
    · exact apartOk_spec ha.2 j n o k h hk hab

theorem getB_append (a b : List (Nat × Obj)) (n : Nat) : getB (a ++ b) n = match getB a n with | some o => some o | none => getB b n := by
  induction a with
  | nil => rfl
  | cons x r ih =>
    obtain ⟨m, o⟩ := x
    simp only [List.cons_append, getB]
    split
    · rfl
    · exact ih

theorem absd_spec {ms : List Nat} {j : Nat} : ∀ {es : List Nat} {k : Nat}, absd ms es k j = true → ∃ t e, t < k ∧ es[t]? = some e ∧ Nat.testBit (natAt ms e) j = true
  | [], _, h => by simp [absd] at h
  | _ :: _, 0, h => by simp [absd] at h
  | e :: r, k + 1, h => by
    simp only [absd, Bool.or_eq_true] at h
    rcases h with h | h
    · exact ⟨0, e, by omega, rfl, h⟩
    · obtain ⟨t, e', h1, h2, h3⟩ := absd_spec h
      exact ⟨t + 1, e', by omega, by simpa using h2, h3⟩

theorem absd_succ {ms : List Nat} {j e : Nat} : ∀ {es : List Nat} {k : Nat}, es[k]? = some e → absd ms es (k + 1) j = (absd ms es k j || Nat.testBit (natAt ms e) j)
  | [], _, h => by simp at h
  | x :: r, 0, h => by
    obtain rfl : x = e := by simpa using h
    cases r <;> simp [absd]
  | x :: r, k + 1, h => by
    have ih := absd_succ (ms := ms) (j := j) (es := r) (k := k) (by simpa using h)
    rw [absd.eq_1, ih, absd.eq_1, Bool.or_assoc]

theorem absd_append {ms : List Nat} {j : Nat} : ∀ {es es' : List Nat} {k : Nat}, k ≤ es.length → absd ms (es ++ es') k j = absd ms es k j
  | [], es', k, h => by
    obtain rfl : k = 0 := by simpa using h
    cases es' <;> simp [absd]
  | x :: r, es', 0, _ => by simp [absd]
  | x :: r, es', k + 1, h => by
    simp only [List.cons_append, absd]
    rw [absd_append (by simpa using h)]

theorem heapAt_append : ∀ {hs hs' : List (List (Nat × Obj))} {k : Nat}, k < hs.length → heapAt (hs ++ hs') k = heapAt hs k
  | [], _, k, h => by simp at h
  | x :: r, hs', 0, _ => rfl
  | x :: r, hs', k + 1, h => by
    simp only [List.cons_append, heapAt]
    exact heapAt_append (by simpa using h)

theorem own_append {p : Nat → Bool} : ∀ {al al' : List (Nat × Nat × Obj)}, (∀ x ∈ al', p x.1 = false) → own p (al ++ al') = own p al
  | [], al', h => by
    induction al' with
    | nil => rfl
    | cons x r ih =>
      obtain ⟨j, n, o⟩ := x
      have hx := h (j, n, o) (by simp)
      simp only at hx
      simp only [List.nil_append, own] at ih ⊢
      rw [if_neg (by simp [hx])]
      exact ih fun y hy => h y (by simp [hy])
  | (j, n, o) :: r, al', h => by
    simp only [List.cons_append, own]
    rw [own_append h]

theorem seen_append {ms : List Nat} {es es' : List Nat} {hs hs' : List (List (Nat × Obj))} {al al' : List (Nat × Nat × Obj)} {i k : Nat} (hal : ∀ x ∈ al', Nat.testBit (natAt ms i) x.1 = false) (hk : k ≤ es.length) (hh : k < hs.length) :
    seen ms (es ++ es') (hs ++ hs') (al ++ al') i k = seen ms es hs al i k := by
  unfold seen
  rw [heapAt_append hh, own_append fun x hx => by simp [hal x hx]]
  congr 2
  funext j
  rw [absd_append hk]

theorem sameEntries_spec : ∀ {a b : List MapEntry}, sameEntries a b = true → a = b
  | [], [], _ => rfl
  | a :: r, b :: s, h => by
    simp only [sameEntries, Bool.and_eq_true] at h
    obtain ⟨⟨⟨h1, h2⟩, h3⟩, h4⟩ := h
    rw [sameEntries_spec h4]
    congr 1
    obtain ⟨k, v, b0⟩ := a
    obtain ⟨k', v', b0'⟩ := b
    simp only at h1 h2 h3
    rw [veq_spec h1, veq_spec h2, Nat.eq_of_beq_eq_true h3]
  | [], _ :: _, h => by simp [sameEntries] at h
  | _ :: _, [], h => by simp [sameEntries] at h

theorem sameObj2_spec {o o' : Obj} (h : sameObj2 o o' = true) : o = o' := by
  unfold sameObj2 at h
  split at h
  · simp only [Bool.and_eq_true] at h
    congr 1
    · exact Array.ext' (sameEntries_spec h.1)
    · exact Nat.eq_of_beq_eq_true h.2
  · rename_i c e fz c' e' fz'
    simp only [Bool.and_eq_true] at h
    obtain ⟨⟨h1, h2⟩, h3, h4⟩ := h
    congr 1
    · exact Array.ext' (veqL2_spec h1)
    · exact Nat.eq_of_beq_eq_true h2
    · exact Prod.ext (Nat.eq_of_beq_eq_true h3) (Nat.eq_of_beq_eq_true h4)
  · cases h

theorem within_spec {h' : List (Nat × Obj)} : ∀ {h : List (Nat × Obj)}, within h' h = true → ∀ n o, getB h n = some o → getB h' n = some o
  | [], _, n, o, hg => by cases hg
  | (m, x) :: r, hs, n, o, hg => by
    simp only [within, Bool.and_eq_true] at hs
    simp only [getB] at hg
    split at hg
    · rename_i hm
      obtain rfl := Nat.eq_of_beq_eq_true hm
      obtain rfl := Option.some.inj hg
      have := hs.1
      split at this
      · rename_i o' ho'
        rw [ho', sameObj2_spec this]
      · cases this
    · exact within_spec hs.2 n o hg

theorem veqT_spec : ∀ {a b : List Value}, veqT a b = true → a = b
  | [], [], _ => rfl
  | a :: r, b :: s, h => by
    simp only [veqT, Bool.and_eq_true] at h
    rw [veq_spec h.1, veqT_spec h.2]
  | [], _ :: _, h => by simp [veqT] at h
  | _ :: _, [], h => by simp [veqT] at h

end Go.Dam

namespace Go.Dam

section
variable {P : Program} {E E' E₁ E₂ : Env} {A B : Nat → Prop} {h h' h₁ h₂ hs hs' : List (Nat × Obj)} {nx nx' i i' N : Nat} {w w' w₁ w₂ : World}

/-- What a step does not see stays. -/
theorem Post.frame (H : Holds P E A h w) (hsub : ∀ n o, getB hs n = some o → getB h n = some o) (q : Post P E A hs nx w E' hs' nx' w') (hA : ∀ n, A n → ¬ (nx ≤ n ∧ n < nx'))
    (hh : ∀ n o, getB h₂ n = some o → getB hs' n = some o ∨ (getB h n = some o ∧ getB hs n = none)) : Post P E A h nx w E' h₂ nx' w' where
  le := q.le
  even := q.even
  agree := q.agree
  os := q.os
  tape := q.tape
  output := q.output
  size := q.size
  same b hb hn := q.same b hb fun n o hg => hn n o (hsub n o hg)
  img n o hn := by
    rcases hh n o hn with hg | ⟨hg, hno⟩
    · exact (q.img n o hg).imp (fun ⟨m, o', hm, e⟩ => ⟨m, o', hsub m o' hm, e⟩) id
    · exact .inl ⟨n, o, hg, (q.agree n (hA n (H.blk n o hg).1)).1⟩
  holds := by
    have hag : Agree A E E' := q.agreeA hA
    have hfr : ∀ n o, getB h n = some o → getB hs n = none → E'.β n = E.β n ∧ E.β n < w.heap.size ∧ w'.heap[E.β n]? = w.heap[E.β n]? := by
      intro n o hg hno
      obtain ⟨a, s, oc, hc, hr⟩ := H.blk n o hg
      have hlt : E.β n < w.heap.size := by
        rcases Nat.lt_or_ge (E.β n) w.heap.size with h' | h'
        · exact h'
        · rw [Array.getElem?_eq_none h'] at hc; cases hc
      refine ⟨(hag n a).1, hlt, q.same _ hlt fun m x hm e => ?_⟩
      have := H.inj m n x o (hsub m x hm) hg e
      subst this
      rw [hno] at hm; cases hm
    have cross : ∀ n m o o', getB hs' n = some o → getB h m = some o' → getB hs m = none → E'.β n ≠ E'.β m := by
      intro n m o o' hn hm hno e
      obtain ⟨e1, e2, _⟩ := hfr m o' hm hno
      rcases q.img n o hn with ⟨k, x, hk, ek⟩ | ek
      · have := H.inj k m x o' (hsub k x hk) hm (by rw [← ek, e, e1])
        subst this
        rw [hno] at hk; cases hk
      · rw [e, e1] at ek; omega
    refine ⟨fun n o hn => ?_, fun n m o o' hn hm e => ?_⟩
    · rcases hh n o hn with hg | ⟨hg, hno⟩
      · exact q.holds.blk n o hg
      · obtain ⟨a, s, oc, hc, hr⟩ := H.blk n o hg
        obtain ⟨e1, e2, e3⟩ := hfr n o hg hno
        exact ⟨.inl a, ScObj_mono (fun _ h => .inl h) o s, oc, by rw [e1, e3]; exact hc, BlkRel.agree hag a s hr⟩
    · rcases hh n o hn with hg | ⟨hg, hno⟩ <;> rcases hh m o' hm with hg' | ⟨hg', hno'⟩
      · exact q.holds.inj n m o o' hg hg' e
      · exact absurd e (cross n m o o' hg hg' hno')
      · exact absurd e.symm (cross m n o' o hg' hg hno)
      · rw [(hfr n o hg hno).1, (hfr m o' hg' hno').1] at e
        exact H.inj n m o o' hg hg' e

/-- A step in the midst of a longer way. -/
theorem Post.wide (p : Post P E A h nx w E₁ h₁ N w₁) (q : Post P E₁ B h₁ i w₁ E₂ h₂ i' w₂) (hi : nx ≤ i) (hi' : i' ≤ N) (hB : ∀ n, B n ∨ (i ≤ n ∧ n < i') → A n ∨ (nx ≤ n ∧ n < N)) : Post P E A h nx w E₂ h₂ N w₂ where
  le := p.le
  even := p.even
  agree n hn := by
    obtain ⟨a1, a2, a3⟩ := p.agree n hn
    obtain ⟨b1, b2, b3⟩ := q.agree n (by omega)
    exact ⟨b1.trans a1, b2.trans a2, b3.trans a3⟩
  holds := q.holds.mono hB
  os := q.os.trans p.os
  tape := q.tape.trans p.tape
  output := q.output.trans p.output
  size := Nat.le_trans p.size q.size
  same b hb hnot := by
    have hp := p.same b hb hnot
    rw [← hp]
    refine q.same b (Nat.lt_of_lt_of_le hb p.size) fun n o hn he => ?_
    rcases p.img n o hn with ⟨m, o', hm, e⟩ | e
    · exact hnot m o' hm (by rw [← e]; exact he)
    · omega
  img n o hn := by
    rcases q.img n o hn with ⟨m, o', hm, e⟩ | e
    · rcases p.img m o' hm with ⟨k, o'', hk, e'⟩ | e'
      · exact .inl ⟨k, o'', hk, e.trans e'⟩
      · exact .inr (by rw [e]; exact e')
    · exact .inr (Nat.le_trans p.size e)

/-- Nothing done yet, the names to come set aside. -/
theorem Post.start (H : Holds P E A h w) (hle : nx ≤ nx') (he : nx' % 2 = nx % 2) : Post P E A h nx w E h nx' w :=
  ⟨hle, he, fun _ _ => ⟨rfl, rfl, rfl⟩, H.mono fun _ hn => .inl hn, rfl, rfl, rfl, Nat.le_refl _, fun _ _ _ => rfl, fun n o hn => .inl ⟨n, o, hn, rfl⟩⟩

end

/-! the slots on the way -/

theorem length_setNth : ∀ (l : List Value) (n : Nat) (x : Value), (setNth l n x).length = l.length
  | [], _, _ => rfl
  | _ :: _, 0, _ => rfl
  | _ :: r, n + 1, x => by simp [setNth, length_setNth r n x]

theorem nth_setNth_self : ∀ (l : List Value) (n : Nat) (x : Value), n < l.length → nth (setNth l n x) n = x
  | [], _, _, h => by simp at h
  | _ :: _, 0, _, _ => rfl
  | _ :: r, n + 1, x, h => by simpa [setNth, nth] using nth_setNth_self r n x (by simpa using h)

theorem nth_setNth_ne : ∀ (l : List Value) (n m : Nat) (x : Value), n ≠ m → nth (setNth l n x) m = nth l m
  | [], _, _, _, _ => rfl
  | _ :: _, 0, 0, _, h => absurd rfl h
  | _ :: _, 0, _ + 1, _, _ => rfl
  | _ :: _, _ + 1, 0, _, _ => rfl
  | _ :: r, n + 1, m + 1, x, h => by simpa [setNth, nth] using nth_setNth_ne r n m x (by omega)

theorem nth_over : ∀ (l : List Value) (n : Nat), l.length ≤ n → nth l n = undef
  | [], _, _ => rfl
  | _ :: _, 0, h => by simp at h
  | _ :: r, n + 1, h => by simpa [nth] using nth_over r n (by simpa using h)

theorem setNth_toArray : ∀ (l : List Value) (n : Nat) (x : Value) (f : Value → Value), ((setNth l n x).map f) = (l.map f).set n (f x)
  | [], _, _, _ => rfl
  | _ :: _, 0, _, _ => rfl
  | _ :: r, n + 1, x, f => by simp [setNth, setNth_toArray r n x f]

theorem nth_ext : ∀ {l m : List Value}, l.length = m.length → (∀ d, d < l.length → nth l d = nth m d) → l = m
  | [], [], _, _ => rfl
  | [], _ :: _, h, _ => by simp at h
  | _ :: _, [], h, _ => by simp at h
  | a :: r, b :: s, h, hd => by
    have h0 : a = b := hd 0 (by simp)
    rw [h0, nth_ext (l := r) (m := s) (by simpa using h) fun d hd' => by simpa [nth] using hd (d + 1) (by simpa using hd')]

/-- The slots, the operations of which p holds being done. -/
def SlotAt (ops : List Oper) (recs : List Rec) (tm0 : List Value) (p : Nat → Bool) (tm : List Value) : Prop :=
  tm.length = tm0.length ∧ ∀ d, d < tm0.length →
    (∀ (l : Nat) (o : Oper) (r : Rec), ops[l]? = some o → recs[l]? = some r → p l = true → o.dst = some d → nth tm d = r.v) ∧
    ((∀ (l : Nat) (o : Oper), ops[l]? = some o → p l = true → o.dst ≠ some d) → nth tm d = nth tm0 d)

section
variable {ops : List Oper} {ms : List Nat} {recs : List Rec} {tm0 tm tm' : List Value} {p q : Nat → Bool}

theorem SlotAt.put (hok : OkD ops ms) (h : SlotAt ops recs tm0 p tm) {i : Nat} {o : Oper} {r : Rec} (ho : ops[i]? = some o) (hr : recs[i]? = some r) (hp : p i = false)
    (hq : ∀ l, q l = true ↔ (p l = true ∨ l = i)) : SlotAt ops recs tm0 q (putD tm o.dst r.v) := by
  obtain ⟨h1, h2⟩ := h
  refine ⟨?_, fun d hd => ?_⟩
  · unfold putD; split
    · rw [length_setNth]; exact h1
    · exact h1
  obtain ⟨h3, h4⟩ := h2 d hd
  by_cases hdo : o.dst = some d
  · have hv : nth (putD tm o.dst r.v) d = r.v := by
      simp only [putD, hdo]; exact nth_setNth_self tm d r.v (by omega)
    refine ⟨fun l o' r' hl hr' hql hd' => ?_, fun hn => absurd hdo (hn i o ho ((hq i).2 (.inr rfl)))⟩
    by_cases hli : l = i
    · subst hli
      rw [hr] at hr'; obtain rfl := Option.some.inj hr'
      exact hv
    · exact absurd hd' (hok.dst i l o o' d ho hl (fun e => hli e.symm) hdo)
  · have hv : nth (putD tm o.dst r.v) d = nth tm d := by
      unfold putD; split
      · rename_i e he
        exact nth_setNth_ne tm e d r.v (fun e' => hdo (by rw [he, e']))
      · rfl
    rw [hv]
    refine ⟨fun l o' r' hl hr' hql hd' => ?_, fun hn => h4 fun l o' hl hpl => hn l o' hl ((hq l).2 (.inl hpl))⟩
    rcases (hq l).1 hql with hpl | rfl
    · exact h3 l o' r' hl hr' hpl hd'
    · rw [ho] at hl; obtain rfl := Option.some.inj hl
      exact absurd hd' hdo

theorem SlotAt.agree (hlen : recs.length = ops.length) (hp : SlotAt ops recs tm0 p tm) (hq : SlotAt ops recs tm0 q tm') {i t : Nat} (hs : slotOk ms ops i t = true)
    (hpi : p i = false) (hqi : q i = false) (hpm : ∀ l, Nat.testBit (natAt ms i) l = true → p l = true) (hqm : ∀ l, Nat.testBit (natAt ms i) l = true → q l = true)
    (hpn : ∀ l, Nat.testBit (natAt ms l) i = true → ops[l]?.isSome = true → p l = false) (hqn : ∀ l, Nat.testBit (natAt ms l) i = true → ops[l]?.isSome = true → q l = false) : nth tm t = nth tm' t := by
  by_cases hd : t < tm0.length
  · obtain ⟨p3, p4⟩ := hp.2 t hd
    obtain ⟨q3, q4⟩ := hq.2 t hd
    by_cases hex : ∃ (l : Nat) (o : Oper), ops[l]? = some o ∧ o.dst = some t ∧ Nat.testBit (natAt ms i) l = true
    · obtain ⟨l, o, ho, hdo, hb⟩ := hex
      have hl : l < recs.length := by rw [hlen]; exact (List.getElem?_eq_some_iff.1 ho).1
      obtain ⟨r, hr⟩ : ∃ r, recs[l]? = some r := ⟨_, List.getElem?_eq_getElem hl⟩
      rw [p3 l o r ho hr (hpm l hb) hdo, q3 l o r ho hr (hqm l hb) hdo]
    · have hno : ∀ (l : Nat) (o : Oper), ops[l]? = some o → o.dst = some t → p l = false ∧ q l = false := by
        intro l o ho hdo
        rcases slotOk_spec hs ho hdo with rfl | hb | hb
        · exact ⟨hpi, hqi⟩
        · exact absurd ⟨l, o, ho, hdo, hb⟩ hex
        · exact ⟨hpn l hb (by rw [ho]; rfl), hqn l hb (by rw [ho]; rfl)⟩
      rw [p4 (fun l o ho hpl hdo => by rw [(hno l o ho hdo).1] at hpl; cases hpl), q4 (fun l o ho hql hdo => by rw [(hno l o ho hdo).2] at hql; cases hql)]
  · rw [nth_over tm t (by have := hp.1; omega), nth_over tm' t (by have := hq.1; omega)]

end

theorem aguard_congr {ops : List Oper} {tm tm' : List Value} {o : Oper} (h : ∀ (g : Nat) (want : Bool) (p : Oper) (d : Nat), o.guard = some (g, want) → ops[g]? = some p → p.dst = some d → nth tm d = nth tm' d) : aguard ops tm o = aguard ops tm' o := by
  unfold aguard
  cases hg : o.guard with
  | none => rfl
  | some gw =>
    obtain ⟨g, want⟩ := gw
    simp only
    cases hp : ops[g]? with
    | none => rfl
    | some p =>
      simp only
      cases hd : p.dst with
      | none => rfl
      | some d => simp only [h g want p d hg hp hd]

theorem ren_bool_iff (E : Env) (v : Value) (b : Bool) : ren E v = .bool b ↔ v = .bool b := by
  cases v with
  | pointer a => cases a <;> simp [ren]
  | slice a l c => cases a <;> simp [ren]
  | map a => cases a <;> simp [ren]
  | _ => simp [ren]

theorem wanted_eq {E : Env} {A : Nat → Prop} {tm : List Value} {a : Act} (ht : Tm E A tm a) (ops : Array Oper) (o : Oper) : Region.wanted o (yielded ops a.tmps) = aguard ops.toList tm o := by
  unfold Region.wanted aguard
  cases hg : o.guard with
  | none => rfl
  | some gw =>
    obtain ⟨g, want⟩ := gw
    simp only [yielded, Array.getElem?_toList]
    cases hp : ops[g]? with
    | none => simp
    | some p =>
      simp only [Option.bind_some]
      cases hd : p.dst with
      | none => simp
      | some d =>
        simp only [Option.bind_some, ht.tmps, nth_get]
        cases hv : tm[d]? with
        | none => simp [hv, undef]
        | some v =>
          simp only [List.getElem?_toArray, List.getElem?_map, hv, Option.map_some, Option.getD_some]
          by_cases hb : ∃ b, v = .bool b
          · obtain ⟨b, rfl⟩ := hb
            rw [ren_bool]
            simp only [Option.some_beq_some]
          · have h1 : ∀ b, ren E v ≠ .bool b := fun b e => hb ⟨b, (ren_bool_iff E v b).1 e⟩
            have h2 : ∀ b, v ≠ .bool b := fun b e => hb ⟨b, e⟩
            split
            · rename_i b e; exact absurd (Option.some.inj e) (h1 b)
            · split
              · rename_i b e; exact absurd rfl (h2 b)
              · rfl

end Go.Dam

namespace Go.Dam

section
variable {P : Program} {callF : Fn → List Value → St → Option (Value × St)} {ops : List Oper} {ms : List Nat} {tm0 : List Value}

/-- What the run in the text's order found of operation i. -/
structure Fact (callF : Fn → List Value → St → Option (Value × St)) (P : Program) (ops : List Oper) (ms : List Nat) (tm0 : List Value) (F : DR) (i : Nat) (o : Oper) (r : Rec) : Prop where
  record : F.recs[i]? = some r
  slots : SlotAt ops F.recs tm0 (fun l => Nat.blt l i) r.tm
  on : r.on = aguard ops r.tm o
  le : r.nx ≤ r.nx'
  ev : r.nx % 2 = 0
  off : r.on = false → r.v = undef ∧ r.nx' = r.nx
  effect : r.on = true → kind o.op ≠ 0 → kind o.op ≠ 1 → kind o.op ≠ 2 → ∃ t S', F.es[t]? = some i ∧ (∀ s e, s < t → F.es[s]? = some e → Nat.testBit (natAt ms i) e = true) ∧
    astep callF P r.tm ⟨seen ms F.es F.hs F.al i t, r.nx⟩ o = some (r.v, S') ∧ S'.next = r.nx' ∧ heapAt F.hs (t + 1) = S'.heap
  lays : r.on = true → kind o.op = 2 → ∃ n b, (i, n, b) ∈ F.al ∧ astep callF P r.tm ⟨[], r.nx⟩ o = some (r.v, ⟨[(n, b)], r.nx'⟩)
  reads : r.on = true → (kind o.op = 0 ∨ kind o.op = 1) → r.nx' = r.nx ∧ ∃ k S', k ≤ F.es.length ∧ astep callF P r.tm ⟨seen ms F.es F.hs F.al i k, r.nx⟩ o = some (r.v, S')

theorem dStep_prefix {i : Nat} {o : Oper} {R R' : DR} (h : dStep callF P ops ms i o R = some R') :
    ∃ r es' hs' al', R'.recs = R.recs ++ [r] ∧ R'.es = R.es ++ es' ∧ R'.hs = R.hs ++ hs' ∧ R'.al = R.al ++ al' ∧ (∀ e ∈ es', e = i) ∧ (∀ x ∈ al', x.1 = i) ∧ es'.length = hs'.length ∧ R.nx ≤ R'.nx ∧
      R'.tm = putD R.tm o.dst r.v ∧ r.tm = R.tm ∧ r.nx = R.nx ∧ r.nx' = R'.nx ∧ (R.nx % 2 = 0 → R'.nx % 2 = 0) ∧ es'.length ≤ 1 := by
  unfold dStep at h
  split at h
  · split at h
    · simp only [Option.ite_none_right_eq_some] at h
      obtain ⟨_, h⟩ := h
      split at h
      · rename_i v S' hs
        simp only [Option.ite_none_right_eq_some, Option.some.injEq, Bool.and_eq_true] at h
        obtain ⟨⟨h1, h2⟩, rfl⟩ := h
        exact ⟨_, [i], [S'.heap], [], rfl, rfl, rfl, by simp, by simp, by simp, rfl, Nat.le_of_ble_eq_true h1, rfl, rfl, rfl, rfl, fun _ => isEven_spec h2, by simp⟩
      · simp at h
    · split at h
      · rename_i v n b nx hs
        simp only [Option.ite_none_right_eq_some, Option.some.injEq, Bool.and_eq_true] at h
        obtain ⟨⟨h1, h2⟩, rfl⟩ := h
        exact ⟨_, [], [], [(i, n, b)], rfl, by simp, by simp, rfl, by simp, by simp, rfl, Nat.le_of_ble_eq_true h1, rfl, rfl, rfl, rfl, fun _ => isEven_spec h2, by simp⟩
      · simp at h
    · split at h
      · rename_i v S' hs
        simp only [Option.some.injEq] at h; subst h
        exact ⟨_, [], [], [], rfl, by simp, by simp, by simp, by simp, by simp, rfl, Nat.le_refl _, rfl, rfl, rfl, rfl, id, by simp⟩
      · simp at h
  · simp only [Option.some.injEq] at h; subst h
    exact ⟨_, [], [], [], rfl, by simp, by simp, by simp, by simp, by simp, rfl, Nat.le_refl _, rfl, rfl, rfl, rfl, id, by simp⟩

theorem dRun_prefix : ∀ {l : List Oper} {i : Nat} {R F : DR}, dRun callF P ops ms i l R = some F →
    ∃ recs' es' hs' al', F.recs = R.recs ++ recs' ∧ recs'.length = l.length ∧ F.es = R.es ++ es' ∧ F.hs = R.hs ++ hs' ∧ F.al = R.al ++ al' ∧ (∀ e ∈ es', i ≤ e) ∧ (∀ x ∈ al', i ≤ x.1) ∧ es'.length = hs'.length ∧ R.nx ≤ F.nx ∧
      (R.nx % 2 = 0 → F.nx % 2 = 0)
  | [], i, R, F, h => by
    simp only [dRun, Option.some.injEq] at h; subst h
    exact ⟨[], [], [], [], by simp, rfl, by simp, by simp, by simp, by simp, by simp, rfl, Nat.le_refl _, id⟩
  | o :: l, i, R, F, h => by
    simp only [dRun] at h
    split at h
    · rename_i R' hs
      obtain ⟨r, es1, hs1, al1, a1, a2, a3, a4, a5, a6, a7, a8, _, _, _, _, a9, _⟩ := dStep_prefix hs
      obtain ⟨rs2, es2, hs2, al2, b1, b2, b3, b4, b5, b6, b7, b8, b9, b10⟩ := dRun_prefix h
      refine ⟨r :: rs2, es1 ++ es2, hs1 ++ hs2, al1 ++ al2, by rw [b1, a1]; simp, by simp [b2], by rw [b3, a2]; simp, by rw [b4, a3]; simp, by rw [b5, a4]; simp, ?_, ?_, by simp [a7, b8], by omega, fun e => b10 (a9 e)⟩
      · intro e he
        rcases List.mem_append.1 he with he | he
        · rw [a5 e he]; exact Nat.le_refl _
        · have := b6 e he; omega
      · intro e he
        rcases List.mem_append.1 he with he | he
        · rw [a6 e he]; exact Nat.le_refl _
        · have := b7 e he; omega
    · simp at h

/-- The facts of one step, seen from the end. -/
theorem dStep_fact (hok : OkD ops ms) {i : Nat} {o : Oper} {R R' F : DR} (ho : ops[i]? = some o) (h : dStep callF P ops ms i o R = some R')
    (hlen : R.recs.length = i) (hhl : R.hs.length = R.es.length + 1) (hev : R.nx % 2 = 0) (hsl : SlotAt ops F.recs tm0 (fun l => Nat.blt l i) R.tm)
    {recs' : List Rec} {es' : List Nat} {hs' : List (List (Nat × Obj))} {al' : List (Nat × Nat × Obj)} (p1 : F.recs = R'.recs ++ recs') (p2 : F.es = R'.es ++ es') (p3 : F.hs = R'.hs ++ hs') (p4 : F.al = R'.al ++ al')
    (p6 : ∀ x ∈ al', i + 1 ≤ x.1) : ∃ r, Fact callF P ops ms tm0 F i o r ∧ r.nx = R.nx ∧ r.nx' = R'.nx ∧ R'.tm = putD R.tm o.dst r.v ∧ R'.recs = R.recs ++ [r] ∧
      (∀ e, R'.es = R.es ++ [e] → e = i ∧ r.on = true ∧ kind o.op ≠ 0 ∧ kind o.op ≠ 1 ∧ kind o.op ≠ 2) ∧ (∀ x, R'.al = R.al ++ [x] → x.1 = i ∧ r.on = true ∧ kind o.op = 2 ∧ astep callF P r.tm ⟨[], r.nx⟩ o = some (r.v, ⟨[(x.2.1, x.2.2)], r.nx'⟩)) := by
  have hnom : ∀ (x : Nat × Nat × Obj), i ≤ x.1 → Nat.testBit (natAt ms i) x.1 = false := by
    intro x hx
    cases hb : Nat.testBit (natAt ms i) x.1 with
    | false => rfl
    | true => have := (hok.mask i o _ ho hb).1; omega
  have hrec : ∀ r, R'.recs = R.recs ++ [r] → F.recs[i]? = some r := by
    intro r hr
    rw [p1, hr, List.append_assoc, List.getElem?_append_right (by omega)]
    simp [hlen]
  unfold dStep at h
  split at h
  · rename_i hg
    split at h
    · rename_i hk
      simp only [Option.ite_none_right_eq_some] at h
      obtain ⟨hall, h⟩ := h
      split at h
      · rename_i v S' hs
        simp only [Option.ite_none_right_eq_some, Option.some.injEq, Bool.and_eq_true] at h
        obtain ⟨⟨h1, h2⟩, rfl⟩ := h
        simp only at p1 p2 p3 p4
        refine ⟨⟨true, R.tm, v, R.nx, S'.next⟩, ⟨hrec _ rfl, hsl, hg.symm, Nat.le_of_ble_eq_true h1, hev, by simp, fun _ _ _ _ => ?_, by rw [hk]; simp, by rw [hk]; simp⟩, rfl, rfl, rfl, rfl, ?_, ?_⟩
        · refine ⟨R.es.length, S', by rw [p2]; simp, ?_, ?_, rfl, ?_⟩
          · intro s e hs' he
            rw [p2, List.append_assoc, List.getElem?_append_left hs'] at he
            exact List.all_eq_true.1 hall e (List.mem_of_getElem? he)
          · rw [p2, p3, p4, List.append_assoc, List.append_assoc, seen_append (fun x hx => hnom x (by have := p6 x hx; omega)) (Nat.le_refl _) (by omega)]
            exact hs
          · rw [p3, heapAt_append (by simp [hhl])]
            have : ∀ (l : List (List (Nat × Obj))) x n, n = l.length → heapAt (l ++ [x]) n = x := by
              intro l
              induction l with
              | nil => intro x n hn; subst hn; rfl
              | cons y r ih => intro x n hn; subst hn; exact ih x _ rfl
            exact this _ _ _ hhl.symm
        · intro e he
          simp only [List.append_cancel_left_eq, List.cons.injEq, and_true] at he
          exact ⟨he.symm, rfl, by rw [hk]; simp, by rw [hk]; simp, by rw [hk]; simp⟩
        · intro x hx
          simp at hx
      · simp at h
    · rename_i hk
      split at h
      · rename_i v n b nx hs
        simp only [Option.ite_none_right_eq_some, Option.some.injEq, Bool.and_eq_true] at h
        obtain ⟨⟨h1, h2⟩, rfl⟩ := h
        simp only at p1 p2 p3 p4
        refine ⟨⟨true, R.tm, v, R.nx, nx⟩, ⟨hrec _ rfl, hsl, hg.symm, Nat.le_of_ble_eq_true h1, hev, by simp, by rw [hk]; simp, fun _ _ => ⟨n, b, by rw [p4]; simp, hs⟩, by rw [hk]; simp⟩, rfl, rfl, rfl, rfl, ?_, ?_⟩
        · intro e he; simp at he
        · intro x hx
          simp only [List.append_cancel_left_eq, List.cons.injEq, and_true] at hx
          subst hx
          exact ⟨rfl, rfl, hk, hs⟩
      · simp at h
    · rename_i hk3 hk2
      split at h
      · rename_i v S' hs
        simp only [Option.some.injEq] at h; subst h
        simp only at p1 p2 p3 p4
        have hk01 : kind o.op = 0 ∨ kind o.op = 1 := by
          have : kind o.op ≤ 3 := by unfold kind; split <;> omega
          have h3 : kind o.op ≠ 3 := hk3
          have h2 : kind o.op ≠ 2 := hk2
          omega
        refine ⟨⟨true, R.tm, v, R.nx, R.nx⟩, ⟨hrec _ rfl, hsl, hg.symm, Nat.le_refl _, hev, by simp, fun _ a b _ => ?_, fun _ a => absurd a hk2, fun _ _ => ⟨rfl, R.es.length, S', by rw [p2]; simp, ?_⟩⟩, rfl, rfl, rfl, rfl, ?_, ?_⟩
        · rcases hk01 with h | h
          · exact absurd h a
          · exact absurd h b
        · rw [p2, p3, p4, seen_append (fun x hx => hnom x (by have := p6 x hx; omega)) (Nat.le_refl _) (by omega)]
          exact hs
        · intro e he; simp at he
        · intro e he; simp at he
      · simp at h
  · rename_i hg
    simp only [Option.some.injEq] at h; subst h
    refine ⟨⟨false, R.tm, undef, R.nx, R.nx⟩, ⟨hrec _ rfl, hsl, by simpa using hg, Nat.le_refl _, hev, fun _ => ⟨rfl, rfl⟩, by simp, by simp, by simp⟩, rfl, rfl, rfl, rfl, ?_, ?_⟩
    · intro e he; simp at he
    · intro e he; simp at he

end
end Go.Dam

namespace Go.Dam

theorem blt_iff (a b : Nat) : Nat.blt a b = true ↔ a < b := ⟨Nat.le_of_ble_eq_true, Nat.ble_eq_true_of_le⟩
theorem blt_false (a b : Nat) : Nat.blt a b = false ↔ b ≤ a := by rw [← Bool.not_eq_true, blt_iff]; omega

section
variable {P : Program} {callF : Fn → List Value → St → Option (Value × St)} {ops : List Oper} {ms : List Nat} {tm0 : List Value}

/-- What the whole run found. -/
structure Facts (callF : Fn → List Value → St → Option (Value × St)) (P : Program) (ops : List Oper) (ms : List Nat) (tm0 : List Value) (F : DR) (i n : Nat) (es : Nat → Prop) (al : Nat × Nat × Obj → Prop) : Prop where
  fact : ∀ (j : Nat) (o : Oper), i ≤ j → ops[j]? = some o → ∃ r, Fact callF P ops ms tm0 F j o r ∧ n ≤ r.nx ∧ r.nx' ≤ F.nx
  order : ∀ (j j' : Nat) (r r' : Rec), i ≤ j → j < j' → F.recs[j]? = some r → F.recs[j']? = some r' → r.nx' ≤ r'.nx
  effects : ∀ (t e : Nat), F.es[t]? = some e → es t ∨ ∃ o r, ops[e]? = some o ∧ F.recs[e]? = some r ∧ r.on = true ∧ kind o.op ≠ 0 ∧ kind o.op ≠ 1 ∧ kind o.op ≠ 2
  laid : ∀ x ∈ F.al, al x ∨ ∃ o r, ops[x.1]? = some o ∧ F.recs[x.1]? = some r ∧ r.on = true ∧ kind o.op = 2 ∧ astep callF P r.tm ⟨[], r.nx⟩ o = some (r.v, ⟨[(x.2.1, x.2.2)], r.nx'⟩)
  sorted : F.es.Pairwise (· < ·)
  slots : SlotAt ops F.recs tm0 (fun l => Nat.blt l ops.length) F.tm
  heaps : F.hs.length = F.es.length + 1
  le : n ≤ F.nx
  ev : F.nx % 2 = 0
  recs : F.recs.length = ops.length

theorem dRun_facts (hok : OkD ops ms) : ∀ {l : List Oper} {i : Nat} {R F : DR}, dRun callF P ops ms i l R = some F → (∀ j, l[j]? = ops[i + j]?) → i + l.length = ops.length → R.recs.length = i → R.hs.length = R.es.length + 1 → R.nx % 2 = 0 →
    SlotAt ops F.recs tm0 (fun l => Nat.blt l i) R.tm → (∀ e ∈ R.es, e < i) → R.es.Pairwise (· < ·) → Facts callF P ops ms tm0 F i R.nx (fun t => t < R.es.length) (fun x => x ∈ R.al)
  | [], i, R, F, h, hl, hn, hlen, hhl, hev, hsl, hes, hso => by
    simp only [dRun, Option.some.injEq] at h; subst h
    simp only [List.length_nil, Nat.add_zero] at hn
    refine ⟨?_, ?_, ?_, ?_, hso, by rw [← hn]; exact hsl, hhl, Nat.le_refl _, hev, by omega⟩
    · intro j o hj ho
      have := (List.getElem?_eq_some_iff.1 ho).1
      omega
    · intro j j' r r' hj hjj hr hr'
      have := (List.getElem?_eq_some_iff.1 hr).1
      omega
    · intro t e he
      exact .inl (List.getElem?_eq_some_iff.1 he).1
    · intro x hx
      exact .inl hx
  | o :: l, i, R, F, h, hl, hn, hlen, hhl, hev, hsl, hes, hso => by
    simp only [dRun] at h
    split at h
    · rename_i R' hs
      have ho : ops[i]? = some o := by have := hl 0; simpa using this.symm
      obtain ⟨r0, es1, hs1, al1, a1, a2, a3, a4, a5, a6, a7, a8, _, _, _, _, a9, a10⟩ := dStep_prefix hs
      obtain ⟨rs2, es2, hs2, al2, b1, b2, b3, b4, b5, b6, b7, b8, b9, b10⟩ := dRun_prefix h
      obtain ⟨r, hf, f1, f2, f3, f4, f5, f6⟩ := dStep_fact (tm0 := tm0) hok ho hs hlen hhl hev hsl b1 b3 b4 b5 b7
      have hsl' : SlotAt ops F.recs tm0 (fun l => Nat.blt l (i + 1)) R'.tm := by
        rw [f3]
        refine hsl.put hok ho hf.record ((blt_false i i).2 (Nat.le_refl _)) fun l => ?_
        simp only [blt_iff]
        omega
      have hlen' : R'.recs.length = i + 1 := by rw [f4]; simp [hlen]
      have hn' : i + 1 + l.length = ops.length := by simp only [List.length_cons] at hn; omega
      have IH := dRun_facts hok h (fun j => by have := hl (j + 1); simpa [Nat.add_assoc, Nat.add_comm 1 j] using this) hn' hlen' (by rw [a3, a2]; simp [hhl, a7]; omega) (a9 hev) hsl'
        (fun e he => by
          rw [a2] at he
          rcases List.mem_append.1 he with he | he
          · have := hes e he; omega
          · have := a5 e he; omega)
        (by
          rw [a2, List.pairwise_append]
          refine ⟨hso, ?_, fun x hx y hy => by rw [a5 y hy]; exact hes x hx⟩
          match es1, a10 with
          | [], _ => simp
          | [x], _ => simp
          | _ :: _ :: _, hlt => simp at hlt)
      refine ⟨?_, ?_, ?_, ?_, IH.sorted, IH.slots, IH.heaps, Nat.le_trans a8 IH.le, IH.ev, IH.recs⟩
      · intro j o' hj ho'
        by_cases hji : j = i
        · subst hji
          rw [ho] at ho'; obtain rfl := Option.some.inj ho'
          exact ⟨r, hf, by rw [f1]; exact Nat.le_refl _, by rw [f2]; exact IH.le⟩
        · obtain ⟨r', q1, q2, q3⟩ := IH.fact j o' (by omega) ho'
          exact ⟨r', q1, by omega, q3⟩
      · intro j j' r1 r2 hj hjj hr1 hr2
        by_cases hji : j = i
        · subst hji
          rw [hf.record] at hr1; obtain rfl := Option.some.inj hr1
          have hlt : j' < ops.length := by rw [← IH.recs]; exact (List.getElem?_eq_some_iff.1 hr2).1
          obtain ⟨r', q1, q2, q3⟩ := IH.fact j' ops[j'] (by omega) (List.getElem?_eq_getElem hlt)
          rw [q1.record] at hr2; obtain rfl := Option.some.inj hr2
          rw [f2]; exact q2
        · exact IH.order j j' r1 r2 (by omega) hjj hr1 hr2
      · intro t e he
        rcases IH.effects t e he with ht | hx
        · rw [a2] at ht
          by_cases htl : t < R.es.length
          · exact .inl htl
          · right
            match es1, a10, a2, a5 with
            | [], _, a2, _ => simp at ht; omega
            | [x], _, a2, a5 =>
              have : t = R.es.length := by simp at ht; omega
              subst this
              have hx : x = i := a5 x (by simp)
              subst hx
              obtain ⟨_, g2, g3⟩ := f5 x a2
              rw [b3, a2, List.append_assoc] at he
              simp at he
              subst he
              exact ⟨o, r, ho, hf.record, g2, g3⟩
            | _ :: _ :: _, hlt, _, _ => simp at hlt
        · exact .inr hx
      · intro x hx
        rcases IH.laid x hx with hy | hz
        · rw [a4] at hy
          rcases List.mem_append.1 hy with hy | hy
          · exact .inl hy
          · right
            have hyi := a6 x hy
            rw [hyi]
            refine ⟨o, r, ho, hf.record, ?_⟩
            match al1, a4, hy with
            | [z], a4, hy =>
              obtain rfl : x = z := by simpa using hy
              exact (f6 x a4).2
            | z :: z' :: rest, a4, hy =>
              exfalso
              unfold dStep at hs
              split at hs
              · split at hs
                · simp only [Option.ite_none_right_eq_some] at hs
                  obtain ⟨_, hs⟩ := hs
                  split at hs
                  · simp only [Option.ite_none_right_eq_some, Option.some.injEq] at hs
                    obtain ⟨_, rfl⟩ := hs
                    simp at a4
                  · simp at hs
                · split at hs
                  · simp only [Option.ite_none_right_eq_some, Option.some.injEq] at hs
                    obtain ⟨_, rfl⟩ := hs
                    simp at a4
                  · simp at hs
                · split at hs
                  · simp only [Option.some.injEq] at hs; subst hs
                    simp at a4
                  · simp at hs
              · simp only [Option.some.injEq] at hs; subst hs
                simp at a4
        · exact .inr hz
    · simp at h

theorem readsOk_spec {F : DR} : ∀ {l : List Oper} {rs : List Rec} {i : Nat}, readsOk callF P ms F i l rs = true → ∀ (j : Nat) (o : Oper) (r : Rec), l[j]? = some o → rs[j]? = some r → r.on = true → kind o.op = 1 →
    ∀ k, k ≤ F.es.length → readOk callF P ms F (i + j) o r k = true
  | [], _, _, _, j, o, r, h, _, _, _, _, _ => by simp at h
  | _ :: _, [], _, h, _, _, _, _, _, _, _, _, _ => by simp [readsOk] at h
  | p :: l, q :: rs, i, h, j, o, r, hl, hr, hon, hk, k, hkl => by
    simp only [readsOk, Bool.and_eq_true, Bool.or_eq_true, Bool.not_eq_true'] at h
    cases j with
    | zero =>
      simp only [List.getElem?_cons_zero, Option.some.injEq] at hl hr
      subst hl; subst hr
      rcases h.1 with (h1 | h1) | h1
      · rw [hon] at h1; cases h1
      · rw [hk] at h1; simp at h1
      · exact upTo_spec h1 k hkl
    | succ j =>
      have := readsOk_spec h.2 j o r (by simpa using hl) (by simpa using hr) hon hk k hkl
      rwa [Nat.add_assoc, Nat.add_comm 1 j] at this

end
end Go.Dam
