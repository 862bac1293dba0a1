/-
  An own evaluator of closed runs of a program, proved sound against the model for every order of draws and every capacity of append. This text is one part of it; the last part's theorem 'closed' says what a run in the kernel proves. Used for the law's closed self-test.
-/
import Derived.Test.YtgjgdofofhmjgaaDoorDamP
namespace Go.Dam

theorem allFrom_spec {f : Nat → Oper → Bool} : ∀ {l : List Oper} {k : Nat}, allFrom f k l = true → ∀ j o, l[j]? = some o → f (k + j) o = true
  | [], _, _, j, o, h => by simp at h
  | p :: r, k, hf, j, o, h => by
    simp only [allFrom, Bool.and_eq_true] at hf
    cases j with
    | zero => simp only [List.getElem?_cons_zero, Option.some.injEq] at h; subst h; exact hf.1
    | succ j =>
      have := allFrom_spec hf.2 j o (by simpa using h)
      rwa [Nat.add_assoc, Nat.add_comm 1 j] at this

theorem upTo_spec {f : Nat → Bool} : ∀ {n : Nat}, upTo n f = true → ∀ k, k ≤ n → f k = true
  | 0, h, k, hk => by obtain rfl : k = 0 := by omega
                      exact h
  | n + 1, h, k, hk => by
    simp only [upTo, Bool.and_eq_true] at h
    rcases Nat.lt_or_ge n k with h' | h'
    · obtain rfl : k = n + 1 := by omega
      exact h.1
    · exact upTo_spec h.2 k h'

theorem isEven_spec {n : Nat} (h : isEven n = true) : n % 2 = 0 := by simpa [isEven] using h

theorem testBit_or {a b j : Nat} : Nat.testBit (a ||| b) j = (Nat.testBit a j || Nat.testBit b j) := Nat.testBit_or a b j

theorem fold_mask (ms : List Nat) : ∀ (l : List Edge) (s j : Nat), Nat.testBit (l.foldl (fun s e => if Region.binds .any e = true then s ||| (2 ^ e.on) ||| natAt ms e.on else s) s) j = true →
    Nat.testBit s j = true ∨ ∃ e ∈ l, Region.binds .any e = true ∧ (j = e.on ∨ Nat.testBit (natAt ms e.on) j = true)
  | [], s, j, h => .inl h
  | e :: l, s, j, h => by
    simp only [List.foldl_cons] at h
    rcases fold_mask ms l _ j h with h | ⟨e', he, h⟩
    · split at h
      · rename_i hb
        rw [testBit_or, testBit_or, Nat.testBit_two_pow] at h
        simp only [Bool.or_eq_true, decide_eq_true_eq] at h
        rcases h with (h | h) | h
        · exact .inl h
        · exact .inr ⟨e, by simp, hb, .inl h.symm⟩
        · exact .inr ⟨e, by simp, hb, .inr h⟩
      · exact .inl h
    · exact .inr ⟨e', by simp [he], h⟩

theorem sameDst_false {a b : Option Nat} (h : sameDst a b = false) {d : Nat} (ha : a = some d) : b ≠ some d := by
  subst ha
  rintro rfl
  simp [sameDst] at h

/-- What 'okDraw' says of the operations. -/
structure OkD (ops : List Oper) (ms : List Nat) : Prop where
  mask : ∀ (i : Nat) (o : Oper) (j : Nat), ops[i]? = some o → Nat.testBit (natAt ms i) j = true → j < i ∧ ∃ e ∈ o.after, Region.binds .any e = true ∧ (j = e.on ∨ Nat.testBit (natAt ms e.on) j = true)
  early : ∀ (i : Nat) (o : Oper) (e : Edge), ops[i]? = some o → e ∈ o.after → Region.binds .any e = true → e.on < i
  slot : ∀ (i : Nat) (o : Oper) (x : Operand) (t : Nat), ops[i]? = some o → x ∈ o.op.operands → x = .tmp t → slotOk ms ops i t = true
  guard : ∀ (i : Nat) (o : Oper) (g : Nat) (want : Bool) (p : Oper) (d : Nat), ops[i]? = some o → o.guard = some (g, want) → ops[g]? = some p → p.dst = some d → slotOk ms ops i d = true
  dst : ∀ (i l : Nat) (o o' : Oper) (d : Nat), ops[i]? = some o → ops[l]? = some o' → i ≠ l → o.dst = some d → o'.dst ≠ some d

theorem fold_mask_mem (ms : List Nat) : ∀ (l : List Edge) (s j : Nat), (Nat.testBit s j = true ∨ ∃ e ∈ l, Region.binds .any e = true ∧ j = e.on) →
    Nat.testBit (l.foldl (fun s e => if Region.binds .any e = true then s ||| (2 ^ e.on) ||| natAt ms e.on else s) s) j = true
  | [], s, j, h => by
    rcases h with h | ⟨e, he, _⟩
    · exact h
    · cases he
  | e :: l, s, j, h => by
    simp only [List.foldl_cons]
    refine fold_mask_mem ms l _ j ?_
    rcases h with h | ⟨e', he, hb, rfl⟩
    · left
      split
      · rw [testBit_or, testBit_or, h]; rfl
      · exact h
    · rcases List.mem_cons.1 he with rfl | he
      · left; rw [if_pos hb, testBit_or, testBit_or, Nat.testBit_two_pow]; simp
      · exact .inr ⟨e', he, hb, rfl⟩

theorem okDraw_spec {ops : List Oper} (h : okDraw ops = true) : OkD ops (maskList ops []) := by
  have key : ∀ i o, ops[i]? = some o → natAt (maskList ops []) i = afterMask (maskList ops []) o ∧ natAt (maskList ops []) i < 2 ^ i ∧ (∀ x ∈ o.op.operands, opdSlotOk (maskList ops []) ops i x = true) ∧
      guardSlotOk (maskList ops []) ops i o = true ∧ ∀ l o', ops[l]? = some o' → i = l ∨ sameDst o.dst o'.dst = false := by
    intro i o ho
    have := allFrom_spec h i o ho
    simp only [Nat.zero_add, Bool.and_eq_true, List.all_eq_true] at this
    obtain ⟨⟨⟨h1, h2⟩, h3, h4⟩, h5⟩ := this
    refine ⟨Nat.eq_of_beq_eq_true h1, Nat.le_of_ble_eq_true h2, fun x hx => h3 x (by simpa using hx), h4, fun l o' hl => ?_⟩
    have := allFrom_spec h5 l o' hl
    simp only [Nat.zero_add, Bool.or_eq_true, Bool.not_eq_true'] at this
    exact this.imp Nat.eq_of_beq_eq_true id
  have small : ∀ i o j, ops[i]? = some o → Nat.testBit (natAt (maskList ops []) i) j = true → j < i := by
    intro i o j ho hj
    rcases Nat.lt_or_ge j i with h' | h'
    · exact h'
    · have := Nat.testBit_lt_two_pow (Nat.lt_of_lt_of_le (key i o ho).2.1 (Nat.pow_le_pow_right (by decide) h'))
      rw [this] at hj; cases hj
  constructor
  · intro i o j ho hj
    refine ⟨small i o j ho hj, ?_⟩
    rw [(key i o ho).1] at hj
    rcases fold_mask _ _ _ _ hj with h | ⟨e, he, h⟩
    · simp at h
    · exact ⟨e, by simpa using he, h⟩
  · intro i o e ho he hb
    refine small i o _ ho ?_
    rw [(key i o ho).1]
    exact fold_mask_mem _ _ _ _ (.inr ⟨e, by simpa using he, hb, rfl⟩)
  · rintro i o _ t ho hx rfl
    exact (key i o ho).2.2.1 _ hx
  · intro i o g want p d ho hg hp hd
    have := (key i o ho).2.2.2.1
    simpa [guardSlotOk, hg, hp, hd] using this
  · intro i l o o' d ho hl hne hd
    rcases (key i o ho).2.2.2.2 l o' hl with h | h
    · exact absurd h hne
    · exact sameDst_false h hd

theorem slotOk_spec {ms : List Nat} {ops : List Oper} {i t : Nat} (h : slotOk ms ops i t = true) {l : Nat} {o : Oper} (ho : ops[l]? = some o) (hd : o.dst = some t) :
    l = i ∨ Nat.testBit (natAt ms i) l = true ∨ Nat.testBit (natAt ms l) i = true := by
  have := allFrom_spec h l o ho
  simp only [Nat.zero_add, Bool.or_eq_true, Bool.not_eq_true'] at this
  rcases this with ((h | h) | h) | h
  · exact absurd rfl (sameDst_false (b := some t) h hd)
  · exact .inl (Nat.eq_of_beq_eq_true h)
  · exact .inr (.inl h)
  · exact .inr (.inr h)

/-! values that are the same -/
theorem veq1_spec {a b : Value} (h : veq1 a b = true) : a = b := by
  unfold veq1 at h
  split at h
  case h_3 a b =>
    have : a.data.toList = b.data.toList := by simpa using h
    congr 1
    cases a; cases b
    congr 1
    exact Array.ext' this
  all_goals simp_all

theorem veqL_spec : ∀ {a b : List Value}, veqL a b = true → a = b
  | [], [], _ => rfl
  | [], _ :: _, h => by simp [veqL] at h
  | _ :: _, [], h => by simp [veqL] at h
  | a :: r, b :: s, h => by
    simp only [veqL, Bool.and_eq_true] at h
    rw [veq1_spec h.1, veqL_spec h.2]

theorem veq_spec {a b : Value} (h : veq a b = true) : a = b := by
  unfold veq at h
  split at h
  · congr 1; exact Array.ext' (veqL_spec h)
  · exact veq1_spec h

/-! the blocks laid on the way -/
theorem getOwn_some {p : Nat → Bool} {n : Nat} {o : Obj} : ∀ {al : List (Nat × Nat × Obj)}, getB (own p al) n = some o → ∃ j, (j, n, o) ∈ al ∧ p j = true
  | [], h => by simp [own, getB] at h
  | (j, m, x) :: r, h => by
    simp only [own] at h
    split at h
    · rename_i hp
      simp only [getB] at h
      split at h
      · rename_i hm
        obtain rfl := Nat.eq_of_beq_eq_true hm
        obtain rfl := Option.some.inj h
        exact ⟨j, by simp, hp⟩
      · obtain ⟨j', h1, h2⟩ := getOwn_some h
        exact ⟨j', by simp [h1], h2⟩
    · obtain ⟨j', h1, h2⟩ := getOwn_some h
      exact ⟨j', by simp [h1], h2⟩

theorem fresh1_spec {n : Nat} : ∀ {al : List (Nat × Nat × Obj)}, fresh1 n al = true → ∀ x ∈ al, x.2.1 ≠ n
  | [], _, x, hx => by cases hx
  | (j, m, y) :: r, h, x, hx => by
    simp only [fresh1, Bool.and_eq_true, Bool.not_eq_true'] at h
    rcases List.mem_cons.1 hx with rfl | hx
    · intro e; subst e; simp at h
    · exact fresh1_spec h.2 x hx

theorem getOwn_mem {p : Nat → Bool} {n j : Nat} {o : Obj} : ∀ {al : List (Nat × Nat × Obj)}, noTwice al = true → (j, n, o) ∈ al → p j = true → getB (own p al) n = some o
  | [], _, h, _ => by cases h
  | (i, m, x) :: r, hn, h, hp => by
    simp only [noTwice, Bool.and_eq_true] at hn
    rcases List.mem_cons.1 h with h | h
    · obtain ⟨rfl, rfl, rfl⟩ : j = i ∧ n = m ∧ o = x := by simpa using h
      simp [own, hp, getB]
    · have hne : n ≠ m := fun e => fresh1_spec hn.1 _ h e
      simp only [own]
      split
      · simp only [getB]
        rw [if_neg (by simpa using fun e => hne e.symm)]
        exact getOwn_mem hn.2 h hp
      · exact getOwn_mem hn.2 h hp

theorem noTwice_uniq : ∀ {al : List (Nat × Nat × Obj)}, noTwice al = true → ∀ {i j n : Nat} {o o' : Obj}, (i, n, o) ∈ al → (j, n, o') ∈ al → i = j ∧ o = o'
  | [], _, _, _, _, _, _, h, _ => by cases h
  | (k, m, x) :: r, hn, i, j, n, o, o', h1, h2 => by
    simp only [noTwice, Bool.and_eq_true] at hn
    rcases List.mem_cons.1 h1 with e1 | m1 <;> rcases List.mem_cons.1 h2 with e2 | m2
    · simp only [Prod.mk.injEq] at e1 e2
      obtain ⟨rfl, rfl, rfl⟩ := e1
      obtain ⟨rfl, _, rfl⟩ := e2
      exact ⟨rfl, rfl⟩
    · simp only [Prod.mk.injEq] at e1
      obtain ⟨rfl, rfl, rfl⟩ := e1
      exact absurd rfl (fresh1_spec hn.1 (_, _, _) m2)
    · simp only [Prod.mk.injEq] at e2
      obtain ⟨rfl, rfl, rfl⟩ := e2
      exact absurd rfl (fresh1_spec hn.1 (_, _, _) m1)
    · exact noTwice_uniq hn.2 m1 m2

theorem apartOk_spec {ms : List Nat} {F : DR} : ∀ {al : List (Nat × Nat × Obj)}, apartOk ms F al = true → ∀ j n o k, (j, n, o) ∈ al → k ≤ F.es.length → absd ms F.es k j = false → getB (heapAt F.hs k) n = none
  | [], _, _, _, _, _, h, _, _ => by cases h
  | (i, m, x) :: r, ha, j, n, o, k, h, hk, hab => by
    simp only [apartOk, Bool.and_eq_true] at ha
    rcases List.mem_cons.1 h with e | h
    · simp only [Prod.mk.injEq] at e
      obtain ⟨rfl, rfl, rfl⟩ := e
      have := upTo_spec ha.1 k hk
      simpa [hab] using this
    · exact apartOk_spec ha.2 j n o k h hk hab

theorem getB_append (a b : List (Nat × Obj)) (n : Nat) : getB (a ++ b) n = match getB a n with | some o => some o | none => getB b n := by
  induction a with
  | nil => rfl
  | cons x r ih =>
    obtain ⟨m, o⟩ := x
    simp only [List.cons_append, getB]
    split
    · rfl
    · exact ih

theorem absd_spec {ms : List Nat} {j : Nat} : ∀ {es : List Nat} {k : Nat}, absd ms es k j = true → ∃ t e, t < k ∧ es[t]? = some e ∧ Nat.testBit (natAt ms e) j = true
  | [], _, h => by simp [absd] at h
  | _ :: _, 0, h => by simp [absd] at h
  | e :: r, k + 1, h => by
    simp only [absd, Bool.or_eq_true] at h
    rcases h with h | h
    · exact ⟨0, e, by omega, rfl, h⟩
    · obtain ⟨t, e', h1, h2, h3⟩ := absd_spec h
      exact ⟨t + 1, e', by omega, by simpa using h2, h3⟩

theorem absd_succ {ms : List Nat} {j e : Nat} : ∀ {es : List Nat} {k : Nat}, es[k]? = some e → absd ms es (k + 1) j = (absd ms es k j || Nat.testBit (natAt ms e) j)
  | [], _, h => by simp at h
  | x :: r, 0, h => by
    obtain rfl : x = e := by simpa using h
    cases r <;> simp [absd]
  | x :: r, k + 1, h => by
    have ih := absd_succ (ms := ms) (j := j) (es := r) (k := k) (by simpa using h)
    rw [absd.eq_1, ih, absd.eq_1, Bool.or_assoc]

theorem absd_append {ms : List Nat} {j : Nat} : ∀ {es es' : List Nat} {k : Nat}, k ≤ es.length → absd ms (es ++ es') k j = absd ms es k j
  | [], es', k, h => by
    obtain rfl : k = 0 := by simpa using h
    cases es' <;> simp [absd]
  | x :: r, es', 0, _ => by simp [absd]
  | x :: r, es', k + 1, h => by
    simp only [List.cons_append, absd]
    rw [absd_append (by simpa using h)]

theorem heapAt_append : ∀ {hs hs' : List (List (Nat × Obj))} {k : Nat}, k < hs.length → heapAt (hs ++ hs') k = heapAt hs k
  | [], _, k, h => by simp at h
  | x :: r, hs', 0, _ => rfl
  | x :: r, hs', k + 1, h => by
    simp only [List.cons_append, heapAt]
    exact heapAt_append (by simpa using h)

theorem own_append {p : Nat → Bool} : ∀ {al al' : List (Nat × Nat × Obj)}, (∀ x ∈ al', p x.1 = false) → own p (al ++ al') = own p al
  | [], al', h => by
    induction al' with
    | nil => rfl
    | cons x r ih =>
      obtain ⟨j, n, o⟩ := x
      have hx := h (j, n, o) (by simp)
      simp only at hx
      simp only [List.nil_append, own] at ih ⊢
      rw [if_neg (by simp [hx])]
      exact ih fun y hy => h y (by simp [hy])
  | (j, n, o) :: r, al', h => by
    simp only [List.cons_append, own]
    rw [own_append h]

theorem seen_append {ms : List Nat} {es es' : List Nat} {hs hs' : List (List (Nat × Obj))} {al al' : List (Nat × Nat × Obj)} {i k : Nat} (hal : ∀ x ∈ al', Nat.testBit (natAt ms i) x.1 = false) (hk : k ≤ es.length) (hh : k < hs.length) :
    seen ms (es ++ es') (hs ++ hs') (al ++ al') i k = seen ms es hs al i k := by
  unfold seen
  rw [heapAt_append hh, own_append fun x hx => by simp [hal x hx]]
  congr 2
  funext j
  rw [absd_append hk]

end Go.Dam
