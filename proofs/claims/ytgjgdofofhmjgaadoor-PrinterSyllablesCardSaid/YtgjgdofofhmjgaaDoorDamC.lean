/-
  An own evaluator of closed runs of a program, proved sound against the model for every order of draws and every capacity of append. This text is one part of it; the last part's theorem 'closed' says what a run in the kernel proves. Used for the law's closed self-test.
-/
import Derived.Test.YtgjgdofofhmjgaaDoorDamB
import Derived.Laws.World
namespace Go.Dam

def renEntry (E : Env) (x : MapEntry) : MapEntry := { key := ren E x.key, val := ren E x.val, born := x.born }

/-- How a named block lies in the world. -/
def BlkRel (P : Program) (E : Env) (n : Nat) (o oc : Obj) : Prop :=
  match o with
  | .cells c e fz =>
    if isRow n = true then
      ∃ (cc : Array Value) (fzc : Nat × Nat) (s : Nat), oc = .cells cc e fzc ∧ sizeT P e = some s ∧
        (∀ i v, c[i]? = some v → cc[E.σ n + i]? = some (ren E v)) ∧ cc.size = E.σ n + E.κ n * s ∧ c.size ≤ E.κ n * s ∧
        (∀ off, fz.2 ≤ off → off < E.κ n * s → ¬ (fzc.1 ≤ E.σ n + off ∧ E.σ n + off < fzc.2)) ∧ (fz.1 = 0 → fzc.1 = fzc.2 ∨ fzc.2 ≤ E.σ n + fz.2)
    else E.σ n = 0 ∧ oc = .cells (c.map (ren E)) e fz
  | .map es clock => oc = .map (es.map (renEntry E)) clock
  | .stringIter s p => oc = .stringIter s p
  | _ => False

def ScObj (A : Nat → Prop) : Obj → Prop
  | .cells c _ _ => ∀ x ∈ c, Sc A x
  | .map es _ => ∀ x ∈ es, Sc A x.key ∧ Sc A x.val
  | _ => True

theorem ScObj_mono {A B : Nat → Prop} (h : ∀ n, A n → B n) (o : Obj) : ScObj A o → ScObj B o := by
  cases o with
  | cells c e fz => exact fun hs x hx => Sc_mono h x (hs x hx)
  | map es cl => exact fun hs x hx => ⟨Sc_mono h _ (hs x hx).1, Sc_mono h _ (hs x hx).2⟩
  | _ => exact fun _ => trivial

theorem BlkRel.agree {P : Program} {A : Nat → Prop} {E E' : Env} (h : Agree A E E') {n : Nat} (hn : A n) {o oc : Obj} (hs : ScObj A o) :
    BlkRel P E n o oc → BlkRel P E' n o oc := by
  obtain ⟨h1, h2, h3⟩ := h n hn
  cases o with
  | cells c e fz =>
    simp only [BlkRel]
    split
    · rintro ⟨cc, fzc, s, e1, e2, e3, e4, e5, e6, e7⟩
      refine ⟨cc, fzc, s, e1, e2, ?_, by rw [h2, h3]; exact e4, by rw [h3]; exact e5, by rw [h2, h3]; exact e6, by rw [h2]; exact e7⟩
      intro i v hv
      rw [h2, e3 i v hv, ren_agree h v (hs v (Array.mem_of_getElem? hv))]
    · rintro ⟨e1, e2⟩
      refine ⟨by rw [h2]; exact e1, ?_⟩
      rw [e2, Array.map_congr_left fun x hx => (ren_agree h x (hs x hx))]
  | map es cl =>
    simp only [BlkRel]
    intro e1
    rw [e1]
    congr 1
    exact Array.map_congr_left fun x hx => by simp [renEntry, ren_agree h _ (hs x hx).1, ren_agree h _ (hs x hx).2]
  | stringIter s p => exact id
  | _ => exact id

/-- The heap of names describes (a part of) the world. -/
structure Holds (P : Program) (E : Env) (A : Nat → Prop) (h : List (Nat × Obj)) (w : World) : Prop where
  blk : ∀ n o, getB h n = some o → A n ∧ ScObj A o ∧ ∃ oc, w.heap[E.β n]? = some oc ∧ BlkRel P E n o oc
  inj : ∀ n m o o', getB h n = some o → getB h m = some o' → E.β n = E.β m → n = m

theorem Holds.sub {P : Program} {E : Env} {A : Nat → Prop} {h h' : List (Nat × Obj)} {w : World} (H : Holds P E A h w) (hs : ∀ n o, getB h' n = some o → getB h n = some o) : Holds P E A h' w :=
  ⟨fun n o hn => H.blk n o (hs n o hn), fun n m o o' hn hm => H.inj n m o o' (hs n o hn) (hs m o' hm)⟩

theorem Holds.mono {P : Program} {E : Env} {A B : Nat → Prop} {h : List (Nat × Obj)} {w : World} (H : Holds P E A h w) (hAB : ∀ n, A n → B n) : Holds P E B h w :=
  ⟨fun n o hn => let ⟨a, b, c⟩ := H.blk n o hn; ⟨hAB n a, ScObj_mono hAB o b, c⟩, H.inj⟩

/-- The same heap in another world with the same blocks. -/
theorem Holds.world {P : Program} {E : Env} {A : Nat → Prop} {h : List (Nat × Obj)} {w w' : World} (H : Holds P E A h w) (hw : w'.heap = w.heap) : Holds P E A h w' :=
  ⟨fun n o hn => by rw [hw]; exact H.blk n o hn, H.inj⟩

/-- What a step leaves. -/
structure Post (P : Program) (E : Env) (A : Nat → Prop) (h : List (Nat × Obj)) (nx : Nat) (w : World) (E' : Env) (h' : List (Nat × Obj)) (nx' : Nat) (w' : World) : Prop where
  le : nx ≤ nx'
  even : nx' % 2 = nx % 2
  agree : ∀ n, ¬ (nx ≤ n ∧ n < nx') → E'.β n = E.β n ∧ E'.σ n = E.σ n ∧ E'.κ n = E.κ n
  holds : Holds P E' (fun n => A n ∨ (nx ≤ n ∧ n < nx')) h' w'
  os : w'.os = w.os
  tape : w'.tape = w.tape
  output : w'.output = w.output
  size : w.heap.size ≤ w'.heap.size
  same : ∀ b, b < w.heap.size → (∀ n o, getB h n = some o → E.β n ≠ b) → w'.heap[b]? = w.heap[b]?
  img : ∀ n o, getB h' n = some o → (∃ m o', getB h m = some o' ∧ E'.β n = E.β m) ∨ w.heap.size ≤ E'.β n

section
variable {P : Program} {E E' E₁ E₂ : Env} {A : Nat → Prop} {h h' h₁ h₂ : List (Nat × Obj)} {nx nx' nx₁ nx₂ : Nat} {w w' w₁ w₂ : World}

theorem Post.refl (H : Holds P E A h w) : Post P E A h nx w E h nx w :=
  ⟨Nat.le_refl _, rfl, fun _ _ => ⟨rfl, rfl, rfl⟩, H.mono fun _ hn => .inl hn, rfl, rfl, rfl, Nat.le_refl _, fun _ _ _ => rfl, fun n o hn => .inl ⟨n, o, hn, rfl⟩⟩

theorem Post.trans (p : Post P E A h nx w E₁ h₁ nx₁ w₁) (q : Post P E₁ (fun n => A n ∨ (nx ≤ n ∧ n < nx₁)) h₁ nx₁ w₁ E₂ h₂ nx₂ w₂) : Post P E A h nx w E₂ h₂ nx₂ w₂ where
  le := Nat.le_trans p.le q.le
  even := q.even.trans p.even
  agree n hn := by
    have h1 := p.le; have h2 := q.le
    obtain ⟨a1, a2, a3⟩ := p.agree n (by omega)
    obtain ⟨b1, b2, b3⟩ := q.agree n (by omega)
    exact ⟨b1.trans a1, b2.trans a2, b3.trans a3⟩
  holds := q.holds.mono fun n hn => by have h1 := p.le; have h2 := q.le; rcases hn with (hn | hn) | hn; exact .inl hn; exact .inr (by omega); exact .inr (by omega)
  os := q.os.trans p.os
  tape := q.tape.trans p.tape
  output := q.output.trans p.output
  size := Nat.le_trans p.size q.size
  same b hb hnot := by
    have hp := p.same b hb hnot
    rw [← hp]
    refine q.same b (Nat.lt_of_lt_of_le hb p.size) fun n o hn he => ?_
    rcases p.img n o hn with ⟨m, o', hm, e⟩ | e
    · exact hnot m o' hm (by rw [← e]; exact he)
    · omega
  img n o hn := by
    rcases q.img n o hn with ⟨m, o', hm, e⟩ | e
    · rcases p.img m o' hm with ⟨k, o'', hk, e'⟩ | e'
      · exact .inl ⟨k, o'', hk, e.trans e'⟩
      · exact .inr (by rw [e]; exact e')
    · exact .inr (Nat.le_trans p.size e)

/-- A smaller heap of names describes the same world. -/
theorem Post.drop (p : Post P E A h nx w E' h' nx' w') (hs : ∀ n o, getB h₁ n = some o → getB h' n = some o) : Post P E A h nx w E' h₁ nx' w' :=
  ⟨p.le, p.even, p.agree, p.holds.sub hs, p.os, p.tape, p.output, p.size, p.same, fun n o hn => p.img n o (hs n o hn)⟩

/-- A draw turns no block. -/
theorem Post.world (p : Post P E A h nx w E' h' nx' w') (h1 : w₁.heap = w'.heap) (h2 : w₁.os = w'.os) (h3 : w₁.tape = w'.tape) (h4 : w₁.output = w'.output) : Post P E A h nx w E' h' nx' w₁ :=
  ⟨p.le, p.even, p.agree, p.holds.world h1, h2.trans p.os, h3.trans p.tape, h4.trans p.output, by rw [h1]; exact p.size, fun b hb hn => by rw [h1]; exact p.same b hb hn, p.img⟩

/-- A step that begins in a world with the same blocks. -/
theorem Post.from (p : Post P E A h nx w₁ E' h' nx' w') (h1 : w₁.heap = w.heap) (h2 : w₁.os = w.os) (h3 : w₁.tape = w.tape) (h4 : w₁.output = w.output) : Post P E A h nx w E' h' nx' w' :=
  ⟨p.le, p.even, p.agree, p.holds, p.os.trans h2, p.tape.trans h3, p.output.trans h4, by rw [← h1]; exact p.size, fun b hb hn => by rw [← h1]; exact p.same b (by rw [h1]; exact hb) hn, fun n o hn => by rw [← h1]; exact p.img n o hn⟩

theorem Post.agreeA (p : Post P E A h nx w E' h' nx' w') (hA : ∀ n, A n → ¬ (nx ≤ n ∧ n < nx')) : Agree A E E' := fun n hn => p.agree n (hA n hn)

/-- One block laid or turned. -/
theorem Post.put {m b : Nat} {o' oc' : Obj} (H : Holds P E A h w) (hle : nx ≤ nx') (hev : nx' % 2 = nx % 2)
    (hE : ∀ k, ¬ (nx ≤ k ∧ k < nx') → E'.β k = E.β k ∧ E'.σ k = E.σ k ∧ E'.κ k = E.κ k) (hEm : ∀ k, k ≠ m → E'.β k = E.β k)
    (hA : ∀ n, A n → ¬ (nx ≤ n ∧ n < nx')) (hAm : A m ∨ (nx ≤ m ∧ m < nx')) (hβ : E'.β m = b)
    (hh : ∀ k x, getB h' k = some x → (k = m ∧ x = o') ∨ (k ≠ m ∧ getB h k = some x ∧ E.β k ≠ b))
    (hsc : ScObj (fun n => A n ∨ (nx ≤ n ∧ n < nx')) o') (hrel : BlkRel P E' m o' oc') (hb : w'.heap[b]? = some oc') (hother : ∀ k, k ≠ b → k < w.heap.size → w'.heap[k]? = w.heap[k]?)
    (hsize : w.heap.size ≤ w'.heap.size) (h2 : w'.os = w.os) (h3 : w'.tape = w.tape) (h4 : w'.output = w.output)
    (himg : (∃ k x, getB h k = some x ∧ E.β k = b) ∨ w.heap.size ≤ b) : Post P E A h nx w E' h' nx' w' where
  le := hle
  even := hev
  agree := hE
  holds := by
    have hag : Agree A E E' := fun n hn => hE n (hA n hn)
    refine ⟨fun n o hn => ?_, fun n k o x hn hk he => ?_⟩
    · rcases hh n o hn with ⟨rfl, rfl⟩ | ⟨hne, hg, hnb⟩
      · exact ⟨hAm, hsc, oc', by rw [hβ]; exact hb, hrel⟩
      · obtain ⟨a, s, oc, hc, hr⟩ := H.blk n o hg
        refine ⟨.inl a, ScObj_mono (fun _ h => .inl h) o s, oc, ?_, BlkRel.agree hag a s hr⟩
        have hlt : E.β n < w.heap.size := by
          rcases Nat.lt_or_ge (E.β n) w.heap.size with h' | h'
          · exact h'
          · rw [Array.getElem?_eq_none h'] at hc; cases hc
        rw [hEm n hne, hother _ hnb hlt]; exact hc
    · rcases hh n o hn with ⟨rfl, rfl⟩ | ⟨hne, hg, hnb⟩ <;> rcases hh k x hk with ⟨rfl, rfl⟩ | ⟨hne', hg', hnb'⟩
      · rfl
      · rw [hβ, hEm k hne'] at he; exact absurd he.symm hnb'
      · rw [hβ, hEm n hne] at he; exact absurd he hnb
      · rw [hEm n hne, hEm k hne'] at he; exact H.inj n k o x hg hg' he
  os := h2
  tape := h3
  output := h4
  size := hsize
  same c hc hnot := by
    by_cases hcb : c = b
    · subst hcb
      rcases himg with ⟨k, x, hk, e⟩ | e
      · exact absurd e (hnot k x hk)
      · omega
    · exact hother c hcb hc
  img n o hn := by
    rcases hh n o hn with ⟨rfl, rfl⟩ | ⟨hne, hg, hnb⟩
    · rw [hβ]
      exact himg.imp (fun ⟨k, x, hk, e⟩ => ⟨k, x, hk, e.symm⟩) id
    · exact .inl ⟨n, o, hg, hEm n hne⟩

/-! the lists of blocks -/
theorem getB_setB (h : List (Nat × Obj)) (n k : Nat) (o x : Obj) : getB (setB h n o) k = some x → (k = n ∧ x = o) ∨ (k ≠ n ∧ getB h k = some x) := by
  induction h with
  | nil => simp [setB, getB]
  | cons a r ih =>
    obtain ⟨m, y⟩ := a
    simp only [setB]
    by_cases hmn : m = n
    · subst hmn
      rw [if_pos (by simp)]
      simp only [getB]
      by_cases hk : m = k
      · subst hk; rw [if_pos (by simp)]; intro e; exact .inl ⟨rfl, (Option.some.inj e).symm⟩
      · rw [if_neg (by simpa using hk), if_neg (by simpa using hk)]; intro e; exact .inr ⟨fun e => hk e.symm, e⟩
    · rw [if_neg (by simpa using hmn)]
      simp only [getB]
      by_cases hk : m = k
      · subst hk; rw [if_pos (by simp), if_pos (by simp)]; intro e; exact .inr ⟨hmn, e⟩
      · rw [if_neg (by simpa using hk), if_neg (by simpa using hk)]; exact ih

theorem getB_delB (h : List (Nat × Obj)) (n k : Nat) (x : Obj) : getB (delB h n) k = some x → k ≠ n ∧ getB h k = some x := by
  induction h with
  | nil => simp [delB, getB]
  | cons a r ih =>
    obtain ⟨m, y⟩ := a
    simp only [delB]
    by_cases hmn : m = n
    · subst hmn
      rw [if_pos (by simp)]
      intro e
      obtain ⟨h1, h2⟩ := ih e
      exact ⟨h1, by simp only [getB]; rw [if_neg (by simpa using fun e => h1 e.symm)]; exact h2⟩
    · rw [if_neg (by simpa using hmn)]
      simp only [getB]
      by_cases hk : m = k
      · subst hk; rw [if_pos (by simp), if_pos (by simp)]; intro e; exact ⟨hmn, e⟩
      · rw [if_neg (by simpa using hk), if_neg (by simpa using hk)]; exact ih

theorem getB_dropNew (b : Nat) (h : List (Nat × Obj)) (k : Nat) (x : Obj) : getB (dropNew b h) k = some x → getB h k = some x ∧ k < b := by
  induction h with
  | nil => simp [dropNew, getB]
  | cons a r ih =>
    obtain ⟨m, y⟩ := a
    simp only [dropNew]
    by_cases hmn : b ≤ m
    · rw [if_pos (by simpa using hmn)]
      intro e
      obtain ⟨h1, h2⟩ := ih e
      exact ⟨by simp only [getB]; rw [if_neg (by simp; omega)]; exact h1, h2⟩
    · rw [if_neg (by simpa using hmn)]
      simp only [getB]
      by_cases hk : m = k
      · subst hk; rw [if_pos (by simp), if_pos (by simp)]; intro e; exact ⟨e, by omega⟩
      · rw [if_neg (by simpa using hk), if_neg (by simpa using hk)]; exact ih

end
end Go.Dam
