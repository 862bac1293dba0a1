/-
  An own evaluator of closed runs of a program, proved sound against the model for every order of draws and every capacity of append. This text is one part of it; the last part's theorem 'closed' says what a run in the kernel proves. Used for the law's closed self-test.
-/
import Derived.Test.YtgjgdofofhmjgaaDoorDamD
namespace Go.Dam

def Env.bind (E : Env) (n b s k : Nat) : Env := ⟨fun m => if m = n then b else E.β m, fun m => if m = n then s else E.σ m, fun m => if m = n then k else E.κ m⟩

theorem Env.bind_other (E : Env) (n b s k m : Nat) (h : m ≠ n) : (E.bind n b s k).β m = E.β m ∧ (E.bind n b s k).σ m = E.σ m ∧ (E.bind n b s k).κ m = E.κ m := by
  simp [Env.bind, h]

theorem purely_bind {α β : Type} (P : Program) (x : Sem α) (f : α → Sem β) : purely P (x >>= f) = (purely P x).bind fun a => purely P (f a) := by
  show purely P (x.bind f) = _
  induction x with
  | pure a => rfl
  | program k ih => exact ih P
  | mark m k ih => exact ih
  | _ => rfl

theorem purely_pure {α : Type} (P : Program) (a : α) : purely P (Pure.pure a : Sem α) = some a := rfl
theorem purely_ite {α : Type} (P : Program) (c : Prop) [Decidable c] (x y : Sem α) : purely P (if c then x else y) = if c then purely P x else purely P y := by split <;> rfl
theorem purely_stuck {α : Type} (P : Program) (s : String) : purely P (stuck s : Sem α) = none := rfl
theorem purely_unsupported {α : Type} (P : Program) (s : Unsupported) : purely P (unsupported s : Sem α) = none := rfl
theorem purely_underlying (P : Program) (t : TypeId) : purely P (underlying t) = P.underlying t := by
  show purely P (program >>= _) = _
  rw [purely_bind]
  show Option.bind (some P) _ = _
  simp only [Option.bind_some]
  cases P.underlying t <;> rfl
theorem purely_typeInfo (P : Program) (t : TypeId) : purely P (typeInfo t) = P.info? t := by
  show purely P (program >>= _) = _
  rw [purely_bind]
  show Option.bind (some P) _ = _
  simp only [Option.bind_some]
  cases P.info? t <;> rfl
theorem purely_sizeOf (P : Program) (t : TypeId) : purely P (Go.sizeOf t) = sizeT P t := by
  unfold Go.sizeOf sizeT
  rw [purely_bind, purely_typeInfo]
  cases P.info? t <;> rfl
theorem purely_isAgg (P : Program) (t : TypeId) : purely P (isAgg t) = aggT P t := by
  unfold isAgg aggT
  rw [purely_bind, purely_underlying]
  cases P.underlying t with
  | none => rfl
  | some d => cases d <;> rfl
theorem purely_zeroValue (P : Program) (t : TypeId) : purely P (zeroValue t) = zeroT P t := by
  unfold zeroValue zeroT
  rw [purely_bind, purely_typeInfo]
  cases P.info? t with
  | none => rfl
  | some i => simp only [Option.bind_some]; cases i.zero <;> rfl

section
variable {P : Program} {E : Env} {A : Nat → Prop} {h h' : List (Nat × Obj)} {nx : Nat} {w w' : World}

/-- One new block. -/
theorem Post.new {m s k : Nat} {o oc : Obj} (H : Holds P E A h w) (hA : ∀ n, A n → ¬ (nx ≤ n ∧ n < nx + 2)) (hm : nx ≤ m ∧ m < nx + 2) (hsc : ScObj A o)
    (hrel : BlkRel P (E.bind m w.heap.size s k) m o oc) (hw : w'.heap = w.heap.push oc) (h2 : w'.os = w.os) (h3 : w'.tape = w.tape) (h4 : w'.output = w.output) :
    Post P E A h nx w (E.bind m w.heap.size s k) ((m, o) :: h) (nx + 2) w' := by
  refine Post.put (m := m) (b := w.heap.size) (o' := o) (oc' := oc) H (by omega) (by omega) (fun k hk => Env.bind_other E m _ _ _ k (by omega)) (fun k hk => (Env.bind_other E m _ _ _ k hk).1)
    hA (.inr hm) (by simp [Env.bind]) ?_ (ScObj_mono (fun _ h => .inl h) o hsc) hrel (by rw [hw]; simp) ?_ (by rw [hw]; simp) h2 h3 h4 (.inr (Nat.le_refl _))
  · intro k x hk
    simp only [getB] at hk
    by_cases e : m = k
    · subst e; rw [if_pos (by simp)] at hk; exact .inl ⟨rfl, (Option.some.inj hk).symm⟩
    · rw [if_neg (by simpa using e)] at hk
      refine .inr ⟨fun e' => e e'.symm, hk, ?_⟩
      obtain ⟨_, _, oc', hoc, _⟩ := H.blk k x hk
      intro e'
      rw [e', Array.getElem?_eq_none (Nat.le_refl _)] at hoc
      cases hoc
  · intro k hk hlt
    rw [hw, Array.getElem?_push, if_neg hk]

theorem rel_exact {m b k : Nat} {c : Array Value} {e : TypeId} {fz : Nat × Nat} (hm : isRow m = false) (hA : ¬ A m) (hsc : ∀ x ∈ c, Sc A x) :
    BlkRel P (E.bind m b 0 k) m (.cells c e fz) (.cells (c.map (ren E)) e fz) := by
  simp only [BlkRel, hm]
  refine ⟨by simp [Env.bind], ?_⟩
  congr 1
  exact Array.map_congr_left fun x hx => (ren_agree (A := A) (fun n hn => Env.bind_other E m _ _ _ n (fun e => hA (e ▸ hn))) x (hsc x hx)).symm

theorem isRow_even {n : Nat} (h : n % 2 = 0) : isRow n = false := by unfold isRow; rw [h]; rfl
theorem isRow_odd {n : Nat} (h : n % 2 = 0) : isRow (n + 1) = true := by unfold isRow; rw [show (n + 1) % 2 = 1 by omega]; rfl

/-- A new block of known cells: the pointer to it. -/
theorem newCells_sound (H : Holds P E A h w) (hev : nx % 2 = 0) (hA : ∀ n, A n → ¬ (nx ≤ n ∧ n < nx + 2)) (c : Array Value) (t : TypeId) (hsc : ∀ x ∈ c, Sc A x) :
    ∃ E' w', (newRow t (c.map (ren E))).run P w = .ok (E'.addr ⟨nx, 0, none⟩) w' ∧ Post P E A h nx w E' ((nx, .cells c t) :: h) (nx + 2) w' := by
  refine ⟨E.bind nx w.heap.size 0 0, { w with heap := w.heap.push (.cells (c.map (ren E)) t) }, ?_, ?_⟩
  · simp [newRow, Env.addr, Env.bind]
  · exact Post.new H hA ⟨Nat.le_refl _, by omega⟩ hsc (rel_exact (isRow_even hev) (fun hn => hA nx hn ⟨Nat.le_refl _, by omega⟩) hsc) rfl rfl rfl rfl

theorem map_plainAll (E : Env) {l : List Value} (h : plainAll l = true) : l.map (ren E) = l := by
  have := List.map_congr_left (l := l) (f := ren E) (g := id) (fun x hx => plain1_ren E (plainAll_mem h x hx))
  simpa using this

theorem mapA_plainAll (E : Env) {c : Array Value} (h : plainAll c.toList = true) : c.map (ren E) = c := by
  apply Array.ext'; rw [Array.toList_map]; exact map_plainAll E h

theorem alloc_sound (H : Holds P E A h w) (hev : nx % 2 = 0) (hA : ∀ n, A n → ¬ (nx ≤ n ∧ n < nx + 2)) {t : TypeId} {cs : List Value} (hc : aallocCells P t = some cs) (hp : plainAll cs = true) :
    ∃ E' w', (Instr.alloc t true (.tuple #[])).run P w = .ok (ren E' (.pointer (some ⟨nx, 0, none⟩))) w' ∧ Post P E A h nx w E' ((nx, .cells cs.toArray t) :: h) (nx + 2) w' := by
  unfold aallocCells at hc
  split at hc
  · rename_i z hz
    simp at hc; subst hc
    obtain ⟨E', w', h1, h2⟩ := newCells_sound (P := P) H hev hA z.cells t (fun x hx => plain1_Sc A (plainAll_mem hp x (by simpa using hx)))
    rw [mapA_plainAll E hp] at h1
    refine ⟨E', w', ?_, by simpa using h2⟩
    simp only [Instr.alloc, Sem.run_bind, run_zeroT hz, Result.andThen_ok, newVar, h1, ren_ptr, Sem.run_pure]
  · simp at hc

theorem box_sound (H : Holds P E A h w) (hev : nx % 2 = 0) (hA : ∀ n, A n → ¬ (nx ≤ n ∧ n < nx + 2)) {t : TypeId} {v : Value} (hsc : Sc A v) :
    ∃ E' w', (Instr.box t (ren E v)).run P w = .ok (ren E' (.pointer (some ⟨nx, 0, none⟩))) w' ∧ Post P E A h nx w E' ((nx, .cells v.cells t) :: h) (nx + 2) w' := by
  obtain ⟨E', w', h1, h2⟩ := newCells_sound (P := P) H hev hA v.cells t (Sc_cells hsc)
  refine ⟨E', w', ?_, h2⟩
  rw [← cells_ren] at h1
  simp only [Instr.box, newVar, Sem.run_bind, h1, Result.andThen_ok, ren_ptr, Sem.run_pure]

/-! parts laid into cells -/
theorem foldl_set_ren (E : Env) (off : Nat) : ∀ (l : List (Value × Nat)) (cs : Array Value),
    (l.map fun x => (ren E x.1, x.2)).foldl (fun cs (x : Value × Nat) => cs.setIfInBounds (off + x.2) x.1) (cs.map (ren E)) = (l.foldl (fun cs (x : Value × Nat) => cs.setIfInBounds (off + x.2) x.1) cs).map (ren E)
  | [], cs => rfl
  | (v, j) :: l, cs => by
    simp only [List.map_cons, List.foldl_cons]
    rw [← foldl_set_ren E off l (cs.setIfInBounds (off + j) v)]
    congr 1
    simp [Array.map_setIfInBounds]

theorem zipIdx_ren (E : Env) (c : Array Value) : (c.map (ren E)).zipIdx.toList = c.zipIdx.toList.map fun x => (ren E x.1, x.2) := by
  simp [Array.toList_zipIdx, List.zipIdx_map]

theorem foldl_zip_ren (E : Env) (off : Nat) (c cs : Array Value) : (c.map (ren E)).zipIdx.foldl (fun cs (c, j) => cs.setIfInBounds (off + j) c) (cs.map (ren E)) = (c.zipIdx.foldl (fun cs (c, j) => cs.setIfInBounds (off + j) c) cs).map (ren E) := by
  rw [← Array.foldl_toList, ← Array.foldl_toList, zipIdx_ren]
  exact foldl_set_ren E off _ _

theorem fill_ren (E : Env) (place : Nat → Option (Nat × Nat)) : ∀ (ps : List (Nat × Value)) (cs : Array Value),
    Instr.fill place (cs.map (ren E)) (ps.map fun x => (x.1, ren E x.2)) = (Instr.fill place cs ps).map (·.map (ren E))
  | [], cs => rfl
  | (i, v) :: ps, cs => by
    simp only [List.map_cons, Instr.fill]
    cases place i with
    | none => rfl
    | some p =>
      obtain ⟨off, size⟩ := p
      simp only [cells_ren, Array.size_map]
      split
      · rfl
      · rw [foldl_zip_ren]; exact fill_ren E place ps _

theorem Sc_fill {A : Nat → Prop} (place : Nat → Option (Nat × Nat)) : ∀ (ps : List (Nat × Value)) (cs r : Array Value), (∀ x ∈ cs, Sc A x) → (∀ p ∈ ps, Sc A p.2) →
    Instr.fill place cs ps = some r → ∀ x ∈ r, Sc A x
  | [], cs, r, h1, _, hr => by simp [Instr.fill] at hr; subst hr; exact h1
  | (i, v) :: ps, cs, r, h1, h2, hr => by
    simp only [Instr.fill] at hr
    cases hp : place i with
    | none => simp [hp] at hr
    | some p =>
      obtain ⟨off, size⟩ := p
      simp only [hp] at hr
      split at hr
      · simp at hr
      · refine Sc_fill place ps _ r ?_ (fun p hp => h2 p (List.mem_cons_of_mem _ hp)) hr
        have hv := Sc_cells (h2 (i, v) (List.mem_cons_self ..))
        have key : ∀ (l : List (Value × Nat)) (cs : Array Value), (∀ x ∈ l, Sc A x.1) → (∀ x ∈ cs, Sc A x) → ∀ x ∈ l.foldl (fun cs (x : Value × Nat) => cs.setIfInBounds (off + x.2) x.1) cs, Sc A x := by
          intro l
          induction l with
          | nil => exact fun cs _ h => h
          | cons a l ih =>
            intro cs ha hcs
            refine ih _ (fun x hx => ha x (List.mem_cons_of_mem _ hx)) fun x hx => ?_
            rcases Array.mem_or_eq_of_mem_setIfInBounds hx with hx | hx
            · exact hcs x hx
            · subst hx; exact ha a (List.mem_cons_self ..)
        rw [← Array.foldl_toList]
        refine key _ cs (fun x hx => ?_) h1
        have : x.1 ∈ v.cells := by
          exact Array.fst_mem_of_mem_zipIdx (Array.mem_toList_iff.1 hx)
        exact hv x.1 this

end
end Go.Dam
