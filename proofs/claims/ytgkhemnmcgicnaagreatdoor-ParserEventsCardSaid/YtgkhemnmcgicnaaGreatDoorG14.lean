/- An own evaluator of closed runs of a program, proved sound against the model: one part of it. -/
import Derived.Test.YtgkhemnmcgicnaaGreatDoorG13
import Derived.Laws.Build
import Derived.Laws.Append
import Derived.Laws.MakeOwn
import Derived.Laws.BytesArg
import Derived.Lib.UnsafeStr
namespace Go.Dam
def Env.bind (E : Env) (n b s k : Nat) : Env := ⟨fun m => if m = n then b else E.β m, fun m => if m = n then s else E.σ m, fun m => if m = n then k else E.κ m⟩
theorem Env.bind_other (E : Env) (n b s k m : Nat) (h : m ≠ n) : (E.bind n b s k).β m = E.β m /\ (E.bind n b s k).σ m = E.σ m /\ (E.bind n b s k).κ m = E.κ m := by
 simp [Env.bind, h]
theorem purely_bind {α β : Type} (P : Program) (x : Sem α) (f : α -> Sem β) : purely P (x >>= f) = (purely P x).bind fun a => purely P (f a) := by
 show purely P (x.bind f) = _
 induction x with
 | pure a => rfl
 | program k ih => exact ih P
 | mark m k ih => exact ih
 | _ => rfl
theorem purely_pure {α : Type} (P : Program) (a : α) : purely P (Pure.pure a : Sem α) = some a := rfl
theorem purely_ite {α : Type} (P : Program) (c : Prop) [Decidable c] (x y : Sem α) : purely P (if c then x else y) = if c then purely P x else purely P y := by split <;> rfl
theorem purely_stuck {α : Type} (P : Program) (s : String) : purely P (stuck s : Sem α) = none := rfl
theorem purely_unsupported {α : Type} (P : Program) (s : Unsupported) : purely P (unsupported s : Sem α) = none := rfl
theorem purely_underlying (P : Program) (t : TypeId) : purely P (underlying t) = P.underlying t := by
 show purely P (program >>= _) = _
 rw [purely_bind]
 show Option.bind (some P) _ = _
 simp only [Option.bind_some]
 cases P.underlying t <;> rfl
theorem purely_typeInfo (P : Program) (t : TypeId) : purely P (typeInfo t) = P.info? t := by
 show purely P (program >>= _) = _
 rw [purely_bind]
 show Option.bind (some P) _ = _
 simp only [Option.bind_some]
 cases P.info? t <;> rfl
theorem purely_sizeOf (P : Program) (t : TypeId) : purely P (Go.sizeOf t) = sizeT P t := by
 unfold Go.sizeOf sizeT
 rw [purely_bind, purely_typeInfo]
 cases P.info? t <;> rfl
theorem purely_isAgg (P : Program) (t : TypeId) : purely P (isAgg t) = aggT P t := by
 unfold isAgg aggT
 rw [purely_bind, purely_underlying]
 cases P.underlying t with
 | none => rfl
 | some d => cases d <;> rfl
theorem purely_zeroValue (P : Program) (t : TypeId) : purely P (zeroValue t) = zeroT P t := by
 unfold zeroValue zeroT
 rw [purely_bind, purely_typeInfo]
 cases P.info? t with
 | none => rfl
 | some i => simp only [Option.bind_some]; cases i.zero <;> rfl
section
variable {P : Program} {E : Env} {A : Nat -> Prop} {h h' : List (Nat × Obj)} {nx : Nat} {w w' : World}
theorem Post.new {m s k : Nat} {o oc : Obj} (H : Holds P E A h w) (hA : ∀ n, A n -> ¬ (nx <= n /\ n < nx + 2)) (hm : nx <= m /\ m < nx + 2) (hsc : ScObj A o)
  (hrel : BlkRel P (E.bind m w.heap.size s k) m o oc) (hw : w'.heap = w.heap.push oc) (h2 : w'.os = w.os) (h3 : w'.tape = w.tape) (h4 : w'.output = w.output) :
  Post P E A h nx w (E.bind m w.heap.size s k) ((m, o) :: h) (nx + 2) w' := by
 refine Post.put (m := m) (b := w.heap.size) (o' := o) (oc' := oc) H (by omega) (by omega) (fun k hk => Env.bind_other E m _ _ _ k (by omega)) (fun k hk => (Env.bind_other E m _ _ _ k hk).1)
  hA (.inr hm) (by simp [Env.bind]) ?_ (ScObj_mono (fun _ h => .inl h) o hsc) hrel (by rw [hw]; simp) ?_ (by rw [hw]; simp) h2 h3 h4 (.inr (Nat.le_refl _))
 ·intro k x hk
  simp only [getB] at hk
  by_cases e : m = k
  ·subst e; rw [if_pos (by simp)] at hk; exact .inl ⟨rfl, (Option.some.inj hk).symm⟩
  ·rw [if_neg (by simpa using e)] at hk
   refine .inr ⟨fun e' => e e'.symm, hk, ?_⟩
   obtain ⟨_, _, oc', hoc, _⟩ := H.blk k x hk
   intro e'
   rw [e', Array.getElem?_eq_none (Nat.le_refl _)] at hoc
   cases hoc
 ·intro k hk hlt
  rw [hw, Array.getElem?_push, if_neg hk]
theorem rel_exact {m b k : Nat} {c : Array Value} {e : TypeId} {fz : Nat × Nat} (hm : isRow m = false) (hA : ¬ A m) (hsc : ∀ x ∈ c, Sc A x) :
  BlkRel P (E.bind m b 0 k) m (.cells c e fz) (.cells (c.map (ren E)) e fz) := by
 simp only [BlkRel, hm]
 refine ⟨by simp [Env.bind], ?_⟩
 congr 1
 exact Array.map_congr_left fun x hx => (ren_agree (A := A) (fun n hn => Env.bind_other E m _ _ _ n (fun e => hA (e ▸ hn))) x (hsc x hx)).symm
theorem isRow_even {n : Nat} (h : n % 2 = 0) : isRow n = false := by unfold isRow; rw [h]; rfl
theorem isRow_odd {n : Nat} (h : n % 2 = 0) : isRow (n + 1) = true := by unfold isRow; rw [show (n + 1) % 2 = 1 by omega]; rfl
theorem newCells_sound (H : Holds P E A h w) (hev : nx % 2 = 0) (hA : ∀ n, A n -> ¬ (nx <= n /\ n < nx + 2)) (c : Array Value) (t : TypeId) (hsc : ∀ x ∈ c, Sc A x) :
  ∃ E' w', (newRow t (c.map (ren E))).run P w = .ok (E'.addr ⟨nx, 0, none⟩) w' /\ Post P E A h nx w E' ((nx, .cells c t) :: h) (nx + 2) w' := by
 refine ⟨E.bind nx w.heap.size 0 0, { w with heap := w.heap.push (.cells (c.map (ren E)) t) }, ?_, ?_⟩
 ·simp [newRow, Env.addr, Env.bind]
 ·exact Post.new H hA ⟨Nat.le_refl _, by omega⟩ hsc (rel_exact (isRow_even hev) (fun hn => hA nx hn ⟨Nat.le_refl _, by omega⟩) hsc) rfl rfl rfl rfl
theorem map_plainAll (E : Env) {l : List Value} (h : plainAll l = true) : l.map (ren E) = l := by
 have := List.map_congr_left (l := l) (f := ren E) (g := id) (fun x hx => plain1_ren E (plainAll_mem h x hx))
 simpa using this
theorem mapA_plainAll (E : Env) {c : Array Value} (h : plainAll c.toList = true) : c.map (ren E) = c := by
 apply Array.ext'; rw [Array.toList_map]; exact map_plainAll E h
theorem alloc_sound (H : Holds P E A h w) (hev : nx % 2 = 0) (hA : ∀ n, A n -> ¬ (nx <= n /\ n < nx + 2)) {t : TypeId} {cs : List Value} (hc : aallocCells P t = some cs) (hp : plainAll cs = true) :
  ∃ E' w', (Instr.alloc t true (.tuple #[])).run P w = .ok (ren E' (.pointer (some ⟨nx, 0, none⟩))) w' /\ Post P E A h nx w E' ((nx, .cells cs.toArray t) :: h) (nx + 2) w' := by
 unfold aallocCells at hc
 split at hc
 ·rename_i z hz
  simp at hc; subst hc
  obtain ⟨E', w', h1, h2⟩ := newCells_sound (P := P) H hev hA z.cells t (fun x hx => plain1_Sc A (plainAll_mem hp x (by simpa using hx)))
  rw [mapA_plainAll E hp] at h1
  refine ⟨E', w', ?_, by simpa using h2⟩
  simp only [Instr.alloc, Sem.run_bind, run_zeroT hz, Result.andThen_ok, newVar, h1, ren_ptr, Sem.run_pure]
 ·simp at hc
theorem box_sound (H : Holds P E A h w) (hev : nx % 2 = 0) (hA : ∀ n, A n -> ¬ (nx <= n /\ n < nx + 2)) {t : TypeId} {v : Value} (hsc : Sc A v) :
  ∃ E' w', (Instr.box t (ren E v)).run P w = .ok (ren E' (.pointer (some ⟨nx, 0, none⟩))) w' /\ Post P E A h nx w E' ((nx, .cells v.cells t) :: h) (nx + 2) w' := by
 obtain ⟨E', w', h1, h2⟩ := newCells_sound (P := P) H hev hA v.cells t (Sc_cells hsc)
 refine ⟨E', w', ?_, h2⟩
 rw [<- cells_ren] at h1
 simp only [Instr.box, newVar, Sem.run_bind, h1, Result.andThen_ok, ren_ptr, Sem.run_pure]
theorem foldl_set_ren (E : Env) (off : Nat) : ∀ (l : List (Value × Nat)) (cs : Array Value),
  (l.map fun x => (ren E x.1, x.2)).foldl (fun cs (x : Value × Nat) => cs.setIfInBounds (off + x.2) x.1) (cs.map (ren E)) = (l.foldl (fun cs (x : Value × Nat) => cs.setIfInBounds (off + x.2) x.1) cs).map (ren E)
 | [], cs => rfl
 | (v, j) :: l, cs => by
  simp only [List.map_cons, List.foldl_cons]
  rw [<- foldl_set_ren E off l (cs.setIfInBounds (off + j) v)]
  congr 1
  simp [Array.map_setIfInBounds]
theorem zipIdx_ren (E : Env) (c : Array Value) : (c.map (ren E)).zipIdx.toList = c.zipIdx.toList.map fun x => (ren E x.1, x.2) := by
 simp [Array.toList_zipIdx, List.zipIdx_map]
theorem foldl_zip_ren (E : Env) (off : Nat) (c cs : Array Value) : (c.map (ren E)).zipIdx.foldl (fun cs (c, j) => cs.setIfInBounds (off + j) c) (cs.map (ren E)) = (c.zipIdx.foldl (fun cs (c, j) => cs.setIfInBounds (off + j) c) cs).map (ren E) := by
 rw [<- Array.foldl_toList, <- Array.foldl_toList, zipIdx_ren]
 exact foldl_set_ren E off _ _
theorem fill_ren (E : Env) (place : Nat -> Option (Nat × Nat)) : ∀ (ps : List (Nat × Value)) (cs : Array Value),
  Instr.fill place (cs.map (ren E)) (ps.map fun x => (x.1, ren E x.2)) = (Instr.fill place cs ps).map (·.map (ren E))
 | [], cs => rfl
 | (i, v) :: ps, cs => by
  simp only [List.map_cons, Instr.fill]
  cases place i with
  | none => rfl
  | some p =>
   obtain ⟨off, size⟩ := p
   simp only [cells_ren, Array.size_map]
   split
   ·rfl
   ·rw [foldl_zip_ren]; exact fill_ren E place ps _
theorem Sc_fill {A : Nat -> Prop} (place : Nat -> Option (Nat × Nat)) : ∀ (ps : List (Nat × Value)) (cs r : Array Value), (∀ x ∈ cs, Sc A x) -> (∀ p ∈ ps, Sc A p.2) ->
  Instr.fill place cs ps = some r -> ∀ x ∈ r, Sc A x
 | [], cs, r, h1, _, hr => by simp [Instr.fill] at hr; subst hr; exact h1
 | (i, v) :: ps, cs, r, h1, h2, hr => by
  simp only [Instr.fill] at hr
  cases hp : place i with
  | none => simp [hp] at hr
  | some p =>
   obtain ⟨off, size⟩ := p
   simp only [hp] at hr
   split at hr
   ·simp at hr
   ·refine Sc_fill place ps _ r ?_ (fun p hp => h2 p (List.mem_cons_of_mem _ hp)) hr
    have hv := Sc_cells (h2 (i, v) (List.mem_cons_self ..))
    have key : ∀ (l : List (Value × Nat)) (cs : Array Value), (∀ x ∈ l, Sc A x.1) -> (∀ x ∈ cs, Sc A x) -> ∀ x ∈ l.foldl (fun cs (x : Value × Nat) => cs.setIfInBounds (off + x.2) x.1) cs, Sc A x := by
     intro l
     induction l with
     | nil => exact fun cs _ h => h
     | cons a l ih =>
      intro cs ha hcs
      refine ih _ (fun x hx => ha x (List.mem_cons_of_mem _ hx)) fun x hx => ?_
      rcases Array.mem_or_eq_of_mem_setIfInBounds hx with hx | hx
      ·exact hcs x hx
      ·subst hx; exact ha a (List.mem_cons_self ..)
    rw [<- Array.foldl_toList]
    refine key _ cs (fun x hx => ?_) h1
    have : x.1 ∈ v.cells := by
     exact Array.fst_mem_of_mem_zipIdx (Array.mem_toList_iff.1 hx)
    exact hv x.1 this
end
def renP (E : Env) (x : Nat × Value) : Nat × Value := (x.1, ren E x.2)
section
variable {P : Program} {E : Env} {A : Nat -> Prop} {h h' : List (Nat × Obj)} {nx : Nat} {w w' : World}
theorem build_sound {t : TypeId} {ps : Array (Nat × Value)} {z v : Value} (hz : zeroT P t = some z) (hp : plainAll z.cells.toList = true) (hb : purely P (Instr.build t ps) = some v) (hsc : ∀ p ∈ ps, Sc A p.2) :
  purely P (Instr.build t (ps.map (renP E))) = some (ren E v) /\ Sc A v := by
 have hpl : (ps.map (renP E)).toList = ps.toList.map fun x => (x.1, ren E x.2) := by simp [renP]
 have hzc : ∀ x ∈ z.cells, Sc A x := fun x hx => plain1_Sc A (plainAll_mem hp x (by simpa using hx))
 have key : ∀ (place : Nat -> Option (Nat × Nat)) (cells : Array Value), Instr.fill place z.cells ps.toList = some cells ->
   Instr.fill place z.cells (ps.map (renP E)).toList = some (cells.map (ren E)) /\ ∀ x ∈ cells, Sc A x := by
  intro place cells hc
  have h1 := fill_ren E place ps.toList z.cells
  rw [mapA_plainAll E hp, hc] at h1
  rw [hpl]
  exact ⟨by simpa using h1, Sc_fill place ps.toList z.cells cells hzc (fun p hp => hsc p (by simpa using hp)) hc⟩
 unfold Instr.build at hb ⊢
 simp only [purely_bind, purely_zeroValue, hz, Option.bind_some, purely_underlying] at hb ⊢
 cases hu : P.underlying t with
 | none => simp [hu] at hb
 | some d =>
  simp only [hu, Option.bind_some] at hb ⊢
  cases d with
  | struct fields =>
   simp only [purely_bind] at hb ⊢
   cases hm : purely P (fields.mapM fun f => do pure (f.offset, <- Go.sizeOf f.type)) with
   | none => rw [hm] at hb; cases hb
   | some places =>
    simp only [hm, Option.bind_some] at hb ⊢
    cases hf : Instr.fill (places[·]?) z.cells ps.toList with
    | none => simp [hf, purely_stuck] at hb
    | some cells =>
     obtain ⟨k1, k2⟩ := key _ cells hf
     simp only [hf, purely_pure, Option.some.injEq] at hb
     subst hb
     rw [k1, ren_agg]
     exact ⟨rfl, (Sc_agg A cells).2 k2⟩
  | array n elem =>
   simp only [purely_bind, purely_sizeOf] at hb ⊢
   cases hm : sizeT P elem with
   | none => simp [hm] at hb
   | some s =>
    simp only [hm, Option.bind_some] at hb ⊢
    cases hf : Instr.fill (fun i => some (i * s, s)) z.cells ps.toList with
    | none => simp [hf, purely_stuck] at hb
    | some cells =>
     obtain ⟨k1, k2⟩ := key _ cells hf
     simp only [hf, purely_pure, Option.some.injEq] at hb
     subst hb
     rw [k1, ren_agg]
     exact ⟨rfl, (Sc_agg A cells).2 k2⟩
  | _ => simp [purely_stuck] at hb
theorem extract_sound {x v : Value} {i : Nat} (hb : purely P (Instr.extract x i) = some v) (hsc : Sc A x) :
  purely P (Instr.extract (ren E x) i) = some (ren E v) /\ Sc A v := by
 cases x with
 | tuple vs =>
  rw [ren_tuple]
  unfold Instr.extract at hb ⊢
  simp only [Array.getElem?_map]
  cases hv : vs[i]? with
  | none => simp [hv, purely_stuck] at hb
  | some y =>
   simp only [hv, purely_pure, Option.some.injEq] at hb
   subst hb
   exact ⟨rfl, (Sc_tuple A vs).1 hsc y (Array.mem_of_getElem? hv)⟩
 | _ => simp [Instr.extract, purely_stuck] at hb
theorem part_sound {t : TypeId} {cs : Array Value} {off : Nat} {v : Value} (hb : purely P (part t cs off) = some v) (hsc : ∀ x ∈ cs, Sc A x) :
  purely P (part t (cs.map (ren E)) off) = some (ren E v) /\ Sc A v := by
 unfold part at hb ⊢
 simp only [purely_bind, purely_isAgg] at hb ⊢
 cases hg : aggT P t with
 | none => simp [hg] at hb
 | some b =>
  simp only [hg, Option.bind_some] at hb ⊢
  cases b with
  | true =>
   simp only [if_true, purely_bind, purely_sizeOf] at hb ⊢
   cases hs : sizeT P t with
   | none => simp [hs] at hb
   | some s =>
    simp only [hs, Option.bind_some, purely_pure, Option.some.injEq] at hb ⊢
    subst hb
    rw [ren_agg]
    refine ⟨by simp [Array.map_extract], (Sc_agg A _).2 fun x hx => ?_⟩
    have hx := Array.mem_toList_iff.2 hx
    rw [Array.toList_extract] at hx
    exact hsc x (Array.mem_toList_iff.1 (List.mem_of_mem_drop (List.mem_of_mem_take hx)))
  | false =>
   simp only [Bool.false_eq_true, if_false] at hb ⊢
   cases hv : cs[off]? with
   | none => simp [hv, purely_stuck] at hb
   | some y =>
    simp only [hv, purely_pure, Option.some.injEq] at hb
    subst hb
    simp only [Array.getElem?_map, hv, Option.map_some, purely_pure]
    exact ⟨trivial, hsc y (Array.mem_of_getElem? hv)⟩
theorem field_sound {t : TypeId} {x v : Value} {i : Nat} (hb : purely P (Instr.field t x i) = some v) (hsc : Sc A x) :
  purely P (Instr.field t (ren E x) i) = some (ren E v) /\ Sc A v := by
 unfold Instr.field at hb ⊢
 simp only [purely_bind, purely_underlying] at hb ⊢
 cases hu : P.underlying t with
 | none => simp [hu] at hb
 | some d =>
  simp only [hu, Option.bind_some] at hb ⊢
  cases d with
  | struct fields =>
   simp only at hb ⊢
   cases hf : fields[i]? with
   | none => simp [hf, purely_stuck] at hb
   | some f =>
    simp only [hf, purely_bind] at hb ⊢
    cases x with
    | agg cs =>
     rw [ren_agg]
     simp only [asAgg, purely_pure, Option.bind_some] at hb ⊢
     exact part_sound hb ((Sc_agg A cs).1 hsc)
    | _ => simp [asAgg, purely_stuck] at hb
  | _ => simp [purely_stuck] at hb
theorem purely_boundsPanic {α : Type} (k : IntKind) (x y : Int) (c : BoundsCode) : purely P (boundsPanic (α := α) k x y c) = none := by
 unfold boundsPanic
 dsimp only
 rw [purely_ite]
 split
 ·rfl
 ·simp only [purely_bind, purely_pure, Option.bind_some, runtimePanic]
  rfl
theorem index_sound {t : TypeId} {x i v : Value} (hb : purely P (Instr.index t x i) = some v) (hsc : Sc A x) :
  purely P (Instr.index t (ren E x) (ren E i)) = some (ren E v) /\ Sc A v := by
 unfold Instr.index at hb ⊢
 cases i with
 | int k n =>
  rw [ren_int]
  simp only [asIntOf, purely_bind, purely_pure, Option.bind_some, purely_underlying] at hb ⊢
  cases hu : P.underlying t with
  | none => simp [hu] at hb
  | some d =>
   simp only [hu, Option.bind_some] at hb ⊢
   cases x with
   | agg cs =>
    rw [ren_agg]
    cases d with
    | array len elem =>
     simp only [purely_ite, purely_bind, purely_sizeOf] at hb ⊢
     split at hb
     ·rename_i hc
      rw [if_pos hc]
      cases hs : sizeT P elem with
      | none => simp [hs] at hb
      | some s =>
       simp only [hs, Option.bind_some] at hb ⊢
       exact part_sound hb ((Sc_agg A cs).1 hsc)
     ·rw [purely_boundsPanic] at hb; simp at hb
    | _ => simp [purely_stuck] at hb
   | string s =>
    rw [ren_string]
    cases d with
    | string =>
     simp only at hb ⊢
     split at hb
     ·rename_i b hb'
      simp only [purely_pure, Option.some.injEq] at hb
      subst hb
      rw [ren_int]
      exact ⟨rfl, Sc_int _ _ _⟩
     ·rw [purely_boundsPanic] at hb; simp at hb
    | _ => simp [purely_stuck] at hb
   | _ => cases d <;> simp [purely_stuck] at hb
 | pointer a => cases a <;> simp [asIntOf, purely_bind, purely_stuck, purely_unsupported] at hb
 | _ => simp [asIntOf, purely_bind, purely_stuck] at hb
theorem natOf_some {v : Value} {n : Nat} (hn : natOf v = some n) : ∃ k, v = .int k n /\ ren E v = .int k n := by
 cases v with
 | int k m =>
  simp only [natOf] at hn
  split at hn
  ·simp at hn; subst hn
   rename_i h0
   rw [ren_int, Int.toNat_of_nonneg h0]
   exact ⟨k, rfl, rfl⟩
  ·simp at hn
 | _ => simp [natOf] at hn
theorem fieldAddr_sound {t : TypeId} {x v : Value} {f : Nat} (hb : afieldAddr P t x f = some v) (hsc : Sc A x) (w : World) :
  (Instr.fieldAt t (ren E x) f).run P w = .ok (ren E v) w /\ Sc A v := by
 unfold afieldAddr at hb
 split at hb
 ·rename_i fs n off hu
  split at hb
  ·rename_i fd hf
   split at hb
   ·rename_i s hs
    split at hb
    ·simp at hb
    ·rename_i h0
     simp at hb; subst hb
     have h0 : ¬ s = 0 := by simpa using h0
     rw [ren_ptr, ren_ptr]
     refine ⟨?_, by rw [Sc_ptr] at hsc ⊢; exact hsc⟩
     simp only [Instr.fieldAt, Sem.run_bind, run_underlying hu, Result.andThen_ok, hf, Instr.sureAddr, Sem.run_pure, fieldPlace, run_sizeT hs, h0, if_false, Env.addr, addr_add, Nat.add_assoc]
   ·simp at hb
  ·simp at hb
 ·simp at hb
theorem indexAddr_sound {t : TypeId} {x i v : Value} (hb : aindexAddr P t x i = some v) (hsc : Sc A x) (w : World) :
  (Instr.indexAt t (ren E x) (ren E i)).run P w = .ok (ren E v) w /\ Sc A v := by
 unfold aindexAddr at hb
 split at hb
 ·rename_i e n off len cap k hu hk
  split at hb
  ·rename_i s hs
   simp only [Option.ite_none_right_eq_some, Option.some.injEq] at hb
   obtain ⟨hlt, rfl⟩ := hb
   have hlt : k < len := Nat.le_of_ble_eq_true hlt
   obtain ⟨kk, _, hi⟩ := natOf_some (E := E) hk
   rw [ren_slice, ren_ptr, hi]
   refine ⟨?_, by rw [Sc_slice] at hsc; rw [Sc_ptr]; exact hsc⟩
   have hc : (0 : Int) <= (k : Int) /\ (k : Int) < (len : Int) := ⟨by omega, by omega⟩
   simp only [Instr.indexAt, asIntOf, Sem.run_bind, Sem.run_pure, Result.andThen_ok, run_underlying hu, hc, and_self, if_true, run_sizeT hs, Env.addr, addr_add, Int.toNat_natCast, Nat.add_assoc]
  ·simp at hb
 ·rename_i m e n off k hu hk
  split at hb
  ·rename_i s hs
   simp only [Option.ite_none_right_eq_some, Option.some.injEq] at hb
   obtain ⟨hlt, rfl⟩ := hb
   have hlt : k < m := Nat.le_of_ble_eq_true hlt
   obtain ⟨kk, _, hi⟩ := natOf_some (E := E) hk
   rw [ren_ptr, ren_ptr, hi]
   refine ⟨?_, by rw [Sc_ptr] at hsc ⊢; exact hsc⟩
   have hc : (0 : Int) <= (k : Int) /\ (k : Int) < (m : Int) := ⟨by omega, by omega⟩
   simp only [Instr.indexAt, asIntOf, Sem.run_bind, Sem.run_pure, Result.andThen_ok, run_underlying hu, Instr.sureAddr, hc, and_self, if_true, run_sizeT hs, Env.addr, addr_add, Int.toNat_natCast, Nat.add_assoc]
  ·simp at hb
 ·simp at hb
theorem bound_some {v : Option Value} {d m k : Nat} (hb : bound v d m = some k) : (v = none /\ k = d) \/ (∃ x kk, v = some x /\ x = .int kk k /\ ren E x = .int kk k /\ k <= m) := by
 unfold bound at hb
 split at hb
 ·simp at hb; exact .inl ⟨rfl, hb.symm⟩
 ·rename_i x
  split at hb
  ·rename_i k' hk
   simp only [Option.ite_none_right_eq_some, Option.some.injEq] at hb
   obtain ⟨hle, rfl⟩ := hb
   obtain ⟨kk, h1, h2⟩ := natOf_some (E := E) hk
   exact .inr ⟨x, kk, rfl, h1, h2, Nat.le_of_ble_eq_true hle⟩
  ·simp at hb
theorem run_sliceBound {k : IntKind} {n m : Nat} {c : BoundsCode} (hle : n <= m) (w : World) : (Instr.sliceBound (.int k n) m c).run P w = .ok n w := by
 have hc : (0 : Int) <= (n : Int) /\ (n : Int) <= (m : Int) := ⟨by omega, by omega⟩
 simp only [Instr.sliceBound, asIntOf, Sem.run_bind, Sem.run_pure, Result.andThen_ok, hc, and_self, if_true, Int.toNat_natCast]
theorem run_sliceBounds {isS : Bool} {len cap cap' l h' : Nat} {lo hi : Option Value} (hh : bound hi len cap' = some h') (hl : bound lo 0 h' = some l) (hcap : h' <= cap) (w : World) :
  (Instr.sliceBounds isS len cap (lo.map (ren E)) (hi.map (ren E)) none).run P w = .ok (l, h', cap) w := by
 unfold Instr.sliceBounds
 rcases bound_some (E := E) hh with ⟨rfl, rfl⟩ | ⟨x, kk, rfl, _, hx, _⟩ <;> rcases bound_some (E := E) hl with ⟨rfl, rfl⟩ | ⟨y, ky, rfl, _, hy, hle'⟩
 ·simp only [Option.map_none, Sem.run_bind, Sem.run_pure, Result.andThen_ok]
 ·simp only [Option.map_none, Option.map_some, Sem.run_bind, Sem.run_pure, Result.andThen_ok, hy, Option.isSome_none, Bool.false_eq_true, if_false, run_sliceBound hle']
 ·simp only [Option.map_none, Option.map_some, Sem.run_bind, Sem.run_pure, Result.andThen_ok, hx, run_sliceBound hcap]
 ·simp only [Option.map_some, Sem.run_bind, Sem.run_pure, Result.andThen_ok, hx, hy, Option.isSome_none, Bool.false_eq_true, if_false, run_sliceBound hcap, run_sliceBound hle']
end
section
variable {P : Program} {E : Env} {A : Nat -> Prop} {h h' : List (Nat × Obj)} {nx : Nat} {w w' : World}
theorem slice_sound (H : Holds P E A h w) {t : TypeId} {x v : Value} {lo hi : Option Value} (hb : aslice P h t x lo hi = some v) (hsc : Sc A x) :
  (Instr.sliceAt t (ren E x) (lo.map (ren E)) (hi.map (ren E)) none).run P w = .ok (ren E v) w /\ Sc A v := by
 unfold aslice at hb
 split at hb
 ·rename_i e n off len cap hu
  split at hb
  ·simp at hb
  ·rename_i s hs
   rw [ren_slice]
   split at hb
   ·rename_i hrow
    split at hb
    ·simp at hb
    ·rename_i h' hh
     split at hb
     ·simp at hb
     ·rename_i l hl
      split at hb
      ·rename_i c e' fz hg
       simp only [Option.ite_none_right_eq_some, Option.some.injEq, Bool.and_eq_true, Bool.or_eq_true] at hb
       obtain ⟨⟨⟨⟨⟨h1, h2⟩, h3⟩, h4⟩, h5⟩, rfl⟩ := hb
       have h1 := Nat.le_of_ble_eq_true h1
       have h2 : off = cap * s := by simpa using h2
       have h3 : 0 < s := Nat.le_of_ble_eq_true h3
       have h5 : e' = e := by simpa using h5
       subst h5
       obtain ⟨_, _, oc, _, hr⟩ := H.blk n _ hg
       simp only [BlkRel, hrow, if_true] at hr
       obtain ⟨cc, fzc, s', _, e2, _, _, e5, _⟩ := hr
       rw [hs] at e2; obtain rfl := Option.some.inj e2
       have hk : cap + h' <= E.κ n := by
        have : (cap + h') * s <= E.κ n * s := by rw [Nat.add_mul]; omega
        exact Nat.le_of_mul_le_mul_right this h3
       have hr := run_sliceBounds (P := P) (E := E) (isS := true) hh hl (cap := E.κ n - cap) (by omega) w
       rw [ren_slice, Sc_slice]
       refine ⟨?_, by rw [Sc_slice] at hsc; exact hsc⟩
       simp only [Instr.sliceAt, Instr.slice, Sem.run_bind, run_underlying hu, Result.andThen_ok, hrow, if_true, hr, run_sizeT hs, Sem.run_pure, Env.addr, Option.map_some, addr_add]
       have hl0 : l = 0 \/ l < h' := h4.imp (by simp) (fun h => Nat.le_of_ble_eq_true h)
       congr 2
       ·rcases hl0 with rfl | hl0
        ·simp
        ·rw [if_neg (by omega), Nat.add_assoc]
       ·omega
      ·simp at hb
   ·rename_i hrow
    split at hb
    ·simp at hb
    ·rename_i h' hh
     split at hb
     ·simp at hb
     ·rename_i l hl
      simp only [Option.some.injEq] at hb
      subst hb
      have hle : h' <= cap \/ hi = none := by
       rcases bound_some (E := E) hh with ⟨rfl, _⟩ | ⟨_, _, _, _, _, h⟩
       ·exact .inr rfl
       ·exact .inl h
      have hr : (Instr.sliceBounds true len cap (lo.map (ren E)) (hi.map (ren E)) none).run P w = .ok (l, h', cap) w := by
       rcases hle with hle | rfl
       ·exact run_sliceBounds hh hl hle w
       ·have : bound none len len = some h' := by simpa [bound] using hh
        unfold Instr.sliceBounds
        rcases bound_some (E := E) hl with ⟨rfl, rfl⟩ | ⟨y, ky, rfl, _, hy, hle'⟩
        ·simp [bound] at hh; subst hh
         simp only [Option.map_none, Sem.run_bind, Sem.run_pure, Result.andThen_ok]
        ·simp [bound] at hh; subst hh
         simp only [Option.map_none, Option.map_some, Sem.run_bind, Sem.run_pure, Result.andThen_ok, hy, Option.isSome_none, Bool.false_eq_true, if_false, run_sliceBound hle']
      rw [ren_slice, Sc_slice]
      have hblk : (if Nat.beq cap l = true then (⟨n, off, none⟩ : Addr) else ⟨n, off + l * s, none⟩).block = n := by split <;> rfl
      rw [hblk, if_neg hrow, if_neg hrow]
      refine ⟨?_, (Sc_slice A _ _ _).1 hsc⟩
      simp only [Instr.sliceAt, Instr.slice, Sem.run_bind, run_underlying hu, Result.andThen_ok, hr, run_sizeT hs, Sem.run_pure, Env.addr, Option.map_some, addr_add]
      congr 2
      by_cases hc : cap = l
      ·subst hc; simp
      ·simp [hc, Nat.add_assoc]
 ·rename_i k e n off hu
  split at hb
  ·simp at hb
  ·rename_i s hs
   rw [ren_ptr]
   split at hb
   ·simp at hb
   ·rename_i hrow
    split at hb
    ·simp at hb
    ·rename_i h' hh
     split at hb
     ·simp at hb
     ·rename_i l hl
      simp only [Option.some.injEq] at hb
      subst hb
      have hle : h' <= k := by
       rcases bound_some (E := E) hh with ⟨_, h⟩ | ⟨_, _, _, _, _, h⟩ <;> omega
      have hr := run_sliceBounds (P := P) (E := E) (isS := false) hh hl hle w
      rw [ren_slice, Sc_slice]
      have hblk : (if Nat.beq k l = true then (⟨n, off, none⟩ : Addr) else ⟨n, off + l * s, none⟩).block = n := by split <;> rfl
      rw [hblk, if_neg hrow]
      refine ⟨?_, (Sc_ptr A _).1 hsc⟩
      simp only [Instr.sliceAt, Sem.run_bind, run_underlying hu, Result.andThen_ok, Instr.sureAddr, hr, run_sizeT hs, Sem.run_pure, Env.addr, addr_add]
      congr 3
      by_cases hc : k = l
      ·subst hc; simp
      ·simp [hc, Nat.add_assoc]
 ·simp at hb
theorem aeql_sound {t : TypeId} {x y : Value} {b : Bool} (hb : aeql P t x y = some b) (w : World) :
  (Op.equal t (ren E x) (ren E y)).run P w = .ok b w := by
 unfold aeql at hb
 show (Op.equalIn (9999 + 1) t (ren E x) (ren E y)).run P w = _
 unfold Op.equalIn
 split at hb
 ·rename_i e hu
  simp only [Sem.run_bind, run_underlying hu, Result.andThen_ok]
  split at hb
  ·rename_i b'
   simp at hb; subst hb
   cases b' with
   | none => rw [ren_nilptr]; rfl
   | some a => rw [ren_nilptr, ren_ptr]; rfl
  ·simp at hb; subst hb
   rw [ren_ptr, ren_nilptr]; rfl
  ·rename_i m i n j
   split at hb
   ·rename_i s hs
    split at hb
    ·simp at hb
    ·rename_i h0
     simp only [Option.ite_none_right_eq_some, Option.some.injEq] at hb
     obtain ⟨hmn, rfl⟩ := hb
     have hmn : m = n := by simpa using hmn
     subst hmn
     rw [ren_ptr, ren_ptr]
     have h0 : s ≠ 0 := by simpa using h0
     simp only [Sem.run_bind, run_sizeT hs, Result.andThen_ok, h0, ne_eq, not_false_eq_true, if_true, Env.addr, sameAddr, beq_self_eq_true, Sem.run_pure]
     congr 1
     by_cases hij : i = j
     ·subst hij; simp
     ·have h1 : ¬ (⟨E.β m, E.σ m + i, none⟩ : Addr) = ⟨E.β m, E.σ m + j, none⟩ := by simp; exact hij
      rw [beq_eq_false_iff_ne.2 h1]
      cases hb : Nat.beq i j with
      | true => exact absurd (Nat.eq_of_beq_eq_true hb) hij
      | false => rfl
   ·simp at hb
  ·simp at hb
 ·rename_i e hu
  simp only [Sem.run_bind, run_underlying hu, Result.andThen_ok]
  split at hb
  ·rename_i _ _ b' _ _
   simp at hb; subst hb
   cases b' with
   | none => rw [ren_nilslice, ren_nilslice]; rfl
   | some a => rw [ren_nilslice, ren_slice]; rfl
  ·simp at hb; subst hb
   rw [ren_slice, ren_nilslice]; rfl
  ·simp at hb
 ·rename_i e hu
  simp only [Sem.run_bind, run_underlying hu, Result.andThen_ok]
  split at hb
  ·rename_i b'
   simp at hb; subst hb
   cases b' with
   | none => rw [ren_nilmap]; rfl
   | some a => rw [ren_nilmap, ren_map]; rfl
  ·simp at hb; subst hb
   rw [ren_nilmap, ren_map]; rfl
  ·simp at hb
 ·rename_i e hu
  simp only [Sem.run_bind, run_underlying hu, Result.andThen_ok]
  split at hb
  ·simp at hb; subst hb
   rw [ren_nilfunc]; rfl
  ·simp at hb; subst hb
   rw [ren_nilfunc, ren_func]; rfl
  ·simp at hb; subst hb
   rw [ren_nilfunc, ren_func]; rfl
  ·simp at hb
 ·rename_i ms hu
  simp only [Sem.run_bind, run_underlying hu, Result.andThen_ok]
  split at hb
  ·simp at hb; subst hb
   rw [ren_iface, ren_niliface]; rfl
  ·rename_i tx k n ty k' n'
   split at hb
   ·rename_i i kk hi hk
    simp only [Option.ite_none_right_eq_some, Option.some.injEq, Bool.and_eq_true, decide_eq_true_eq] at hb
    obtain ⟨⟨h1, h2, h3⟩, rfl⟩ := hb
    have h1 : tx = ty := Nat.eq_of_beq_eq_true h1
    subst h1; subst h3
    rw [ren_iface, ren_iface, ren_int, ren_int]
    have hti : (typeInfo tx).run P w = .ok i w := by simp [typeInfo, hi]
    have hin : (Op.equalIn 9999 tx (.int k n) (.int k n')).run P w = .ok (n == n') w := by
     show (Op.equalIn (9998 + 1) tx _ _).run P w = _
     unfold Op.equalIn
     simp only [Sem.run_bind, run_underlying hk, Result.andThen_ok]
     simp
    simp only [ne_eq, not_true_eq_false, if_false, Sem.run_bind, hti, Result.andThen_ok, h2, Bool.not_true, Bool.false_eq_true]
    exact hin
   ·simp at hb
  ·simp at hb
 ·simp at hb
theorem lenA_sound {x : Value} {n : Nat} (hb : lenA x = some n) (w : World) : (Builtin.lenOf (ren E x)).run P w = .ok n w := by
 cases x with
 | slice a l c =>
  simp [lenA] at hb; subst hb
  cases a with
  | none => rw [ren_nilslice]; rfl
  | some a => rw [ren_slice]; rfl
 | string s => simp [lenA] at hb; subst hb; rw [ren_string]; rfl
 | _ => simp [lenA] at hb
theorem firstA_sound (H : Holds P E A h w) {s n : Nat} {x : Value} {cs : List Value} (hb : firstA h s n x = some cs) :
  (Builtin.firstCells s n (ren E x)).run P w = .ok (cs.map (ren E)).toArray w /\ ∀ v ∈ cs, Sc A v := by
 unfold firstA at hb
 split at hb
 ·simp at hb; subst hb; rw [ren_nilslice]; exact ⟨rfl, by simp⟩
 ·rename_i m off len cap
  rw [ren_slice]
  split at hb
  ·rename_i h0
   simp at hb; subst hb
   have h0 : n * s = 0 := by simpa using h0
   refine ⟨?_, by simp⟩
   simp only [Builtin.firstCells, h0]; rfl
  ·split at hb
   ·rename_i c hc
    simp only [Option.ite_none_right_eq_some, Option.some.injEq] at hb
    obtain ⟨hle, rfl⟩ := hb
    obtain ⟨h1, h2⟩ := run_cellsOf H hc (Nat.le_of_ble_eq_true hle)
    exact ⟨by simpa only [Builtin.firstCells, Env.addr] using h1, h2⟩
   ·simp at hb
 ·rename_i b
  simp only [Option.some.injEq] at hb; subst hb
  rw [ren_string]
  refine ⟨?_, ?_⟩
  ·simp only [Builtin.firstCells, Sem.run_pure]
   congr 1
   apply Array.ext'
   rw [List.map_map, show (ren E ∘ fun x : UInt8 => Value.int IntKind.u8 ↑x.toNat) = fun x : UInt8 => Value.int IntKind.u8 ↑x.toNat from funext fun x => ren_int _ _ _]
   simp [ByteArray.data_extract]
  ·intro v hv
   obtain ⟨x, _, rfl⟩ := List.mem_map.1 hv
   exact Sc_int _ _ _
 ·simp at hb
end
section
variable {P : Program} {E : Env} {A : Nat -> Prop} {h h' : List (Nat × Obj)} {nx : Nat} {w w' : World}
theorem append_grow {sT xT e ty : TypeId} {xd : TypeDesc} {ti : TypeInfo} {z x : Value} {base : Option Addr} {len capC n : Nat} {old new : Array Value}
  (hs : P.underlying sT = some (.slice e)) (hx : P.underlying xT = some xd) (hxd : isInt xd = false) (hi : P.info? e = some ti) (hz : ti.zero = some z)
  (hn : ∀ w : World, (Builtin.lenOf x).run P w = .ok n w) (hold : ∀ w' : World, w'.heap = w.heap -> (Builtin.firstCells ti.size len (.slice base len capC)).run P w' = .ok old w') (hnew : ∀ w' : World, w'.heap = w.heap -> (Builtin.firstCells ti.size n x).run P w' = .ok new w')
  (hneed : ¬ len + n <= capC) (hmax : len + n <= appendMax) (hbytes : ti.bytes <= 65536) :
  ∃ (k : Nat), len + n <= k /\
   (Builtin.append_ #[sT, xT] ty #[.slice base len capC, x]).run P w = .ok (.slice (some ⟨w.heap.size, 0, none⟩) (len + n) k)
    ({ w with drawn := w.drawn + 1 }.alloc (.cells (old ++ new ++ Builtin.zeroCells z.cells (k - (len + n))) e)) := by
 have hle := nextslicecap_le (need := len + n) (old := capC) (by omega)
 have hcap : ¬ Builtin.nextslicecap (len + n) capC * ti.bytes > 2 ^ 48 := by
  have h1 : Builtin.nextslicecap (len + n) capC * ti.bytes <= (2 * appendMax) * 65536 := Nat.mul_le_mul (by omega) hbytes
  have h2 : (2 * appendMax) * 65536 <= 2 ^ 48 := by decide
  omega
 have hcap' : ¬ 281474976710656 < Builtin.nextslicecap (len + n) capC * ti.bytes := by simpa using hcap
 have hmaxI : ¬ (9223372036854775807 < ((len : Int) + (n : Int))) := by have : appendMax = 1048576 := rfl; omega
 refine ⟨len + n + (w.tape w.drawn (.appendCap (len + n) capC e)) % (2 ^ 63 - (len + n)), by omega, ?_⟩
 have ho := hold w.drew rfl
 have hw := hnew w.drew rfl
 have hm2 : IntKind.i64.max = 9223372036854775807 := by decide
 simp [Builtin.append_, run_underlying hs, run_underlying hx, Go.sizeOf, typeInfo, zeroValue, hi, hz, hn, hneed, hcap', hm2, hmaxI, Question.forced, Question.cut, newRow]
 rw [if_neg (by cases xd <;> simp_all [isInt])]
 rw [ho, Result.andThen_ok, if_pos (by cases xd <;> simp_all [isInt]), hw, Result.andThen_ok]
 simp
theorem append_room {sT xT e ty : TypeId} {xd : TypeDesc} {ti : TypeInfo} {x : Value} {a : Addr} {len capC n : Nat} {new : Array Value}
  (hs : P.underlying sT = some (.slice e)) (hx : P.underlying xT = some xd) (hxd : isInt xd = false) (hi : P.info? e = some ti)
  (hn : ∀ w : World, (Builtin.lenOf x).run P w = .ok n w) (hnew : (Builtin.firstCells ti.size n x).run P w = .ok new w)
  (hneed : len + n <= capC) (hst : (storeCells (a.add (len * ti.size)) new.toList).run P w = .ok () w') :
  (Builtin.append_ #[sT, xT] ty #[.slice (some a) len capC, x]).run P w = .ok (.slice (some a) (len + n) capC) w' := by
 simp [Builtin.append_, run_underlying hs, run_underlying hx, Go.sizeOf, typeInfo, hi, hn, hneed]
 rw [if_neg (by cases xd <;> simp_all [isInt]), if_pos (by cases xd <;> simp_all [isInt]), hnew, Result.andThen_ok]
 simp [hst]
theorem append_nil0 {sT xT e ty : TypeId} {xd : TypeDesc} {ti : TypeInfo} {x : Value} {base : Option Addr} {len capC : Nat}
  (hs : P.underlying sT = some (.slice e)) (hx : P.underlying xT = some xd) (hxd : isInt xd = false) (hi : P.info? e = some ti)
  (hn : ∀ w : World, (Builtin.lenOf x).run P w = .ok 0 w) (hnew : (Builtin.firstCells ti.size 0 x).run P w = .ok #[] w)
  (hneed : len <= capC) :
  (Builtin.append_ #[sT, xT] ty #[.slice base len capC, x]).run P w = .ok (.slice base len capC) w := by
 simp [Builtin.append_, run_underlying hs, run_underlying hx, Go.sizeOf, typeInfo, hi, hn, hneed]
 rw [if_neg (by cases xd <;> simp_all [isInt]), if_pos (by cases xd <;> simp_all [isInt]), hnew, Result.andThen_ok]
 cases base <;> simp [storeCells]
theorem firstA_zero {h : List (Nat × Obj)} {s : Nat} {x : Value} {cs : List Value} (hb : firstA h s 0 x = some cs) : cs = [] := by
 unfold firstA at hb
 split at hb
 ·simpa using hb.symm
 ·rw [if_pos (by simp)] at hb; simpa using hb.symm
 ·simpa using hb.symm
 ·simp at hb
theorem Sc_or {B : Nat -> Prop} {v : Value} (h : Sc A v) : Sc (fun n => A n \/ B n) v := Sc_mono (fun _ h => .inl h) v h
theorem newRow_rel {m s k e fzh : Nat} {z : Array Value} {c : List Value} {n : Nat} (hm : isRow m = true) (hA : ¬ A m) (hs : sizeT P e = some s) (hz : z.size = s) (hsc : ∀ x ∈ c, Sc A x)
  (hc : c.length = n * s) (hk : n <= k) (b : Nat) :
  BlkRel P (E.bind m b 0 k) m (.cells c.toArray e (0, fzh)) (.cells ((c.map (ren E)).toArray ++ Builtin.zeroCells z (k - n)) e) := by
 simp only [BlkRel, hm, if_true]
 have hmul : n * s <= k * s := Nat.mul_le_mul_right _ hk
 have hzl : (Builtin.zeroCells z (k - n)).size = k * s - n * s := by simp [Builtin.zeroCells, hz, Nat.sub_mul]
 refine ⟨_, (0, 0), s, rfl, hs, ?_, ?_, ?_, ?_, ?_⟩
 ·intro i v hv
  have hv : c[i]? = some v := by simpa using hv
  have hi : i < c.length := (List.getElem?_eq_some_iff.1 hv).1
  simp only [Env.bind, if_true, Nat.zero_add]
  rw [Array.getElem?_append_left (by simpa using hi)]
  have : ((c.map (ren E)).toArray)[i]? = some (ren E v) := by simp [hv]
  rw [this, <- ren_agree (A := A) (E := E) (E' := E.bind m b 0 k) (fun n hn => Env.bind_other E m _ _ _ n (fun e => hA (e ▸ hn))) v (hsc v (List.mem_of_getElem? hv))]
  rfl
 ·simp [Env.bind, hzl, hc]; omega
 ·simp [Env.bind, hc]; exact hmul
 ·simp
 ·simp
theorem grow_post {e fzh s k n : Nat} {z : Array Value} {c : List Value} {h₀ : List (Nat × Obj)} (H : Holds P E A h w) (hev : nx % 2 = 0) (hA : ∀ n, A n -> ¬ (nx <= n /\ n < nx + 2))
  (hs : sizeT P e = some s) (hz : z.size = s) (hsc : ∀ x ∈ c, Sc A x) (hc : c.length = n * s) (hk : n <= k) (h0 : ∀ k x, getB h₀ k = some x -> getB h k = some x) :
  Post P E A h nx w (E.bind (nx + 1) w.heap.size 0 k) ((nx + 1, .cells c.toArray e (0, fzh)) :: h₀) (nx + 2) ({ w with drawn := w.drawn + 1 }.alloc (.cells ((c.map (ren E)).toArray ++ Builtin.zeroCells z (k - n)) e)) /\
  ren (E.bind (nx + 1) w.heap.size 0 k) (.slice (some ⟨nx + 1, 0, none⟩) n 0) = .slice (some ⟨w.heap.size, 0, none⟩) n k := by
 refine ⟨Post.drop (h' := (nx + 1, .cells c.toArray e (0, fzh)) :: h) ?_ ?_, ?_⟩
 ·refine Post.new H hA ⟨by omega, by omega⟩ (by intro x hx; exact hsc x (by simpa using hx)) (newRow_rel (n := n) (s := s) (z := z) (isRow_odd hev) (fun h => hA _ h ⟨by omega, by omega⟩) hs hz hsc hc hk _) ?_ rfl rfl rfl
  simp [World.alloc]
 ·intro j x hj
  by_cases he : nx + 1 = j
  ·subst he; simpa [getB] using hj
  ·simp only [getB] at hj ⊢
   rw [if_neg (by simpa using he)] at hj ⊢
   exact h0 j x hj
 ·rw [ren_slice]
  simp [Env.addr, Env.bind, isRow_odd hev]
theorem appOk_some {ti : TypeInfo} {m : Nat} (h : appOk ti m = true) : ∃ z, ti.zero = some z /\ z.cells.size = ti.size /\ 0 < ti.size /\ m <= appendMax /\ ti.bytes <= 65536 := by
 unfold appOk at h
 split at h
 ·rename_i z hz
  simp only [Bool.and_eq_true] at h
  obtain ⟨⟨⟨h1, h2⟩, h3⟩, h4⟩ := h
  exact ⟨z, hz, by simpa using h1, Nat.le_of_ble_eq_true h2, Nat.le_of_ble_eq_true h3, Nat.le_of_ble_eq_true h4⟩
 ·simp at h
theorem aappend_sound {S S' : St} (H : Holds P E A S.heap w) (hev : S.next % 2 = 0) {args : Array TypeId} {ty : TypeId} {s x v : Value} (hb : aappend P S args s x = some (v, S'))
  (hA : ∀ n, A n -> ¬ (S.next <= n /\ n < S'.next)) (hss : Sc A s) :
  ∃ E' w', (Builtin.append_ args ty #[ren E s, ren E x]).run P w = .ok (ren E' v) w' /\ Post P E A S.heap S.next w E' S'.heap S'.next w' /\ Sc (fun n => A n \/ (S.next <= n /\ n < S'.next)) v := by
 unfold aappend at hb
 split at hb
 ·rename_i sT xT hargs
  obtain rfl : args = #[sT, xT] := by apply Array.ext'; simpa using hargs
  split at hb
  ·rename_i e xd n hs hx hn
   split at hb
   ·simp at hb
   ·rename_i hxd
    have hxd : isInt xd = false := by simpa using hxd
    have hsu := elemT_under hs
    split at hb
    ·rename_i ti base len cap hi
     dsimp only at hb
     split at hb
     ·simp at hb
     ·rename_i hg
      have hg : appOk ti (len + n) = true := by simpa using hg
      obtain ⟨z, hz, g4, g1, g2, g3⟩ := appOk_some hg
      have hsz : sizeT P e = some ti.size := by simp [sizeT, hi]
      split at hb
      ·simp at hb
      ·rename_i new hnew
       split at hb
       ·simp at hb
       ·rename_i hlen
        have hlen : new.length = n * ti.size := by simpa using hlen
        have hnr : ∀ w' : World, w'.heap = w.heap -> (Builtin.firstCells ti.size n (ren E x)).run P w' = .ok (new.map (ren E)).toArray w' := fun w' hw => (firstA_sound (H.world hw) hnew).1
        have hnsc := (firstA_sound H hnew).2
        have hnl : ∀ w : World, (Builtin.lenOf (ren E x)).run P w = .ok n w := fun w => lenA_sound hn w
        split at hb
        ·
         simp only [Option.ite_none_right_eq_some, Bool.and_eq_true] at hb
         obtain ⟨⟨b1, b2⟩, hb⟩ := hb
         obtain rfl : len = 0 := by simpa using b1
         obtain rfl : cap = 0 := by simpa using b2
         rw [ren_nilslice]
         split at hb
         ·rename_i h0
          obtain rfl : n = 0 := by simpa using h0
          simp only [Option.some.injEq, Prod.mk.injEq] at hb
          obtain ⟨rfl, rfl⟩ := hb
          refine ⟨E, w, ?_, Post.refl H, Sc_nilslice _ _ _⟩
          rw [ren_nilslice]
          refine append_nil0 hsu hx hxd hi hnl ?_ (Nat.le_refl _)
          have := firstA_zero hnew
          subst this
          exact hnr w rfl
         ·rename_i h0
          have h0 : n ≠ 0 := by simpa using h0
          split at hb
          ·rename_i hone
           simp only [newRowA, Option.some.injEq, Prod.mk.injEq] at hb
           obtain ⟨rfl, rfl⟩ := hb
           obtain ⟨k, hk, hrun⟩ := append_grow (P := P) (w := w) (ty := ty) (base := none) (len := 0) (capC := 0) (old := #[]) hsu hx hxd hi hz hnl (fun _ _ => rfl) hnr (by omega) g2 g3
           obtain ⟨p1, p2⟩ := grow_post (e := e) (fzh := 0) (n := n) H hev hA hsz g4 hnsc hlen (k := k) (by omega) (h₀ := S.heap) (fun _ _ h => h)
           rw [Array.empty_append, Nat.zero_add] at hrun
           exact ⟨_, _, by rw [hrun, p2], p1, by rw [Sc_slice]; exact .inr ⟨by dsimp only; omega, by dsimp only; omega⟩⟩
          ·simp at hb
        ·rename_i b off
         rw [ren_slice]
         have hAb : A b := (Sc_slice A _ _ _).1 hss
         split at hb
         ·rename_i hrow
          simp only [hrow, if_true]
          split at hb
          ·rename_i c e' fz hg
           split at hb
           ·simp at hb
           ·rename_i hchk
            simp only [Bool.not_eq_true, Bool.not_eq_false', Bool.and_eq_true] at hchk
            obtain ⟨⟨q1, q2⟩, q3⟩ := hchk
            have q1 := Nat.le_of_ble_eq_true q1
            obtain rfl : e' = e := by simpa using q2
            have q3 : off = cap * ti.size := by simpa using q3
            obtain ⟨_, hcsc, oc, hoc, hr⟩ := H.blk b _ hg
            have hrel := hr
            simp only [BlkRel, hrow, if_true] at hr
            obtain ⟨cc, fzc, s', rfl, r2, r3, r4, r5, r6, r7⟩ := hr
            rw [hsz] at r2; obtain rfl := Option.some.inj r2
            have hlk : cap + len <= E.κ b := by
             have : (cap + len) * ti.size <= E.κ b * ti.size := by rw [Nat.add_mul]; omega
             exact Nat.le_of_mul_le_mul_right this g1
            split at hb
            ·rename_i h0
             obtain rfl : n = 0 := by simpa using h0
             simp only [Option.some.injEq, Prod.mk.injEq] at hb
             obtain ⟨rfl, rfl⟩ := hb
             refine ⟨E, w, ?_, Post.refl H, Sc_or hss⟩
             rw [ren_slice]
             simp only [hrow, if_true]
             refine append_nil0 hsu hx hxd hi hnl ?_ (by omega)
             have := firstA_zero hnew
             subst this
             exact hnr w rfl
            ·rename_i h0
             split at hb
             ·rename_i hin
              have hin := Nat.le_of_ble_eq_true hin
              split at hb
              ·rename_i h' hst
               simp only [Option.some.injEq, Prod.mk.injEq] at hb
               obtain ⟨rfl, rfl⟩ := hb
               obtain ⟨w', hw1, hw2⟩ := astoreCells_sound (P := P) H hst hnsc S.next
               have hneed : len + n <= E.κ b - cap := by
                have : (cap + (len + n)) * ti.size <= E.κ b * ti.size := by rw [Nat.add_mul]; omega
                have := Nat.le_of_mul_le_mul_right this g1
                omega
               refine ⟨E, w', ?_, hw2, ?_⟩
               ·rw [ren_slice]
                simp only [hrow, if_true]
                refine append_room hsu hx hxd hi hnl (hnr w rfl) hneed ?_
                simp only [Env.addr, addr_add]
                rw [Nat.add_assoc]; simpa using hw1
               ·rw [Sc_slice]; exact .inl hAb
              ·simp at hb
             ·rename_i hin
              have hin : ¬ off + (len + n) * ti.size <= c.size := fun h => hin (Nat.ble_eq_true_of_le h)
              simp only [Option.ite_none_right_eq_some, Bool.and_eq_true] at hb
              obtain ⟨⟨⟨hone, hfz⟩, hfz1⟩, hb⟩ := hb
              have hfz := Nat.le_of_ble_eq_true hfz
              have hfz1 : fz.1 = 0 := by simpa using hfz1
              simp only [newRowA, Option.some.injEq, Prod.mk.injEq] at hb
              obtain ⟨rfl, rfl⟩ := hb
              have hcl : cellsOf S.heap b = some c.toList := by simp [cellsOf, hg]
              obtain ⟨k1, k2⟩ := run_cellsOf (P := P) H hcl (off := off) (k := len * ti.size) (by simpa using q1)
              have hkl : ((c.toList.drop off).take (len * ti.size)).length = len * ti.size := by simp; omega
              generalize hkeep : (c.toList.drop off).take (len * ti.size) = keep at *
              have hall : ∀ x ∈ keep ++ new, Sc A x := fun x hx => (List.mem_append.1 hx).elim (k2 x) (hnsc x)
              have hallen : (keep ++ new).length = (len + n) * ti.size := by simp [hkl, hlen, Nat.add_mul]
              have hsub : ∀ k x, getB (delB S.heap b) k = some x -> getB S.heap k = some x := fun k x hk => (getB_delB _ _ _ _ hk).2
              by_cases hneed : len + n <= E.κ b - cap
              ·
               have hfit : off + (len + n) * ti.size <= E.κ b * ti.size := by
                have : (cap + (len + n)) * ti.size <= E.κ b * ti.size := Nat.mul_le_mul_right _ (by omega)
                rw [Nat.add_mul] at this; omega
               have hmul : (len + n) * ti.size = len * ti.size + n * ti.size := Nat.add_mul _ _ _
               have hst := run_storeCells_any (P := P) (E.β b) (E.σ b + off + len * ti.size) e' fzc (new.map (ren E)) 0 cc w hoc (fun j hj1 hj2 => by
                 have := r6 (j - E.σ b) (by omega) (by simp at hj2; omega)
                 rw [show E.σ b + (j - E.σ b) = j by omega] at this
                 exact this) (by simp; omega) (fun v hv => by
                 obtain ⟨x, hx, rfl⟩ := List.mem_map.1 hv
                 rw [<- one_oneCell, one_ren]; exact allOne_mem hone x hx)
               have hget : ∀ i, (cc.toList.take (E.σ b + off + len * ti.size + 0) ++ new.map (ren E) ++ cc.toList.drop (E.σ b + off + len * ti.size + 0 + (new.map (ren E)).length))[i]? = if i < E.σ b + off + len * ti.size then cc.toList[i]? else if i < E.σ b + off + len * ti.size + new.length then (new.map (ren E))[i - (E.σ b + off + len * ti.size)]? else cc.toList[i]? := by
                intro i
                have := seg_get cc.toList (new.map (ren E)) (E.σ b + off + len * ti.size) i (by simp; omega)
                simpa using this
               have hncl : (cc.toList.take (E.σ b + off + len * ti.size + 0) ++ new.map (ren E) ++ cc.toList.drop (E.σ b + off + len * ti.size + 0 + (new.map (ren E)).length)).length = cc.size := by simp; omega
               generalize cc.toList.take (E.σ b + off + len * ti.size + 0) ++ new.map (ren E) ++ cc.toList.drop (E.σ b + off + len * ti.size + 0 + (new.map (ren E)).length) = nc at *
               have hm1 : ¬ A (S.next + 1) := fun h => hA _ h ⟨by omega, by dsimp only; omega⟩
               have hagr : Agree A E (E.bind (S.next + 1) (E.β b) (E.σ b + off) (E.κ b - cap)) := fun n hn => Env.bind_other E _ _ _ _ n (fun e => hm1 (e ▸ hn))
               refine ⟨E.bind (S.next + 1) (E.β b) (E.σ b + off) (E.κ b - cap), w.setRow (E.β b) nc.toArray, ?_, ?_, by rw [Sc_slice]; exact .inr ⟨by dsimp only; omega, by dsimp only; omega⟩⟩
               ·have hr := append_room (ty := ty) hsu hx hxd hi hnl (hnr w rfl) hneed (a := E.addr ⟨b, off, none⟩) (w' := w.setRow (E.β b) nc.toArray) (by
                 simp only [Env.addr, addr_add]
                 simpa using hst)
                rw [hr, ren_slice]
                simp [Env.addr, Env.bind, isRow_odd hev]
               ·refine Post.put (m := S.next + 1) (b := E.β b) (o' := .cells (keep ++ new).toArray e' (0, fz.2 - off)) (oc' := .cells nc.toArray e' fzc) H (by dsimp only; omega) (by dsimp only; omega) (fun k hk => Env.bind_other E _ _ _ _ k (by dsimp only at hk; omega)) (fun k hk => (Env.bind_other E _ _ _ _ k hk).1) hA
                 (.inr ⟨by omega, by dsimp only; omega⟩) (by simp [Env.bind]) ?_ (fun x hx => Sc_or (hall x (by simpa using hx))) ?_ (setRow_heap w _ cc _ e' fzc hoc) (fun k hk _ => setRow_other w _ k _ hk) (by simp) rfl rfl rfl (.inl ⟨b, _, hg, rfl⟩)
                ·intro k x hk
                 simp only [getB] at hk
                 by_cases he : S.next + 1 = k
                 ·subst he; rw [if_pos (by simp)] at hk; exact .inl ⟨rfl, (Option.some.inj hk).symm⟩
                 ·rw [if_neg (by simpa using he)] at hk
                  obtain ⟨d1, d2⟩ := getB_delB _ _ _ _ hk
                  exact .inr ⟨fun e => he e.symm, d2, fun e => d1 (H.inj k b _ _ d2 hg e)⟩
                ·simp only [BlkRel, isRow_odd hev, if_true]
                 refine ⟨nc.toArray, fzc, ti.size, rfl, hsz, ?_, ?_, ?_, ?_, ?_⟩
                 ·intro i v hv
                  have hv : (keep ++ new)[i]? = some v := by simpa using hv
                  have hren : ren (E.bind (S.next + 1) (E.β b) (E.σ b + off) (E.κ b - cap)) v = ren E v := ren_agree hagr v (hall v (List.mem_of_getElem? hv))
                  rw [hren]
                  simp only [Env.bind, if_true]
                  have hg2 := hget (E.σ b + off + i)
                  by_cases hi1 : i < len * ti.size
                  ·rw [if_pos (by omega)] at hg2
                   rw [List.getElem?_append_left (by omega), <- hkeep, List.getElem?_take, if_pos hi1, List.getElem?_drop] at hv
                   have := r3 (off + i) v (by simpa using hv)
                   rw [<- Nat.add_assoc] at this
                   simp only [Array.getElem?_toList] at hg2
                   simpa using hg2.trans this
                  ·rw [if_neg (by omega)] at hg2
                   rw [List.getElem?_append_right (by omega)] at hv
                   have hi2 := (List.getElem?_eq_some_iff.1 hv).1
                   rw [if_pos (by omega), List.getElem?_map, show E.σ b + off + i - (E.σ b + off + len * ti.size) = i - keep.length by omega, hv] at hg2
                   simpa using hg2
                 ·have : (E.κ b - cap) * ti.size = E.κ b * ti.size - cap * ti.size := Nat.sub_mul _ _ _
                  simp only [Env.bind, if_true, List.size_toArray, hncl]
                  omega
                 ·have : (E.κ b - cap) * ti.size = E.κ b * ti.size - cap * ti.size := Nat.sub_mul _ _ _
                  simp only [Env.bind, if_true, List.size_toArray, hallen]
                  omega
                 ·intro o' ho1 ho2
                  have : (E.κ b - cap) * ti.size = E.κ b * ti.size - cap * ti.size := Nat.sub_mul _ _ _
                  simp only [Env.bind, if_true] at ho2 ⊢
                  have := r6 (off + o') (by omega) (by omega)
                  rw [<- Nat.add_assoc] at this
                  exact this
                 ·intro _
                  simp only [Env.bind, if_true]
                  rcases r7 hfz1 with h | h
                  ·exact .inl h
                  ·exact .inr (by omega)
              ·have hold : ∀ w' : World, w'.heap = w.heap -> (Builtin.firstCells ti.size len (.slice (some (E.addr ⟨b, off, none⟩)) len (E.κ b - cap))).run P w' = .ok (keep.map (ren E)).toArray w' := by
                intro w' hw
                simp only [Builtin.firstCells, Env.addr]
                obtain ⟨k1', _⟩ := run_cellsOf (P := P) (H.world hw) hcl (off := off) (k := len * ti.size) (by simpa using q1)
                rw [hkeep] at k1'
                exact k1'
               obtain ⟨k, hk, hrun⟩ := append_grow (P := P) (w := w) (ty := ty) hsu hx hxd hi hz hnl hold hnr hneed g2 g3
               obtain ⟨p1, p2⟩ := grow_post (e := e') (fzh := fz.2 - off) (n := len + n) H hev hA hsz g4 hall hallen (k := k) hk (h₀ := delB S.heap b) hsub
               have hcat : (keep.map (ren E)).toArray ++ (new.map (ren E)).toArray = ((keep ++ new).map (ren E)).toArray := by simp
               rw [hcat] at hrun
               exact ⟨_, _, hrun.trans (by rw [p2]), p1, by rw [Sc_slice]; exact .inr ⟨by dsimp only; omega, by dsimp only; omega⟩⟩
          ·simp at hb
         ·rename_i hrow
          simp only [hrow]
          split at hb
          ·rename_i hin
           have hin := Nat.le_of_ble_eq_true hin
           split at hb
           ·rename_i h' hst
            simp only [Option.some.injEq, Prod.mk.injEq] at hb
            obtain ⟨rfl, rfl⟩ := hb
            obtain ⟨w', hw1, hw2⟩ := astoreCells_sound (P := P) H hst hnsc S.next
            refine ⟨E, w', ?_, hw2, ?_⟩
            ·rw [ren_slice]
             simp only [hrow]
             refine append_room hsu hx hxd hi hnl (hnr w rfl) hin ?_
             simp only [Env.addr, addr_add]
             rw [Nat.add_assoc]; simpa using hw1
            ·rw [Sc_slice]; exact .inl hAb
           ·simp at hb
          ·rename_i hin
           have hin : ¬ len + n <= cap := fun h => hin (Nat.ble_eq_true_of_le h)
           split at hb
           ·rename_i old hold
            simp only [Option.ite_none_right_eq_some, Bool.and_eq_true] at hb
            obtain ⟨⟨hone, hol⟩, hb⟩ := hb
            have hol : old.length = len * ti.size := by simpa using hol
            simp only [newRowA, Option.some.injEq, Prod.mk.injEq] at hb
            obtain ⟨rfl, rfl⟩ := hb
            have hosc := (firstA_sound H hold).2
            have hall : ∀ x ∈ old ++ new, Sc A x := fun x hx => (List.mem_append.1 hx).elim (hosc x) (hnsc x)
            have hallen : (old ++ new).length = (len + n) * ti.size := by simp [hol, hlen, Nat.add_mul]
            have hold' : ∀ w' : World, w'.heap = w.heap -> (Builtin.firstCells ti.size len (.slice (some (E.addr ⟨b, off, none⟩)) len cap)).run P w' = .ok (old.map (ren E)).toArray w' := by
             intro w' hw
             have := (firstA_sound (P := P) (H.world hw) hold).1
             rw [ren_slice] at this
             simpa [hrow] using this
            obtain ⟨k, hk, hrun⟩ := append_grow (P := P) (w := w) (ty := ty) hsu hx hxd hi hz hnl hold' hnr hin g2 g3
            obtain ⟨p1, p2⟩ := grow_post (e := e) (fzh := 0) (n := len + n) H hev hA hsz g4 hall hallen (k := k) hk (h₀ := S.heap) (fun _ _ h => h)
            have hcat : (old.map (ren E)).toArray ++ (new.map (ren E)).toArray = ((old ++ new).map (ren E)).toArray := by simp
            rw [hcat] at hrun
            exact ⟨_, _, hrun.trans (by rw [p2]), p1, by rw [Sc_slice]; exact .inr ⟨by dsimp only; omega, by dsimp only; omega⟩⟩
           ·simp at hb
        ·simp at hb
    ·simp at hb
  ·simp at hb
 ·simp at hb
end
section
variable {P : Program} {E : Env} {A : Nat -> Prop} {h h' : List (Nat × Obj)} {nx : Nat} {w w' : World}
theorem repL_get (l : List Value) (hl : 0 < l.length) : ∀ n i, (repL n l)[i]? = if i < n * l.length then l[i % l.length]? else none
 | 0, i => by simp [repL]
 | n + 1, i => by
  simp only [repL]
  by_cases h1 : i < l.length
  ·rw [List.getElem?_append_left h1, if_pos (by rw [Nat.add_mul]; omega), Nat.mod_eq_of_lt h1]
  ·rw [List.getElem?_append_right (by omega), repL_get l hl n]
   by_cases h2 : i - l.length < n * l.length
   ·rw [if_pos h2, if_pos (by rw [Nat.add_mul]; omega)]
    congr 1
    rw [Nat.mod_eq_sub_mod (by omega : i ≥ l.length)]
   ·rw [if_neg h2, if_neg (by rw [Nat.add_mul]; omega)]
theorem zeros_eq (z : Array Value) (n : Nat) (hz : 0 < z.size) : (Array.range (n * z.size)).map (fun i => z[i % z.size]!) = (repL n z.toList).toArray := by
 apply Array.ext'
 apply List.ext_getElem?
 intro i
 have hm : i % z.size < z.size := Nat.mod_lt _ hz
 rw [repL_get z.toList (by simpa using hz)]
 simp only [Array.toList_map, Array.toList_range, List.getElem?_map, Array.length_toList]
 by_cases hi : i < n * z.size
 ·rw [if_pos hi]
  simp [hi, hm]
 ·rw [if_neg hi]
  simp [hi]
theorem foldl_over_get (off : Nat) : ∀ (l : List Value) (k : Nat) (cs : Array Value) (i : Nat), off + k + l.length <= cs.size ->
  ((l.zipIdx k).foldl (fun cs (x : Value × Nat) => cs.setIfInBounds (off + x.2) x.1) cs)[i]? = if off + k <= i /\ i < off + k + l.length then l[i - (off + k)]? else cs[i]?
 | [], k, cs, i, h => by simp; intro h1 h2; omega
 | v :: l, k, cs, i, h => by
  simp only [List.zipIdx_cons, List.foldl_cons]
  simp only [List.length_cons] at h
  rw [foldl_over_get off l (k + 1) _ i (by simp; omega)]
  by_cases h1 : off + (k + 1) <= i /\ i < off + (k + 1) + l.length
  ·rw [if_pos h1, if_pos (by simp only [List.length_cons]; omega), show i - (off + k) = (i - (off + (k + 1))) + 1 by omega]; rfl
  ·rw [if_neg h1, Array.getElem?_setIfInBounds]
   by_cases h2 : off + k = i
   ·subst h2
    rw [if_pos rfl, if_pos (by omega), if_pos (by simp only [List.length_cons]; omega)]; simp
   ·rw [if_neg h2, if_neg (by simp only [List.length_cons]; omega)]
theorem foldl_over (off : Nat) (c cs : Array Value) (h : off + c.size <= cs.size) : c.zipIdx.foldl (fun cs (c, j) => cs.setIfInBounds (off + j) c) cs = (over cs.toList off c.toList).toArray := by
 apply Array.ext'
 apply List.ext_getElem?
 intro i
 have h1 := foldl_over_get off c.toList 0 cs i (by simpa using h)
 rw [over_get cs.toList off c.toList (by simpa using h)]
 rw [<- Array.foldl_toList, Array.toList_zipIdx]
 simp only [Nat.add_zero, Array.length_toList] at h1 ⊢
 rw [Array.getElem?_toList, h1]
 by_cases g1 : i < off
 ·rw [if_neg (by omega), if_pos g1]; simp
 ·rw [if_neg g1]
  by_cases g2 : i < off + c.size
  ·rw [if_pos ⟨by omega, g2⟩, if_pos g2]
  ·rw [if_neg (by omega), if_neg g2]; simp
theorem fillL_fill (s : Nat) : ∀ (ps : List (Nat × Value)) (c r : List Value), fillL s c ps = some r -> Instr.fill (fun i => some (i * s, s)) c.toArray ps = some r.toArray /\ r.length = c.length
 | [], c, r, h => by simp [fillL] at h; subst h; exact ⟨rfl, rfl⟩
 | (i, v) :: ps, c, r, h => by
  simp only [fillL, Option.ite_none_right_eq_some, Bool.and_eq_true] at h
  obtain ⟨⟨h1, h2⟩, h3⟩ := h
  have h1 : v.cells.size = s := by simpa using h1
  have h2 := Nat.le_of_ble_eq_true h2
  obtain ⟨k1, k2⟩ := fillL_fill s ps _ r h3
  simp only [Instr.fill]
  rw [if_neg (by simp; omega), foldl_over _ _ _ (by simp; omega)]
  refine ⟨by simpa using k1, k2.trans (over_length _ _ _ (by simp; omega))⟩
theorem buildSlice_sound {S S' : St} {tm : List Value} (H : Holds P E A S.heap w) (hev : S.next % 2 = 0) {t : TypeId} {n : Nat} {ps : Array (Nat × Operand)} {v : Value} (hb : abuildSlice P tm S t n ps = some (v, S'))
  (hA : ∀ n, A n -> ¬ (S.next <= n /\ n < S'.next)) (hsc : ∀ p ∈ aparts tm ps, Sc A p.2) :
  ∃ E' w', (Instr.buildSlice t n ((aparts tm ps).map (renP E))).run P w = .ok (ren E' v) w' /\ Post P E A S.heap S.next w E' S'.heap S'.next w' /\ Sc (fun n => A n \/ (S.next <= n /\ n < S'.next)) v := by
 unfold abuildSlice at hb
 split at hb
 ·rename_i e he
  split at hb
  ·rename_i s z hs hz
   simp only [Option.ite_none_right_eq_some, Bool.and_eq_true] at hb
   obtain ⟨⟨⟨⟨h1, h2⟩, h3⟩, h4⟩, hb⟩ := hb
   have h1 : z.cells.size = s := by simpa using h1
   have h2 := Nat.le_of_ble_eq_true h2
   have h3 : 0 < s := Nat.le_of_ble_eq_true h3
   split at hb
   ·rename_i cs hf
    simp only [newExact, Option.some.injEq, Prod.mk.injEq] at hb
    obtain ⟨rfl, rfl⟩ := hb
    obtain ⟨f1, f2⟩ := fillL_fill s _ _ _ hf
    have hplain : plainAll (repL n z.cells.toList) = true := by
     have : ∀ n, plainAll (repL n z.cells.toList) = true := by
      intro n
      induction n with
      | zero => rfl
      | succ n ih =>
       have happ : ∀ a b : List Value, plainAll a = true -> plainAll b = true -> plainAll (a ++ b) = true := by
        intro a b ha hb
        induction a with
        | nil => exact hb
        | cons x a iha => simp [plainAll] at ha ⊢; exact ⟨ha.1, iha ha.2⟩
       exact happ _ _ h4 ih
     exact this n
    have hzr := fill_ren E (fun i => some (i * s, s)) (aparts tm ps).toList (repL n z.cells.toList).toArray
    rw [mapA_plainAll E (by simpa using hplain), f1] at hzr
    have hcsc : ∀ x ∈ cs.toArray, Sc A x := Sc_fill (A := A) _ _ _ _ (fun x hx => plain1_Sc A (plainAll_mem hplain x (by simpa using hx))) (fun p hp => hsc p (by simpa using hp)) f1
    obtain ⟨E', w', n1, n2⟩ := newCells_sound (P := P) H hev hA cs.toArray e hcsc
    refine ⟨E', w', ?_, n2, by rw [Sc_slice]; exact .inr ⟨Nat.le_refl _, by dsimp only; omega⟩⟩
    have hpl : ((aparts tm ps).map (renP E)).toList = (aparts tm ps).toList.map fun x => (x.1, ren E x.2) := by simp [renP]
    have hzz : ∀ w : World, (zeroValue e).run P w = .ok z w := fun w => run_zeroT hz w
    have hbig : ¬ (n * s > 2 ^ 24) := by omega
    rw [ren_slice]
    have hcells : Instr.fill (fun i => some (i * s, s)) ((Array.range (n * s)).map (fun i => (if n * s = 0 then #[] else z.cells)[i % (if n * s = 0 then #[] else z.cells : Array Value).size]!)) ((aparts tm ps).map (renP E)).toList = some (cs.toArray.map (ren E)) := by
     by_cases h0 : n * s = 0
     ·have hn0 : n = 0 := by rcases Nat.mul_eq_zero.1 h0 with h | h; exact h; omega
      subst hn0
      rw [hpl]
      have h00 : (Array.range (0 * s)).map (fun i => (if 0 * s = 0 then #[] else z.cells)[i % (if 0 * s = 0 then #[] else z.cells : Array Value).size]!) = #[] := by
       apply Array.ext'; simp
      rw [h00]
      simpa [repL] using hzr
     ·rw [if_neg h0, <- h1, zeros_eq z.cells n (by omega), h1, hpl]
      simpa using hzr
    simp only [Instr.buildSlice, Sem.run_bind, run_underlying (elemT_under he), Result.andThen_ok, run_sizeT hs, hbig, if_false, Sem.run_pure, Sem.run_ite, hzz]
    by_cases h0 : n * s = 0
    ·rw [if_pos h0] at hcells ⊢
     simp only [Result.andThen_ok, hcells, Sem.run_bind, n1, Sem.run_pure, isRow_even hev, Bool.false_eq_true, if_false]
    ·rw [if_neg h0] at hcells ⊢
     simp only [Result.andThen_ok, hcells, Sem.run_bind, n1, Sem.run_pure, isRow_even hev, Bool.false_eq_true, if_false]
   ·simp at hb
  ·simp at hb
 ·simp at hb
end
section
variable {P : Program} {E : Env} {A : Nat -> Prop} {h h' : List (Nat × Obj)} {nx : Nat} {w w' : World}
theorem makeSlice_sound {S S' : St} (H : Holds P E A S.heap w) (hev : S.next % 2 = 0) {t : TypeId} {l c v : Value} (hb : amakeSlice P S t l c = some (v, S'))
  (hA : ∀ n, A n -> ¬ (S.next <= n /\ n < S'.next)) :
  ∃ E' w', (Instr.makeSlice t (ren E l) (ren E c)).run P w = .ok (ren E' v) w' /\ Post P E A S.heap S.next w E' S'.heap S'.next w' /\ Sc (fun n => A n \/ (S.next <= n /\ n < S'.next)) v := by
 unfold amakeSlice at hb
 split at hb
 ·rename_i e he
  split at hb
  ·rename_i ti l' c' hi hl hc
   split at hb
   ·rename_i z hz
    simp only [Option.ite_none_right_eq_some, Bool.and_eq_true] at hb
    obtain ⟨⟨⟨⟨⟨⟨⟨h1, h2⟩, h3⟩, h4⟩, h5⟩, h6⟩, h7⟩, hb⟩ := hb
    have h1 := Nat.le_of_ble_eq_true h1
    have h2 := Nat.le_of_ble_eq_true h2
    have h3 := Nat.le_of_ble_eq_true h3
    have h4 := Nat.le_of_ble_eq_true h4
    have h5 : z.cells.size = ti.size := by simpa using h5
    have h6 : 0 < ti.size := Nat.le_of_ble_eq_true h6
    simp only [newExact, Option.some.injEq, Prod.mk.injEq] at hb
    obtain ⟨rfl, rfl⟩ := hb
    obtain ⟨kl, _, hl⟩ := natOf_some (E := E) hl
    obtain ⟨kc, _, hc⟩ := natOf_some (E := E) hc
    have hbytes : (ti.bytes : Int) * (c' : Int) <= 281474976710656 := by
     have : ti.bytes * c' <= 65536 * 1048576 := Nat.mul_le_mul h3 h2
     have h : ((ti.bytes * c' : Nat) : Int) <= 281474976710656 := by omega
     rwa [Int.natCast_mul] at h
    have hr := run_makeSlice (P := P) w t e ti z (elemT_under he) hi hz kl kc l' c' (by omega) (by omega) (by simpa using h4) hbytes (by omega)
    have hcl : ∀ x ∈ (repL c' z.cells.toList).toArray, plain1 x = true := by
     intro x hx
     have hx : x ∈ repL c' z.cells.toList := by simpa using hx
     have key : ∀ n, x ∈ repL n z.cells.toList -> x ∈ z.cells.toList := by
      intro n
      induction n with
      | zero => simp [repL]
      | succ n ih => intro h; rcases List.mem_append.1 h with h | h; exact h; exact ih h
     exact plainAll_mem h7 x (key _ hx)
    obtain ⟨E', w', n1, n2⟩ := newCells_sound (P := P) H hev hA (repL c' z.cells.toList).toArray e (fun x hx => plain1_Sc A (hcl x hx))
    have hmc : madeCells z.cells (c' * ti.size) = (repL c' z.cells.toList).toArray := by
     rw [<- h5, <- zeros_eq z.cells c' (by omega)]; rfl
    have hmap : (repL c' z.cells.toList).toArray.map (ren E) = (repL c' z.cells.toList).toArray := by
     have := Array.map_congr_left (xs := (repL c' z.cells.toList).toArray) (f := ren E) (g := id) (fun x hx => plain1_ren E (hcl x hx))
     simpa using this
    rw [hmap] at n1
    simp only [newRow, Sem.run_bind, run_newObj, Result.andThen_ok, Sem.run_pure, Result.ok.injEq] at n1
    obtain ⟨n1, n3⟩ := n1
    refine ⟨E', w', ?_, n2, by rw [Sc_slice]; exact .inr ⟨Nat.le_refl _, by dsimp only; omega⟩⟩
    simp only [Int.toNat_natCast] at hr
    rw [hl, hc, hr, hmc, ren_slice, <- n1]
    simp only [isRow_even hev, Bool.false_eq_true, if_false]
    rw [<- n3]; rfl
   ·simp at hb
  ·simp at hb
 ·simp at hb
theorem copy_sound {S S' : St} (H : Holds P E A S.heap w) {args : Array TypeId} {ty : TypeId} {d s v : Value} (hb : acopy P S args d s = some (v, S')) :
  ∃ w', (Builtin.copy_ args ty #[ren E d, ren E s]).run P w = .ok (ren E v) w' /\ Post P E A S.heap S.next w E S'.heap S'.next w' /\ Sc A v := by
 unfold acopy at hb
 split at hb
 ·rename_i dT rest hargs
  have hd0 : args[0]? = some dT := by
   have : args.toList[0]? = some dT := by rw [hargs]; rfl
   simpa using this
  split at hb
  ·rename_i e base dl cap sl he hl
   split at hb
   ·simp at hb
   ·rename_i s' hs
    dsimp only at hb
    split at hb
    ·simp at hb
    ·rename_i cs hf
     have hmin : (if Nat.ble sl dl = true then sl else dl) = Nat.min sl dl := by
      by_cases h : sl <= dl
      ·rw [if_pos (Nat.ble_eq_true_of_le h)]; exact (Nat.min_eq_left h).symm
      ·rw [if_neg (by simpa using h)]; exact (Nat.min_eq_right (by omega)).symm
     rw [hmin] at hf hb
     obtain ⟨f1, f2⟩ := firstA_sound H hf
     have hln := lenA_sound (P := P) (E := E) hl
     split at hb
     ·simp only [Option.ite_none_right_eq_some, Option.some.injEq, Prod.mk.injEq] at hb
      obtain ⟨h0, rfl, rfl⟩ := hb
      have h0 : Nat.min sl dl = 0 := by simpa using h0
      rw [h0] at f1
      refine ⟨w, ?_, Post.refl H, Sc_int _ _ _⟩
      rw [ren_nilslice, ren_int]
      simp only [Builtin.copy_, hd0, List.getElem?_toArray, List.getElem?_cons_zero, List.getElem?_cons_succ, Sem.run_bind, run_underlying (elemT_under he), Result.andThen_ok, hln, run_sizeT hs, f1, Sem.run_pure, goInt, h0]
      rfl
     ·rename_i b off
      split at hb
      ·rename_i h' hst
       simp only [Option.some.injEq, Prod.mk.injEq] at hb
       obtain ⟨rfl, rfl⟩ := hb
       obtain ⟨w', g1, g2⟩ := astoreCells_sound (P := P) H hst f2 S.next
       refine ⟨w', ?_, g2, Sc_int _ _ _⟩
       rw [ren_slice, ren_int]
       simp only [Builtin.copy_, hd0, List.getElem?_toArray, List.getElem?_cons_zero, List.getElem?_cons_succ, Sem.run_bind, run_underlying (elemT_under he), Result.andThen_ok, hln, run_sizeT hs, f1, Sem.run_pure, goInt, Env.addr, g1]
      ·simp at hb
     ·simp at hb
  ·simp at hb
 ·simp at hb
theorem bytesOfCells_some : ∀ {l : List Value} {b : List UInt8}, bytesOfCells l = some b -> l = b.map fun x => .int .u8 x.toNat
 | [], b, h => by simp [bytesOfCells] at h; subst h; rfl
 | v :: r, b, h => by
  unfold bytesOfCells at h
  split at h
  ·simp at *
  ·rename_i n r' heq
   simp at heq
   obtain ⟨rfl, rfl⟩ := heq
   split at h
   ·rename_i l hl
    simp only [Option.ite_none_right_eq_some, Option.some.injEq] at h
    obtain ⟨⟨h0, h1⟩, rfl⟩ := h
    have := bytesOfCells_some hl
    simp only [List.map_cons, <- this]
    congr 2
    have : n.toNat < 256 := by omega
    simp [Nat.toUInt8, UInt8.toNat_ofNat', Nat.mod_eq_of_lt this, Int.toNat_of_nonneg h0]
   ·simp at h
  ·simp at h
theorem ren_bytes (E : Env) (b : List UInt8) : (b.map fun x => Value.int .u8 x.toNat).map (ren E) = b.map fun x => Value.int .u8 x.toNat := by
 rw [List.map_map]
 exact List.map_congr_left fun x _ => ren_int _ _ _
theorem toString_sound (H : Holds P E A h w) {x v : Value} (hb : atoString h x = some v) :
  (Conv.bytesToString (ren E x)).run P w = .ok (ren E v) w /\ Sc A v := by
 unfold atoString at hb
 split at hb
 ·simp at hb; subst hb; rw [ren_nilslice, ren_string]; exact ⟨rfl, Sc_string _ _⟩
 ·rename_i n off len cap
  split at hb
  ·rename_i c hc
   split at hb
   ·rename_i hle
    split at hb
    ·rename_i l hl
     simp only [Option.some.injEq] at hb; subst hb
     rw [ren_slice, ren_string]
     refine ⟨?_, Sc_string _ _⟩
     obtain ⟨g1, _⟩ := run_cellsOf (P := P) H hc (off := off) (k := len) (Nat.le_of_ble_eq_true hle)
     rw [bytesOfCells_some hl, ren_bytes] at g1
     have := run_bytesToString (P := P) w ⟨E.β n, E.σ n + off, none⟩ len (if isRow n = true then E.κ n - cap else cap) (l.map fun x => (x.toNat : Int)) (by rw [g1, List.map_map]; rfl)
     simp only [Env.addr]
     rw [this, foldl_push_bytes]
     congr 2
     apply ByteArray.ext
     simp [ByteArray.empty, ByteArray.emptyWithCapacity]
     show [] ++ _ = l
     rw [List.nil_append]
     conv => rhs; rw [<- List.map_id l]
     exact List.map_congr_left fun x _ => by simp
    ·simp at hb
   ·simp at hb
  ·simp at hb
 ·simp at hb
theorem freeze_heap (w : World) (a : Addr) (n : Nat) (hn : n ≠ 0) {cc : Array Value} {e : TypeId} {fz : Nat × Nat} (hg : w.heap[a.block]? = some (.cells cc e fz)) :
  (w.freeze a n).heap[a.block]? = some (.cells cc e (if fz.1 == fz.2 then (a.off, a.off + n) else (min fz.1 a.off, max fz.2 (a.off + n)))) /\ (∀ k, k ≠ a.block -> (w.freeze a n).heap[k]? = w.heap[k]?) /\ (w.freeze a n).heap.size = w.heap.size := by
 obtain ⟨lo, hi⟩ := fz
 unfold World.freeze
 rw [if_neg hn]
 refine ⟨?_, ?_, ?_⟩
 ·simp [Array.getElem?_modify, hg]
 ·intro k hk
  simp [Array.getElem?_modify, Ne.symm hk]
 ·simp
def strRow (s : ByteArray) (k : Nat) : Array Value := (s.data.map fun b : UInt8 => Value.int .u8 b.toNat) ++ Array.replicate (k - s.size) (Value.int .u8 0)
theorem toBytes_sound {S : St} (H : Holds P E A S.heap w) (hev : S.next % 2 = 0) (hA : ∀ n, A n -> ¬ (S.next <= n /\ n < S.next + 2)) {e : TypeId} {s : ByteArray} (hs : sizeT P e = some 1) :
  ∃ E' w', (Conv.stringToBytes e s).run P w = .ok (ren E' (atoBytes S e s).1) w' /\ Post P E A S.heap S.next w E' (atoBytes S e s).2.heap (atoBytes S e s).2.next w' /\ Sc (fun n => A n \/ (S.next <= n /\ n < S.next + 2)) (atoBytes S e s).1 := by
 have hk : s.size <= s.size + (w.tape w.drawn (.appendCap s.size 0 e)) % (2 ^ 63 - s.size) := by omega
 generalize hkk : s.size + (w.tape w.drawn (.appendCap s.size 0 e)) % (2 ^ 63 - s.size) = k at hk
 have hb : ∀ w' : World, w'.heap = w.heap.push (.cells (strRow s k) e) ->
   (markStringish ⟨w.heap.size, 0, none⟩).run P w' = .ok () (w'.freeze ⟨w.heap.size, k, none⟩ 1) := by
  intro w' hw
  have hsz : (strRow s k).size = k := by
   have : s.data.size = s.size := rfl
   simp [strRow]; omega
  have : w'.shape? w.heap.size = some (e, k) := by
   simp only [World.shape?, hw, Array.getElem?_push, if_true]
   rw [hsz]
  simp only [markStringish, Sem.run_bind, run_shape, this, Result.andThen_ok, run_freeze]
 have hrun : (Conv.stringToBytes e s).run P w = .ok (.slice (some ⟨w.heap.size, 0, none⟩) s.size k) (({ w with drawn := w.drawn + 1 }.alloc (.cells (strRow s k) e)).freeze ⟨w.heap.size, k, none⟩ 1) := by
  simp only [Conv.stringToBytes, Sem.run_bind, run_choose, Question.forced, Bool.false_eq_true, if_false, Question.cut, Result.andThen_ok, newRow, run_newObj, Sem.run_pure, hkk]
  rw [hb _ rfl]
  rfl
 have hlt : (({ w with drawn := w.drawn + 1 }.alloc (.cells (strRow s k) e))).heap[w.heap.size]? = some (.cells (strRow s k) e (0, 0)) := by simp [World.alloc]
 obtain ⟨f1, f2, f3⟩ := freeze_heap (({ w with drawn := w.drawn + 1 }.alloc (.cells (strRow s k) e))) ⟨w.heap.size, k, none⟩ 1 (by omega) hlt
 have hm1 : ¬ A (S.next + 1) := fun h => hA _ h ⟨by omega, by omega⟩
 refine ⟨E.bind (S.next + 1) w.heap.size 0 k, ({ w with drawn := w.drawn + 1 }.alloc (.cells (strRow s k) e)).freeze ⟨w.heap.size, k, none⟩ 1, ?_, ?_, ?_⟩
 ·rw [hrun]
  simp only [atoBytes, newRowA, ren_slice]
  simp [Env.addr, Env.bind, isRow_odd hev]
 ·have hos : ∀ (w : World) (a : Addr) (n : Nat), (w.freeze a n).os = w.os /\ (w.freeze a n).tape = w.tape /\ (w.freeze a n).output = w.output := by
   intro w a n; unfold World.freeze; split <;> exact ⟨rfl, rfl, rfl⟩
  obtain ⟨o1, o2, o3⟩ := hos (({ w with drawn := w.drawn + 1 }.alloc (.cells (strRow s k) e))) ⟨w.heap.size, k, none⟩ 1
  simp only [atoBytes, newRowA]
  refine Post.put (m := S.next + 1) (b := w.heap.size) (o' := .cells (s.data.toList.map fun b => Value.int .u8 b.toNat).toArray e (1, 0)) H (by omega) (by omega) (fun k hk => Env.bind_other E _ _ _ _ k (by omega)) (fun k hk => (Env.bind_other E _ _ _ _ k hk).1) hA
   (.inr ⟨by omega, by omega⟩) (by simp [Env.bind]) ?_ ?_ ?_ f1 ?_ ?_ (o1.trans rfl) (o2.trans rfl) (o3.trans rfl) (.inr (Nat.le_refl _))
  ·intro j x hj
   simp only [getB] at hj
   by_cases he : S.next + 1 = j
   ·subst he; rw [if_pos (by simp)] at hj; exact .inl ⟨rfl, (Option.some.inj hj).symm⟩
   ·rw [if_neg (by simpa using he)] at hj
    refine .inr ⟨fun e => he e.symm, hj, ?_⟩
    obtain ⟨_, _, oc', hoc, _⟩ := H.blk j x hj
    intro e'
    rw [e', Array.getElem?_eq_none (Nat.le_refl _)] at hoc
    cases hoc
  ·intro x hx
   have hx : x ∈ s.data.toList.map fun b => Value.int .u8 b.toNat := by simpa using hx
   obtain ⟨y, _, rfl⟩ := List.mem_map.1 hx
   exact Sc_int _ _ _
  ·have hdl : s.data.size = s.size := rfl
   simp only [BlkRel, isRow_odd hev, if_true]
   unfold strRow
   refine ⟨_, _, 1, rfl, hs, ?_, ?_, ?_, ?_, ?_⟩
   ·intro i v hv
    have hi := (Array.getElem?_eq_some_iff.1 hv).1
    simp only [List.size_toArray, List.length_map, Array.length_toList] at hi
    simp only [Env.bind, if_true, Nat.zero_add]
    rw [Array.getElem?_append_left (by simpa using hi)]
    have hv' : (s.data.toList.map fun b => Value.int .u8 b.toNat)[i]? = some v := by simpa using hv
    have hmem := List.mem_of_getElem? hv'
    obtain ⟨y, _, rfl⟩ := List.mem_map.1 hmem
    rw [ren_int]
    simpa using hv
   ·simp [Env.bind, hdl]; omega
   ·simp [Env.bind, hdl]; omega
   ·intro off h1 h2
    simp only [Env.bind, if_true, Nat.mul_one, Nat.zero_add, beq_self_eq_true] at h2 ⊢
    omega
   ·simp
  ·intro j hj hjl
   rw [f2 j hj]
   simp only [World.alloc, Array.getElem?_push]
   rw [if_neg hj]
  ·rw [f3]; simp [World.alloc]
 ·simp only [atoBytes, newRowA, Sc_slice]
  exact .inr ⟨by omega, by omega⟩
end
end Go.Dam
