/-
  An own evaluator of closed runs of a program, proved sound against the model for every order of draws and every capacity of append. This text is one part of it; the last part's theorem 'closed' says what a run in the kernel proves. Used for the law's closed self-test.
-/
import Derived.Test.YtgjgdofofhmjgaaDoorDamE
import Derived.Laws.Build
namespace Go.Dam

def renP (E : Env) (x : Nat × Value) : Nat × Value := (x.1, ren E x.2)

section
variable {P : Program} {E : Env} {A : Nat → Prop} {h h' : List (Nat × Obj)} {nx : Nat} {w w' : World}

theorem build_sound {t : TypeId} {ps : Array (Nat × Value)} {z v : Value} (hz : zeroT P t = some z) (hp : plainAll z.cells.toList = true) (hb : purely P (Instr.build t ps) = some v) (hsc : ∀ p ∈ ps, Sc A p.2) :
    purely P (Instr.build t (ps.map (renP E))) = some (ren E v) ∧ Sc A v := by
  have hpl : (ps.map (renP E)).toList = ps.toList.map fun x => (x.1, ren E x.2) := by simp [renP]
  have hzc : ∀ x ∈ z.cells, Sc A x := fun x hx => plain1_Sc A (plainAll_mem hp x (by simpa using hx))
  have key : ∀ (place : Nat → Option (Nat × Nat)) (cells : Array Value), Instr.fill place z.cells ps.toList = some cells →
      Instr.fill place z.cells (ps.map (renP E)).toList = some (cells.map (ren E)) ∧ ∀ x ∈ cells, Sc A x := by
    intro place cells hc
    have h1 := fill_ren E place ps.toList z.cells
    rw [mapA_plainAll E hp, hc] at h1
    rw [hpl]
    exact ⟨by simpa using h1, Sc_fill place ps.toList z.cells cells hzc (fun p hp => hsc p (by simpa using hp)) hc⟩
  unfold Instr.build at hb ⊢
  simp only [purely_bind, purely_zeroValue, hz, Option.bind_some, purely_underlying] at hb ⊢
  cases hu : P.underlying t with
  | none => simp [hu] at hb
  | some d =>
    simp only [hu, Option.bind_some] at hb ⊢
    cases d with
    | struct fields =>
      simp only [purely_bind] at hb ⊢
      cases hm : purely P (fields.mapM fun f => do pure (f.offset, ← Go.sizeOf f.type)) with
      | none => rw [hm] at hb; cases hb
      | some places =>
        simp only [hm, Option.bind_some] at hb ⊢
        cases hf : Instr.fill (places[·]?) z.cells ps.toList with
        | none => simp [hf, purely_stuck] at hb
        | some cells =>
          obtain ⟨k1, k2⟩ := key _ cells hf
          simp only [hf, purely_pure, Option.some.injEq] at hb
          subst hb
          rw [k1, ren_agg]
          exact ⟨rfl, (Sc_agg A cells).2 k2⟩
    | array n elem =>
      simp only [purely_bind, purely_sizeOf] at hb ⊢
      cases hm : sizeT P elem with
      | none => simp [hm] at hb
      | some s =>
        simp only [hm, Option.bind_some] at hb ⊢
        cases hf : Instr.fill (fun i => some (i * s, s)) z.cells ps.toList with
        | none => simp [hf, purely_stuck] at hb
        | some cells =>
          obtain ⟨k1, k2⟩ := key _ cells hf
          simp only [hf, purely_pure, Option.some.injEq] at hb
          subst hb
          rw [k1, ren_agg]
          exact ⟨rfl, (Sc_agg A cells).2 k2⟩
    | _ => simp [purely_stuck] at hb

theorem extract_sound {x v : Value} {i : Nat} (hb : purely P (Instr.extract x i) = some v) (hsc : Sc A x) :
    purely P (Instr.extract (ren E x) i) = some (ren E v) ∧ Sc A v := by
  cases x with
  | tuple vs =>
    rw [ren_tuple]
    unfold Instr.extract at hb ⊢
    simp only [Array.getElem?_map]
    cases hv : vs[i]? with
    | none => simp [hv, purely_stuck] at hb
    | some y =>
      simp only [hv, purely_pure, Option.some.injEq] at hb
      subst hb
      exact ⟨rfl, (Sc_tuple A vs).1 hsc y (Array.mem_of_getElem? hv)⟩
  | _ => simp [Instr.extract, purely_stuck] at hb

theorem part_sound {t : TypeId} {cs : Array Value} {off : Nat} {v : Value} (hb : purely P (part t cs off) = some v) (hsc : ∀ x ∈ cs, Sc A x) :
    purely P (part t (cs.map (ren E)) off) = some (ren E v) ∧ Sc A v := by
  unfold part at hb ⊢
  simp only [purely_bind, purely_isAgg] at hb ⊢
  cases hg : aggT P t with
  | none => simp [hg] at hb
  | some b =>
    simp only [hg, Option.bind_some] at hb ⊢
    cases b with
    | true =>
      simp only [if_true, purely_bind, purely_sizeOf] at hb ⊢
      cases hs : sizeT P t with
      | none => simp [hs] at hb
      | some s =>
        simp only [hs, Option.bind_some, purely_pure, Option.some.injEq] at hb ⊢
        subst hb
        rw [ren_agg]
        refine ⟨by simp [Array.map_extract], (Sc_agg A _).2 fun x hx => ?_⟩
        have hx := Array.mem_toList_iff.2 hx
        rw [Array.toList_extract] at hx
        exact hsc x (Array.mem_toList_iff.1 (List.mem_of_mem_drop (List.mem_of_mem_take hx)))
    | false =>
      simp only [Bool.false_eq_true, if_false] at hb ⊢
      cases hv : cs[off]? with
      | none => simp [hv, purely_stuck] at hb
      | some y =>
        simp only [hv, purely_pure, Option.some.injEq] at hb
        subst hb
        simp only [Array.getElem?_map, hv, Option.map_some, purely_pure]
        exact ⟨trivial, hsc y (Array.mem_of_getElem? hv)⟩

theorem field_sound {t : TypeId} {x v : Value} {i : Nat} (hb : purely P (Instr.field t x i) = some v) (hsc : Sc A x) :
    purely P (Instr.field t (ren E x) i) = some (ren E v) ∧ Sc A v := by
  unfold Instr.field at hb ⊢
  simp only [purely_bind, purely_underlying] at hb ⊢
  cases hu : P.underlying t with
  | none => simp [hu] at hb
  | some d =>
    simp only [hu, Option.bind_some] at hb ⊢
    cases d with
    | struct fields =>
      simp only at hb ⊢
      cases hf : fields[i]? with
      | none => simp [hf, purely_stuck] at hb
      | some f =>
        simp only [hf, purely_bind] at hb ⊢
        cases x with
        | agg cs =>
          rw [ren_agg]
          simp only [asAgg, purely_pure, Option.bind_some] at hb ⊢
          exact part_sound hb ((Sc_agg A cs).1 hsc)
        | _ => simp [asAgg, purely_stuck] at hb
    | _ => simp [purely_stuck] at hb

theorem purely_boundsPanic {α : Type} (k : IntKind) (x y : Int) (c : BoundsCode) : purely P (boundsPanic (α := α) k x y c) = none := by
  unfold boundsPanic
  dsimp only
  rw [purely_ite]
  split
  · rfl
  · simp only [purely_bind, purely_pure, Option.bind_some, runtimePanic]
    rfl

theorem index_sound {t : TypeId} {x i v : Value} (hb : purely P (Instr.index t x i) = some v) (hsc : Sc A x) :
    purely P (Instr.index t (ren E x) (ren E i)) = some (ren E v) ∧ Sc A v := by
  unfold Instr.index at hb ⊢
  cases i with
  | int k n =>
    rw [ren_int]
    simp only [asIntOf, purely_bind, purely_pure, Option.bind_some, purely_underlying] at hb ⊢
    cases hu : P.underlying t with
    | none => simp [hu] at hb
    | some d =>
      simp only [hu, Option.bind_some] at hb ⊢
      cases x with
      | agg cs =>
        rw [ren_agg]
        cases d with
        | array len elem =>
          simp only [purely_ite, purely_bind, purely_sizeOf] at hb ⊢
          split at hb
          · rename_i hc
            rw [if_pos hc]
            cases hs : sizeT P elem with
            | none => simp [hs] at hb
            | some s =>
              simp only [hs, Option.bind_some] at hb ⊢
              exact part_sound hb ((Sc_agg A cs).1 hsc)
          · rw [purely_boundsPanic] at hb; simp at hb
        | _ => simp [purely_stuck] at hb
      | string s =>
        rw [ren_string]
        cases d with
        | string =>
          simp only at hb ⊢
          split at hb
          · rename_i b hb'
            simp only [purely_pure, Option.some.injEq] at hb
            subst hb
            rw [ren_int]
            exact ⟨rfl, Sc_int _ _ _⟩
          · rw [purely_boundsPanic] at hb; simp at hb
        | _ => simp [purely_stuck] at hb
      | _ => cases d <;> simp [purely_stuck] at hb
  | pointer a => cases a <;> simp [asIntOf, purely_bind, purely_stuck, purely_unsupported] at hb
  | _ => simp [asIntOf, purely_bind, purely_stuck] at hb

theorem natOf_some {v : Value} {n : Nat} (hn : natOf v = some n) : ∃ k, v = .int k n ∧ ren E v = .int k n := by
  cases v with
  | int k m =>
    simp only [natOf] at hn
    split at hn
    · simp at hn; subst hn
      rename_i h0
      rw [ren_int, Int.toNat_of_nonneg h0]
      exact ⟨k, rfl, rfl⟩
    · simp at hn
  | _ => simp [natOf] at hn

theorem fieldAddr_sound {t : TypeId} {x v : Value} {f : Nat} (hb : afieldAddr P t x f = some v) (hsc : Sc A x) (w : World) :
    (Instr.fieldAt t (ren E x) f).run P w = .ok (ren E v) w ∧ Sc A v := by
  unfold afieldAddr at hb
  split at hb
  · rename_i fs n off hu
    split at hb
    · rename_i fd hf
      split at hb
      · rename_i s hs
        split at hb
        · simp at hb
        · rename_i h0
          simp at hb; subst hb
          have h0 : ¬ s = 0 := by simpa using h0
          rw [ren_ptr, ren_ptr]
          refine ⟨?_, by rw [Sc_ptr] at hsc ⊢; exact hsc⟩
          simp only [Instr.fieldAt, Sem.run_bind, run_underlying hu, Result.andThen_ok, hf, Instr.sureAddr, Sem.run_pure, fieldPlace, run_sizeT hs, h0, if_false, Env.addr, addr_add, Nat.add_assoc]
      · simp at hb
    · simp at hb
  · simp at hb

theorem indexAddr_sound {t : TypeId} {x i v : Value} (hb : aindexAddr P t x i = some v) (hsc : Sc A x) (w : World) :
    (Instr.indexAt t (ren E x) (ren E i)).run P w = .ok (ren E v) w ∧ Sc A v := by
  unfold aindexAddr at hb
  split at hb
  · rename_i e n off len cap k hu hk
    split at hb
    · rename_i s hs
      simp only [Option.ite_none_right_eq_some, Option.some.injEq] at hb
      obtain ⟨hlt, rfl⟩ := hb
      have hlt : k < len := Nat.le_of_ble_eq_true hlt
      obtain ⟨kk, _, hi⟩ := natOf_some (E := E) hk
      rw [ren_slice, ren_ptr, hi]
      refine ⟨?_, by rw [Sc_slice] at hsc; rw [Sc_ptr]; exact hsc⟩
      have hc : (0 : Int) ≤ (k : Int) ∧ (k : Int) < (len : Int) := ⟨by omega, by omega⟩
      simp only [Instr.indexAt, asIntOf, Sem.run_bind, Sem.run_pure, Result.andThen_ok, run_underlying hu, hc, and_self, if_true, run_sizeT hs, Env.addr, addr_add, Int.toNat_natCast, Nat.add_assoc]
    · simp at hb
  · rename_i m e n off k hu hk
    split at hb
    · rename_i s hs
      simp only [Option.ite_none_right_eq_some, Option.some.injEq] at hb
      obtain ⟨hlt, rfl⟩ := hb
      have hlt : k < m := Nat.le_of_ble_eq_true hlt
      obtain ⟨kk, _, hi⟩ := natOf_some (E := E) hk
      rw [ren_ptr, ren_ptr, hi]
      refine ⟨?_, by rw [Sc_ptr] at hsc ⊢; exact hsc⟩
      have hc : (0 : Int) ≤ (k : Int) ∧ (k : Int) < (m : Int) := ⟨by omega, by omega⟩
      simp only [Instr.indexAt, asIntOf, Sem.run_bind, Sem.run_pure, Result.andThen_ok, run_underlying hu, Instr.sureAddr, hc, and_self, if_true, run_sizeT hs, Env.addr, addr_add, Int.toNat_natCast, Nat.add_assoc]
    · simp at hb
  · simp at hb

theorem bound_some {v : Option Value} {d m k : Nat} (hb : bound v d m = some k) : (v = none ∧ k = d) ∨ (∃ x kk, v = some x ∧ x = .int kk k ∧ ren E x = .int kk k ∧ k ≤ m) := by
  unfold bound at hb
  split at hb
  · simp at hb; exact .inl ⟨rfl, hb.symm⟩
  · rename_i x
    split at hb
    · rename_i k' hk
      simp only [Option.ite_none_right_eq_some, Option.some.injEq] at hb
      obtain ⟨hle, rfl⟩ := hb
      obtain ⟨kk, h1, h2⟩ := natOf_some (E := E) hk
      exact .inr ⟨x, kk, rfl, h1, h2, Nat.le_of_ble_eq_true hle⟩
    · simp at hb

theorem run_sliceBound {k : IntKind} {n m : Nat} {c : BoundsCode} (hle : n ≤ m) (w : World) : (Instr.sliceBound (.int k n) m c).run P w = .ok n w := by
  have hc : (0 : Int) ≤ (n : Int) ∧ (n : Int) ≤ (m : Int) := ⟨by omega, by omega⟩
  simp only [Instr.sliceBound, asIntOf, Sem.run_bind, Sem.run_pure, Result.andThen_ok, hc, and_self, if_true, Int.toNat_natCast]

/-- The bounds of a slice expression without a third index; 'cap' may be larger than the abstract machine knows. -/
theorem run_sliceBounds {isS : Bool} {len cap cap' l h' : Nat} {lo hi : Option Value} (hh : bound hi len cap' = some h') (hl : bound lo 0 h' = some l) (hcap : h' ≤ cap) (w : World) :
    (Instr.sliceBounds isS len cap (lo.map (ren E)) (hi.map (ren E)) none).run P w = .ok (l, h', cap) w := by
  unfold Instr.sliceBounds
  rcases bound_some (E := E) hh with ⟨rfl, rfl⟩ | ⟨x, kk, rfl, _, hx, _⟩ <;> rcases bound_some (E := E) hl with ⟨rfl, rfl⟩ | ⟨y, ky, rfl, _, hy, hle'⟩
  · simp only [Option.map_none, Sem.run_bind, Sem.run_pure, Result.andThen_ok]
  · simp only [Option.map_none, Option.map_some, Sem.run_bind, Sem.run_pure, Result.andThen_ok, hy, Option.isSome_none, Bool.false_eq_true, if_false, run_sliceBound hle']
  · simp only [Option.map_none, Option.map_some, Sem.run_bind, Sem.run_pure, Result.andThen_ok, hx, run_sliceBound hcap]
  · simp only [Option.map_some, Sem.run_bind, Sem.run_pure, Result.andThen_ok, hx, hy, Option.isSome_none, Bool.false_eq_true, if_false, run_sliceBound hcap, run_sliceBound hle']

end
end Go.Dam
