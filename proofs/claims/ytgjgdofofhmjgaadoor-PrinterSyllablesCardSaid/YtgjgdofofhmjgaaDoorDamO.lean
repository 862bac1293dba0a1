/-
  An own evaluator of closed runs of a program, proved sound against the model for every order of draws and every capacity of append. This text is one part of it; the last part's theorem 'closed' says what a run in the kernel proves. Used for the law's closed self-test.
-/
import Derived.Test.YtgjgdofofhmjgaaDoorDamN
namespace Go.Dam

section
variable {P : Program} {E : Env} {A : Nat → Prop} {tm : List Value} {a : Act} {w : World}

/-- The functions' names. -/
def NamesOk (P : Program) : Prop := ∀ (g : FuncId) (fn : Func), P.funcs[g]? = some fn → fn.body.isSome = true → okName fn = true

theorem run_seenAt {b off : Nat} {cc : Array Value} {e : TypeId} {fz : Nat × Nat} (hg : w.heap[b]? = some (.cells cc e fz)) : (Conv.seenAt ⟨b, off, none⟩).run P w = .ok ⟨b, off, none⟩ w := by
  have hsh : w.shape? b = some (e, cc.size) := by simp [World.shape?, hg]
  simp [Conv.seenAt, viewAt, hsh]

theorem toUnsafe_sound {h : List (Nat × Obj)} (H : Holds P E A h w) {s d t : TypeId} {x v : Value} (hs : P.underlying s = some (.pointer t)) (hd : P.underlying d = some .unsafePointer) (hb : atoUnsafe P h t x = some v) :
    (Go.convert s d (ren E x)).run P w = .ok (ren E v) w ∧ v = x := by
  unfold atoUnsafe at hb
  split at hb
  · rename_i n off
    split at hb
    · rename_i c e fz sz hg hsz
      simp only [Option.ite_none_right_eq_some, Option.some.injEq, Bool.and_eq_true] at hb
      obtain ⟨⟨h1, h2⟩, rfl⟩ := hb
      have h1 : off < c.size := Nat.le_of_ble_eq_true h1
      have h2 : 0 < sz := Nat.le_of_ble_eq_true h2
      obtain ⟨cc, fzc, g1, _, _, _, _, g6⟩ := H.cells hg
      have hsh : w.shape? (E.β n) = some (e, cc.size) := by simp [World.shape?, g1]
      have hn : ¬ (cc.size ≤ E.σ n + off) := by omega
      have hz : sz ≠ 0 := by omega
      refine ⟨?_, rfl⟩
      rw [ren_ptr]
      simp [Go.convert, Conv.unsafePointer, run_underlying hs, run_underlying hd, Env.addr, run_seenAt g1, cellsIn, hsh, hn, run_sizeT hsz, hz]
    · simp at hb
  · simp at hb

theorem fromUnsafe_sound {h : List (Nat × Obj)} (H : Holds P E A h w) {s d u : TypeId} {x v : Value} (hs : P.underlying s = some .unsafePointer) (hd : P.underlying d = some (.pointer u)) (hb : afromUnsafe P h u x = some v) :
    (Go.convert s d (ren E x)).run P w = .ok (ren E v) w ∧ v = x := by
  unfold afromUnsafe at hb
  split at hb
  · rename_i n
    split at hb
    · rename_i c e fz sz hg hsz
      simp only [Option.ite_none_right_eq_some, Option.some.injEq, Bool.and_eq_true] at hb
      obtain ⟨⟨⟨⟨h0, h1⟩, h2⟩, h3⟩, rfl⟩ := hb
      obtain rfl : e = u := by simpa using h1
      have h2 : 0 < sz := Nat.le_of_ble_eq_true h2
      have h3 := Nat.le_of_ble_eq_true h3
      have hrow : isRow n = false := by simpa using h0
      obtain ⟨_, _, oc, hoc, hr⟩ := H.blk n _ hg
      simp only [BlkRel, hrow] at hr
      obtain ⟨r1, rfl⟩ := hr
      have hsh : w.shape? (E.β n) = some (e, c.size) := by simp [World.shape?, hoc]
      have hz : sz ≠ 0 := by omega
      have hco : P.cellsOf e = sz := by unfold sizeT at hsz; unfold Program.cellsOf; rw [hsz]; rfl
      have hdp : P.depth = (2 * (P.types.size + Made.depth) + 1) + 1 := rfl
      have hlies : liesAt P P.depth e (c.size / sz) 0 e 1 = true := by
        rw [hdp]
        simp only [liesAt, Bool.or_eq_true]
        left
        rw [hdp]
        have : 1 ≤ c.size / sz := (Nat.le_div_iff_mul_le h2).2 (by omega)
        simp [rowAt, hco, hz, sameLayout, this]
      have hva : (variablesAt ⟨E.β n, 0, none⟩ e 1).run P w = .ok true w := by
        simp only [variablesAt, Sem.run_bind, run_program, Result.andThen_ok, run_shape, hsh, Sem.run_pure, hco, hlies]
      refine ⟨?_, rfl⟩
      rw [ren_ptr]
      simp [Go.convert, Conv.unsafePointer, run_underlying hs, run_underlying hd, Env.addr, r1, run_seenAt hoc, run_sizeT hsz, hz, hva]
    · simp at hb
  · simp at hb

theorem alen_sound {h : List (Nat × Obj)} (H : Holds P E A h w) {args : Array TypeId} {ty : TypeId} {x v : Value} (hb : alen P h args x = some v) :
    (Builtin.len_ args ty #[ren E x]).run P w = .ok (ren E v) w ∧ Sc A v := by
  unfold alen at hb
  split at hb
  · rename_i t hargs
    obtain rfl : args = #[t] := by apply Array.ext'; simpa using hargs
    split at hb
    · rename_i q n cp e hu
      simp only [Option.some.injEq] at hb; subst hb
      rw [ren_slice, ren_int]
      exact ⟨by simp [Builtin.len_, run_underlying hu, goInt], Sc_int _ _ _⟩
    · rename_i n k e hu
      split at hb
      · rename_i es clock hg
        simp only [Option.some.injEq] at hb; subst hb
        obtain ⟨m1, _, _⟩ := H.mapAt hg
        rw [ren_map, ren_int]
        exact ⟨by simp [Builtin.len_, run_underlying hu, run_getObj_map m1, goInt], Sc_int _ _ _⟩
      · simp at hb
    · simp at hb
  · simp at hb

theorem acap_sound {args : Array TypeId} {ty : TypeId} {x v : Value} (hb : acap P args x = some v) (w : World) :
    (Builtin.cap_ args ty #[ren E x]).run P w = .ok (ren E v) w ∧ Sc A v := by
  unfold acap at hb
  split at hb
  · rename_i t hargs
    obtain rfl : args = #[t] := by apply Array.ext'; simpa using hargs
    split at hb
    · rename_i q n cp e hu
      split at hb
      · simp at hb
      · rename_i hrow
        simp only [Option.some.injEq] at hb; subst hb
        rw [ren_slice, ren_int, if_neg hrow]
        exact ⟨by simp [Builtin.cap_, run_underlying hu, goInt], Sc_int _ _ _⟩
    · simp at hb
  · simp at hb

theorem asliceData_sound {h : List (Nat × Obj)} (H : Holds P E A h w) {ts : Array TypeId} {ty : TypeId} {x v : Value} (hb : asliceData P h x = some v) (hs : Sc A x) :
    (Builtin.unsafeSliceData_ ts ty #[ren E x]).run P w = .ok (ren E v) w ∧ Sc A v := by
  unfold asliceData at hb
  split at hb
  · simp only [Option.some.injEq] at hb; subst hb
    rw [ren_nilslice, ren_nilptr]
    exact ⟨rfl, Sc_nilptr _⟩
  · rename_i n off len cp
    have hAn : A n := (Sc_slice A _ _ _).1 hs
    rw [ren_slice]
    split at hb
    · rename_i hrow
      split at hb
      · rename_i c e fz hg
        split at hb
        · rename_i hs1
          simp only [Option.ite_none_right_eq_some, Option.some.injEq, Bool.and_eq_true] at hb
          obtain ⟨⟨h1, h2⟩, rfl⟩ := hb
          have h1 : off < c.size := Nat.le_of_ble_eq_true h1
          have h2 : off = cp := by simpa using h2
          obtain ⟨_, _, oc, _, hr⟩ := H.blk n _ hg
          simp only [BlkRel, hrow, if_true] at hr
          obtain ⟨cc, fzc, s', _, r2, _, _, r5, _⟩ := hr
          rw [hs1] at r2; obtain rfl := Option.some.inj r2
          rw [ren_ptr]
          refine ⟨?_, (Sc_ptr A _).2 hAn⟩
          simp only [hrow, if_true]
          exact Lib.run_unsafeSliceData_row w ts ty _ _ _ (by omega)
        · simp at hb
      · simp at hb
    · rename_i hrow
      simp only [Option.ite_none_right_eq_some, Option.some.injEq] at hb
      obtain ⟨h1, rfl⟩ := hb
      have h1 : 0 < cp := Nat.le_of_ble_eq_true h1
      rw [ren_ptr]
      refine ⟨?_, (Sc_ptr A _).2 hAn⟩
      simp only [hrow]
      exact Lib.run_unsafeSliceData_row w ts ty _ _ _ (by simp; omega)
  · simp at hb

theorem astep_sound {callF : FuncId → List Value → St → Option (Value × St)} (hcf : CallOk P callF) (hnm : NamesOk P) {o : Oper} {S S' : St} {v : Value} (ht : Tm E A tm a) (hg : Glb P E A) (hev : S.next % 2 = 0) (H : Holds P E A S.heap w)
    (hok : ∀ x ∈ o.op.operands, okOpd P x = true) (hA : ∀ n, A n → ¬ (S.next ≤ n ∧ n < S'.next)) (hb : astep callF P tm S o = some (v, S')) :
    OpRes P E A o a S.heap S.next w v S'.heap S'.next := by
  have hop : ∀ x ∈ o.op.operands, a.eval x = ren E (aeval tm x) ∧ Sc A (aeval tm x) := fun x hx => eval_ok ht hg (hok x hx)
  have hpure : ∀ {v : Value}, (∀ x ∈ o.op.operands, plain (aeval tm x) = true) → (∀ cs b, o.op ≠ .select cs b) → apure P tm o = some v → OpRes P E A o a S.heap S.next w v S.heap S.next :=
    fun h1 h2 h3 => OpRes.pure H (fun x hx => (hop x hx).1) h1 h2 h3
  obtain ⟨dst, op, ty, pos, after, guard⟩ := o
  cases op with
  | move x =>
    simp only [astep, Option.some.injEq, Prod.mk.injEq] at hb; obtain ⟨rfl, rfl⟩ := hb
    obtain ⟨h1, h2⟩ := hop x (by simp [Op.operands])
    exact OpRes.still H (by simp [execOp, h1]) h2
  | assign x =>
    simp only [astep, Option.some.injEq, Prod.mk.injEq] at hb; obtain ⟨rfl, rfl⟩ := hb
    obtain ⟨h1, h2⟩ := hop x (by simp [Op.operands])
    exact OpRes.still H (by simp [execOp, h1]) h2
  | pick c x y =>
    simp only [astep] at hb
    obtain ⟨c1, c2⟩ := hop c (by simp [Op.operands])
    obtain ⟨x1, x2⟩ := hop x (by simp [Op.operands])
    obtain ⟨y1, y2⟩ := hop y (by simp [Op.operands])
    split at hb
    · rename_i d hd
      simp only [Option.some.injEq, Prod.mk.injEq] at hb; obtain ⟨rfl, rfl⟩ := hb
      rw [hd, ren_bool] at c1
      refine OpRes.still H ?_ (by cases d <;> simp [x2, y2])
      cases d <;> simp [execOp, c1, asBool, x1, y1]
    · simp at hb
  | alloc t =>
    simp only [astep] at hb
    split at hb
    · rename_i cs hcs
      simp only [Option.ite_none_right_eq_some, newExact, Option.some.injEq, Prod.mk.injEq] at hb
      obtain ⟨hp, rfl, rfl⟩ := hb
      obtain ⟨E', w', h1, h2⟩ := alloc_sound (P := P) H hev hA hcs hp
      exact OpRes.value (execOp_value rfl h1) h2 (by rw [Sc_ptr]; exact .inr ⟨Nat.le_refl _, by dsimp only; omega⟩)
    · simp at hb
  | box t x =>
    simp only [astep, newExact, Option.some.injEq, Prod.mk.injEq] at hb
    obtain ⟨rfl, rfl⟩ := hb
    obtain ⟨x1, x2⟩ := hop x (by simp [Op.operands])
    obtain ⟨E', w', h1, h2⟩ := box_sound (P := P) H hev hA (t := t) x2
    rw [← x1] at h1
    exact OpRes.value (execOp_value rfl h1) h2 (by rw [Sc_ptr]; exact .inr ⟨Nat.le_refl _, by dsimp only; omega⟩)
  | build t ps =>
    simp only [astep] at hb
    have hps : ∀ p ∈ ps, a.eval p.2 = ren E (aeval tm p.2) ∧ Sc A (aeval tm p.2) := fun p hp => hop p.2 (by simp only [Op.operands, List.mem_toArray, List.mem_map]; exact ⟨p, by simpa using hp, rfl⟩)
    split at hb
    · rename_i z v' hz hv
      simp only [Option.ite_none_right_eq_some, Option.some.injEq, Prod.mk.injEq] at hb
      obtain ⟨hp, rfl, rfl⟩ := hb
      obtain ⟨h1, h2⟩ := build_sound (E := E) hz hp hv (aparts_sc fun p hp => (hps p hp).2)
      refine OpRes.still H (execOp_value (s := Instr.build t (ps.map fun (i, x) => (i, a.eval x))) rfl ?_) h2
      rw [aparts_eq fun p hp => (hps p hp).1]
      exact run_purely h1 w
    · simp at hb
  | buildSlice t n ps =>
    simp only [astep] at hb
    have hps : ∀ p ∈ ps, a.eval p.2 = ren E (aeval tm p.2) ∧ Sc A (aeval tm p.2) := fun p hp => hop p.2 (by simp only [Op.operands, List.mem_toArray, List.mem_map]; exact ⟨p, by simpa using hp, rfl⟩)
    obtain ⟨E', w', h1, h2, h3⟩ := buildSlice_sound (P := P) H hev hb hA (aparts_sc fun p hp => (hps p hp).2)
    rw [← aparts_eq fun p hp => (hps p hp).1] at h1
    exact OpRes.value (execOp_value rfl h1) h2 h3
  | load t x =>
    simp only [astep] at hb
    obtain ⟨x1, x2⟩ := hop x (by simp [Op.operands])
    split at hb
    · rename_i v' hv
      simp only [Option.some.injEq, Prod.mk.injEq] at hb; obtain ⟨rfl, rfl⟩ := hb
      obtain ⟨h1, h2⟩ := aload_sound H hv
      rw [← x1] at h1
      exact OpRes.still H (execOp_value rfl h1) h2
    · simp at hb
  | store t x y =>
    simp only [astep] at hb
    obtain ⟨x1, x2⟩ := hop x (by simp [Op.operands])
    obtain ⟨y1, y2⟩ := hop y (by simp [Op.operands])
    split at hb
    · rename_i h' hs
      simp only [Option.some.injEq, Prod.mk.injEq] at hb; obtain ⟨rfl, rfl⟩ := hb
      obtain ⟨w', h1, h2⟩ := astore_sound H hs y2 S.next
      rw [← x1, ← y1] at h1
      exact OpRes.skip (execOp_skip rfl h1) h2
    · simp at hb
  | nilCheck x =>
    simp only [astep] at hb
    obtain ⟨x1, x2⟩ := hop x (by simp [Op.operands])
    split at hb
    · rename_i p hp
      simp only [Option.some.injEq, Prod.mk.injEq] at hb; obtain ⟨rfl, rfl⟩ := hb
      rw [hp] at x1 x2
      rw [ren_ptr] at x1
      refine OpRes.still H ?_ x2
      simp only [execOp, x1, ren_ptr]
      rfl
    · simp at hb
  | binOp op t x y yt =>
    simp only [astep] at hb
    obtain ⟨x1, x2⟩ := hop x (by simp [Op.operands])
    obtain ⟨y1, y2⟩ := hop y (by simp [Op.operands])
    split at hb
    · rename_i hpl
      simp only [Bool.and_eq_true] at hpl
      split at hb
      · rename_i v' hv
        simp only [Option.some.injEq, Prod.mk.injEq] at hb; obtain ⟨rfl, rfl⟩ := hb
        refine hpure (fun z hz => ?_) (by simp) hv
        simp only [Op.operands, List.mem_toArray, List.mem_cons, List.not_mem_nil, or_false] at hz
        rcases hz with rfl | rfl
        · exact hpl.1
        · exact hpl.2
      · simp at hb
    · split at hb
      · rename_i b he
        simp only [Option.some.injEq, Prod.mk.injEq] at hb; obtain ⟨rfl, rfl⟩ := hb
        obtain ⟨s1, s2, s3, s4⟩ := aeql_shape (E := E) he
        refine OpRes.still H (execOp_value (s := do eqGuard .eql t x y (a.eval x) (a.eval y); Go.binOp .eql t (a.eval x) (a.eval y)) rfl ?_) (Sc_bool _ _)
        rw [x1, y1, s3, ren_bool]
        simp only [Sem.run_bind, eqGuard_ptr s1 s2, Result.andThen_ok, aeql_sound he, Sem.run_pure]
      · rename_i b he
        simp only [Option.some.injEq, Prod.mk.injEq] at hb; obtain ⟨rfl, rfl⟩ := hb
        obtain ⟨s1, s2, s3, s4⟩ := aeql_shape (E := E) he
        refine OpRes.still H (execOp_value (s := do eqGuard .neq t x y (a.eval x) (a.eval y); Go.binOp .neq t (a.eval x) (a.eval y)) rfl ?_) (Sc_bool _ _)
        rw [x1, y1, s4, ren_bool]
        simp only [Sem.run_bind, eqGuard_ptr s1 s2, Result.andThen_ok, aeql_sound he, Sem.run_pure]
      · simp at hb
  | unOp op t x =>
    simp only [astep] at hb
    split at hb
    · rename_i hpl
      split at hb
      · rename_i v' hv
        simp only [Option.some.injEq, Prod.mk.injEq] at hb; obtain ⟨rfl, rfl⟩ := hb
        refine hpure (fun z hz => ?_) (by simp) hv
        simp only [Op.operands, List.mem_toArray, List.mem_cons, List.not_mem_nil, or_false] at hz
        subst hz; exact hpl
      · simp at hb
    · simp at hb
  | makeInterface t x =>
    simp only [astep] at hb
    obtain ⟨x1, x2⟩ := hop x (by simp [Op.operands])
    split at hb
    · simp at hb
    · rename_i d hu hd
      simp only [Option.some.injEq, Prod.mk.injEq] at hb; obtain ⟨rfl, rfl⟩ := hb
      refine OpRes.still H (execOp_value (s := Instr.makeInterface t (a.eval x)) rfl ?_) (by rw [Sc_iface]; exact x2)
      rw [x1, ren_iface]
      simp only [Instr.makeInterface, Sem.run_bind, run_underlying hd, Result.andThen_ok]
      rfl
    · simp at hb
  | makeFunc fn first captured =>
    simp only [astep, Option.some.injEq, Prod.mk.injEq] at hb; obtain ⟨rfl, rfl⟩ := hb
    have hf : ∀ x ∈ first, a.eval x = ren E (aeval tm x) ∧ Sc A (aeval tm x) := fun x hx => hop x (by simp [Op.operands, hx])
    have hc : ∀ x ∈ captured, a.eval x = ren E (aeval tm x) ∧ Sc A (aeval tm x) := fun x hx => hop x (by simp [Op.operands, hx])
    refine OpRes.still H (execOp_value (s := Instr.makeFunc fn (first.map a.eval) (captured.map a.eval)) rfl ?_) ?_
    · rw [args_eq fun x hx => (hf x hx).1, args_eq fun x hx => (hc x hx).1, ren_func]
      simp [Instr.makeFunc]
    · rw [Sc_func]
      constructor
      · intro x hx
        simp only [List.mem_toArray, List.mem_map] at hx
        obtain ⟨y, hy, rfl⟩ := hx
        exact (hf y (by simpa using hy)).2
      · intro x hx
        simp only [List.mem_toArray, List.mem_map] at hx
        obtain ⟨y, hy, rfl⟩ := hx
        exact (hc y (by simpa using hy)).2
  | makeSlice t l c =>
    simp only [astep] at hb
    obtain ⟨l1, l2⟩ := hop l (by simp [Op.operands])
    obtain ⟨c1, c2⟩ := hop c (by simp [Op.operands])
    obtain ⟨E', w', h1, h2, h3⟩ := makeSlice_sound (P := P) H hev hb hA
    rw [← l1, ← c1] at h1
    exact OpRes.value (execOp_value rfl h1) h2 h3
  | fieldAddr t x f =>
    simp only [astep] at hb
    obtain ⟨x1, x2⟩ := hop x (by simp [Op.operands])
    split at hb
    · rename_i v' hv
      simp only [Option.some.injEq, Prod.mk.injEq] at hb; obtain ⟨rfl, rfl⟩ := hb
      obtain ⟨h1, h2⟩ := fieldAddr_sound (E := E) hv x2 w
      rw [← x1] at h1
      exact OpRes.still H (execOp_value rfl h1) h2
    · simp at hb
  | indexAddr t x i =>
    simp only [astep] at hb
    obtain ⟨x1, x2⟩ := hop x (by simp [Op.operands])
    obtain ⟨i1, i2⟩ := hop i (by simp [Op.operands])
    split at hb
    · rename_i v' hv
      simp only [Option.some.injEq, Prod.mk.injEq] at hb; obtain ⟨rfl, rfl⟩ := hb
      obtain ⟨h1, h2⟩ := indexAddr_sound (E := E) hv x2 w
      rw [← x1, ← i1] at h1
      exact OpRes.still H (execOp_value rfl h1) h2
    · simp at hb
  | field t x f =>
    simp only [astep] at hb
    obtain ⟨x1, x2⟩ := hop x (by simp [Op.operands])
    split at hb
    · rename_i v' hv
      simp only [Option.some.injEq, Prod.mk.injEq] at hb; obtain ⟨rfl, rfl⟩ := hb
      obtain ⟨h1, h2⟩ := field_sound (E := E) hv x2
      rw [← x1] at h1
      exact OpRes.still H (execOp_value rfl (run_purely h1 w)) h2
    · simp at hb
  | index t x i =>
    simp only [astep] at hb
    obtain ⟨x1, x2⟩ := hop x (by simp [Op.operands])
    obtain ⟨i1, i2⟩ := hop i (by simp [Op.operands])
    split at hb
    · rename_i v' hv
      simp only [Option.some.injEq, Prod.mk.injEq] at hb; obtain ⟨rfl, rfl⟩ := hb
      obtain ⟨h1, h2⟩ := index_sound (E := E) hv x2
      rw [← x1, ← i1] at h1
      exact OpRes.still H (execOp_value rfl (run_purely h1 w)) h2
    · simp at hb
  | extract x i =>
    simp only [astep] at hb
    obtain ⟨x1, x2⟩ := hop x (by simp [Op.operands])
    split at hb
    · rename_i v' hv
      simp only [Option.some.injEq, Prod.mk.injEq] at hb; obtain ⟨rfl, rfl⟩ := hb
      obtain ⟨h1, h2⟩ := extract_sound (E := E) hv x2
      rw [← x1] at h1
      exact OpRes.still H (execOp_value rfl (run_purely h1 w)) h2
    · simp at hb
  | lookup t x i ok =>
    simp only [astep] at hb
    obtain ⟨x1, x2⟩ := hop x (by simp [Op.operands])
    obtain ⟨i1, i2⟩ := hop i (by simp [Op.operands])
    split at hb
    · rename_i v' hv
      simp only [Option.some.injEq, Prod.mk.injEq] at hb; obtain ⟨rfl, rfl⟩ := hb
      obtain ⟨h1, h2⟩ := lookup_sound H hv
      rw [← x1, ← i1] at h1
      exact OpRes.still H (execOp_value rfl h1) h2
    · simp at hb
  | mapUpdate t m k x =>
    simp only [astep] at hb
    obtain ⟨m1, m2⟩ := hop m (by simp [Op.operands])
    obtain ⟨k1, k2⟩ := hop k (by simp [Op.operands])
    obtain ⟨x1, x2⟩ := hop x (by simp [Op.operands])
    split at hb
    · rename_i S'' hs
      simp only [Option.some.injEq, Prod.mk.injEq] at hb; obtain ⟨rfl, rfl⟩ := hb
      obtain ⟨w', h1, h2⟩ := mapUpdate_sound H hs x2
      rw [← m1, ← k1, ← x1] at h1
      exact OpRes.skip (execOp_skip rfl h1) h2
    · simp at hb
  | insert t m k x =>
    simp only [astep] at hb
    obtain ⟨m1, m2⟩ := hop m (by simp [Op.operands])
    obtain ⟨k1, k2⟩ := hop k (by simp [Op.operands])
    obtain ⟨x1, x2⟩ := hop x (by simp [Op.operands])
    split at hb
    · rename_i S'' hs
      simp only [Option.some.injEq, Prod.mk.injEq] at hb; obtain ⟨rfl, rfl⟩ := hb
      obtain ⟨w', h1, h2⟩ := mapUpdate_sound H hs x2
      rw [← m1, ← k1, ← x1] at h1
      exact OpRes.skip (execOp_skip rfl h1) h2
    · simp at hb
  | makeMap t r =>
    cases r with
    | some _ => simp [astep] at hb
    | none =>
      simp only [astep, newExact, Option.some.injEq, Prod.mk.injEq] at hb
      obtain ⟨rfl, rfl⟩ := hb
      refine OpRes.value (E' := E.bind S.next w.heap.size 0 0) (w' := w.alloc (.map #[] 0)) (execOp_value (s := Instr.makeMap t none) rfl ?_) ?_ (by rw [Sc_map]; exact .inr ⟨Nat.le_refl _, by dsimp only; omega⟩)
      · simp [Instr.makeMap, ren_map, Env.bind]
      · exact Post.new H hA ⟨Nat.le_refl _, by omega⟩ (by intro x hx; simp at hx) (by simp [BlkRel]) rfl rfl rfl rfl
  | slice t x lo hi mx =>
    cases mx with
    | some _ => simp [astep] at hb
    | none =>
      simp only [astep] at hb
      obtain ⟨x1, x2⟩ := hop x (by simp [Op.operands])
      have hlo : lo.map a.eval = (lo.map (aeval tm)).map (ren E) := by
        cases lo with
        | none => rfl
        | some y => simp [(hop y (by simp [Op.operands])).1]
      have hhi : hi.map a.eval = (hi.map (aeval tm)).map (ren E) := by
        cases hi with
        | none => rfl
        | some y => simp [(hop y (by simp [Op.operands])).1]
      split at hb
      · split at hb
        · rename_i hpl
          split at hb
          · rename_i v' hv
            simp only [Option.some.injEq, Prod.mk.injEq] at hb; obtain ⟨rfl, rfl⟩ := hb
            exact hpure (fun z hz => plainOperands_mem hpl z (by simpa [Op.operands] using hz)) (by simp) hv
          · simp at hb
        · simp at hb
      · split at hb
        · rename_i hpl
          split at hb
          · rename_i v' hv
            simp only [Option.some.injEq, Prod.mk.injEq] at hb; obtain ⟨rfl, rfl⟩ := hb
            exact hpure (fun z hz => plainOperands_mem hpl z (by simpa [Op.operands] using hz)) (by simp) hv
          · simp at hb
        · simp at hb
      · split at hb
        · rename_i v' hv
          simp only [Option.some.injEq, Prod.mk.injEq] at hb; obtain ⟨rfl, rfl⟩ := hb
          obtain ⟨h1, h2⟩ := slice_sound H hv x2
          rw [← x1, ← hlo, ← hhi] at h1
          exact OpRes.still H (execOp_value rfl h1) h2
        · simp at hb
  | convert s d x =>
    simp only [astep] at hb
    obtain ⟨x1, x2⟩ := hop x (by simp [Op.operands])
    have hpx : ∀ {v : Value}, plain (aeval tm x) = true → apure P tm ⟨dst, .convert s d x, ty, pos, after, guard⟩ = some v → OpRes P E A ⟨dst, .convert s d x, ty, pos, after, guard⟩ a S.heap S.next w v S.heap S.next :=
      fun h1 h2 => hpure (fun z hz => by simp only [Op.operands, List.mem_toArray, List.mem_cons, List.not_mem_nil, or_false] at hz; subst hz; exact h1) (by simp) h2
    split at hb
    · rename_i b e hx hs hd
      split at hb
      · rename_i hu hs1
        simp only [Option.some.injEq] at hb
        have hv : v = (atoBytes S e b).1 := by rw [hb]
        have hS : S' = (atoBytes S e b).2 := by rw [hb]
        subst hv hS
        obtain ⟨E', w', h1, h2, h3⟩ := toBytes_sound (P := P) H hev hA hs1 (s := b)
        refine OpRes.value (execOp_value (s := Go.convert s d (a.eval x)) rfl ?_) h2 h3
        rw [x1, hx, ren_string]
        simp only [Go.convert, Sem.run_bind, run_underlying hs, run_underlying hd, Result.andThen_ok, run_underlying hu, h1]
      · simp at hb
    · rename_i e hs hd
      split at hb
      · rename_i hu
        split at hb
        · rename_i v' hv
          simp only [Option.some.injEq, Prod.mk.injEq] at hb; obtain ⟨rfl, rfl⟩ := hb
          obtain ⟨h1, h2⟩ := toString_sound (P := P) H hv
          refine OpRes.still H (execOp_value (s := Go.convert s d (a.eval x)) rfl ?_) h2
          rw [x1]
          have hsh : ∃ q l c, aeval tm x = .slice q l c := by
            unfold atoString at hv
            split at hv
            · rename_i hq; exact ⟨_, _, _, hq⟩
            · rename_i hq; exact ⟨_, _, _, hq⟩
            · simp at hv
          obtain ⟨q, l, c, hq⟩ := hsh
          have hrs : ∃ q' c', ren E (aeval tm x) = .slice q' l c' := by
            rw [hq]; cases q with
            | none => exact ⟨_, _, ren_nilslice _ _ _⟩
            | some q => exact ⟨_, _, ren_slice _ _ _ _⟩
          obtain ⟨q', c', hrs⟩ := hrs
          rw [hrs] at h1 ⊢
          rw [run_convert_bytes_string w s d e q' l c' hs hu hd, h1]
        · simp at hb
      · simp at hb
    · rename_i t hs hd
      split at hb
      · rename_i v' hv
        simp only [Option.some.injEq, Prod.mk.injEq] at hb; obtain ⟨rfl, rfl⟩ := hb
        obtain ⟨h1, rfl⟩ := toUnsafe_sound H hs hd hv
        exact OpRes.still H (execOp_value (s := Go.convert s d (a.eval x)) rfl (by rw [x1]; exact h1)) x2
      · simp at hb
    · rename_i u hs hd
      split at hb
      · rename_i v' hv
        simp only [Option.some.injEq, Prod.mk.injEq] at hb; obtain ⟨rfl, rfl⟩ := hb
        obtain ⟨h1, rfl⟩ := fromUnsafe_sound H hs hd hv
        exact OpRes.still H (execOp_value (s := Go.convert s d (a.eval x)) rfl (by rw [x1]; exact h1)) x2
      · simp at hb
    · simp only [Option.ite_none_right_eq_some] at hb
      obtain ⟨hpl, hb⟩ := hb
      split at hb
      · rename_i v' hv
        simp only [Option.some.injEq, Prod.mk.injEq] at hb; obtain ⟨rfl, rfl⟩ := hb
        exact hpx hpl hv
      · simp at hb
  | call c =>
    simp only [astep] at hb
    have harg : ∀ x ∈ c.args, a.eval x = ren E (aeval tm x) ∧ Sc A (aeval tm x) := fun x hx => hop x (by simp [Op.operands, Call.operands, hx])
    have hbi : ∀ (b : Builtin), c.callee = .builtin b → execOp a.eval ⟨dst, .call c, ty, pos, after, guard⟩ = Go.builtin b c.argTypes ty (c.args.map fun | .const _ => true | _ => false) ((c.args.toList.map (aeval tm)).map (ren E)).toArray := by
      intro b hc
      simp only [execOp, resolve_builtin hc (fun x hx => (harg x hx).1)]
      rfl
    have hpl : ∀ {v : Value} (b : Builtin), c.callee = .builtin b → plainOperands tm c.args.toList = true → apure P tm ⟨dst, .call c, ty, pos, after, guard⟩ = some v → OpRes P E A ⟨dst, .call c, ty, pos, after, guard⟩ a S.heap S.next w v S.heap S.next := by
      intro v b hc h1 h2
      refine hpure (fun z hz => plainOperands_mem h1 z ?_) (by simp) h2
      simpa [Op.operands, Call.operands, hc] using hz
    split at hb
    · rename_i x y hc hxs
      have hx : x ∈ c.args := by
        have : x ∈ c.args.toList := by rw [hxs]; simp
        simpa using this
      obtain ⟨E', w', h1, h2, h3⟩ := aappend_sound (P := P) H hev (ty := ty) hb hA (harg x hx).2
      refine OpRes.value (execOp_value (s := Builtin.append_ c.argTypes ty ((c.args.toList.map (aeval tm)).map (ren E)).toArray) (hbi _ hc) ?_) h2 h3
      rw [hxs]; exact h1
    · rename_i x y hc hxs
      obtain ⟨w', h1, h2, h3⟩ := copy_sound (P := P) H (ty := ty) hb
      have : S'.next = S.next := by
        unfold acopy at hb
        repeat' (first | (split at hb) | skip)
        all_goals first | (simp at hb; done) | (dsimp only at hb; repeat' (split at hb)) | skip
        all_goals first | (simp at hb; done) | (simp only [Option.some.injEq, Prod.mk.injEq] at hb; obtain ⟨_, rfl⟩ := hb; rfl) | skip
      refine OpRes.value (execOp_value (s := Builtin.copy_ c.argTypes ty ((c.args.toList.map (aeval tm)).map (ren E)).toArray) (hbi _ hc) ?_) h2 (Sc_or h3)
      rw [hxs]; exact h1
    · rename_i x hc hxs
      have hx : x ∈ c.args := by
        have : x ∈ c.args.toList := by rw [hxs]; simp
        simpa using this
      split at hb
      · rename_i v' hv
        simp only [Option.some.injEq, Prod.mk.injEq] at hb; obtain ⟨rfl, rfl⟩ := hb
        obtain ⟨h1, h2⟩ := alen_sound (P := P) H (ty := ty) hv
        refine OpRes.still H (execOp_value (s := Builtin.len_ c.argTypes ty ((c.args.toList.map (aeval tm)).map (ren E)).toArray) (hbi _ hc) ?_) h2
        rw [hxs]; exact h1
      · simp only [Option.ite_none_right_eq_some] at hb
        obtain ⟨h1, hb⟩ := hb
        split at hb
        · rename_i v' hv
          simp only [Option.some.injEq, Prod.mk.injEq] at hb; obtain ⟨rfl, rfl⟩ := hb
          exact hpl _ hc (by rw [hxs]; exact h1) hv
        · simp at hb
    · rename_i x hc hxs
      split at hb
      · rename_i v' hv
        simp only [Option.some.injEq, Prod.mk.injEq] at hb; obtain ⟨rfl, rfl⟩ := hb
        obtain ⟨h1, h2⟩ := acap_sound (P := P) (E := E) (A := A) (ty := ty) hv w
        refine OpRes.still H (execOp_value (s := Builtin.cap_ c.argTypes ty ((c.args.toList.map (aeval tm)).map (ren E)).toArray) (hbi _ hc) ?_) h2
        rw [hxs]; exact h1
      · simp only [Option.ite_none_right_eq_some] at hb
        obtain ⟨h1, hb⟩ := hb
        split at hb
        · rename_i v' hv
          simp only [Option.some.injEq, Prod.mk.injEq] at hb; obtain ⟨rfl, rfl⟩ := hb
          exact hpl _ hc (by rw [hxs]; exact h1) hv
        · simp at hb
    · rename_i x hc hxs
      have hx : x ∈ c.args := by
        have : x ∈ c.args.toList := by rw [hxs]; simp
        simpa using this
      split at hb
      · rename_i v' hv
        simp only [Option.some.injEq, Prod.mk.injEq] at hb; obtain ⟨rfl, rfl⟩ := hb
        obtain ⟨h1, h2⟩ := asliceData_sound (P := P) H (ts := c.argTypes) (ty := ty) hv (harg x hx).2
        refine OpRes.still H (execOp_value (s := Builtin.unsafeSliceData_ c.argTypes ty ((c.args.toList.map (aeval tm)).map (ren E)).toArray) (hbi _ hc) ?_) h2
        rw [hxs]; exact h1
      · simp at hb
    · rename_i x y hc hxs
      obtain ⟨w', h1, h2, h3⟩ := unsafeString_sound (P := P) H (ty := ty) hb
      refine OpRes.value (execOp_value (s := Builtin.unsafeString_ c.argTypes ty ((c.args.toList.map (aeval tm)).map (ren E)).toArray) (hbi _ hc) ?_) h2 (Sc_or h3)
      rw [hxs]; exact h1
    · rename_i hc
      simp only [Option.ite_none_right_eq_some] at hb
      obtain ⟨h1, hb⟩ := hb
      split at hb
      · rename_i v' hv
        simp only [Option.some.injEq, Prod.mk.injEq] at hb; obtain ⟨rfl, rfl⟩ := hb
        exact hpl _ hc h1 hv
      · simp at hb
    · rename_i hc
      simp only [Option.ite_none_right_eq_some] at hb
      obtain ⟨h1, hb⟩ := hb
      split at hb
      · rename_i v' hv
        simp only [Option.some.injEq, Prod.mk.injEq] at hb; obtain ⟨rfl, rfl⟩ := hb
        exact hpl _ hc h1 hv
      · simp at hb
    · rename_i f hc
      have hf := hop f (by simp [Op.operands, Call.operands, hc])
      split at hb
      · rename_i g first captured hfv
        rw [hfv, ren_func] at hf
        have hex : execOp a.eval ⟨dst, .call c, ty, pos, after, guard⟩ = callFunc g (first.map (ren E) ++ ((c.args.toList.map (aeval tm)).map (ren E)).toArray ++ captured.map (ren E)) := by
          simp only [execOp, resolve_value hc hf.1 (fun x hx => (harg x hx).1)]
          rfl
        split at hb
        · simp at hb
        · rename_i fn hfn
          split at hb
          · rename_i bd hbd
            refine call_sound hcf hg hev H (Sc_func_append hf.2 ?_) hA hb ?_
            · intro x hx
              obtain ⟨y, hy, rfl⟩ := List.mem_map.1 hx
              exact (harg y (by simpa using hy)).2
            · rw [hex, run_callFunc_body hfn (by rw [hbd]; rfl) (hnm g fn hfn (by rw [hbd]; rfl))]
              congr 2
              apply Array.ext'
              simp
          · rename_i hbd
            split at hb
            · rename_i hcond
              simp only [Bool.and_eq_true, beq_iff_eq] at hcond
              obtain ⟨⟨⟨q1, q2⟩, q3⟩, q4⟩ := hcond
              split at hb
              · rename_i x hxs
                simp only [Option.some.injEq, Prod.mk.injEq] at hb; obtain ⟨rfl, rfl⟩ := hb
                have hx : x ∈ c.args := by
                  have : x ∈ c.args.toList := by rw [hxs]; simp
                  simpa using this
                have e1 : first = #[] := by apply Array.ext'; simpa using q1
                have e2 : captured = #[] := by apply Array.ext'; simpa using q2
                refine OpRes.still H ?_ (harg x hx).2
                rw [hex, hxs, e1, e2]
                simpa using run_callFunc_noEscape (P := P) (x := ren E (aeval tm x)) hfn hbd q3 q4 w
              · simp at hb
            · split at hb
              · rename_i hcond
                simp only [Bool.and_eq_true, beq_iff_eq] at hcond
                obtain ⟨⟨⟨q1, q2⟩, q3⟩, q4⟩ := hcond
                split at hb
                · rename_i x t hxs hrt
                  have e1 : first = #[] := by apply Array.ext'; simpa using q1
                  have e2 : captured = #[] := by apply Array.ext'; simpa using q2
                  have hr0 : fn.resultTypes = #[t] := by apply Array.ext'; simpa using hrt
                  obtain ⟨E', w', h1, h2, h3⟩ := makeNoZero_sound (P := P) H hev (ps := fn.params) hb hA
                  refine OpRes.value ?_ h2 h3
                  rw [hex, hxs, e1, e2]
                  simpa using run_callFunc_makeNoZero (P := P) hfn hbd q3 q4 (by rw [hr0]; exact h1)
                · simp at hb
              · simp only [Option.ite_none_right_eq_some, Bool.and_eq_true] at hb
                obtain ⟨⟨⟨h1, q1⟩, q2⟩, hb⟩ := hb
                split at hb
                · rename_i v' hv
                  simp only [Option.some.injEq, Prod.mk.injEq] at hb; obtain ⟨rfl, rfl⟩ := hb
                  refine hpure (fun z hz => ?_) (by simp) hv
                  simp only [Op.operands, Call.operands, hc, Array.mem_append, List.mem_toArray, List.mem_cons, List.not_mem_nil, or_false] at hz
                  rcases hz with rfl | hz
                  · rw [hfv]; simp only [plain, plain2, plain1, Bool.and_eq_true]; exact ⟨q1, q2⟩
                  · exact plainOperands_mem h1 z (by simpa using hz)
                · simp at hb
      · simp at hb
    · simp at hb
  | _ => simp [astep] at hb

end
end Go.Dam
