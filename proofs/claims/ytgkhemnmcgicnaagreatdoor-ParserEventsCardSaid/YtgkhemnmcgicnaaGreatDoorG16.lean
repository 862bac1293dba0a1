/- An own evaluator of closed runs of a program, proved sound against the model: one part of it. -/
import Derived.Test.YtgkhemnmcgicnaaGreatDoorG15
import Derived.Test.YtgkhemnmcgicnaaGreatDoorG13
namespace Go.Dam
section
variable {P : Program} {E : Env} {A : Nat -> Prop} {tm : List Value} {a : Act} {w : World}
def NamesOk (P : Program) : Prop := ∀ (g : FuncId) (fn : Func), P.funcs[g]? = some fn -> fn.body.isSome = true -> okName fn = true
theorem run_seenAt {b off : Nat} {cc : Array Value} {e : TypeId} {fz : Nat × Nat} (hg : w.heap[b]? = some (.cells cc e fz)) : (Conv.seenAt ⟨b, off, none⟩).run P w = .ok ⟨b, off, none⟩ w := by
 have hsh : w.shape? b = some (e, cc.size) := by simp [World.shape?, hg]
 simp [Conv.seenAt, viewAt, hsh]
theorem toUnsafe_sound {h : List (Nat × Obj)} (H : Holds P E A h w) {s d t : TypeId} {x v : Value} (hs : P.underlying s = some (.pointer t)) (hd : P.underlying d = some .unsafePointer) (hb : atoUnsafe P h t x = some v) :
  (Go.convert s d (ren E x)).run P w = .ok (ren E v) w /\ v = x := by
 unfold atoUnsafe at hb
 split at hb
 ·rename_i n off
  split at hb
  ·rename_i c e fz sz hg hsz
   simp only [Option.ite_none_right_eq_some, Option.some.injEq, Bool.and_eq_true] at hb
   obtain ⟨⟨h1, h2⟩, rfl⟩ := hb
   have h1 : off < c.size := Nat.le_of_ble_eq_true h1
   have h2 : 0 < sz := Nat.le_of_ble_eq_true h2
   obtain ⟨cc, fzc, g1, _, _, _, _, g6⟩ := H.cells hg
   have hsh : w.shape? (E.β n) = some (e, cc.size) := by simp [World.shape?, g1]
   have hn : ¬ (cc.size <= E.σ n + off) := by omega
   have hz : sz ≠ 0 := by omega
   refine ⟨?_, rfl⟩
   rw [ren_ptr]
   simp [Go.convert, Conv.unsafePointer, run_underlying hs, run_underlying hd, Env.addr, run_seenAt g1, cellsIn, hsh, hn, run_sizeT hsz, hz]
  ·simp at hb
 ·simp at hb
theorem fromUnsafe_sound {h : List (Nat × Obj)} (H : Holds P E A h w) {s d u : TypeId} {x v : Value} (hs : P.underlying s = some .unsafePointer) (hd : P.underlying d = some (.pointer u)) (hb : afromUnsafe P h u x = some v) :
  (Go.convert s d (ren E x)).run P w = .ok (ren E v) w /\ v = x := by
 unfold afromUnsafe at hb
 split at hb
 ·rename_i n
  split at hb
  ·rename_i c e fz sz hg hsz
   simp only [Option.ite_none_right_eq_some, Option.some.injEq, Bool.and_eq_true] at hb
   obtain ⟨⟨⟨⟨h0, h1⟩, h2⟩, h3⟩, rfl⟩ := hb
   obtain rfl : e = u := by simpa using h1
   have h2 : 0 < sz := Nat.le_of_ble_eq_true h2
   have h3 := Nat.le_of_ble_eq_true h3
   have hrow : isRow n = false := by simpa using h0
   obtain ⟨_, _, oc, hoc, hr⟩ := H.blk n _ hg
   simp only [BlkRel, hrow] at hr
   obtain ⟨r1, rfl⟩ := hr
   have hsh : w.shape? (E.β n) = some (e, c.size) := by simp [World.shape?, hoc]
   have hz : sz ≠ 0 := by omega
   have hco : P.cellsOf e = sz := by unfold sizeT at hsz; unfold Program.cellsOf; rw [hsz]; rfl
   have hdp : P.depth = (2 * (P.types.size + Made.depth) + 1) + 1 := rfl
   have hlies : liesAt P P.depth e (c.size / sz) 0 e 1 = true := by
    rw [hdp]
    simp only [liesAt, Bool.or_eq_true]
    left
    rw [hdp]
    have : 1 <= c.size / sz := (Nat.le_div_iff_mul_le h2).2 (by omega)
    simp [rowAt, hco, hz, sameLayout, this]
   have hva : (variablesAt ⟨E.β n, 0, none⟩ e 1).run P w = .ok true w := by
    simp only [variablesAt, Sem.run_bind, run_program, Result.andThen_ok, run_shape, hsh, Sem.run_pure, hco, hlies]
   refine ⟨?_, rfl⟩
   rw [ren_ptr]
   simp [Go.convert, Conv.unsafePointer, run_underlying hs, run_underlying hd, Env.addr, r1, run_seenAt hoc, run_sizeT hsz, hz, hva]
  ·simp at hb
 ·simp at hb
theorem alen_sound {h : List (Nat × Obj)} (H : Holds P E A h w) {args : Array TypeId} {ty : TypeId} {x v : Value} (hb : alen P h args x = some v) :
  (Builtin.len_ args ty #[ren E x]).run P w = .ok (ren E v) w /\ Sc A v := by
 unfold alen at hb
 split at hb
 ·rename_i t hargs
  obtain rfl : args = #[t] := by apply Array.ext'; simpa using hargs
  split at hb
  ·rename_i q n cp e hu
   simp only [Option.some.injEq] at hb; subst hb
   rw [ren_slice, ren_int]
   exact ⟨by simp [Builtin.len_, run_underlying hu, goInt], Sc_int _ _ _⟩
  ·rename_i n k e hu
   split at hb
   ·rename_i es clock hg
    simp only [Option.ite_none_left_eq_some, Option.some.injEq, Bool.not_eq_true] at hb
    obtain ⟨hloose, rfl⟩ := hb
    obtain ⟨m1, _, _⟩ := H.mapAt hg hloose
    rw [ren_map, ren_int]
    exact ⟨by simp [Builtin.len_, run_underlying hu, run_getObj_map m1, goInt], Sc_int _ _ _⟩
   ·simp at hb
  ·simp at hb
 ·simp at hb
theorem acap_sound {args : Array TypeId} {ty : TypeId} {x v : Value} (hb : acap P args x = some v) (w : World) :
  (Builtin.cap_ args ty #[ren E x]).run P w = .ok (ren E v) w /\ Sc A v := by
 unfold acap at hb
 split at hb
 ·rename_i t hargs
  obtain rfl : args = #[t] := by apply Array.ext'; simpa using hargs
  split at hb
  ·rename_i q n cp e hu
   split at hb
   ·simp at hb
   ·rename_i hrow
    simp only [Option.some.injEq] at hb; subst hb
    rw [ren_slice, ren_int, if_neg hrow]
    exact ⟨by simp [Builtin.cap_, run_underlying hu, goInt], Sc_int _ _ _⟩
  ·simp at hb
 ·simp at hb
theorem asliceData_sound {h : List (Nat × Obj)} (H : Holds P E A h w) {ts : Array TypeId} {ty : TypeId} {x v : Value} (hb : asliceData P h x = some v) (hs : Sc A x) :
  (Builtin.unsafeSliceData_ ts ty #[ren E x]).run P w = .ok (ren E v) w /\ Sc A v := by
 unfold asliceData at hb
 split at hb
 ·simp only [Option.some.injEq] at hb; subst hb
  rw [ren_nilslice, ren_nilptr]
  exact ⟨rfl, Sc_nilptr _⟩
 ·rename_i n off len cp
  have hAn : A n := (Sc_slice A _ _ _).1 hs
  rw [ren_slice]
  split at hb
  ·rename_i hrow
   split at hb
   ·rename_i c e fz hg
    split at hb
    ·rename_i hs1
     simp only [Option.ite_none_right_eq_some, Option.some.injEq, Bool.and_eq_true] at hb
     obtain ⟨⟨h1, h2⟩, rfl⟩ := hb
     have h1 : off < c.size := Nat.le_of_ble_eq_true h1
     have h2 : off = cp := by simpa using h2
     obtain ⟨_, _, oc, _, hr⟩ := H.blk n _ hg
     simp only [BlkRel, hrow, if_true] at hr
     obtain ⟨cc, fzc, s', _, r2, _, _, r5, _⟩ := hr
     rw [hs1] at r2; obtain rfl := Option.some.inj r2
     rw [ren_ptr]
     refine ⟨?_, (Sc_ptr A _).2 hAn⟩
     simp only [hrow, if_true]
     exact Lib.run_unsafeSliceData_row w ts ty _ _ _ (by omega)
    ·simp at hb
   ·simp at hb
  ·rename_i hrow
   simp only [Option.ite_none_right_eq_some, Option.some.injEq] at hb
   obtain ⟨h1, rfl⟩ := hb
   have h1 : 0 < cp := Nat.le_of_ble_eq_true h1
   rw [ren_ptr]
   refine ⟨?_, (Sc_ptr A _).2 hAn⟩
   simp only [hrow]
   exact Lib.run_unsafeSliceData_row w ts ty _ _ _ (by simp; omega)
 ·simp at hb
theorem run_method {t : TypeId} {name : String} {f : FuncId} (h : methodA P t name = some f) (v : Value) (w : World) : (method (P.types.size + Made.depth) t v name).run P w = .ok (f, v) w := by
 unfold methodA at h
 split at h
 case h_2 => cases h
 rename_i e i hu hi
 split at h
 case h_2 => cases h
 rename_i m hm
 split at h
 case h_2 => cases h
 rename_i g hf
 simp only [Option.ite_none_right_eq_some, Option.some.injEq] at h
 obtain ⟨hp, rfl⟩ := h
 have hp' : m.path.toList = [] := by simpa using hp
 obtain ⟨k, hk⟩ : ∃ k, P.types.size + Made.depth = k + 1 := ⟨P.types.size + 99, rfl⟩
 rw [hk]
 have hti : (typeInfo t).run P w = .ok i w := by
  simp [typeInfo, hi]
 simp only [method, Sem.run_bind, hti, Result.andThen_ok, hm, hp', follow, Sem.run_pure, hf, receiverAt, run_underlying hu, Place.get]
theorem astep_sound {callF : Fn -> List Value -> St -> Option (Value × St)} (hcf : CallOk P callF) (hnm : NamesOk P) {o : Oper} {S S' : St} {v : Value} (ht : Tm E A tm a) (hg : Glb P E A) (hev : S.next % 2 = 0) (H : Holds P E A S.heap w)
  (hok : ∀ x ∈ o.op.operands, okOpd P x = true) (hA : ∀ n, A n -> ¬ (S.next <= n /\ n < S'.next)) (hb : astep callF P tm S o = some (v, S')) :
  OpRes P E A o a S.heap S.next w v S'.heap S'.next := by
 have hop : ∀ x ∈ o.op.operands, a.eval x = ren E (aeval tm x) /\ Sc A (aeval tm x) := fun x hx => eval_ok ht hg (hok x hx)
 have hpure : ∀ {v : Value}, (∀ x ∈ o.op.operands, plain (aeval tm x) = true) -> (∀ cs b, o.op ≠ .select cs b) -> apure P tm o = some v -> OpRes P E A o a S.heap S.next w v S.heap S.next :=
  fun h1 h2 h3 => OpRes.pure H (fun x hx => (hop x hx).1) h1 h2 h3
 obtain ⟨dst, op, ty, pos, after, guard⟩ := o
 cases op with
 | move x =>
  simp only [astep, Option.some.injEq, Prod.mk.injEq] at hb; obtain ⟨rfl, rfl⟩ := hb
  obtain ⟨h1, h2⟩ := hop x (by simp [Op.operands])
  exact OpRes.still H (by simp [execOp, h1]) h2
 | assign x =>
  simp only [astep, Option.some.injEq, Prod.mk.injEq] at hb; obtain ⟨rfl, rfl⟩ := hb
  obtain ⟨h1, h2⟩ := hop x (by simp [Op.operands])
  exact OpRes.still H (by simp [execOp, h1]) h2
 | pick c x y =>
  simp only [astep] at hb
  obtain ⟨c1, c2⟩ := hop c (by simp [Op.operands])
  obtain ⟨x1, x2⟩ := hop x (by simp [Op.operands])
  obtain ⟨y1, y2⟩ := hop y (by simp [Op.operands])
  split at hb
  ·rename_i d hd
   simp only [Option.some.injEq, Prod.mk.injEq] at hb; obtain ⟨rfl, rfl⟩ := hb
   rw [hd, ren_bool] at c1
   refine OpRes.still H ?_ (by cases d <;> simp [x2, y2])
   cases d <;> simp [execOp, c1, asBool, x1, y1]
  ·simp at hb
 | alloc t =>
  simp only [astep] at hb
  split at hb
  ·rename_i cs hcs
   simp only [Option.ite_none_right_eq_some, newExact, Option.some.injEq, Prod.mk.injEq] at hb
   obtain ⟨hp, rfl, rfl⟩ := hb
   obtain ⟨E', w', h1, h2⟩ := alloc_sound (P := P) H hev hA hcs hp
   exact OpRes.value (execOp_value rfl h1) h2 (by rw [Sc_ptr]; exact .inr ⟨Nat.le_refl _, by dsimp only; omega⟩)
  ·simp at hb
 | box t x =>
  simp only [astep, newExact, Option.some.injEq, Prod.mk.injEq] at hb
  obtain ⟨rfl, rfl⟩ := hb
  obtain ⟨x1, x2⟩ := hop x (by simp [Op.operands])
  obtain ⟨E', w', h1, h2⟩ := box_sound (P := P) H hev hA (t := t) x2
  rw [<- x1] at h1
  exact OpRes.value (execOp_value rfl h1) h2 (by rw [Sc_ptr]; exact .inr ⟨Nat.le_refl _, by dsimp only; omega⟩)
 | build t ps =>
  simp only [astep] at hb
  have hps : ∀ p ∈ ps, a.eval p.2 = ren E (aeval tm p.2) /\ Sc A (aeval tm p.2) := fun p hp => hop p.2 (by simp only [Op.operands, List.mem_toArray, List.mem_map]; exact ⟨p, by simpa using hp, rfl⟩)
  split at hb
  ·rename_i z v' hz hv
   simp only [Option.ite_none_right_eq_some, Option.some.injEq, Prod.mk.injEq] at hb
   obtain ⟨hp, rfl, rfl⟩ := hb
   obtain ⟨h1, h2⟩ := build_sound (E := E) hz hp hv (aparts_sc fun p hp => (hps p hp).2)
   refine OpRes.still H (execOp_value (s := Instr.build t (ps.map fun (i, x) => (i, a.eval x))) rfl ?_) h2
   rw [aparts_eq fun p hp => (hps p hp).1]
   exact run_purely h1 w
  ·simp at hb
 | buildSlice t n ps =>
  simp only [astep] at hb
  have hps : ∀ p ∈ ps, a.eval p.2 = ren E (aeval tm p.2) /\ Sc A (aeval tm p.2) := fun p hp => hop p.2 (by simp only [Op.operands, List.mem_toArray, List.mem_map]; exact ⟨p, by simpa using hp, rfl⟩)
  obtain ⟨E', w', h1, h2, h3⟩ := buildSlice_sound (P := P) H hev hb hA (aparts_sc fun p hp => (hps p hp).2)
  rw [<- aparts_eq fun p hp => (hps p hp).1] at h1
  exact OpRes.value (execOp_value rfl h1) h2 h3
 | load t x =>
  simp only [astep] at hb
  obtain ⟨x1, x2⟩ := hop x (by simp [Op.operands])
  split at hb
  ·rename_i v' hv
   simp only [Option.some.injEq, Prod.mk.injEq] at hb; obtain ⟨rfl, rfl⟩ := hb
   obtain ⟨h1, h2⟩ := aload_sound H hv
   rw [<- x1] at h1
   exact OpRes.still H (execOp_value rfl h1) h2
  ·simp at hb
 | store t x y =>
  simp only [astep] at hb
  obtain ⟨x1, x2⟩ := hop x (by simp [Op.operands])
  obtain ⟨y1, y2⟩ := hop y (by simp [Op.operands])
  split at hb
  ·rename_i h' hs
   simp only [Option.some.injEq, Prod.mk.injEq] at hb; obtain ⟨rfl, rfl⟩ := hb
   obtain ⟨w', h1, h2⟩ := astore_sound H hs y2 S.next
   rw [<- x1, <- y1] at h1
   exact OpRes.skip (execOp_skip rfl h1) h2
  ·simp at hb
 | nilCheck x =>
  simp only [astep] at hb
  obtain ⟨x1, x2⟩ := hop x (by simp [Op.operands])
  split at hb
  ·rename_i p hp
   simp only [Option.some.injEq, Prod.mk.injEq] at hb; obtain ⟨rfl, rfl⟩ := hb
   rw [hp] at x1 x2
   rw [ren_ptr] at x1
   refine OpRes.still H ?_ x2
   simp only [execOp, x1, ren_ptr]
   rfl
  ·simp at hb
 | binOp op t x y yt =>
  simp only [astep] at hb
  obtain ⟨x1, x2⟩ := hop x (by simp [Op.operands])
  obtain ⟨y1, y2⟩ := hop y (by simp [Op.operands])
  split at hb
  ·rename_i hpl
   simp only [Bool.and_eq_true] at hpl
   split at hb
   ·rename_i v' hv
    simp only [Option.some.injEq, Prod.mk.injEq] at hb; obtain ⟨rfl, rfl⟩ := hb
    refine hpure (fun z hz => ?_) (by simp) hv
    simp only [Op.operands, List.mem_toArray, List.mem_cons, List.not_mem_nil, or_false] at hz
    rcases hz with rfl | rfl
    ·exact hpl.1
    ·exact hpl.2
   ·simp at hb
  ·split at hb
   ·rename_i b he
    simp only [Option.some.injEq, Prod.mk.injEq] at hb; obtain ⟨rfl, rfl⟩ := hb
    obtain ⟨s1, s2, s3, s4⟩ := aeql_shape (E := E) he
    refine OpRes.still H (execOp_value (s := do eqGuard .eql t x y (a.eval x) (a.eval y); Go.binOp .eql t (a.eval x) (a.eval y)) rfl ?_) (Sc_bool _ _)
    rw [x1, y1, s3, ren_bool]
    simp only [Sem.run_bind, eqGuard_ptr s1 s2, Result.andThen_ok, aeql_sound he, Sem.run_pure]
   ·rename_i b he
    simp only [Option.some.injEq, Prod.mk.injEq] at hb; obtain ⟨rfl, rfl⟩ := hb
    obtain ⟨s1, s2, s3, s4⟩ := aeql_shape (E := E) he
    refine OpRes.still H (execOp_value (s := do eqGuard .neq t x y (a.eval x) (a.eval y); Go.binOp .neq t (a.eval x) (a.eval y)) rfl ?_) (Sc_bool _ _)
    rw [x1, y1, s4, ren_bool]
    simp only [Sem.run_bind, eqGuard_ptr s1 s2, Result.andThen_ok, aeql_sound he, Sem.run_pure]
   ·simp at hb
 | unOp op t x =>
  simp only [astep] at hb
  split at hb
  ·rename_i hpl
   split at hb
   ·rename_i v' hv
    simp only [Option.some.injEq, Prod.mk.injEq] at hb; obtain ⟨rfl, rfl⟩ := hb
    refine hpure (fun z hz => ?_) (by simp) hv
    simp only [Op.operands, List.mem_toArray, List.mem_cons, List.not_mem_nil, or_false] at hz
    subst hz; exact hpl
   ·simp at hb
  ·simp at hb
 | makeInterface t x =>
  simp only [astep] at hb
  obtain ⟨x1, x2⟩ := hop x (by simp [Op.operands])
  split at hb
  ·simp at hb
  ·rename_i d hu hd
   simp only [Option.some.injEq, Prod.mk.injEq] at hb; obtain ⟨rfl, rfl⟩ := hb
   refine OpRes.still H (execOp_value (s := Instr.makeInterface t (a.eval x)) rfl ?_) (by rw [Sc_iface]; exact x2)
   rw [x1, ren_iface]
   simp only [Instr.makeInterface, Sem.run_bind, run_underlying hd, Result.andThen_ok]
   rfl
  ·simp at hb
 | makeFunc fn first captured =>
  have hfn : astep callF P tm S ⟨dst, .makeFunc fn first captured, ty, pos, after, guard⟩ = some (.func fn (first.toList.map (aeval tm)).toArray (captured.toList.map (aeval tm)).toArray, S) /\ renFn E fn = fn /\ ScFn A fn := by
   cases fn <;> first
    | exact ⟨rfl, rfl, trivial⟩
    | (simp [astep] at hb; done)
  rw [hfn.1] at hb
  simp only [Option.some.injEq, Prod.mk.injEq] at hb; obtain ⟨rfl, rfl⟩ := hb
  have hf : ∀ x ∈ first, a.eval x = ren E (aeval tm x) /\ Sc A (aeval tm x) := fun x hx => hop x (by simp [Op.operands, hx])
  have hc : ∀ x ∈ captured, a.eval x = ren E (aeval tm x) /\ Sc A (aeval tm x) := fun x hx => hop x (by simp [Op.operands, hx])
  refine OpRes.still H (execOp_value (s := Instr.makeFunc fn (first.map a.eval) (captured.map a.eval)) rfl ?_) ?_
  ·rw [args_eq fun x hx => (hf x hx).1, args_eq fun x hx => (hc x hx).1, ren_func, hfn.2.1]
   simp [Instr.makeFunc]
  ·rw [Sc_func]
   refine ⟨hfn.2.2, ?_, ?_⟩
   ·intro x hx
    simp only [List.mem_toArray, List.mem_map] at hx
    obtain ⟨y, hy, rfl⟩ := hx
    exact (hf y (by simpa using hy)).2
   ·intro x hx
    simp only [List.mem_toArray, List.mem_map] at hx
    obtain ⟨y, hy, rfl⟩ := hx
    exact (hc y (by simpa using hy)).2
 | makeSlice t l c =>
  simp only [astep] at hb
  obtain ⟨l1, l2⟩ := hop l (by simp [Op.operands])
  obtain ⟨c1, c2⟩ := hop c (by simp [Op.operands])
  obtain ⟨E', w', h1, h2, h3⟩ := makeSlice_sound (P := P) H hev hb hA
  rw [<- l1, <- c1] at h1
  exact OpRes.value (execOp_value rfl h1) h2 h3
 | fieldAddr t x f =>
  simp only [astep] at hb
  obtain ⟨x1, x2⟩ := hop x (by simp [Op.operands])
  split at hb
  ·rename_i v' hv
   simp only [Option.some.injEq, Prod.mk.injEq] at hb; obtain ⟨rfl, rfl⟩ := hb
   obtain ⟨h1, h2⟩ := fieldAddr_sound (E := E) hv x2 w
   rw [<- x1] at h1
   exact OpRes.still H (execOp_value rfl h1) h2
  ·simp at hb
 | indexAddr t x i =>
  simp only [astep] at hb
  obtain ⟨x1, x2⟩ := hop x (by simp [Op.operands])
  obtain ⟨i1, i2⟩ := hop i (by simp [Op.operands])
  split at hb
  ·rename_i v' hv
   simp only [Option.some.injEq, Prod.mk.injEq] at hb; obtain ⟨rfl, rfl⟩ := hb
   obtain ⟨h1, h2⟩ := indexAddr_sound (E := E) hv x2 w
   rw [<- x1, <- i1] at h1
   exact OpRes.still H (execOp_value rfl h1) h2
  ·simp at hb
 | field t x f =>
  simp only [astep] at hb
  obtain ⟨x1, x2⟩ := hop x (by simp [Op.operands])
  split at hb
  ·rename_i v' hv
   simp only [Option.some.injEq, Prod.mk.injEq] at hb; obtain ⟨rfl, rfl⟩ := hb
   obtain ⟨h1, h2⟩ := field_sound (E := E) hv x2
   rw [<- x1] at h1
   exact OpRes.still H (execOp_value rfl (run_purely h1 w)) h2
  ·simp at hb
 | index t x i =>
  simp only [astep] at hb
  obtain ⟨x1, x2⟩ := hop x (by simp [Op.operands])
  obtain ⟨i1, i2⟩ := hop i (by simp [Op.operands])
  split at hb
  ·rename_i v' hv
   simp only [Option.some.injEq, Prod.mk.injEq] at hb; obtain ⟨rfl, rfl⟩ := hb
   obtain ⟨h1, h2⟩ := index_sound (E := E) hv x2
   rw [<- x1, <- i1] at h1
   exact OpRes.still H (execOp_value rfl (run_purely h1 w)) h2
  ·simp at hb
 | extract x i =>
  simp only [astep] at hb
  obtain ⟨x1, x2⟩ := hop x (by simp [Op.operands])
  split at hb
  ·rename_i v' hv
   simp only [Option.some.injEq, Prod.mk.injEq] at hb; obtain ⟨rfl, rfl⟩ := hb
   obtain ⟨h1, h2⟩ := extract_sound (E := E) hv x2
   rw [<- x1] at h1
   exact OpRes.still H (execOp_value rfl (run_purely h1 w)) h2
  ·simp at hb
 | lookup t x i ok =>
  simp only [astep] at hb
  obtain ⟨x1, x2⟩ := hop x (by simp [Op.operands])
  obtain ⟨i1, i2⟩ := hop i (by simp [Op.operands])
  split at hb
  ·rename_i v' hv
   simp only [Option.some.injEq, Prod.mk.injEq] at hb; obtain ⟨rfl, rfl⟩ := hb
   obtain ⟨h1, h2⟩ := lookup_sound H hv
   rw [<- x1, <- i1] at h1
   exact OpRes.still H (execOp_value rfl h1) h2
  ·simp at hb
 | mapUpdate t m k x =>
  simp only [astep] at hb
  obtain ⟨m1, m2⟩ := hop m (by simp [Op.operands])
  obtain ⟨k1, k2⟩ := hop k (by simp [Op.operands])
  obtain ⟨x1, x2⟩ := hop x (by simp [Op.operands])
  split at hb
  ·rename_i S'' hs
   simp only [Option.some.injEq, Prod.mk.injEq] at hb; obtain ⟨rfl, rfl⟩ := hb
   obtain ⟨w', h1, h2⟩ := mapUpdate_sound H hs x2
   rw [<- m1, <- k1, <- x1] at h1
   exact OpRes.skip (execOp_skip rfl h1) h2
  ·simp at hb
 | insert t m k x =>
  simp only [astep] at hb
  obtain ⟨m1, m2⟩ := hop m (by simp [Op.operands])
  obtain ⟨k1, k2⟩ := hop k (by simp [Op.operands])
  obtain ⟨x1, x2⟩ := hop x (by simp [Op.operands])
  split at hb
  ·rename_i S'' hs
   simp only [Option.some.injEq, Prod.mk.injEq] at hb; obtain ⟨rfl, rfl⟩ := hb
   obtain ⟨w', h1, h2⟩ := mapUpdate_sound H hs x2
   rw [<- m1, <- k1, <- x1] at h1
   exact OpRes.skip (execOp_skip rfl h1) h2
  ·simp at hb
 | makeMap t r =>
  cases r with
  | some _ => simp [astep] at hb
  | none =>
   simp only [astep, newExact, Option.some.injEq, Prod.mk.injEq] at hb
   obtain ⟨rfl, rfl⟩ := hb
   refine OpRes.value (E' := E.bind S.next w.heap.size 0 0) (w' := w.alloc (.map #[] 0)) (execOp_value (s := Instr.makeMap t none) rfl ?_) ?_ (by rw [Sc_map]; exact .inr ⟨Nat.le_refl _, by dsimp only; omega⟩)
   ·simp [Instr.makeMap, ren_map, Env.bind]
   ·exact Post.new H hA ⟨Nat.le_refl _, by omega⟩ (by intro x hx; simp at hx) (by simp [BlkRel, loose]) rfl rfl rfl rfl
 | range t x =>
  simp only [astep] at hb
  obtain ⟨x1, x2⟩ := hop x (by simp [Op.operands])
  obtain ⟨E', w', h1, h2, h3⟩ := range_sound H (t := t) hb hA
  rw [<- x1] at h1
  exact OpRes.value (execOp_value rfl h1) h2 h3
 | next x b =>
  simp only [astep] at hb
  obtain ⟨x1, x2⟩ := hop x (by simp [Op.operands])
  obtain ⟨w', h1, h2, h3⟩ := next_sound H (ty := ty) hb (fun k _ hx => by omega)
  rw [<- x1] at h1
  exact OpRes.value (execOp_value rfl h1) h2 (Sc_or h3)
 | entry x =>
  simp only [astep] at hb
  obtain ⟨x1, x2⟩ := hop x (by simp [Op.operands])
  split at hb
  ·rename_i v' hv
   simp only [Option.some.injEq, Prod.mk.injEq] at hb; obtain ⟨rfl, rfl⟩ := hb
   obtain ⟨h1, h2⟩ := entry_sound H hv
   rw [<- x1] at h1
   exact OpRes.still H (execOp_value rfl h1) h2
  ·simp at hb
 | slice t x lo hi mx =>
  cases mx with
  | some _ => simp [astep] at hb
  | none =>
   simp only [astep] at hb
   obtain ⟨x1, x2⟩ := hop x (by simp [Op.operands])
   have hlo : lo.map a.eval = (lo.map (aeval tm)).map (ren E) := by
    cases lo with
    | none => rfl
    | some y => simp [(hop y (by simp [Op.operands])).1]
   have hhi : hi.map a.eval = (hi.map (aeval tm)).map (ren E) := by
    cases hi with
    | none => rfl
    | some y => simp [(hop y (by simp [Op.operands])).1]
   split at hb
   ·split at hb
    ·rename_i hpl
     split at hb
     ·rename_i v' hv
      simp only [Option.some.injEq, Prod.mk.injEq] at hb; obtain ⟨rfl, rfl⟩ := hb
      exact hpure (fun z hz => plainOperands_mem hpl z (by simpa [Op.operands] using hz)) (by simp) hv
     ·simp at hb
    ·simp at hb
   ·split at hb
    ·rename_i hpl
     split at hb
     ·rename_i v' hv
      simp only [Option.some.injEq, Prod.mk.injEq] at hb; obtain ⟨rfl, rfl⟩ := hb
      exact hpure (fun z hz => plainOperands_mem hpl z (by simpa [Op.operands] using hz)) (by simp) hv
     ·simp at hb
    ·simp at hb
   ·split at hb
    ·rename_i v' hv
     simp only [Option.some.injEq, Prod.mk.injEq] at hb; obtain ⟨rfl, rfl⟩ := hb
     obtain ⟨h1, h2⟩ := slice_sound H hv x2
     rw [<- x1, <- hlo, <- hhi] at h1
     exact OpRes.still H (execOp_value rfl h1) h2
    ·simp at hb
 | convert s d x =>
  simp only [astep] at hb
  obtain ⟨x1, x2⟩ := hop x (by simp [Op.operands])
  have hpx : ∀ {v : Value}, plain (aeval tm x) = true -> apure P tm ⟨dst, .convert s d x, ty, pos, after, guard⟩ = some v -> OpRes P E A ⟨dst, .convert s d x, ty, pos, after, guard⟩ a S.heap S.next w v S.heap S.next :=
   fun h1 h2 => hpure (fun z hz => by simp only [Op.operands, List.mem_toArray, List.mem_cons, List.not_mem_nil, or_false] at hz; subst hz; exact h1) (by simp) h2
  split at hb
  ·rename_i b e hx hs hd
   split at hb
   ·rename_i hu hs1
    simp only [Option.some.injEq] at hb
    have hv : v = (atoBytes S e b).1 := by rw [hb]
    have hS : S' = (atoBytes S e b).2 := by rw [hb]
    subst hv hS
    obtain ⟨E', w', h1, h2, h3⟩ := toBytes_sound (P := P) H hev hA hs1 (s := b)
    refine OpRes.value (execOp_value (s := Go.convert s d (a.eval x)) rfl ?_) h2 h3
    rw [x1, hx, ren_string]
    simp only [Go.convert, Sem.run_bind, run_underlying hs, run_underlying hd, Result.andThen_ok, run_underlying hu, h1]
   ·simp at hb
  ·rename_i e hs hd
   split at hb
   ·rename_i hu
    split at hb
    ·rename_i v' hv
     simp only [Option.some.injEq, Prod.mk.injEq] at hb; obtain ⟨rfl, rfl⟩ := hb
     obtain ⟨h1, h2⟩ := toString_sound (P := P) H hv
     refine OpRes.still H (execOp_value (s := Go.convert s d (a.eval x)) rfl ?_) h2
     rw [x1]
     have hsh : ∃ q l c, aeval tm x = .slice q l c := by
      unfold atoString at hv
      split at hv
      ·rename_i hq; exact ⟨_, _, _, hq⟩
      ·rename_i hq; exact ⟨_, _, _, hq⟩
      ·simp at hv
     obtain ⟨q, l, c, hq⟩ := hsh
     have hrs : ∃ q' c', ren E (aeval tm x) = .slice q' l c' := by
      rw [hq]; cases q with
      | none => exact ⟨_, _, ren_nilslice _ _ _⟩
      | some q => exact ⟨_, _, ren_slice _ _ _ _⟩
     obtain ⟨q', c', hrs⟩ := hrs
     rw [hrs] at h1 ⊢
     rw [run_convert_bytes_string w s d e q' l c' hs hu hd, h1]
    ·simp at hb
   ·simp at hb
  ·rename_i t hs hd
   split at hb
   ·rename_i v' hv
    simp only [Option.some.injEq, Prod.mk.injEq] at hb; obtain ⟨rfl, rfl⟩ := hb
    obtain ⟨h1, rfl⟩ := toUnsafe_sound H hs hd hv
    exact OpRes.still H (execOp_value (s := Go.convert s d (a.eval x)) rfl (by rw [x1]; exact h1)) x2
   ·simp at hb
  ·rename_i u hs hd
   split at hb
   ·rename_i v' hv
    simp only [Option.some.injEq, Prod.mk.injEq] at hb; obtain ⟨rfl, rfl⟩ := hb
    obtain ⟨h1, rfl⟩ := fromUnsafe_sound H hs hd hv
    exact OpRes.still H (execOp_value (s := Go.convert s d (a.eval x)) rfl (by rw [x1]; exact h1)) x2
   ·simp at hb
  ·simp only [Option.ite_none_right_eq_some] at hb
   obtain ⟨hpl, hb⟩ := hb
   split at hb
   ·rename_i v' hv
    simp only [Option.some.injEq, Prod.mk.injEq] at hb; obtain ⟨rfl, rfl⟩ := hb
    exact hpx hpl hv
   ·simp at hb
 | call c =>
  simp only [astep] at hb
  have harg : ∀ x ∈ c.args, a.eval x = ren E (aeval tm x) /\ Sc A (aeval tm x) := fun x hx => hop x (by simp [Op.operands, Call.operands, hx])
  have hbi : ∀ (b : Builtin), c.callee = .builtin b -> execOp a.eval ⟨dst, .call c, ty, pos, after, guard⟩ = Go.builtin b c.argTypes ty (c.args.map fun | .const _ => true | _ => false) ((c.args.toList.map (aeval tm)).map (ren E)).toArray := by
   intro b hc
   simp only [execOp, resolve_builtin hc (fun x hx => (harg x hx).1)]
   rfl
  have hpl : ∀ {v : Value} (b : Builtin), c.callee = .builtin b -> plainOperands tm c.args.toList = true -> apure P tm ⟨dst, .call c, ty, pos, after, guard⟩ = some v -> OpRes P E A ⟨dst, .call c, ty, pos, after, guard⟩ a S.heap S.next w v S.heap S.next := by
   intro v b hc h1 h2
   refine hpure (fun z hz => plainOperands_mem h1 z ?_) (by simp) h2
   simpa [Op.operands, Call.operands, hc] using hz
  split at hb
  ·rename_i x y hc hxs
   have hx : x ∈ c.args := by
    have : x ∈ c.args.toList := by rw [hxs]; simp
    simpa using this
   obtain ⟨E', w', h1, h2, h3⟩ := aappend_sound (P := P) H hev (ty := ty) hb hA (harg x hx).2
   refine OpRes.value (execOp_value (s := Builtin.append_ c.argTypes ty ((c.args.toList.map (aeval tm)).map (ren E)).toArray) (hbi _ hc) ?_) h2 h3
   rw [hxs]; exact h1
  ·rename_i x y hc hxs
   obtain ⟨w', h1, h2, h3⟩ := copy_sound (P := P) H (ty := ty) hb
   have : S'.next = S.next := by
    unfold acopy at hb
    repeat' (first | (split at hb) | skip)
    all_goals first | (simp at hb; done) | (dsimp only at hb; repeat' (split at hb)) | skip
    all_goals first | (simp at hb; done) | (simp only [Option.some.injEq, Prod.mk.injEq] at hb; obtain ⟨_, rfl⟩ := hb; rfl) | skip
   refine OpRes.value (execOp_value (s := Builtin.copy_ c.argTypes ty ((c.args.toList.map (aeval tm)).map (ren E)).toArray) (hbi _ hc) ?_) h2 (Sc_or h3)
   rw [hxs]; exact h1
  ·rename_i x hc hxs
   have hx : x ∈ c.args := by
    have : x ∈ c.args.toList := by rw [hxs]; simp
    simpa using this
   split at hb
   ·rename_i v' hv
    simp only [Option.some.injEq, Prod.mk.injEq] at hb; obtain ⟨rfl, rfl⟩ := hb
    obtain ⟨h1, h2⟩ := alen_sound (P := P) H (ty := ty) hv
    refine OpRes.still H (execOp_value (s := Builtin.len_ c.argTypes ty ((c.args.toList.map (aeval tm)).map (ren E)).toArray) (hbi _ hc) ?_) h2
    rw [hxs]; exact h1
   ·simp only [Option.ite_none_right_eq_some] at hb
    obtain ⟨h1, hb⟩ := hb
    split at hb
    ·rename_i v' hv
     simp only [Option.some.injEq, Prod.mk.injEq] at hb; obtain ⟨rfl, rfl⟩ := hb
     exact hpl _ hc (by rw [hxs]; exact h1) hv
    ·simp at hb
  ·rename_i x hc hxs
   split at hb
   ·rename_i v' hv
    simp only [Option.some.injEq, Prod.mk.injEq] at hb; obtain ⟨rfl, rfl⟩ := hb
    obtain ⟨h1, h2⟩ := acap_sound (P := P) (E := E) (A := A) (ty := ty) hv w
    refine OpRes.still H (execOp_value (s := Builtin.cap_ c.argTypes ty ((c.args.toList.map (aeval tm)).map (ren E)).toArray) (hbi _ hc) ?_) h2
    rw [hxs]; exact h1
   ·simp only [Option.ite_none_right_eq_some] at hb
    obtain ⟨h1, hb⟩ := hb
    split at hb
    ·rename_i v' hv
     simp only [Option.some.injEq, Prod.mk.injEq] at hb; obtain ⟨rfl, rfl⟩ := hb
     exact hpl _ hc (by rw [hxs]; exact h1) hv
    ·simp at hb
  ·rename_i x hc hxs
   have hx : x ∈ c.args := by
    have : x ∈ c.args.toList := by rw [hxs]; simp
    simpa using this
   split at hb
   ·rename_i v' hv
    simp only [Option.some.injEq, Prod.mk.injEq] at hb; obtain ⟨rfl, rfl⟩ := hb
    obtain ⟨h1, h2⟩ := asliceData_sound (P := P) H (ts := c.argTypes) (ty := ty) hv (harg x hx).2
    refine OpRes.still H (execOp_value (s := Builtin.unsafeSliceData_ c.argTypes ty ((c.args.toList.map (aeval tm)).map (ren E)).toArray) (hbi _ hc) ?_) h2
    rw [hxs]; exact h1
   ·simp at hb
  ·rename_i x y hc hxs
   obtain ⟨w', h1, h2, h3⟩ := unsafeString_sound (P := P) H (ty := ty) hb
   refine OpRes.value (execOp_value (s := Builtin.unsafeString_ c.argTypes ty ((c.args.toList.map (aeval tm)).map (ren E)).toArray) (hbi _ hc) ?_) h2 (Sc_or h3)
   rw [hxs]; exact h1
  ·rename_i hc
   simp only [Option.ite_none_right_eq_some] at hb
   obtain ⟨h1, hb⟩ := hb
   split at hb
   ·rename_i v' hv
    simp only [Option.some.injEq, Prod.mk.injEq] at hb; obtain ⟨rfl, rfl⟩ := hb
    exact hpl _ hc h1 hv
   ·simp at hb
  ·rename_i hc
   simp only [Option.ite_none_right_eq_some] at hb
   obtain ⟨h1, hb⟩ := hb
   split at hb
   ·rename_i v' hv
    simp only [Option.some.injEq, Prod.mk.injEq] at hb; obtain ⟨rfl, rfl⟩ := hb
    exact hpl _ hc h1 hv
   ·simp at hb
  ·rename_i f hc
   have hf := hop f (by simp [Op.operands, Call.operands, hc])
   split at hb
   ·rename_i g first captured hfv
    rw [hfv, ren_func, renFn_func] at hf
    have hex : execOp a.eval ⟨dst, .call c, ty, pos, after, guard⟩ = callFunc g (first.map (ren E) ++ ((c.args.toList.map (aeval tm)).map (ren E)).toArray ++ captured.map (ren E)) := by
     simp only [execOp, resolve_value hc hf.1 (fun x hx => (harg x hx).1)]
     rfl
    split at hb
    ·simp at hb
    ·rename_i fn hfn
     split at hb
     ·rename_i bd hbd
      refine call_sound hcf hg hev H (Sc_func_append hf.2 ?_) hA hb ?_
      ·intro x hx
       obtain ⟨y, hy, rfl⟩ := List.mem_map.1 hx
       exact (harg y (by simpa using hy)).2
      ·rw [hex, run_callFunc_body hfn (by rw [hbd]; rfl) (hnm g fn hfn (by rw [hbd]; rfl))]
       congr 2
       apply Array.ext'
       simp
     ·rename_i hbd
      split at hb
      ·rename_i hcond
       simp only [Bool.and_eq_true, beq_iff_eq] at hcond
       obtain ⟨⟨⟨q1, q2⟩, q3⟩, q4⟩ := hcond
       split at hb
       ·rename_i x hxs
        simp only [Option.some.injEq, Prod.mk.injEq] at hb; obtain ⟨rfl, rfl⟩ := hb
        have hx : x ∈ c.args := by
         have : x ∈ c.args.toList := by rw [hxs]; simp
         simpa using this
        have e1 : first = #[] := by apply Array.ext'; simpa using q1
        have e2 : captured = #[] := by apply Array.ext'; simpa using q2
        refine OpRes.still H ?_ (harg x hx).2
        rw [hex, hxs, e1, e2]
        simpa using run_callFunc_noEscape (P := P) (x := ren E (aeval tm x)) hfn hbd q3 q4 w
       ·simp at hb
      ·split at hb
       ·rename_i hcond
        simp only [Bool.and_eq_true, beq_iff_eq] at hcond
        obtain ⟨⟨⟨q1, q2⟩, q3⟩, q4⟩ := hcond
        split at hb
        ·rename_i x t hxs hrt
         have e1 : first = #[] := by apply Array.ext'; simpa using q1
         have e2 : captured = #[] := by apply Array.ext'; simpa using q2
         have hr0 : fn.resultTypes = #[t] := by apply Array.ext'; simpa using hrt
         obtain ⟨E', w', h1, h2, h3⟩ := makeNoZero_sound (P := P) H hev (ps := fn.params) hb hA
         refine OpRes.value ?_ h2 h3
         rw [hex, hxs, e1, e2]
         simpa using run_callFunc_makeNoZero (P := P) hfn hbd q3 q4 (by rw [hr0]; exact h1)
        ·simp at hb
       ·simp only [Option.ite_none_right_eq_some, Bool.and_eq_true] at hb
        obtain ⟨⟨⟨h1, q1⟩, q2⟩, hb⟩ := hb
        split at hb
        ·rename_i v' hv
         simp only [Option.some.injEq, Prod.mk.injEq] at hb; obtain ⟨rfl, rfl⟩ := hb
         refine hpure (fun z hz => ?_) (by simp) hv
         simp only [Op.operands, Call.operands, hc, Array.mem_append, List.mem_toArray, List.mem_cons, List.not_mem_nil, or_false] at hz
         rcases hz with rfl | hz
         ·rw [hfv]; simp only [plain, plain2, plain1, Bool.and_eq_true]; exact ⟨q1, q2⟩
         ·exact plainOperands_mem h1 z (by simpa using hz)
        ·simp at hb
   ·rename_i l first captured hfv
    simp only [Option.ite_none_right_eq_some, Bool.and_eq_true] at hb
    obtain ⟨⟨q1, q2⟩, hb⟩ := hb
    have e1 : first = #[] := by apply Array.ext'; simpa using q1
    have e2 : captured = #[] := by apply Array.ext'; simpa using q2
    subst e1 e2
    rw [hfv, ren_func, renFn_yield] at hf
    refine yield_sound hcf hg hev H ?_ hA hb ?_
    ·intro x hx
     obtain ⟨y, hy, rfl⟩ := List.mem_map.1 hx
     exact (harg y (by simpa using hy)).2
    ·simp only [execOp, resolve_yield hc (by simpa using hf.1) (fun x hx => (harg x hx).1)]
     simp [invoke]
   ·simp at hb
  ·rename_i r name hc
   have hr := hop r (by simp [Op.operands, Call.operands, hc])
   split at hb
   ·rename_i t x hrv
    rw [hrv, ren_iface] at hr
    split at hb
    ·rename_i f hm
     simp only [Option.ite_none_right_eq_some] at hb
     obtain ⟨hbody, hb⟩ := hb
     obtain ⟨fn, hfn, hbd⟩ : ∃ fn, P.funcs[f]? = some fn /\ fn.body.isSome = true := by
      unfold hasBodyA at hbody
      split at hbody
      ·rename_i fn hfn; exact ⟨fn, hfn, hbody⟩
      ·cases hbody
     refine call_sound hcf hg hev H ?_ hA hb ?_
     ·intro y hy
      rcases List.mem_cons.1 hy with rfl | hy
      ·have := hr.2
       rw [Sc_iface] at this
       exact this
      ·obtain ⟨z, hz, rfl⟩ := List.mem_map.1 hy
       exact (harg z (by simpa using hz)).2
     ·have hres : resolve a.eval c ty = pure { target := .fn (.method name) #[], args := #[Value.iface t (ren E x)] ++ ((c.args.toList.map (aeval tm)).map (ren E)).toArray } := by
       unfold resolve
       rw [args_eq fun x hx => (harg x hx).1, hc]
       simp only [hr.1]
      have hex : execOp a.eval ⟨dst, .call c, ty, pos, after, guard⟩ = callMethod (.iface t (ren E x)) name ((c.args.toList.map (aeval tm)).map (ren E)).toArray := by
       simp only [execOp, hres]
       simp only [pure_bind, invoke]
       simp
       rw [List.take_of_length_le (by simp)]
      rw [hex]
      simp only [callMethod, Sem.run_bind, run_program, Result.andThen_ok, run_method hm]
      rw [run_callFunc_body hfn hbd (hnm f fn hfn hbd)]
      congr 2
      apply Array.ext'
      simp
    ·simp at hb
   ·simp at hb
  ·simp at hb
 | _ => simp [astep] at hb
theorem astep_noDefer {callF : Fn -> List Value -> St -> Option (Value × St)} {o : Oper} {S S' : St} {v : Value} (hb : astep callF P tm S o = some (v, S')) : ∀ c, o.op ≠ .defer c := by
 intro c h
 obtain ⟨dst, op, ty, pos, after, guard⟩ := o
 simp only at h
 subst h
 simp [astep] at hb
end
def isEven (n : Nat) : Bool := Nat.beq (n % 2) 0
def natAt : List Nat -> Nat -> Nat
 | [], _ => 0
 | x :: _, 0 => x
 | _ :: r, n + 1 => natAt r n
def heapAt : List (List (Nat × Obj)) -> Nat -> List (Nat × Obj)
 | [], _ => []
 | x :: _, 0 => x
 | _ :: r, n + 1 => heapAt r n
def allFrom (f : Nat -> Oper -> Bool) : Nat -> List Oper -> Bool
 | _, [] => true
 | k, o :: r => f k o && allFrom f (k + 1) r
def upTo : Nat -> (Nat -> Bool) -> Bool
 | 0, f => f 0
 | n + 1, f => f (n + 1) && upTo n f
def afterMask (ms : List Nat) (o : Oper) : Nat := o.after.toList.foldl (fun s e => if Region.binds .any e = true then s ||| (2 ^ e.on) ||| natAt ms e.on else s) 0
def maskList : List Oper -> List Nat -> List Nat
 | [], acc => acc
 | o :: r, acc => maskList r (acc ++ [afterMask acc o])
def absd (ms : List Nat) : List Nat -> Nat -> Nat -> Bool
 | e :: r, k + 1, j => Nat.testBit (natAt ms e) j || absd ms r k j
 | _, _, _ => false
def own (p : Nat -> Bool) : List (Nat × Nat × Obj) -> List (Nat × Obj)
 | [] => []
 | (j, n, o) :: r => if p j = true then (n, o) :: own p r else own p r
def sameDst : Option Nat -> Option Nat -> Bool
 | some a, some b => Nat.beq a b
 | _, _ => false
def slotOk (ms : List Nat) (ops : List Oper) (i t : Nat) : Bool :=
 allFrom (fun l o => !(sameDst o.dst (some t)) || Nat.beq l i || Nat.testBit (natAt ms i) l || Nat.testBit (natAt ms l) i) 0 ops
def opdSlotOk (ms : List Nat) (ops : List Oper) (i : Nat) : Operand -> Bool
 | .tmp t => slotOk ms ops i t
 | _ => true
def guardSlotOk (ms : List Nat) (ops : List Oper) (i : Nat) (o : Oper) : Bool :=
 match o.guard with
 | none => true
 | some (g, _) => match ops[g]? with
  | none => true
  | some p => match p.dst with
   | none => true
   | some d => slotOk ms ops i d
def okDraw (ops : List Oper) : Bool :=
 let ms := maskList ops []
 allFrom (fun i o => Nat.beq (natAt ms i) (afterMask ms o) && Nat.blt (natAt ms i) (2 ^ i) &&
  (o.op.operands.toList.all (opdSlotOk ms ops i) && guardSlotOk ms ops i o) && allFrom (fun l o' => Nat.beq i l || !(sameDst o.dst o'.dst)) 0 ops) 0 ops
def veq1 : Value -> Value -> Bool
 | .bool a, .bool b => a == b
 | .int k n, .int k' n' => k == k' && n == n'
 | .string a, .string b => a.data.toList == b.data.toList
 | .pointer none, .pointer none => true
 | .pointer (some ⟨m, off, none⟩), .pointer (some ⟨m', off', none⟩) => Nat.beq m m' && Nat.beq off off'
 | .slice none l c, .slice none l' c' => Nat.beq l l' && Nat.beq c c'
 | .slice (some ⟨m, off, none⟩) l c, .slice (some ⟨m', off', none⟩) l' c' => Nat.beq m m' && Nat.beq off off' && (Nat.beq l l' && Nat.beq c c')
 | .map none, .map none => true
 | .map (some m), .map (some m') => Nat.beq m m'
 | .nilFunc, .nilFunc => true
 | .nilIface, .nilIface => true
 | .iface t (.pointer (some ⟨m, off, none⟩)), .iface t' (.pointer (some ⟨m', off', none⟩)) => Nat.beq t t' && (Nat.beq m m' && Nat.beq off off')
 | .iface t (.int k n), .iface t' (.int k' n') => Nat.beq t t' && (k == k' && n == n')
 | _, _ => false
def veqL : List Value -> List Value -> Bool
 | [], [] => true
 | a :: r, b :: s => veq1 a b && veqL r s
 | _, _ => false
def fnSame : Fn -> Fn -> Bool
 | .func g, .func g' => Nat.beq g g'
 | .yield l, .yield l' => Nat.beq l l'
 | _, _ => false
def veq2 : Value -> Value -> Bool
 | .agg a, .agg b => veqL a.toList b.toList
 | .func f a b, .func f' a' b' => fnSame f f' && (veqL a.toList a'.toList && veqL b.toList b'.toList)
 | a, b => veq1 a b
def veqL2 : List Value -> List Value -> Bool
 | [], [] => true
 | a :: r, b :: s => veq2 a b && veqL2 r s
 | _, _ => false
def veq : Value -> Value -> Bool
 | .tuple a, .tuple b => veqL2 a.toList b.toList
 | a, b => veq2 a b
structure Rec where
 on : Bool
 tm : List Value
 v : Value
 nx : Nat
 nx' : Nat
structure DR where
 tm : List Value
 nx : Nat
 recs : List Rec
 al : List (Nat × Nat × Obj)
 es : List Nat
 hs : List (List (Nat × Obj))
def seen (ms : List Nat) (es : List Nat) (hs : List (List (Nat × Obj))) (al : List (Nat × Nat × Obj)) (i k : Nat) : List (Nat × Obj) :=
 own (fun j => Nat.testBit (natAt ms i) j && !absd ms es k j) al ++ heapAt hs k
def dStep (callF : Fn -> List Value -> St -> Option (Value × St)) (P : Program) (ops : List Oper) (ms : List Nat) (i : Nat) (o : Oper) (R : DR) : Option DR :=
 if aguard ops R.tm o = true then
  match kind o.op with
  | 3 =>
   if (R.es.all fun e => Nat.testBit (natAt ms i) e) = true then
    match astep callF P R.tm ⟨seen ms R.es R.hs R.al i R.es.length, R.nx⟩ o with
    | some (v, S') => if (Nat.ble R.nx S'.next && isEven S'.next) = true then some ⟨putD R.tm o.dst v, S'.next, R.recs ++ [⟨true, R.tm, v, R.nx, S'.next⟩], R.al, R.es ++ [i], R.hs ++ [S'.heap]⟩ else none
    | none => none
   else none
  | 2 =>
   match astep callF P R.tm ⟨[], R.nx⟩ o with
   | some (v, ⟨[(n, b)], nx⟩) => if (Nat.ble R.nx nx && isEven nx) = true then some ⟨putD R.tm o.dst v, nx, R.recs ++ [⟨true, R.tm, v, R.nx, nx⟩], R.al ++ [(i, n, b)], R.es, R.hs⟩ else none
   | _ => none
  | _ =>
   match astep callF P R.tm ⟨seen ms R.es R.hs R.al i R.es.length, R.nx⟩ o with
   | some (v, _) => some ⟨putD R.tm o.dst v, R.nx, R.recs ++ [⟨true, R.tm, v, R.nx, R.nx⟩], R.al, R.es, R.hs⟩
   | none => none
 else some ⟨putD R.tm o.dst undef, R.nx, R.recs ++ [⟨false, R.tm, undef, R.nx, R.nx⟩], R.al, R.es, R.hs⟩
def dRun (callF : Fn -> List Value -> St -> Option (Value × St)) (P : Program) (ops : List Oper) (ms : List Nat) : Nat -> List Oper -> DR -> Option DR
 | _, [], R => some R
 | i, o :: r, R => match dStep callF P ops ms i o R with
  | some R' => dRun callF P ops ms (i + 1) r R'
  | none => none
def readOk (callF : Fn -> List Value -> St -> Option (Value × St)) (P : Program) (ms : List Nat) (F : DR) (i : Nat) (o : Oper) (r : Rec) (k : Nat) : Bool :=
 absd ms F.es k i || (F.es.drop k).any (fun e => Nat.testBit (natAt ms i) e) ||
  (match astep callF P r.tm ⟨seen ms F.es F.hs F.al i k, r.nx⟩ o with
   | some (v, _) => veq v r.v
   | none => false)
def readsOk (callF : Fn -> List Value -> St -> Option (Value × St)) (P : Program) (ms : List Nat) (F : DR) : Nat -> List Oper -> List Rec -> Bool
 | _, [], _ => true
 | _, _ :: _, [] => false
 | i, o :: l, r :: rs => (!r.on || !(Nat.beq (kind o.op) 1) || upTo F.es.length (readOk callF P ms F i o r)) && readsOk callF P ms F (i + 1) l rs
def fresh1 (n : Nat) : List (Nat × Nat × Obj) -> Bool
 | [] => true
 | (_, m, _) :: r => !(Nat.beq n m) && fresh1 n r
def noTwice : List (Nat × Nat × Obj) -> Bool
 | [] => true
 | (_, n, _) :: r => fresh1 n r && noTwice r
def apartOk (ms : List Nat) (F : DR) : List (Nat × Nat × Obj) -> Bool
 | [] => true
 | (j, n, _) :: r => upTo F.es.length (fun k => absd ms F.es k j || (getB (heapAt F.hs k) n).isNone) && apartOk ms F r
def evalDraw (callF : Fn -> List Value -> St -> Option (Value × St)) (P : Program) (ops : List Oper) (tm : List Value) (S : St) : Option (List Value × St) :=
 match dRun callF P ops (maskList ops []) 0 ops ⟨tm, S.next, [], [], [], [S.heap]⟩ with
 | some F =>
  if readsOk callF P (maskList ops []) F 0 ops F.recs && noTwice F.al && apartOk (maskList ops []) F F.al then
   some (F.tm, ⟨own (fun j => !absd (maskList ops []) F.es F.es.length j) F.al ++ heapAt F.hs F.es.length, F.nx⟩)
  else none
 | none => none
def sameEntries : List MapEntry -> List MapEntry -> Bool
 | [], [] => true
 | a :: r, b :: s => veq a.key b.key && veq a.val b.val && Nat.beq a.born b.born && sameEntries r s
 | _, _ => false
def sameObj2 : Obj -> Obj -> Bool
 | .map es c, .map es' c' => sameEntries es.toList es'.toList && Nat.beq c c'
 | .cells c e fz, .cells c' e' fz' => veqL2 c.toList c'.toList && Nat.beq e e' && (Nat.beq fz.1 fz'.1 && Nat.beq fz.2 fz'.2)
 | _, _ => false
def within (h' : List (Nat × Obj)) : List (Nat × Obj) -> Bool
 | [] => true
 | (n, o) :: r => (match getB h' n with | some o' => sameObj2 o o' | none => false) && within h' r
def veqT : List Value -> List Value -> Bool
 | [], [] => true
 | a :: r, b :: s => veq a b && veqT r s
 | _, _ => false
def hasName (n : Nat) : List (Nat × Obj) -> Bool
 | [] => false
 | (m, _) :: r => Nat.beq m n || hasName n r
def without (h : List (Nat × Obj)) : List (Nat × Obj) -> List (Nat × Obj)
 | [] => []
 | (n, o) :: r => if hasName n h = true then without h r else (n, o) :: without h r
structure Ent where
 L : Nat
 tm : List Value
 h : List (Nat × Obj)
def pairAt : List (Nat × Nat) -> Nat -> Nat × Nat
 | [], _ => (0, 0)
 | x :: _, 0 => x
 | _ :: r, n + 1 => pairAt r n
def nameRun (callF : Fn -> List Value -> St -> Option (Value × St)) (P : Program) (ops : List Oper) : List Oper -> List Value -> St -> Option (List (Nat × Nat) × List Value × Nat)
 | [], tm, S => some ([], tm, S.next)
 | o :: r, tm, S =>
  if aguard ops tm o = true then
   match astep callF P tm S o with
   | some (v, S') =>
    if Nat.ble S.next S'.next && isEven S'.next then
     match nameRun callF P ops r (putD tm o.dst v) S' with
     | some (l, tmE, N) => some ((S.next, S'.next) :: l, tmE, N)
     | none => none
    else none
   | none => none
  else
   match nameRun callF P ops r (putD tm o.dst undef) S with
   | some (l, tmE, N) => some ((S.next, S.next) :: l, tmE, N)
   | none => none
def entStep (callF : Fn -> List Value -> St -> Option (Value × St)) (P : Program) (ops : List Oper) (nxs : List (Nat × Nat)) (i : Nat) (o : Oper) (e : Ent) : Option Ent :=
 if aguard ops e.tm o = true then
  match astep callF P e.tm ⟨e.h, (pairAt nxs i).1⟩ o with
  | some (v, S') => if Nat.beq S'.next (pairAt nxs i).2 = true then some ⟨e.L ||| 2 ^ i, putD e.tm o.dst v, S'.heap⟩ else none
  | none => none
 else some ⟨e.L ||| 2 ^ i, putD e.tm o.dst undef, e.h⟩
def mergeEnt (e : Ent) : List Ent -> Option (List Ent)
 | [] => some [e]
 | x :: r =>
  if Nat.beq x.L e.L = true then (if (veqT x.tm e.tm && within e.h x.h) = true then some (x :: r) else none)
  else match mergeEnt e r with
   | some r' => some (x :: r')
   | none => none
def canGo (L : Nat) (o : Oper) : Bool := o.after.toList.all fun e => !(Region.binds .any e) || Nat.testBit L e.on
def succ1 (callF : Fn -> List Value -> St -> Option (Value × St)) (P : Program) (ops : List Oper) (nxs : List (Nat × Nat)) (e : Ent) : Nat -> List Oper -> List Ent -> Option (List Ent)
 | _, [], acc => some acc
 | i, o :: r, acc =>
  if (!(Nat.testBit e.L i) && canGo e.L o) = true then
   match entStep callF P ops nxs i o e with
   | some e' => match mergeEnt e' acc with
    | some acc' => succ1 callF P ops nxs e (i + 1) r acc'
    | none => none
   | none => none
  else succ1 callF P ops nxs e (i + 1) r acc
def succs (callF : Fn -> List Value -> St -> Option (Value × St)) (P : Program) (ops : List Oper) (nxs : List (Nat × Nat)) : List Ent -> List Ent -> Option (List Ent)
 | [], acc => some acc
 | e :: r, acc => match succ1 callF P ops nxs e 0 ops acc with
  | some acc' => succs callF P ops nxs r acc'
  | none => none
def levels (callF : Fn -> List Value -> St -> Option (Value × St)) (P : Program) (ops : List Oper) (nxs : List (Nat × Nat)) : Nat -> List Ent -> Option Ent
 | 0, [e] => some e
 | 0, _ => none
 | n + 1, es => match succs callF P ops nxs es [] with
  | some es' => levels callF P ops nxs n es'
  | none => none
def namesIn1 : Value -> List Nat
 | .pointer (some a) => [a.block]
 | .slice (some a) _ _ => [a.block]
 | .map (some n) => [n]
 | _ => []
def hasNat (n : Nat) : List Nat -> Bool
 | [] => false
 | m :: r => Nat.beq m n || hasNat n r
def onlyB (ns : List Nat) : List (Nat × Obj) -> List (Nat × Obj)
 | [] => []
 | (n, o) :: r => if hasNat n ns = true then (n, o) :: onlyB ns r else onlyB ns r
def touched (ops : List Oper) (tm : List Value) : List Nat :=
 ops.flatMap fun o => (o.op.operands.toList.flatMap fun x => namesIn1 (aeval tm x)) ++ (match o.dst with
  | some d => namesIn1 (nth tm d)
  | none => [])
def evalSets (callF : Fn -> List Value -> St -> Option (Value × St)) (P : Program) (ops : List Oper) (tm : List Value) (S : St) : Option (List Value × St) :=
 match nameRun callF P ops ops tm S with
 | some (nxs, tmE, N) =>
  match levels callF P ops nxs ops.length [⟨0, tm, onlyB (touched ops tmE) S.heap⟩] with
  | some e => some (e.tm, ⟨e.h ++ without (onlyB (touched ops tmE) S.heap) S.heap, N⟩)
  | none => none
 | none => none
def evalAny (callF : Fn -> List Value -> St -> Option (Value × St)) (P : Program) (ops : List Oper) (tm : List Value) (S : St) : Option (List Value × St) :=
 match evalDraw callF P ops tm S with
 | some r => some r
 | none => evalSets callF P ops tm S
def evOps (callF : Fn -> List Value -> St -> Option (Value × St)) (P : Program) (ops : List Oper) : List Oper -> List Value -> St -> Option (List Value × St)
 | [], tm, S => some (tm, S)
 | o :: r, tm, S =>
  if aguard ops tm o = true then
   match astep callF P tm S o with
   | some (v, S') => if Nat.ble S.next S'.next = true then evOps callF P ops r (putD tm o.dst v) S' else none
   | none => none
  else evOps callF P ops r (putD tm o.dst undef) S
def okOps (P : Program) (l : List Oper) : Bool := allFrom (fun _ o => o.op.operands.toList.all (okOpd P)) 0 l
def okCode (P : Program) : Code -> Bool
 | .skip | .exit _ | .ret | .label _ => true
 | .region _ ops d => okOps P ops.toList && (!d || okDraw ops.toList)
 | .seq a b => okCode P a && okCode P b
 | .cond x a b => okOpd P x && (okCode P a && okCode P b)
 | .block _ b | .loop b | .scope b => okCode P b
 | .rangeFunc g _ _ _ => okOpd P g
 | _ => true
def noRF : Code -> Bool
 | .seq a b | .cond _ a b => noRF a && noRF b
 | .block _ b | .loop b | .scope b => noRF b
 | .rangeFunc .. => false
 | _ => true
def isReady : LoopState -> Bool
 | .ready => true
 | _ => false
def isBusy : LoopState -> Bool
 | .busy => true
 | _ => false
def hasBody (P : Program) (g : FuncId) : Bool :=
 match P.funcs[g]? with
 | some fn => fn.body.isSome
 | none => false
def leaveOf : Option Code -> Option Exit
 | none => some .normal
 | some .ret => some .ret
 | some (.exit j) => some (.exit j)
 | _ => none
def jumpOf : Exit -> Option (Option Code)
 | .normal => some none
 | .ret => some (some .ret)
 | .exit j => some (some (.exit j))
 | _ => none
def putAll : List Tmp -> List Value -> List Value -> List Value
 | p :: ps, x :: xs, tm => putAll ps xs (setNth tm p x)
 | _, _, tm => tm
def evC (callF : Fn -> List Value -> St -> Option (Value × St)) (P : Program) : Nat -> Code -> List Value -> St -> Option (Exit × List Value × St)
 | 0, _, _, _ => none
 | f + 1, c, tm, S =>
  match c with
  | .skip => some (.normal, tm, S)
  | .region _ ops false =>
   match evOps callF P ops.toList ops.toList tm S with
   | some (tm', S') => some (.normal, tm', S')
   | none => none
  | .region _ ops true =>
   match evalAny callF P ops.toList tm S with
   | some (tm', S') => some (.normal, tm', S')
   | none => none
  | .seq a b =>
   match evC callF P f a tm S with
   | some (.normal, tm', S') => evC callF P f b tm' S'
   | r => r
  | .cond x a b =>
   match aeval tm x with
   | .bool true => evC callF P f a tm S
   | .bool false => evC callF P f b tm S
   | _ => none
  | .block id b =>
   match evC callF P f b tm S with
   | some (.exit j, tm', S') => if Nat.beq j id = true then some (.normal, tm', S') else some (.exit j, tm', S')
   | r => r
  | .loop b =>
   match evC callF P f b tm S with
   | some (.normal, tm', S') => evC callF P f (.loop b) tm' S'
   | r => r
  | .exit id => some (.exit id, tm, S)
  | .ret => some (.ret, tm, S)
  | .label _ => some (.normal, tm, S)
  | .scope b => evC callF P f b tm S
  | .rangeFunc g ps as b =>
   match aeval tm g with
   | .func (.func gf) first captured =>
    if first.toList.isEmpty && hasBody P gf then
     match callF (.func gf) (.func (.yield S.next) #[] #[] :: captured.toList) ⟨(S.next, .loop ⟨.ready, none, 0, tm.toArray, ps, as, b, 0⟩) :: S.heap, S.next + 2⟩ with
     | some (_, S2) =>
      if Nat.ble (S.next + 2) S2.next then
       match getB S2.heap S.next with
       | some (.loop r) =>
        if isBusy r.state then none else
        match leaveOf r.pending with
        | some e => some (e, tm, ⟨delB S2.heap S.next, S2.next⟩)
        | none => none
       | _ => none
      else none
     | none => none
    else none
   | _ => none
  | _ => none
def evRound (callF : Fn -> List Value -> St -> Option (Value × St)) (P : Program) (fuel : Nat) (l : Nat) (args : List Value) (S : St) : Option (Value × St) :=
 match getB S.heap l with
 | some (.loop r) =>
  if isReady r.state && Nat.beq args.length r.params.size && (noRF r.assign && noRF r.body) && (okCode P r.assign && okCode P r.body) then
   match evC callF P fuel r.assign (putAll r.params.toList args r.tmps.toList) S with
   | some (.normal, tm1, S1) =>
    match getB S1.heap l with
    | some (.loop r1) =>
     if isReady r1.state then
      match evC callF P fuel r.body tm1 ⟨setB S1.heap l (.loop { r1 with state := .busy }), S1.next⟩ with
      | some (e, _, S3) =>
       match getB S3.heap l, jumpOf e with
       | some (.loop r3), some j => some (.bool j.isNone, ⟨setB S3.heap l (.loop { r3 with state := if j.isNone then .ready else .done, pending := j }), S3.next⟩)
       | _, _ => none
      | none => none
     else none
    | _ => none
   | _ => none
  else none
 | _ => none
def evCall (orc : FuncId -> List Value -> St -> Option (Value × St)) (P : Program) (fs : Nat) (fuel : Nat) : Nat -> Fn -> List Value -> St -> Option (Value × St)
 | 0, _, _, _ => none
 | d + 1, .yield l, args, S => evRound (evCall orc P fs fuel d) P fuel l args S
 | d + 1, .func f, args, S =>
  if Nat.testBit fs f = true then
   match P.funcs[f]? with
   | none => none
   | some fn =>
    match fn.body with
    | none => none
    | some c =>
     match evC (evCall orc P fs fuel d) P fuel c (args ++ List.replicate (fn.ntmps - args.length) undef) S with
     | some (.normal, tm, S') | some (.ret, tm, S') =>
      match aresults P S'.heap tm fn.results.toList with
      | some vs =>
       let v : Value := match vs with
        | [v] => v
        | vs => .tuple vs.toArray
       if plain v && noPtrAll args then some (v, ⟨dropNew S.next S'.heap, S'.next⟩) else some (v, S')
      | none => none
     | _ => none
  else orc f args S
 | _ + 1, _, _, _ => none
def okFuncs (P : Program) : Nat -> Nat -> Bool
 | 0, _ => true
 | f + 1, fs => (!(Nat.testBit fs f) || (match P.funcs[f]? with
  | some fn => match fn.body with
   | some c => okCode P c
   | none => true
  | none => true)) && okFuncs P f fs
section
variable {P : Program} {tm tm' : List Value} {callF : Fn -> List Value -> St -> Option (Value × St)}
theorem apure_congr {o : Oper} (hsel : ∀ cs b, o.op ≠ .select cs b) (h : ∀ x ∈ o.op.operands, aeval tm x = aeval tm' x) : apure P tm o = apure P tm' o := by
 unfold apure
 rw [execOp_congr o hsel h]
theorem plainOperands_congr : ∀ {l : List Operand}, (∀ x ∈ l, aeval tm x = aeval tm' x) -> plainOperands tm l = plainOperands tm' l
 | [], _ => rfl
 | x :: r, h => by
  simp only [plainOperands]
  rw [h x (by simp), plainOperands_congr fun y hy => h y (by simp [hy])]
theorem aparts_congr {ps : Array (Nat × Operand)} (h : ∀ x ∈ ps.map (·.2), aeval tm x = aeval tm' x) : aparts tm ps = aparts tm' ps := by
 unfold aparts
 congr 1
 refine List.map_congr_left fun p hp => ?_
 obtain ⟨i, x⟩ := p
 simp only [Prod.mk.injEq, true_and]
 exact h x (Array.mem_map.2 ⟨(i, x), by simpa using hp, rfl⟩)
theorem map_congr_arr {xs : Array Operand} (h : ∀ x ∈ xs, aeval tm x = aeval tm' x) : xs.toList.map (aeval tm) = xs.toList.map (aeval tm') :=
 List.map_congr_left fun x hx => h x (by simpa using hx)
theorem abuildSlice_congr {S : St} {t : TypeId} {n : Nat} {ps : Array (Nat × Operand)} (h : ∀ x ∈ ps.map (·.2), aeval tm x = aeval tm' x) : abuildSlice P tm S t n ps = abuildSlice P tm' S t n ps := by
 unfold abuildSlice
 rw [aparts_congr h]
theorem astep_congr {S : St} {o : Oper} (hsel : ∀ cs b, o.op ≠ .select cs b) (h : ∀ x ∈ o.op.operands, aeval tm x = aeval tm' x) : astep callF P tm S o = astep callF P tm' S o := by
 have hp : apure P tm o = apure P tm' o := apure_congr hsel h
 obtain ⟨dst, op, ty, pos, after, guard⟩ := o
 cases op
 case call c =>
  have hargs : ∀ x ∈ c.args.toList, aeval tm x = aeval tm' x := fun x hx => h x (by
   simp only [Op.operands, Call.operands]
   cases c.callee <;> simp [by simpa using hx])
  simp only [astep, hp]
  cases hc : c.callee with
  | builtin b =>
   generalize hxs : c.args.toList = xs at hargs ⊢
   have hpo := plainOperands_congr hargs
   rcases xs with _ | ⟨x, _ | ⟨y, _ | ⟨z, r⟩⟩⟩
   ·cases b <;> simp only [hpo]
   ·have hx := hargs x (by simp)
    cases b <;> simp only [hpo, hx]
   ·have hx := hargs x (by simp)
    have hy := hargs y (by simp)
    cases b <;> simp only [hpo, hx, hy]
   ·cases b <;> simp only [hpo]
  | value f =>
   have hf : aeval tm f = aeval tm' f := h f (by simp [Op.operands, Call.operands, hc])
   simp only [hf, plainOperands_congr hargs, map_congr_arr (xs := c.args) (fun x hx => hargs x (by simpa using hx))]
   generalize hxs : c.args.toList = xs at hargs ⊢
   rcases xs with _ | ⟨x, _ | ⟨y, r⟩⟩
   ·rfl
   ·have hx := hargs x (by simp)
    simp only [hx]
    generalize aeval tm' f = u
    cases u <;> try rfl
    rename_i fn first captured
    cases fn <;> try rfl
    rename_i g
    simp only
    cases P.funcs[g]? <;> try rfl
    rename_i fn
    simp only
    cases fn.body <;> try rfl
    simp only
    generalize fn.resultTypes.toList = l
    rcases l with _ | ⟨y, _ | ⟨z, r⟩⟩
    ·rfl
    ·simp only [hx]
    ·rfl
   ·rfl
  | invoke r m =>
   have hr : aeval tm r = aeval tm' r := h r (by simp [Op.operands, Call.operands, hc])
   have hm : c.args.toList.map (aeval tm) = c.args.toList.map (aeval tm') := map_congr_arr fun x hx => h x (by simp [Op.operands, Call.operands, hx])
   simp only [hr, hm]
 case build t ps => simp only [astep, aparts_congr (tm := tm) (tm' := tm') fun x hx => h x (by simpa [Op.operands] using hx)]
 case buildSlice t n ps => simp only [astep, abuildSlice_congr (P := P) (tm := tm) (tm' := tm') fun x hx => h x (by simpa [Op.operands] using hx)]
 case makeFunc fn first captured =>
  simp only [astep, map_congr_arr (xs := first) fun x hx => h x (by simp [Op.operands, hx]), map_congr_arr (xs := captured) fun x hx => h x (by simp [Op.operands, hx])]
 case makeMap t r => cases r <;> rfl
 case slice t x lo hi mx =>
  cases mx with
  | some m => rfl
  | none =>
   have hx : aeval tm x = aeval tm' x := h x (by simp [Op.operands])
   have hl : lo.map (aeval tm) = lo.map (aeval tm') := by cases lo with | none => rfl | some l => simp [h l (by simp [Op.operands])]
   have hh : hi.map (aeval tm) = hi.map (aeval tm') := by cases hi with | none => rfl | some l => simp [h l (by simp [Op.operands])]
   have hpo : plainOperands tm (x :: (lo.toList ++ hi.toList)) = plainOperands tm' (x :: (lo.toList ++ hi.toList)) := plainOperands_congr fun y hy => h y (by
    simp only [List.mem_cons, List.mem_append, Option.mem_toList] at hy
    rcases hy with rfl | hy | hy
    ·simp [Op.operands]
    ·cases lo <;> simp_all [Op.operands]
    ·cases hi <;> simp_all [Op.operands])
   simp only [astep, hx, hl, hh, hp, hpo]
 all_goals (simp only [Op.operands] at h; first | rfl | (simp only [astep]; simp_all; done))
theorem astep_still {S S' : St} {o : Oper} {v : Value} (hk : kind o.op = 0 \/ kind o.op = 1) (h : astep callF P tm S o = some (v, S')) : S' = S := by
 obtain ⟨dst, op, ty, pos, after, guard⟩ := o
 cases op
 case call c =>
  obtain ⟨callee, args, at'⟩ := c
  cases callee with
  | builtin b =>
   cases b <;> simp only [kind] at hk <;> first | (simp at hk; done) | skip
   all_goals (simp only [astep] at h; repeat' split at h) <;> simp_all
  | _ => simp [kind] at hk
 case makeMap t r => cases r <;> simp [kind] at hk
 all_goals first | (simp [kind] at hk; done) | skip
 all_goals (simp only [astep] at h; (repeat' split at h) <;> simp_all)
theorem astep_pure {S S' S₂ : St} {o : Oper} {v : Value} (hk : kind o.op = 0) (h : astep callF P tm S o = some (v, S')) : astep callF P tm S₂ o = some (v, S₂) := by
 obtain ⟨dst, op, ty, pos, after, guard⟩ := o
 cases op
 case call c =>
  obtain ⟨callee, args, at'⟩ := c
  cases callee with
  | builtin b =>
   cases b <;> simp only [kind] at hk <;> first | (simp at hk; done) | skip
   all_goals (simp only [astep] at h ⊢; repeat' split at h) <;> simp_all
  | _ => simp [kind] at hk
 case makeMap t r => cases r <;> simp [kind] at hk
 all_goals first | (simp [kind] at hk; done) | skip
 all_goals (simp only [astep] at h ⊢; (repeat' split at h) <;> simp_all)
end
theorem allFrom_spec {f : Nat -> Oper -> Bool} : ∀ {l : List Oper} {k : Nat}, allFrom f k l = true -> ∀ j o, l[j]? = some o -> f (k + j) o = true
 | [], _, _, j, o, h => by simp at h
 | p :: r, k, hf, j, o, h => by
  simp only [allFrom, Bool.and_eq_true] at hf
  cases j with
  | zero => simp only [List.getElem?_cons_zero, Option.some.injEq] at h; subst h; exact hf.1
  | succ j =>
   have := allFrom_spec hf.2 j o (by simpa using h)
   rwa [Nat.add_assoc, Nat.add_comm 1 j] at this
theorem upTo_spec {f : Nat -> Bool} : ∀ {n : Nat}, upTo n f = true -> ∀ k, k <= n -> f k = true
 | 0, h, k, hk => by obtain rfl : k = 0 := by omega
                     exact h
 | n + 1, h, k, hk => by
  simp only [upTo, Bool.and_eq_true] at h
  rcases Nat.lt_or_ge n k with h' | h'
  ·obtain rfl : k = n + 1 := by omega
   exact h.1
  ·exact upTo_spec h.2 k h'
theorem isEven_spec {n : Nat} (h : isEven n = true) : n % 2 = 0 := by simpa [isEven] using h
theorem testBit_or {a b j : Nat} : Nat.testBit (a ||| b) j = (Nat.testBit a j || Nat.testBit b j) := Nat.testBit_or a b j
theorem fold_mask (ms : List Nat) : ∀ (l : List Edge) (s j : Nat), Nat.testBit (l.foldl (fun s e => if Region.binds .any e = true then s ||| (2 ^ e.on) ||| natAt ms e.on else s) s) j = true ->
  Nat.testBit s j = true \/ ∃ e ∈ l, Region.binds .any e = true /\ (j = e.on \/ Nat.testBit (natAt ms e.on) j = true)
 | [], s, j, h => .inl h
 | e :: l, s, j, h => by
  simp only [List.foldl_cons] at h
  rcases fold_mask ms l _ j h with h | ⟨e', he, h⟩
  ·split at h
   ·rename_i hb
    rw [testBit_or, testBit_or, Nat.testBit_two_pow] at h
    simp only [Bool.or_eq_true, decide_eq_true_eq] at h
    rcases h with (h | h) | h
    ·exact .inl h
    ·exact .inr ⟨e, by simp, hb, .inl h.symm⟩
    ·exact .inr ⟨e, by simp, hb, .inr h⟩
   ·exact .inl h
  ·exact .inr ⟨e', by simp [he], h⟩
theorem sameDst_false {a b : Option Nat} (h : sameDst a b = false) {d : Nat} (ha : a = some d) : b ≠ some d := by
 subst ha
 rintro rfl
 simp [sameDst] at h
structure OkD (ops : List Oper) (ms : List Nat) : Prop where
 mask : ∀ (i : Nat) (o : Oper) (j : Nat), ops[i]? = some o -> Nat.testBit (natAt ms i) j = true -> j < i /\ ∃ e ∈ o.after, Region.binds .any e = true /\ (j = e.on \/ Nat.testBit (natAt ms e.on) j = true)
 early : ∀ (i : Nat) (o : Oper) (e : Edge), ops[i]? = some o -> e ∈ o.after -> Region.binds .any e = true -> e.on < i
 slot : ∀ (i : Nat) (o : Oper) (x : Operand) (t : Nat), ops[i]? = some o -> x ∈ o.op.operands -> x = .tmp t -> slotOk ms ops i t = true
 guard : ∀ (i : Nat) (o : Oper) (g : Nat) (want : Bool) (p : Oper) (d : Nat), ops[i]? = some o -> o.guard = some (g, want) -> ops[g]? = some p -> p.dst = some d -> slotOk ms ops i d = true
 dst : ∀ (i l : Nat) (o o' : Oper) (d : Nat), ops[i]? = some o -> ops[l]? = some o' -> i ≠ l -> o.dst = some d -> o'.dst ≠ some d
theorem fold_mask_mem (ms : List Nat) : ∀ (l : List Edge) (s j : Nat), (Nat.testBit s j = true \/ ∃ e ∈ l, Region.binds .any e = true /\ j = e.on) ->
  Nat.testBit (l.foldl (fun s e => if Region.binds .any e = true then s ||| (2 ^ e.on) ||| natAt ms e.on else s) s) j = true
 | [], s, j, h => by
  rcases h with h | ⟨e, he, _⟩
  ·exact h
  ·cases he
 | e :: l, s, j, h => by
  simp only [List.foldl_cons]
  refine fold_mask_mem ms l _ j ?_
  rcases h with h | ⟨e', he, hb, rfl⟩
  ·left
   split
   ·rw [testBit_or, testBit_or, h]; rfl
   ·exact h
  ·rcases List.mem_cons.1 he with rfl | he
   ·left; rw [if_pos hb, testBit_or, testBit_or, Nat.testBit_two_pow]; simp
   ·exact .inr ⟨e', he, hb, rfl⟩
theorem okDraw_spec {ops : List Oper} (h : okDraw ops = true) : OkD ops (maskList ops []) := by
 have key : ∀ i o, ops[i]? = some o -> natAt (maskList ops []) i = afterMask (maskList ops []) o /\ natAt (maskList ops []) i < 2 ^ i /\ (∀ x ∈ o.op.operands, opdSlotOk (maskList ops []) ops i x = true) /\
   guardSlotOk (maskList ops []) ops i o = true /\ ∀ l o', ops[l]? = some o' -> i = l \/ sameDst o.dst o'.dst = false := by
  intro i o ho
  have := allFrom_spec h i o ho
  simp only [Nat.zero_add, Bool.and_eq_true, List.all_eq_true] at this
  obtain ⟨⟨⟨h1, h2⟩, h3, h4⟩, h5⟩ := this
  refine ⟨Nat.eq_of_beq_eq_true h1, Nat.le_of_ble_eq_true h2, fun x hx => h3 x (by simpa using hx), h4, fun l o' hl => ?_⟩
  have := allFrom_spec h5 l o' hl
  simp only [Nat.zero_add, Bool.or_eq_true, Bool.not_eq_true'] at this
  exact this.imp Nat.eq_of_beq_eq_true id
 have small : ∀ i o j, ops[i]? = some o -> Nat.testBit (natAt (maskList ops []) i) j = true -> j < i := by
  intro i o j ho hj
  rcases Nat.lt_or_ge j i with h' | h'
  ·exact h'
  ·have := Nat.testBit_lt_two_pow (Nat.lt_of_lt_of_le (key i o ho).2.1 (Nat.pow_le_pow_right (by decide) h'))
   rw [this] at hj; cases hj
 constructor
 ·intro i o j ho hj
  refine ⟨small i o j ho hj, ?_⟩
  rw [(key i o ho).1] at hj
  rcases fold_mask _ _ _ _ hj with h | ⟨e, he, h⟩
  ·simp at h
  ·exact ⟨e, by simpa using he, h⟩
 ·intro i o e ho he hb
  refine small i o _ ho ?_
  rw [(key i o ho).1]
  exact fold_mask_mem _ _ _ _ (.inr ⟨e, by simpa using he, hb, rfl⟩)
 ·rintro i o _ t ho hx rfl
  exact (key i o ho).2.2.1 _ hx
 ·intro i o g want p d ho hg hp hd
  have := (key i o ho).2.2.2.1
  simpa [guardSlotOk, hg, hp, hd] using this
 ·intro i l o o' d ho hl hne hd
  rcases (key i o ho).2.2.2.2 l o' hl with h | h
  ·exact absurd h hne
  ·exact sameDst_false h hd
theorem slotOk_spec {ms : List Nat} {ops : List Oper} {i t : Nat} (h : slotOk ms ops i t = true) {l : Nat} {o : Oper} (ho : ops[l]? = some o) (hd : o.dst = some t) :
  l = i \/ Nat.testBit (natAt ms i) l = true \/ Nat.testBit (natAt ms l) i = true := by
 have := allFrom_spec h l o ho
 simp only [Nat.zero_add, Bool.or_eq_true, Bool.not_eq_true'] at this
 rcases this with ((h | h) | h) | h
 ·exact absurd rfl (sameDst_false (b := some t) h hd)
 ·exact .inl (Nat.eq_of_beq_eq_true h)
 ·exact .inr (.inl h)
 ·exact .inr (.inr h)
theorem veq1_spec {a b : Value} (h : veq1 a b = true) : a = b := by
 unfold veq1 at h
 split at h
 case h_3 a b =>
  have : a.data.toList = b.data.toList := by simpa using h
  congr 1
  cases a; cases b
  congr 1
  exact Array.ext' this
 all_goals simp_all
theorem veqL_spec : ∀ {a b : List Value}, veqL a b = true -> a = b
 | [], [], _ => rfl
 | [], _ :: _, h => by simp [veqL] at h
 | _ :: _, [], h => by simp [veqL] at h
 | a :: r, b :: s, h => by
  simp only [veqL, Bool.and_eq_true] at h
  rw [veq1_spec h.1, veqL_spec h.2]
theorem fnSame_spec {a b : Fn} (h : fnSame a b = true) : a = b := by
 unfold fnSame at h
 split at h
 ·rw [Nat.eq_of_beq_eq_true h]
 ·rw [Nat.eq_of_beq_eq_true h]
 ·cases h
theorem veq2_spec {a b : Value} (h : veq2 a b = true) : a = b := by
 unfold veq2 at h
 split at h
 ·congr 1; exact Array.ext' (veqL_spec h)
 ·simp only [Bool.and_eq_true] at h
  rw [fnSame_spec h.1, Array.ext' (veqL_spec h.2.1), Array.ext' (veqL_spec h.2.2)]
 ·exact veq1_spec h
theorem veqL2_spec : ∀ {a b : List Value}, veqL2 a b = true -> a = b
 | [], [], _ => rfl
 | a :: r, b :: s, h => by
  simp only [veqL2, Bool.and_eq_true] at h
  rw [veq2_spec h.1, veqL2_spec h.2]
 | [], _ :: _, h => by simp [veqL2] at h
 | _ :: _, [], h => by simp [veqL2] at h
theorem veq_spec {a b : Value} (h : veq a b = true) : a = b := by
 unfold veq at h
 split at h
 ·congr 1; exact Array.ext' (veqL2_spec h)
 ·exact veq2_spec h
theorem getOwn_some {p : Nat -> Bool} {n : Nat} {o : Obj} : ∀ {al : List (Nat × Nat × Obj)}, getB (own p al) n = some o -> ∃ j, (j, n, o) ∈ al /\ p j = true
 | [], h => by simp [own, getB] at h
 | (j, m, x) :: r, h => by
  simp only [own] at h
  split at h
  ·rename_i hp
   simp only [getB] at h
   split at h
   ·rename_i hm
    obtain rfl := Nat.eq_of_beq_eq_true hm
    obtain rfl := Option.some.inj h
    exact ⟨j, by simp, hp⟩
   ·obtain ⟨j', h1, h2⟩ := getOwn_some h
    exact ⟨j', by simp [h1], h2⟩
  ·obtain ⟨j', h1, h2⟩ := getOwn_some h
   exact ⟨j', by simp [h1], h2⟩
theorem fresh1_spec {n : Nat} : ∀ {al : List (Nat × Nat × Obj)}, fresh1 n al = true -> ∀ x ∈ al, x.2.1 ≠ n
 | [], _, x, hx => by cases hx
 | (j, m, y) :: r, h, x, hx => by
  simp only [fresh1, Bool.and_eq_true, Bool.not_eq_true'] at h
  rcases List.mem_cons.1 hx with rfl | hx
  ·intro e; subst e; simp at h
  ·exact fresh1_spec h.2 x hx
theorem getOwn_mem {p : Nat -> Bool} {n j : Nat} {o : Obj} : ∀ {al : List (Nat × Nat × Obj)}, noTwice al = true -> (j, n, o) ∈ al -> p j = true -> getB (own p al) n = some o
 | [], _, h, _ => by cases h
 | (i, m, x) :: r, hn, h, hp => by
  simp only [noTwice, Bool.and_eq_true] at hn
  rcases List.mem_cons.1 h with h | h
  ·obtain ⟨rfl, rfl, rfl⟩ : j = i /\ n = m /\ o = x := by simpa using h
   simp [own, hp, getB]
  ·have hne : n ≠ m := fun e => fresh1_spec hn.1 _ h e
   simp only [own]
   split
   ·simp only [getB]
    rw [if_neg (by simpa using fun e => hne e.symm)]
    exact getOwn_mem hn.2 h hp
   ·exact getOwn_mem hn.2 h hp
theorem noTwice_uniq : ∀ {al : List (Nat × Nat × Obj)}, noTwice al = true -> ∀ {i j n : Nat} {o o' : Obj}, (i, n, o) ∈ al -> (j, n, o') ∈ al -> i = j /\ o = o'
 | [], _, _, _, _, _, _, h, _ => by cases h
 | (k, m, x) :: r, hn, i, j, n, o, o', h1, h2 => by
  simp only [noTwice, Bool.and_eq_true] at hn
  rcases List.mem_cons.1 h1 with e1 | m1 <;> rcases List.mem_cons.1 h2 with e2 | m2
  ·simp only [Prod.mk.injEq] at e1 e2
   obtain ⟨rfl, rfl, rfl⟩ := e1
   obtain ⟨rfl, _, rfl⟩ := e2
   exact ⟨rfl, rfl⟩
  ·simp only [Prod.mk.injEq] at e1
   obtain ⟨rfl, rfl, rfl⟩ := e1
   exact absurd rfl (fresh1_spec hn.1 (_, _, _) m2)
  ·simp only [Prod.mk.injEq] at e2
   obtain ⟨rfl, rfl, rfl⟩ := e2
   exact absurd rfl (fresh1_spec hn.1 (_, _, _) m1)
  ·exact noTwice_uniq hn.2 m1 m2
theorem apartOk_spec {ms : List Nat} {F : DR} : ∀ {al : List (Nat × Nat × Obj)}, apartOk ms F al = true -> ∀ j n o k, (j, n, o) ∈ al -> k <= F.es.length -> absd ms F.es k j = false -> getB (heapAt F.hs k) n = none
 | [], _, _, _, _, _, h, _, _ => by cases h
 | (i, m, x) :: r, ha, j, n, o, k, h, hk, hab => by
  simp only [apartOk, Bool.and_eq_true] at ha
  rcases List.mem_cons.1 h with e | h
  ·simp only [Prod.mk.injEq] at e
   obtain ⟨rfl, rfl, rfl⟩ := e
   have := upTo_spec ha.1 k hk
   simpa [hab] using this
  ·exact apartOk_spec ha.2 j n o k h hk hab
theorem getB_append (a b : List (Nat × Obj)) (n : Nat) : getB (a ++ b) n = match getB a n with | some o => some o | none => getB b n := by
 induction a with
 | nil => rfl
 | cons x r ih =>
  obtain ⟨m, o⟩ := x
  simp only [List.cons_append, getB]
  split
  ·rfl
  ·exact ih
theorem absd_spec {ms : List Nat} {j : Nat} : ∀ {es : List Nat} {k : Nat}, absd ms es k j = true -> ∃ t e, t < k /\ es[t]? = some e /\ Nat.testBit (natAt ms e) j = true
 | [], _, h => by simp [absd] at h
 | _ :: _, 0, h => by simp [absd] at h
 | e :: r, k + 1, h => by
  simp only [absd, Bool.or_eq_true] at h
  rcases h with h | h
  ·exact ⟨0, e, by omega, rfl, h⟩
  ·obtain ⟨t, e', h1, h2, h3⟩ := absd_spec h
   exact ⟨t + 1, e', by omega, by simpa using h2, h3⟩
theorem absd_succ {ms : List Nat} {j e : Nat} : ∀ {es : List Nat} {k : Nat}, es[k]? = some e -> absd ms es (k + 1) j = (absd ms es k j || Nat.testBit (natAt ms e) j)
 | [], _, h => by simp at h
 | x :: r, 0, h => by
  obtain rfl : x = e := by simpa using h
  cases r <;> simp [absd]
 | x :: r, k + 1, h => by
  have ih := absd_succ (ms := ms) (j := j) (es := r) (k := k) (by simpa using h)
  rw [absd.eq_1, ih, absd.eq_1, Bool.or_assoc]
theorem absd_append {ms : List Nat} {j : Nat} : ∀ {es es' : List Nat} {k : Nat}, k <= es.length -> absd ms (es ++ es') k j = absd ms es k j
 | [], es', k, h => by
  obtain rfl : k = 0 := by simpa using h
  cases es' <;> simp [absd]
 | x :: r, es', 0, _ => by simp [absd]
 | x :: r, es', k + 1, h => by
  simp only [List.cons_append, absd]
  rw [absd_append (by simpa using h)]
theorem heapAt_append : ∀ {hs hs' : List (List (Nat × Obj))} {k : Nat}, k < hs.length -> heapAt (hs ++ hs') k = heapAt hs k
 | [], _, k, h => by simp at h
 | x :: r, hs', 0, _ => rfl
 | x :: r, hs', k + 1, h => by
  simp only [List.cons_append, heapAt]
  exact heapAt_append (by simpa using h)
theorem own_append {p : Nat -> Bool} : ∀ {al al' : List (Nat × Nat × Obj)}, (∀ x ∈ al', p x.1 = false) -> own p (al ++ al') = own p al
 | [], al', h => by
  induction al' with
  | nil => rfl
  | cons x r ih =>
   obtain ⟨j, n, o⟩ := x
   have hx := h (j, n, o) (by simp)
   simp only at hx
   simp only [List.nil_append, own] at ih ⊢
   rw [if_neg (by simp [hx])]
   exact ih fun y hy => h y (by simp [hy])
 | (j, n, o) :: r, al', h => by
  simp only [List.cons_append, own]
  rw [own_append h]
theorem seen_append {ms : List Nat} {es es' : List Nat} {hs hs' : List (List (Nat × Obj))} {al al' : List (Nat × Nat × Obj)} {i k : Nat} (hal : ∀ x ∈ al', Nat.testBit (natAt ms i) x.1 = false) (hk : k <= es.length) (hh : k < hs.length) :
  seen ms (es ++ es') (hs ++ hs') (al ++ al') i k = seen ms es hs al i k := by
 unfold seen
 rw [heapAt_append hh, own_append fun x hx => by simp [hal x hx]]
 congr 2
 funext j
 rw [absd_append hk]
theorem sameEntries_spec : ∀ {a b : List MapEntry}, sameEntries a b = true -> a = b
 | [], [], _ => rfl
 | a :: r, b :: s, h => by
  simp only [sameEntries, Bool.and_eq_true] at h
  obtain ⟨⟨⟨h1, h2⟩, h3⟩, h4⟩ := h
  rw [sameEntries_spec h4]
  congr 1
  obtain ⟨k, v, b0⟩ := a
  obtain ⟨k', v', b0'⟩ := b
  simp only at h1 h2 h3
  rw [veq_spec h1, veq_spec h2, Nat.eq_of_beq_eq_true h3]
 | [], _ :: _, h => by simp [sameEntries] at h
 | _ :: _, [], h => by simp [sameEntries] at h
theorem sameObj2_spec {o o' : Obj} (h : sameObj2 o o' = true) : o = o' := by
 unfold sameObj2 at h
 split at h
 ·simp only [Bool.and_eq_true] at h
  congr 1
  ·exact Array.ext' (sameEntries_spec h.1)
  ·exact Nat.eq_of_beq_eq_true h.2
 ·rename_i c e fz c' e' fz'
  simp only [Bool.and_eq_true] at h
  obtain ⟨⟨h1, h2⟩, h3, h4⟩ := h
  congr 1
  ·exact Array.ext' (veqL2_spec h1)
  ·exact Nat.eq_of_beq_eq_true h2
  ·exact Prod.ext (Nat.eq_of_beq_eq_true h3) (Nat.eq_of_beq_eq_true h4)
 ·cases h
theorem within_spec {h' : List (Nat × Obj)} : ∀ {h : List (Nat × Obj)}, within h' h = true -> ∀ n o, getB h n = some o -> getB h' n = some o
 | [], _, n, o, hg => by cases hg
 | (m, x) :: r, hs, n, o, hg => by
  simp only [within, Bool.and_eq_true] at hs
  simp only [getB] at hg
  split at hg
  ·rename_i hm
   obtain rfl := Nat.eq_of_beq_eq_true hm
   obtain rfl := Option.some.inj hg
   have := hs.1
   split at this
   ·rename_i o' ho'
    rw [ho', sameObj2_spec this]
   ·cases this
  ·exact within_spec hs.2 n o hg
theorem veqT_spec : ∀ {a b : List Value}, veqT a b = true -> a = b
 | [], [], _ => rfl
 | a :: r, b :: s, h => by
  simp only [veqT, Bool.and_eq_true] at h
  rw [veq_spec h.1, veqT_spec h.2]
 | [], _ :: _, h => by simp [veqT] at h
 | _ :: _, [], h => by simp [veqT] at h
end Go.Dam
