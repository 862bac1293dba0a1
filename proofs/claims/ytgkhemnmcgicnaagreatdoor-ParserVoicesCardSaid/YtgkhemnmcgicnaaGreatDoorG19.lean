/- An own evaluator of closed runs of a program, proved sound against the model: one part of it. -/
import Derived.Test.YtgkhemnmcgicnaaGreatDoorG18
namespace Go.Dam
section
variable {P : Program} {E : bV} {A : Nat -> Prop} {tm : List Value} {a : Act} {w : World}
def eM (P : Program) : Prop := ∀ (g : FuncId) (fn : Func), P.funcs[g]? = some fn -> fn.body.isSome = true -> GU fn = true
theorem CN {b off : Nat} {cc : Array Value} {e : TypeId} {fz : Nat × Nat} (hg : w.heap[b]? = some (.cells cc e fz)) : (Conv.seenAt ⟨b, off, none⟩).run P w = .ok ⟨b, off, none⟩ w := by
 have hsh : w.shape? b = some (e, cc.size) := by simp [World.shape?, hg]
 simp [Conv.seenAt, viewAt, hsh]
theorem CP {h : List (Nat × Obj)} (H : aV P E A h w) {s d t : TypeId} {x v : Value} (hs : P.underlying s = some (.pointer t)) (hd : P.underlying d = some .unsafePointer) (hb : yA P h t x = some v) :
  (Go.convert s d (aK E x)).run P w = .ok (aK E v) w /\ v = x := by
 unfold yA at hb
 split at hb
 ·rename_i n off
  split at hb
  ·rename_i c e fz sz hg hsz
   simp only [yb, ya, yd] at hb
   obtain ⟨⟨h1, h2⟩, rfl⟩ := hb
   have h1 : off < c.size := ye h1
   have h2 : 0 < sz := ye h2
   obtain ⟨cc, fzc, g1, _, _, _, _, g6⟩ := H.cells hg
   have hsh : w.shape? (E.β n) = some (e, cc.size) := by simp [World.shape?, g1]
   have hn : ¬ (cc.size <= E.σ n + off) := by omega
   have hz : sz ≠ 0 := by omega
   refine ⟨?_, rfl⟩
   rw [cF]
   simp [Go.convert, Conv.unsafePointer, run_underlying hs, run_underlying hd, bV.addr, CN g1, cellsIn, hsh, hn, eR hsz, hz]
  ·simp at hb
 ·simp at hb
theorem yL {h : List (Nat × Obj)} (H : aV P E A h w) {s d u : TypeId} {x v : Value} (hs : P.underlying s = some .unsafePointer) (hd : P.underlying d = some (.pointer u)) (hb : rY P h u x = some v) :
  (Go.convert s d (aK E x)).run P w = .ok (aK E v) w /\ v = x := by
 unfold rY at hb
 split at hb
 ·rename_i n
  split at hb
  ·rename_i c e fz sz hg hsz
   simp only [yb, ya, yd] at hb
   obtain ⟨⟨⟨⟨h0, h1⟩, h2⟩, h3⟩, rfl⟩ := hb
   obtain rfl : e = u := by simpa using h1
   have h2 : 0 < sz := ye h2
   have h3 := ye h3
   have hrow : iC n = false := by simpa using h0
   obtain ⟨_, _, oc, hoc, hr⟩ := H.blk n _ hg
   simp only [cK, hrow] at hr
   obtain ⟨r1, rfl⟩ := hr
   have hsh : w.shape? (E.β n) = some (e, c.size) := by simp [World.shape?, hoc]
   have hz : sz ≠ 0 := by omega
   have hco : P.cellsOf e = sz := by unfold fC at hsz; unfold Program.cellsOf; rw [hsz]; rfl
   have hdp : P.depth = (2 * (P.types.size + Made.depth) + 1) + 1 := rfl
   have hlies : liesAt P P.depth e (c.size / sz) 0 e 1 = true := by
    rw [hdp]
    simp only [liesAt, yu]
    left
    rw [hdp]
    have : 1 <= c.size / sz := (Nat.le_div_iff_mul_le h2).2 (by omega)
    simp [rowAt, hco, hz, sameLayout, this]
   have hva : (variablesAt ⟨E.β n, 0, none⟩ e 1).run P w = .ok true w := by
    simp only [variablesAt, Sem.run_bind, run_program, Result.andThen_ok, run_shape, hsh, Sem.run_pure, hco, hlies]
   refine ⟨?_, rfl⟩
   rw [cF]
   simp [Go.convert, Conv.unsafePointer, run_underlying hs, run_underlying hd, bV.addr, r1, CN hoc, eR hsz, hz, hva]
  ·simp at hb
 ·simp at hb
theorem M8 {h : List (Nat × Obj)} (H : aV P E A h w) {args : Array TypeId} {ty : TypeId} {x v : Value} (hb : YD P h args x = some v) :
  (Builtin.len_ args ty #[aK E x]).run P w = .ok (aK E v) w /\ Sc A v := by
 unfold YD at hb
 split at hb
 ·rename_i t hargs
  obtain rfl : args = #[t] := by apply yl; simpa using hargs
  split at hb
  ·rename_i q n cp e hu
   simp only [ya] at hb; subst hb
   rw [bL, eV]
   exact ⟨by simp [Builtin.len_, run_underlying hu, goInt], nC _ _ _⟩
  ·rename_i n k e hu
   split at hb
   ·rename_i es clock hg
    simp only [Option.ite_none_left_eq_some, ya, Bool.not_eq_true] at hb
    obtain ⟨hloose, rfl⟩ := hb
    obtain ⟨m1, _, _⟩ := H.mapAt hg hloose
    rw [jL, eV]
    exact ⟨by simp [Builtin.len_, run_underlying hu, iL m1, goInt], nC _ _ _⟩
   ·simp at hb
  ·simp at hb
 ·simp at hb
theorem M9 {args : Array TypeId} {ty : TypeId} {x v : Value} (hb : YE P args x = some v) (w : World) :
  (Builtin.cap_ args ty #[aK E x]).run P w = .ok (aK E v) w /\ Sc A v := by
 unfold YE at hb
 split at hb
 ·rename_i t hargs
  obtain rfl : args = #[t] := by apply yl; simpa using hargs
  split at hb
  ·rename_i q n cp e hu
   split at hb
   ·simp at hb
   ·rename_i hrow
    simp only [ya] at hb; subst hb
    rw [bL, eV, if_neg hrow]
    exact ⟨by simp [Builtin.cap_, run_underlying hu, goInt], nC _ _ _⟩
  ·simp at hb
 ·simp at hb
theorem yM {h : List (Nat × Obj)} (H : aV P E A h w) {ts : Array TypeId} {ty : TypeId} {x v : Value} (hb : u7 P h x = some v) (hs : Sc A x) :
  (Builtin.unsafeSliceData_ ts ty #[aK E x]).run P w = .ok (aK E v) w /\ Sc A v := by
 unfold u7 at hb
 split at hb
 ·simp only [ya] at hb; subst hb
  rw [bY, fD]
  exact ⟨rfl, yC _⟩
 ·rename_i n off len cp
  have hAn : A n := (dJ A _ _ _).1 hs
  rw [bL]
  split at hb
  ·rename_i hrow
   split at hb
   ·rename_i c e fz hg
    split at hb
    ·rename_i hs1
     simp only [yb, ya, yd] at hb
     obtain ⟨⟨h1, h2⟩, rfl⟩ := hb
     have h1 : off < c.size := ye h1
     have h2 : off = cp := by simpa using h2
     obtain ⟨_, _, oc, _, hr⟩ := H.blk n _ hg
     simp only [cK, hrow, if_true] at hr
     obtain ⟨cc, fzc, s', _, r2, _, _, r5, _⟩ := hr
     rw [hs1] at r2; obtain rfl := yg r2
     rw [cF]
     refine ⟨?_, (kZ A _).2 hAn⟩
     simp only [hrow, if_true]
     exact Lib.run_unsafeSliceData_row w ts ty _ _ _ (by omega)
    ·simp at hb
   ·simp at hb
  ·rename_i hrow
   simp only [yb, ya] at hb
   obtain ⟨h1, rfl⟩ := hb
   have h1 : 0 < cp := ye h1
   rw [cF]
   refine ⟨?_, (kZ A _).2 hAn⟩
   simp only [hrow]
   exact Lib.run_unsafeSliceData_row w ts ty _ _ _ (by simp; omega)
 ·simp at hb
theorem NA {t : TypeId} {name : String} {f : FuncId} (h : GB P t name = some f) (v : Value) (w : World) : (method (P.types.size + Made.depth) t v name).run P w = .ok (f, v) w := by
 unfold GB at h
 split at h
 case h_2 => cases h
 rename_i e i hu hi
 split at h
 case h_2 => cases h
 rename_i m hm
 split at h
 case h_2 => cases h
 rename_i g hf
 simp only [yb, ya] at h
 obtain ⟨hp, rfl⟩ := h
 have hp' : m.path.toList = [] := by simpa using hp
 obtain ⟨k, hk⟩ : ∃ k, P.types.size + Made.depth = k + 1 := ⟨P.types.size + 99, rfl⟩
 rw [hk]
 have hti : (typeInfo t).run P w = .ok i w := by
  simp [typeInfo, hi]
 simp only [method, Sem.run_bind, hti, Result.andThen_ok, hm, hp', follow, Sem.run_pure, hf, receiverAt, run_underlying hu, Place.get]
theorem sU {callF : Fn -> List Value -> St -> Option (Value × St)} (hcf : gE P callF) (hnm : eM P) {o : Oper} {S S' : St} {v : Value} (ht : Tm E A tm a) (hg : rM P E A) (hev : S.next % 2 = 0) (H : aV P E A S.heap w)
  (hok : ∀ x ∈ o.op.operands, pD P x = true) (hA : ∀ n, A n -> ¬ (S.next <= n /\ n < S'.next)) (hb : bQ callF P tm S o = some (v, S')) :
  cG P E A o a S.heap S.next w v S'.heap S'.next := by
 have hop : ∀ x ∈ o.op.operands, a.eval x = aK E (aH tm x) /\ Sc A (aH tm x) := fun x hx => wP ht hg (hok x hx)
 have hpure : ∀ {v : Value}, (∀ x ∈ o.op.operands, plain (aH tm x) = true) -> (∀ cs b, o.op ≠ .select cs b) -> j8 P tm o = some v -> cG P E A o a S.heap S.next w v S.heap S.next :=
  fun h1 h2 h3 => cG.pure H (fun x hx => (hop x hx).1) h1 h2 h3
 obtain ⟨dst, op, ty, pos, after, guard⟩ := o
 cases op with
 | move x =>
  simp only [bQ, ya, yc] at hb; obtain ⟨rfl, rfl⟩ := hb
  obtain ⟨h1, h2⟩ := hop x (by simp [Op.operands])
  exact cG.still H (by simp [execOp, h1]) h2
 | assign x =>
  simp only [bQ, ya, yc] at hb; obtain ⟨rfl, rfl⟩ := hb
  obtain ⟨h1, h2⟩ := hop x (by simp [Op.operands])
  exact cG.still H (by simp [execOp, h1]) h2
 | pick c x y =>
  simp only [bQ] at hb
  obtain ⟨c1, c2⟩ := hop c (by simp [Op.operands])
  obtain ⟨x1, x2⟩ := hop x (by simp [Op.operands])
  obtain ⟨y1, y2⟩ := hop y (by simp [Op.operands])
  split at hb
  ·rename_i d hd
   simp only [ya, yc] at hb; obtain ⟨rfl, rfl⟩ := hb
   rw [hd, fP] at c1
   refine cG.still H ?_ (by cases d <;> simp [x2, y2])
   cases d <;> simp [execOp, c1, asBool, x1, y1]
  ·simp at hb
 | alloc t =>
  simp only [bQ] at hb
  split at hb
  ·rename_i cs hcs
   simp only [yb, d9, ya, yc] at hb
   obtain ⟨hp, rfl, rfl⟩ := hb
   obtain ⟨E', w', h1, h2⟩ := J4 (P := P) H hev hA hcs hp
   exact cG.value (aR rfl h1) h2 (by rw [kZ]; exact .inr ⟨yh _, by dsimp only; omega⟩)
  ·simp at hb
 | box t x =>
  simp only [bQ, d9, ya, yc] at hb
  obtain ⟨rfl, rfl⟩ := hb
  obtain ⟨x1, x2⟩ := hop x (by simp [Op.operands])
  obtain ⟨E', w', h1, h2⟩ := Q7 (P := P) H hev hA (t := t) x2
  rw [<- x1] at h1
  exact cG.value (aR rfl h1) h2 (by rw [kZ]; exact .inr ⟨yh _, by dsimp only; omega⟩)
 | build t ps =>
  simp only [bQ] at hb
  have hps : ∀ p ∈ ps, a.eval p.2 = aK E (aH tm p.2) /\ Sc A (aH tm p.2) := fun p hp => hop p.2 (by simp only [Op.operands, yyk, yw]; exact ⟨p, by simpa using hp, rfl⟩)
  split at hb
  ·rename_i z v' hz hv
   simp only [yb, ya, yc] at hb
   obtain ⟨hp, rfl, rfl⟩ := hb
   obtain ⟨h1, h2⟩ := J5 (E := E) hz hp hv (EY fun p hp => (hps p hp).2)
   refine cG.still H (aR (s := Instr.build t (ps.map fun (i, x) => (i, a.eval x))) rfl ?_) h2
   rw [EX fun p hp => (hps p hp).1]
   exact dW h1 w
  ·simp at hb
 | buildSlice t n ps =>
  simp only [bQ] at hb
  have hps : ∀ p ∈ ps, a.eval p.2 = aK E (aH tm p.2) /\ Sc A (aH tm p.2) := fun p hp => hop p.2 (by simp only [Op.operands, yyk, yw]; exact ⟨p, by simpa using hp, rfl⟩)
  obtain ⟨E', w', h1, h2, h3⟩ := yG (P := P) H hev hb hA (EY fun p hp => (hps p hp).2)
  rw [<- EX fun p hp => (hps p hp).1] at h1
  exact cG.value (aR rfl h1) h2 h3
 | load t x =>
  simp only [bQ] at hb
  obtain ⟨x1, x2⟩ := hop x (by simp [Op.operands])
  split at hb
  ·rename_i v' hv
   simp only [ya, yc] at hb; obtain ⟨rfl, rfl⟩ := hb
   obtain ⟨h1, h2⟩ := zF H hv
   rw [<- x1] at h1
   exact cG.still H (aR rfl h1) h2
  ·simp at hb
 | store t x y =>
  simp only [bQ] at hb
  obtain ⟨x1, x2⟩ := hop x (by simp [Op.operands])
  obtain ⟨y1, y2⟩ := hop y (by simp [Op.operands])
  split at hb
  ·rename_i h' hs
   simp only [ya, yc] at hb; obtain ⟨rfl, rfl⟩ := hb
   obtain ⟨w', h1, h2⟩ := GN H hs y2 S.next
   rw [<- x1, <- y1] at h1
   exact cG.skip (sP rfl h1) h2
  ·simp at hb
 | nilCheck x =>
  simp only [bQ] at hb
  obtain ⟨x1, x2⟩ := hop x (by simp [Op.operands])
  split at hb
  ·rename_i p hp
   simp only [ya, yc] at hb; obtain ⟨rfl, rfl⟩ := hb
   rw [hp] at x1 x2
   rw [cF] at x1
   refine cG.still H ?_ x2
   simp only [execOp, x1, cF]
   rfl
  ·simp at hb
 | binOp op t x y yt =>
  simp only [bQ] at hb
  obtain ⟨x1, x2⟩ := hop x (by simp [Op.operands])
  obtain ⟨y1, y2⟩ := hop y (by simp [Op.operands])
  split at hb
  ·rename_i hpl
   simp only [yd] at hpl
   split at hb
   ·rename_i v' hv
    simp only [ya, yc] at hb; obtain ⟨rfl, rfl⟩ := hb
    refine hpure (fun z hz => ?_) (by simp) hv
    simp only [Op.operands, yyk, yk, List.not_mem_nil, or_false] at hz
    rcases hz with rfl | rfl
    ·exact hpl.1
    ·exact hpl.2
   ·simp at hb
  ·split at hb
   ·rename_i b he
    simp only [ya, yc] at hb; obtain ⟨rfl, rfl⟩ := hb
    obtain ⟨s1, s2, s3, s4⟩ := CC (E := E) he
    refine cG.still H (aR (s := do eqGuard .eql t x y (a.eval x) (a.eval y); Go.binOp .eql t (a.eval x) (a.eval y)) rfl ?_) (oE _ _)
    rw [x1, y1, s3, fP]
    simp only [Sem.run_bind, zW s1 s2, Result.andThen_ok, B1 he, Sem.run_pure]
   ·rename_i b he
    simp only [ya, yc] at hb; obtain ⟨rfl, rfl⟩ := hb
    obtain ⟨s1, s2, s3, s4⟩ := CC (E := E) he
    refine cG.still H (aR (s := do eqGuard .neq t x y (a.eval x) (a.eval y); Go.binOp .neq t (a.eval x) (a.eval y)) rfl ?_) (oE _ _)
    rw [x1, y1, s4, fP]
    simp only [Sem.run_bind, zW s1 s2, Result.andThen_ok, B1 he, Sem.run_pure]
   ·simp at hb
 | unOp op t x =>
  simp only [bQ] at hb
  split at hb
  ·rename_i hpl
   split at hb
   ·rename_i v' hv
    simp only [ya, yc] at hb; obtain ⟨rfl, rfl⟩ := hb
    refine hpure (fun z hz => ?_) (by simp) hv
    simp only [Op.operands, yyk, yk, List.not_mem_nil, or_false] at hz
    subst hz; exact hpl
   ·simp at hb
  ·simp at hb
 | makeInterface t x =>
  simp only [bQ] at hb
  obtain ⟨x1, x2⟩ := hop x (by simp [Op.operands])
  split at hb
  ·simp at hb
  ·rename_i d hu hd
   simp only [ya, yc] at hb; obtain ⟨rfl, rfl⟩ := hb
   refine cG.still H (aR (s := Instr.makeInterface t (a.eval x)) rfl ?_) (by rw [sC]; exact x2)
   rw [x1, gS]
   simp only [Instr.makeInterface, Sem.run_bind, run_underlying hd, Result.andThen_ok]
   rfl
  ·simp at hb
 | makeFunc fn first captured =>
  have hfn : bQ callF P tm S ⟨dst, .makeFunc fn first captured, ty, pos, after, guard⟩ = some (.func fn (first.toList.map (aH tm)).toArray (captured.toList.map (aH tm)).toArray, S) /\ wF E fn = fn /\ J0 A fn := by
   cases fn <;> first
    | exact ⟨rfl, rfl, trivial⟩
    | (simp [bQ] at hb; done)
  rw [hfn.1] at hb
  simp only [ya, yc] at hb; obtain ⟨rfl, rfl⟩ := hb
  have hf : ∀ x ∈ first, a.eval x = aK E (aH tm x) /\ Sc A (aH tm x) := fun x hx => hop x (by simp [Op.operands, hx])
  have hc : ∀ x ∈ captured, a.eval x = aK E (aH tm x) /\ Sc A (aH tm x) := fun x hx => hop x (by simp [Op.operands, hx])
  refine cG.still H (aR (s := Instr.makeFunc fn (first.map a.eval) (captured.map a.eval)) rfl ?_) ?_
  ·rw [tU fun x hx => (hf x hx).1, tU fun x hx => (hc x hx).1, fN, hfn.2.1]
   simp [Instr.makeFunc]
  ·rw [mR]
   refine ⟨hfn.2.2, ?_, ?_⟩
   ·intro x hx
    simp only [yyk, yw] at hx
    obtain ⟨y, hy, rfl⟩ := hx
    exact (hf y (by simpa using hy)).2
   ·intro x hx
    simp only [yyk, yw] at hx
    obtain ⟨y, hy, rfl⟩ := hx
    exact (hc y (by simpa using hy)).2
 | makeSlice t l c =>
  simp only [bQ] at hb
  obtain ⟨l1, l2⟩ := hop l (by simp [Op.operands])
  obtain ⟨c1, c2⟩ := hop c (by simp [Op.operands])
  obtain ⟨E', w', h1, h2, h3⟩ := AX (P := P) H hev hb hA
  rw [<- l1, <- c1] at h1
  exact cG.value (aR rfl h1) h2 h3
 | fieldAddr t x f =>
  simp only [bQ] at hb
  obtain ⟨x1, x2⟩ := hop x (by simp [Op.operands])
  split at hb
  ·rename_i v' hv
   simp only [ya, yc] at hb; obtain ⟨rfl, rfl⟩ := hb
   obtain ⟨h1, h2⟩ := AV (E := E) hv x2 w
   rw [<- x1] at h1
   exact cG.still H (aR rfl h1) h2
  ·simp at hb
 | indexAddr t x i =>
  simp only [bQ] at hb
  obtain ⟨x1, x2⟩ := hop x (by simp [Op.operands])
  obtain ⟨i1, i2⟩ := hop i (by simp [Op.operands])
  split at hb
  ·rename_i v' hv
   simp only [ya, yc] at hb; obtain ⟨rfl, rfl⟩ := hb
   obtain ⟨h1, h2⟩ := AW (E := E) hv x2 w
   rw [<- x1, <- i1] at h1
   exact cG.still H (aR rfl h1) h2
  ·simp at hb
 | field t x f =>
  simp only [bQ] at hb
  obtain ⟨x1, x2⟩ := hop x (by simp [Op.operands])
  split at hb
  ·rename_i v' hv
   simp only [ya, yc] at hb; obtain ⟨rfl, rfl⟩ := hb
   obtain ⟨h1, h2⟩ := J6 (E := E) hv x2
   rw [<- x1] at h1
   exact cG.still H (aR rfl (dW h1 w)) h2
  ·simp at hb
 | index t x i =>
  simp only [bQ] at hb
  obtain ⟨x1, x2⟩ := hop x (by simp [Op.operands])
  obtain ⟨i1, i2⟩ := hop i (by simp [Op.operands])
  split at hb
  ·rename_i v' hv
   simp only [ya, yc] at hb; obtain ⟨rfl, rfl⟩ := hb
   obtain ⟨h1, h2⟩ := J7 (E := E) hv x2
   rw [<- x1, <- i1] at h1
   exact cG.still H (aR rfl (dW h1 w)) h2
  ·simp at hb
 | extract x i =>
  simp only [bQ] at hb
  obtain ⟨x1, x2⟩ := hop x (by simp [Op.operands])
  split at hb
  ·rename_i v' hv
   simp only [ya, yc] at hb; obtain ⟨rfl, rfl⟩ := hb
   obtain ⟨h1, h2⟩ := DY (E := E) hv x2
   rw [<- x1] at h1
   exact cG.still H (aR rfl (dW h1 w)) h2
  ·simp at hb
 | lookup t x i ok =>
  simp only [bQ] at hb
  obtain ⟨x1, x2⟩ := hop x (by simp [Op.operands])
  obtain ⟨i1, i2⟩ := hop i (by simp [Op.operands])
  split at hb
  ·rename_i v' hv
   simp only [ya, yc] at hb; obtain ⟨rfl, rfl⟩ := hb
   obtain ⟨h1, h2⟩ := GT H hv
   rw [<- x1, <- i1] at h1
   exact cG.still H (aR rfl h1) h2
  ·simp at hb
 | mapUpdate t m k x =>
  simp only [bQ] at hb
  obtain ⟨m1, m2⟩ := hop m (by simp [Op.operands])
  obtain ⟨k1, k2⟩ := hop k (by simp [Op.operands])
  obtain ⟨x1, x2⟩ := hop x (by simp [Op.operands])
  split at hb
  ·rename_i S'' hs
   simp only [ya, yc] at hb; obtain ⟨rfl, rfl⟩ := hb
   obtain ⟨w', h1, h2⟩ := rD H hs x2
   rw [<- m1, <- k1, <- x1] at h1
   exact cG.skip (sP rfl h1) h2
  ·simp at hb
 | insert t m k x =>
  simp only [bQ] at hb
  obtain ⟨m1, m2⟩ := hop m (by simp [Op.operands])
  obtain ⟨k1, k2⟩ := hop k (by simp [Op.operands])
  obtain ⟨x1, x2⟩ := hop x (by simp [Op.operands])
  split at hb
  ·rename_i S'' hs
   simp only [ya, yc] at hb; obtain ⟨rfl, rfl⟩ := hb
   obtain ⟨w', h1, h2⟩ := rD H hs x2
   rw [<- m1, <- k1, <- x1] at h1
   exact cG.skip (sP rfl h1) h2
  ·simp at hb
 | makeMap t r =>
  cases r with
  | some _ => simp [bQ] at hb
  | none =>
   simp only [bQ, d9, ya, yc] at hb
   obtain ⟨rfl, rfl⟩ := hb
   refine cG.value (E' := E.bind S.next w.heap.size 0 0) (w' := w.alloc (.map #[] 0)) (aR (s := Instr.makeMap t none) rfl ?_) ?_ (by rw [GK]; exact .inr ⟨yh _, by dsimp only; omega⟩)
   ·simp [Instr.makeMap, jL, bV.bind]
   ·exact aX.new H hA ⟨yh _, by omega⟩ (by intro x hx; simp at hx) (by simp [cK, q8]) rfl rfl rfl rfl
 | range t x =>
  simp only [bQ] at hb
  obtain ⟨x1, x2⟩ := hop x (by simp [Op.operands])
  obtain ⟨E', w', h1, h2, h3⟩ := KD H (t := t) hb hA
  rw [<- x1] at h1
  exact cG.value (aR rfl h1) h2 h3
 | next x b =>
  simp only [bQ] at hb
  obtain ⟨x1, x2⟩ := hop x (by simp [Op.operands])
  obtain ⟨w', h1, h2, h3⟩ := M5 H (ty := ty) hb (fun k _ hx => by omega)
  rw [<- x1] at h1
  exact cG.value (aR rfl h1) h2 (kX h3)
 | entry x =>
  simp only [bQ] at hb
  obtain ⟨x1, x2⟩ := hop x (by simp [Op.operands])
  split at hb
  ·rename_i v' hv
   simp only [ya, yc] at hb; obtain ⟨rfl, rfl⟩ := hb
   obtain ⟨h1, h2⟩ := KE H hv
   rw [<- x1] at h1
   exact cG.still H (aR rfl h1) h2
  ·simp at hb
 | slice t x lo hi mx =>
  cases mx with
  | some _ => simp [bQ] at hb
  | none =>
   simp only [bQ] at hb
   obtain ⟨x1, x2⟩ := hop x (by simp [Op.operands])
   have hlo : lo.map a.eval = (lo.map (aH tm)).map (aK E) := by
    cases lo with
    | none => rfl
    | some y => simp [(hop y (by simp [Op.operands])).1]
   have hhi : hi.map a.eval = (hi.map (aH tm)).map (aK E) := by
    cases hi with
    | none => rfl
    | some y => simp [(hop y (by simp [Op.operands])).1]
   split at hb
   ·split at hb
    ·rename_i hpl
     split at hb
     ·rename_i v' hv
      simp only [ya, yc] at hb; obtain ⟨rfl, rfl⟩ := hb
      exact hpure (fun z hz => fQ hpl z (by simpa [Op.operands] using hz)) (by simp) hv
     ·simp at hb
    ·simp at hb
   ·split at hb
    ·rename_i hpl
     split at hb
     ·rename_i v' hv
      simp only [ya, yc] at hb; obtain ⟨rfl, rfl⟩ := hb
      exact hpure (fun z hz => fQ hpl z (by simpa [Op.operands] using hz)) (by simp) hv
     ·simp at hb
    ·simp at hb
   ·split at hb
    ·rename_i v' hv
     simp only [ya, yc] at hb; obtain ⟨rfl, rfl⟩ := hb
     obtain ⟨h1, h2⟩ := J8 H hv x2
     rw [<- x1, <- hlo, <- hhi] at h1
     exact cG.still H (aR rfl h1) h2
    ·simp at hb
 | convert s d x =>
  simp only [bQ] at hb
  obtain ⟨x1, x2⟩ := hop x (by simp [Op.operands])
  have hpx : ∀ {v : Value}, plain (aH tm x) = true -> j8 P tm ⟨dst, .convert s d x, ty, pos, after, guard⟩ = some v -> cG P E A ⟨dst, .convert s d x, ty, pos, after, guard⟩ a S.heap S.next w v S.heap S.next :=
   fun h1 h2 => hpure (fun z hz => by simp only [Op.operands, yyk, yk, List.not_mem_nil, or_false] at hz; subst hz; exact h1) (by simp) h2
  split at hb
  ·rename_i b e hx hs hd
   split at hb
   ·rename_i hu hs1
    simp only [ya] at hb
    have hv : v = (jD S e b).1 := by rw [hb]
    have hS : S' = (jD S e b).2 := by rw [hb]
    subst hv hS
    obtain ⟨E', w', h1, h2, h3⟩ := D1 (P := P) H hev hA hs1 (s := b)
    refine cG.value (aR (s := Go.convert s d (a.eval x)) rfl ?_) h2 h3
    rw [x1, hx, dV]
    simp only [Go.convert, Sem.run_bind, run_underlying hs, run_underlying hd, Result.andThen_ok, run_underlying hu, h1]
   ·simp at hb
  ·rename_i e hs hd
   split at hb
   ·rename_i hu
    split at hb
    ·rename_i v' hv
     simp only [ya, yc] at hb; obtain ⟨rfl, rfl⟩ := hb
     obtain ⟨h1, h2⟩ := B4 (P := P) H hv
     refine cG.still H (aR (s := Go.convert s d (a.eval x)) rfl ?_) h2
     rw [x1]
     have hsh : ∃ q l c, aH tm x = .slice q l c := by
      unfold tP at hv
      split at hv
      ·rename_i hq; exact ⟨_, _, _, hq⟩
      ·rename_i hq; exact ⟨_, _, _, hq⟩
      ·simp at hv
     obtain ⟨q, l, c, hq⟩ := hsh
     have hrs : ∃ q' c', aK E (aH tm x) = .slice q' l c' := by
      rw [hq]; cases q with
      | none => exact ⟨_, _, bY _ _ _⟩
      | some q => exact ⟨_, _, bL _ _ _ _⟩
     obtain ⟨q', c', hrs⟩ := hrs
     rw [hrs] at h1 |-
     rw [run_convert_bytes_string w s d e q' l c' hs hu hd, h1]
    ·simp at hb
   ·simp at hb
  ·rename_i t hs hd
   split at hb
   ·rename_i v' hv
    simp only [ya, yc] at hb; obtain ⟨rfl, rfl⟩ := hb
    obtain ⟨h1, rfl⟩ := CP H hs hd hv
    exact cG.still H (aR (s := Go.convert s d (a.eval x)) rfl (by rw [x1]; exact h1)) x2
   ·simp at hb
  ·rename_i u hs hd
   split at hb
   ·rename_i v' hv
    simp only [ya, yc] at hb; obtain ⟨rfl, rfl⟩ := hb
    obtain ⟨h1, rfl⟩ := yL H hs hd hv
    exact cG.still H (aR (s := Go.convert s d (a.eval x)) rfl (by rw [x1]; exact h1)) x2
   ·simp at hb
  ·simp only [yb] at hb
   obtain ⟨hpl, hb⟩ := hb
   split at hb
   ·rename_i v' hv
    simp only [ya, yc] at hb; obtain ⟨rfl, rfl⟩ := hb
    exact hpx hpl hv
   ·simp at hb
 | call c =>
  simp only [bQ] at hb
  have harg : ∀ x ∈ c.args, a.eval x = aK E (aH tm x) /\ Sc A (aH tm x) := fun x hx => hop x (by simp [Op.operands, Call.operands, hx])
  have hbi : ∀ (b : Builtin), c.callee = .builtin b -> execOp a.eval ⟨dst, .call c, ty, pos, after, guard⟩ = Go.builtin b c.argTypes ty (c.args.map fun | .const _ => true | _ => false) ((c.args.toList.map (aH tm)).map (aK E)).toArray := by
   intro b hc
   simp only [execOp, AY hc (fun x hx => (harg x hx).1)]
   rfl
  have hpl : ∀ {v : Value} (b : Builtin), c.callee = .builtin b -> cB tm c.args.toList = true -> j8 P tm ⟨dst, .call c, ty, pos, after, guard⟩ = some v -> cG P E A ⟨dst, .call c, ty, pos, after, guard⟩ a S.heap S.next w v S.heap S.next := by
   intro v b hc h1 h2
   refine hpure (fun z hz => fQ h1 z ?_) (by simp) h2
   simpa [Op.operands, Call.operands, hc] using hz
  split at hb
  ·rename_i x y hc hxs
   have hx : x ∈ c.args := by
    have : x ∈ c.args.toList := by rw [hxs]; simp
    simpa using this
   obtain ⟨E', w', h1, h2, h3⟩ := DZ (P := P) H hev (ty := ty) hb hA (harg x hx).2
   refine cG.value (aR (s := Builtin.append_ c.argTypes ty ((c.args.toList.map (aH tm)).map (aK E)).toArray) (hbi _ hc) ?_) h2 h3
   rw [hxs]; exact h1
  ·rename_i x y hc hxs
   obtain ⟨w', h1, h2, h3⟩ := M2 (P := P) H (ty := ty) hb
   have : S'.next = S.next := by
    unfold PZ at hb
    repeat' (first | (split at hb) | skip)
    all_goals first | (simp at hb; done) | (dsimp only at hb; repeat' (split at hb)) | skip
    all_goals first | (simp at hb; done) | (simp only [ya, yc] at hb; obtain ⟨_, rfl⟩ := hb; rfl) | skip
   refine cG.value (aR (s := Builtin.copy_ c.argTypes ty ((c.args.toList.map (aH tm)).map (aK E)).toArray) (hbi _ hc) ?_) h2 (kX h3)
   rw [hxs]; exact h1
  ·rename_i x hc hxs
   have hx : x ∈ c.args := by
    have : x ∈ c.args.toList := by rw [hxs]; simp
    simpa using this
   split at hb
   ·rename_i v' hv
    simp only [ya, yc] at hb; obtain ⟨rfl, rfl⟩ := hb
    obtain ⟨h1, h2⟩ := M8 (P := P) H (ty := ty) hv
    refine cG.still H (aR (s := Builtin.len_ c.argTypes ty ((c.args.toList.map (aH tm)).map (aK E)).toArray) (hbi _ hc) ?_) h2
    rw [hxs]; exact h1
   ·simp only [yb] at hb
    obtain ⟨h1, hb⟩ := hb
    split at hb
    ·rename_i v' hv
     simp only [ya, yc] at hb; obtain ⟨rfl, rfl⟩ := hb
     exact hpl _ hc (by rw [hxs]; exact h1) hv
    ·simp at hb
  ·rename_i x hc hxs
   split at hb
   ·rename_i v' hv
    simp only [ya, yc] at hb; obtain ⟨rfl, rfl⟩ := hb
    obtain ⟨h1, h2⟩ := M9 (P := P) (E := E) (A := A) (ty := ty) hv w
    refine cG.still H (aR (s := Builtin.cap_ c.argTypes ty ((c.args.toList.map (aH tm)).map (aK E)).toArray) (hbi _ hc) ?_) h2
    rw [hxs]; exact h1
   ·simp only [yb] at hb
    obtain ⟨h1, hb⟩ := hb
    split at hb
    ·rename_i v' hv
     simp only [ya, yc] at hb; obtain ⟨rfl, rfl⟩ := hb
     exact hpl _ hc (by rw [hxs]; exact h1) hv
    ·simp at hb
  ·rename_i x hc hxs
   have hx : x ∈ c.args := by
    have : x ∈ c.args.toList := by rw [hxs]; simp
    simpa using this
   split at hb
   ·rename_i v' hv
    simp only [ya, yc] at hb; obtain ⟨rfl, rfl⟩ := hb
    obtain ⟨h1, h2⟩ := yM (P := P) H (ts := c.argTypes) (ty := ty) hv (harg x hx).2
    refine cG.still H (aR (s := Builtin.unsafeSliceData_ c.argTypes ty ((c.args.toList.map (aH tm)).map (aK E)).toArray) (hbi _ hc) ?_) h2
    rw [hxs]; exact h1
   ·simp at hb
  ·rename_i x y hc hxs
   obtain ⟨w', h1, h2, h3⟩ := vB (P := P) H (ty := ty) hb
   refine cG.value (aR (s := Builtin.unsafeString_ c.argTypes ty ((c.args.toList.map (aH tm)).map (aK E)).toArray) (hbi _ hc) ?_) h2 (kX h3)
   rw [hxs]; exact h1
  ·rename_i hc
   simp only [yb] at hb
   obtain ⟨h1, hb⟩ := hb
   split at hb
   ·rename_i v' hv
    simp only [ya, yc] at hb; obtain ⟨rfl, rfl⟩ := hb
    exact hpl _ hc h1 hv
   ·simp at hb
  ·rename_i hc
   simp only [yb] at hb
   obtain ⟨h1, hb⟩ := hb
   split at hb
   ·rename_i v' hv
    simp only [ya, yc] at hb; obtain ⟨rfl, rfl⟩ := hb
    exact hpl _ hc h1 hv
   ·simp at hb
  ·rename_i f hc
   have hf := hop f (by simp [Op.operands, Call.operands, hc])
   split at hb
   ·rename_i g first captured hfv
    rw [hfv, fN, BV] at hf
    have hex : execOp a.eval ⟨dst, .call c, ty, pos, after, guard⟩ = callFunc g (first.map (aK E) ++ ((c.args.toList.map (aH tm)).map (aK E)).toArray ++ captured.map (aK E)) := by
     simp only [execOp, uG hc hf.1 (fun x hx => (harg x hx).1)]
     rfl
    split at hb
    ·simp at hb
    ·rename_i fn hfn
     split at hb
     ·rename_i bd hbd
      refine CB hcf hg hev H (CD hf.2 ?_) hA hb ?_
      ·intro x hx
       obtain ⟨y, hy, rfl⟩ := yw.1 hx
       exact (harg y (by simpa using hy)).2
      ·rw [hex, gZ hfn (by rw [hbd]; rfl) (hnm g fn hfn (by rw [hbd]; rfl))]
       congr 2
       apply yl
       simp
     ·rename_i hbd
      split at hb
      ·rename_i hcond
       simp only [yd, beq_iff_eq] at hcond
       obtain ⟨⟨⟨q1, q2⟩, q3⟩, q4⟩ := hcond
       split at hb
       ·rename_i x hxs
        simp only [ya, yc] at hb; obtain ⟨rfl, rfl⟩ := hb
        have hx : x ∈ c.args := by
         have : x ∈ c.args.toList := by rw [hxs]; simp
         simpa using this
        have e1 : first = #[] := by apply yl; simpa using q1
        have e2 : captured = #[] := by apply yl; simpa using q2
        refine cG.still H ?_ (harg x hx).2
        rw [hex, hxs, e1, e2]
        simpa using rH (P := P) (x := aK E (aH tm x)) hfn hbd q3 q4 w
       ·simp at hb
      ·split at hb
       ·rename_i hcond
        simp only [yd, beq_iff_eq] at hcond
        obtain ⟨⟨⟨q1, q2⟩, q3⟩, q4⟩ := hcond
        split at hb
        ·rename_i x t hxs hrt
         have e1 : first = #[] := by apply yl; simpa using q1
         have e2 : captured = #[] := by apply yl; simpa using q2
         have hr0 : fn.resultTypes = #[t] := by apply yl; simpa using hrt
         obtain ⟨E', w', h1, h2, h3⟩ := yH (P := P) H hev (ps := fn.params) hb hA
         refine cG.value ?_ h2 h3
         rw [hex, hxs, e1, e2]
         simpa using pJ (P := P) hfn hbd q3 q4 (by rw [hr0]; exact h1)
        ·simp at hb
       ·simp only [yb, yd] at hb
        obtain ⟨⟨⟨h1, q1⟩, q2⟩, hb⟩ := hb
        split at hb
        ·rename_i v' hv
         simp only [ya, yc] at hb; obtain ⟨rfl, rfl⟩ := hb
         refine hpure (fun z hz => ?_) (by simp) hv
         simp only [Op.operands, Call.operands, hc, Array.mem_append, yyk, yk, List.not_mem_nil, or_false] at hz
         rcases hz with rfl | hz
         ·rw [hfv]; simp only [plain, jU, fV, yd]; exact ⟨q1, q2⟩
         ·exact fQ h1 z (by simpa using hz)
        ·simp at hb
   ·rename_i l first captured hfv
    simp only [yb, yd] at hb
    obtain ⟨⟨q1, q2⟩, hb⟩ := hb
    have e1 : first = #[] := by apply yl; simpa using q1
    have e2 : captured = #[] := by apply yl; simpa using q2
    subst e1 e2
    rw [hfv, fN, zD] at hf
    refine KF hcf hg hev H ?_ hA hb ?_
    ·intro x hx
     obtain ⟨y, hy, rfl⟩ := yw.1 hx
     exact (harg y (by simpa using hy)).2
    ·simp only [execOp, D2 hc (by simpa using hf.1) (fun x hx => (harg x hx).1)]
     simp [invoke]
   ·simp at hb
  ·rename_i r name hc
   have hr := hop r (by simp [Op.operands, Call.operands, hc])
   split at hb
   ·rename_i t x hrv
    rw [hrv, gS] at hr
    split at hb
    ·rename_i f hm
     simp only [yb] at hb
     obtain ⟨hbody, hb⟩ := hb
     obtain ⟨fn, hfn, hbd⟩ : ∃ fn, P.funcs[f]? = some fn /\ fn.body.isSome = true := by
      unfold JX at hbody
      split at hbody
      ·rename_i fn hfn; exact ⟨fn, hfn, hbody⟩
      ·cases hbody
     refine CB hcf hg hev H ?_ hA hb ?_
     ·intro y hy
      rcases yk.1 hy with rfl | hy
      ·have := hr.2
       rw [sC] at this
       exact this
      ·obtain ⟨z, hz, rfl⟩ := yw.1 hy
       exact (harg z (by simpa using hz)).2
     ·have hres : resolve a.eval c ty = pure { target := .fn (.method name) #[], args := #[Value.iface t (aK E x)] ++ ((c.args.toList.map (aH tm)).map (aK E)).toArray } := by
       unfold resolve
       rw [tU fun x hx => (harg x hx).1, hc]
       simp only [hr.1]
      have hex : execOp a.eval ⟨dst, .call c, ty, pos, after, guard⟩ = callMethod (.iface t (aK E x)) name ((c.args.toList.map (aH tm)).map (aK E)).toArray := by
       simp only [execOp, hres]
       simp only [pure_bind, invoke]
       simp
       rw [List.take_of_length_le (by simp)]
      rw [hex]
      simp only [callMethod, Sem.run_bind, run_program, Result.andThen_ok, NA hm]
      rw [gZ hfn hbd (hnm f fn hfn hbd)]
      congr 2
      apply yl
      simp
    ·simp at hb
   ·simp at hb
  ·simp at hb
 | _ => simp [bQ] at hb
theorem o5 {callF : Fn -> List Value -> St -> Option (Value × St)} {o : Oper} {S S' : St} {v : Value} (hb : bQ callF P tm S o = some (v, S')) : ∀ c, o.op ≠ .defer c := by
 intro c h
 obtain ⟨dst, op, ty, pos, after, guard⟩ := o
 simp only at h
 subst h
 simp [bQ] at hb
end
end Go.Dam
