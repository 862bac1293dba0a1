/- An own evaluator of closed runs of a program, proved sound against the model: one part of it. -/
import Derived.Test.YtgkhemnmcgicnaaGreatDoorG13
import Derived.Laws.Build
namespace Go.Dam
def bV.bind (E : bV) (n b s k : Nat) : bV := ⟨fun m => if m = n then b else E.β m, fun m => if m = n then s else E.σ m, fun m => if m = n then k else E.κ m⟩
theorem bV.bind_other (E : bV) (n b s k m : Nat) (h : m ≠ n) : (E.bind n b s k).β m = E.β m /\ (E.bind n b s k).σ m = E.σ m /\ (E.bind n b s k).κ m = E.κ m := by
 simp [bV.bind, h]
theorem bB {α β : Type} (P : Program) (x : Sem α) (f : α -> Sem β) : bC P (x >>= f) = (bC P x).bind fun a => bC P (f a) := by
 show bC P (x.bind f) = _
 induction x with
 | pure a => rfl
 | program k ih => exact ih P
 | mark m k ih => exact ih
 | _ => rfl
theorem dR {α : Type} (P : Program) (a : α) : bC P (Pure.pure a : Sem α) = some a := rfl
theorem qC {α : Type} (P : Program) (c : Prop) [Decidable c] (x y : Sem α) : bC P (if c then x else y) = if c then bC P x else bC P y := by split <;> rfl
theorem cU {α : Type} (P : Program) (s : String) : bC P (stuck s : Sem α) = none := rfl
theorem vA {α : Type} (P : Program) (s : Unsupported) : bC P (unsupported s : Sem α) = none := rfl
theorem cV (P : Program) (t : TypeId) : bC P (underlying t) = P.underlying t := by
 show bC P (program >>= _) = _
 rw [bB]
 show Option.bind (some P) _ = _
 simp only [yj]
 cases P.underlying t <;> rfl
theorem rA (P : Program) (t : TypeId) : bC P (typeInfo t) = P.info? t := by
 show bC P (program >>= _) = _
 rw [bB]
 show Option.bind (some P) _ = _
 simp only [yj]
 cases P.info? t <;> rfl
theorem oX (P : Program) (t : TypeId) : bC P (Go.sizeOf t) = fC P t := by
 unfold Go.sizeOf fC
 rw [bB, rA]
 cases P.info? t <;> rfl
theorem GP (P : Program) (t : TypeId) : bC P (isAgg t) = Q3 P t := by
 unfold isAgg Q3
 rw [bB, cV]
 cases P.underlying t with
 | none => rfl
 | some d => cases d <;> rfl
theorem yE (P : Program) (t : TypeId) : bC P (zeroValue t) = pE P t := by
 unfold zeroValue pE
 rw [bB, rA]
 cases P.info? t with
 | none => rfl
 | some i => simp only [yj]; cases i.zero <;> rfl
section
variable {P : Program} {E : bV} {A : Nat -> Prop} {h h' : List (Nat × Obj)} {nx : Nat} {w w' : World}
theorem aX.new {m s k : Nat} {o oc : Obj} (H : aV P E A h w) (hA : ∀ n, A n -> ¬ (nx <= n /\ n < nx + 2)) (hm : nx <= m /\ m < nx + 2) (hsc : uE A o)
  (hrel : cK P (E.bind m w.heap.size s k) m o oc) (hw : w'.heap = w.heap.push oc) (h2 : w'.os = w.os) (h3 : w'.tape = w.tape) (h4 : w'.output = w.output) :
  aX P E A h nx w (E.bind m w.heap.size s k) ((m, o) :: h) (nx + 2) w' := by
 refine aX.put (m := m) (b := w.heap.size) (o' := o) (oc' := oc) H (by omega) (by omega) (fun k hk => bV.bind_other E m _ _ _ k (by omega)) (fun k hk => (bV.bind_other E m _ _ _ k hk).1)
  hA (.inr hm) (by simp [bV.bind]) ?_ (jW (fun _ h => .inl h) o hsc) hrel (by rw [hw]; simp) ?_ (by rw [hw]; simp) h2 h3 h4 (.inr (yh _))
 ·intro k x hk
  simp only [aL] at hk
  by_cases e : m = k
  ·subst e; rw [if_pos (by simp)] at hk; exact .inl ⟨rfl, (yg hk).symm⟩
  ·rw [if_neg (by simpa using e)] at hk
   refine .inr ⟨fun e' => e e'.symm, hk, ?_⟩
   obtain ⟨_, _, oc', hoc, _⟩ := H.blk k x hk
   intro e'
   rw [e', yye (yh _)] at hoc
   cases hoc
 ·intro k hk hlt
  rw [hw, Array.getElem?_push, if_neg hk]
theorem Q6 {m b k : Nat} {c : Array Value} {e : TypeId} {fz : Nat × Nat} (hm : iC m = false) (hA : ¬ A m) (hsc : ∀ x ∈ c, Sc A x) :
  cK P (E.bind m b 0 k) m (.cells c e fz) (.cells (c.map (aK E)) e fz) := by
 simp only [cK, hm]
 refine ⟨by simp [bV.bind], ?_⟩
 congr 1
 exact yn fun x hx => (eQ (A := A) (fun n hn => bV.bind_other E m _ _ _ n (fun e => hA (e ▸ hn))) x (hsc x hx)).symm
theorem qD {n : Nat} (h : n % 2 = 0) : iC n = false := by unfold iC; rw [h]; rfl
theorem kC {n : Nat} (h : n % 2 = 0) : iC (n + 1) = true := by unfold iC; rw [show (n + 1) % 2 = 1 by omega]; rfl
theorem kK (H : aV P E A h w) (hev : nx % 2 = 0) (hA : ∀ n, A n -> ¬ (nx <= n /\ n < nx + 2)) (c : Array Value) (t : TypeId) (hsc : ∀ x ∈ c, Sc A x) :
  ∃ E' w', (newRow t (c.map (aK E))).run P w = .ok (E'.addr ⟨nx, 0, none⟩) w' /\ aX P E A h nx w E' ((nx, .cells c t) :: h) (nx + 2) w' := by
 refine ⟨E.bind nx w.heap.size 0 0, { w with heap := w.heap.push (.cells (c.map (aK E)) t) }, ?_, ?_⟩
 ·simp [newRow, bV.addr, bV.bind]
 ·exact aX.new H hA ⟨yh _, by omega⟩ hsc (Q6 (qD hev) (fun hn => hA nx hn ⟨yh _, by omega⟩) hsc) rfl rfl rfl rfl
theorem GQ (E : bV) {l : List Value} (h : dQ l = true) : l.map (aK E) = l := by
 have := yp (l := l) (f := aK E) (g := id) (fun x hx => qB E (eL h x hx))
 simpa using this
theorem oY (E : bV) {c : Array Value} (h : dQ c.toList = true) : c.map (aK E) = c := by
 apply yl; rw [yyj]; exact GQ E h
theorem J4 (H : aV P E A h w) (hev : nx % 2 = 0) (hA : ∀ n, A n -> ¬ (nx <= n /\ n < nx + 2)) {t : TypeId} {cs : List Value} (hc : rW P t = some cs) (hp : dQ cs = true) :
  ∃ E' w', (Instr.alloc t true (.tuple #[])).run P w = .ok (aK E' (.pointer (some ⟨nx, 0, none⟩))) w' /\ aX P E A h nx w E' ((nx, .cells cs.toArray t) :: h) (nx + 2) w' := by
 unfold rW at hc
 split at hc
 ·rename_i z hz
  simp at hc; subst hc
  obtain ⟨E', w', h1, h2⟩ := kK (P := P) H hev hA z.cells t (fun x hx => mX A (eL hp x (by simpa using hx)))
  rw [oY E hp] at h1
  refine ⟨E', w', ?_, by simpa using h2⟩
  simp only [Instr.alloc, Sem.run_bind, yD hz, Result.andThen_ok, newVar, h1, cF, Sem.run_pure]
 ·simp at hc
theorem Q7 (H : aV P E A h w) (hev : nx % 2 = 0) (hA : ∀ n, A n -> ¬ (nx <= n /\ n < nx + 2)) {t : TypeId} {v : Value} (hsc : Sc A v) :
  ∃ E' w', (Instr.box t (aK E v)).run P w = .ok (aK E' (.pointer (some ⟨nx, 0, none⟩))) w' /\ aX P E A h nx w E' ((nx, .cells v.cells t) :: h) (nx + 2) w' := by
 obtain ⟨E', w', h1, h2⟩ := kK (P := P) H hev hA v.cells t (BW hsc)
 refine ⟨E', w', ?_, h2⟩
 rw [<- tS] at h1
 simp only [Instr.box, newVar, Sem.run_bind, h1, Result.andThen_ok, cF, Sem.run_pure]
theorem uF (E : bV) (off : Nat) : ∀ (l : List (Value × Nat)) (cs : Array Value),
  (l.map fun x => (aK E x.1, x.2)).foldl (fun cs (x : Value × Nat) => cs.setIfInBounds (off + x.2) x.1) (cs.map (aK E)) = (l.foldl (fun cs (x : Value × Nat) => cs.setIfInBounds (off + x.2) x.1) cs).map (aK E)
 | [], cs => rfl
 | (v, j) :: l, cs => by
  simp only [yyn, List.foldl_cons]
  rw [<- uF E off l (cs.setIfInBounds (off + j) v)]
  congr 1
  simp [Array.map_setIfInBounds]
theorem MY (E : bV) (c : Array Value) : (c.map (aK E)).zipIdx.toList = c.zipIdx.toList.map fun x => (aK E x.1, x.2) := by
 simp [Array.toList_zipIdx, List.zipIdx_map]
theorem DW (E : bV) (off : Nat) (c cs : Array Value) : (c.map (aK E)).zipIdx.foldl (fun cs (c, j) => cs.setIfInBounds (off + j) c) (cs.map (aK E)) = (c.zipIdx.foldl (fun cs (c, j) => cs.setIfInBounds (off + j) c) cs).map (aK E) := by
 rw [<- Array.foldl_toList, <- Array.foldl_toList, MY]
 exact uF E off _ _
theorem BZ (E : bV) (place : Nat -> Option (Nat × Nat)) : ∀ (ps : List (Nat × Value)) (cs : Array Value),
  Instr.fill place (cs.map (aK E)) (ps.map fun x => (x.1, aK E x.2)) = (Instr.fill place cs ps).map (·.map (aK E))
 | [], cs => rfl
 | (i, v) :: ps, cs => by
  simp only [yyn, Instr.fill]
  cases place i with
  | none => rfl
  | some p =>
   obtain ⟨off, size⟩ := p
   simp only [tS, Array.size_map]
   split
   ·rfl
   ·rw [DW]; exact BZ E place ps _
theorem GR {A : Nat -> Prop} (place : Nat -> Option (Nat × Nat)) : ∀ (ps : List (Nat × Value)) (cs r : Array Value), (∀ x ∈ cs, Sc A x) -> (∀ p ∈ ps, Sc A p.2) ->
  Instr.fill place cs ps = some r -> ∀ x ∈ r, Sc A x
 | [], cs, r, h1, _, hr => by simp [Instr.fill] at hr; subst hr; exact h1
 | (i, v) :: ps, cs, r, h1, h2, hr => by
  simp only [Instr.fill] at hr
  cases hp : place i with
  | none => simp [hp] at hr
  | some p =>
   obtain ⟨off, size⟩ := p
   simp only [hp] at hr
   split at hr
   ·simp at hr
   ·refine GR place ps _ r ?_ (fun p hp => h2 p (yo _ hp)) hr
    have hv := BW (h2 (i, v) (List.mem_cons_self ..))
    have key : ∀ (l : List (Value × Nat)) (cs : Array Value), (∀ x ∈ l, Sc A x.1) -> (∀ x ∈ cs, Sc A x) -> ∀ x ∈ l.foldl (fun cs (x : Value × Nat) => cs.setIfInBounds (off + x.2) x.1) cs, Sc A x := by
     intro l
     induction l with
     | nil => exact fun cs _ h => h
     | cons a l ih =>
      intro cs ha hcs
      refine ih _ (fun x hx => ha x (yo _ hx)) fun x hx => ?_
      rcases Array.mem_or_eq_of_mem_setIfInBounds hx with hx | hx
      ·exact hcs x hx
      ·subst hx; exact ha a (List.mem_cons_self ..)
    rw [<- Array.foldl_toList]
    refine key _ cs (fun x hx => ?_) h1
    have : x.1 ∈ v.cells := by
     exact Array.fst_mem_of_mem_zipIdx (Array.mem_toList_iff.1 hx)
    exact hv x.1 this
end
def DX (E : bV) (x : Nat × Value) : Nat × Value := (x.1, aK E x.2)
section
variable {P : Program} {E : bV} {A : Nat -> Prop} {h h' : List (Nat × Obj)} {nx : Nat} {w w' : World}
theorem J5 {t : TypeId} {ps : Array (Nat × Value)} {z v : Value} (hz : pE P t = some z) (hp : dQ z.cells.toList = true) (hb : bC P (Instr.build t ps) = some v) (hsc : ∀ p ∈ ps, Sc A p.2) :
  bC P (Instr.build t (ps.map (DX E))) = some (aK E v) /\ Sc A v := by
 have hpl : (ps.map (DX E)).toList = ps.toList.map fun x => (x.1, aK E x.2) := by simp [DX]
 have hzc : ∀ x ∈ z.cells, Sc A x := fun x hx => mX A (eL hp x (by simpa using hx))
 have key : ∀ (place : Nat -> Option (Nat × Nat)) (cells : Array Value), Instr.fill place z.cells ps.toList = some cells ->
   Instr.fill place z.cells (ps.map (DX E)).toList = some (cells.map (aK E)) /\ ∀ x ∈ cells, Sc A x := by
  intro place cells hc
  have h1 := BZ E place ps.toList z.cells
  rw [oY E hp, hc] at h1
  rw [hpl]
  exact ⟨by simpa using h1, GR place ps.toList z.cells cells hzc (fun p hp => hsc p (by simpa using hp)) hc⟩
 unfold Instr.build at hb |-
 simp only [bB, yE, hz, yj, cV] at hb |-
 cases hu : P.underlying t with
 | none => simp [hu] at hb
 | some d =>
  simp only [hu, yj] at hb |-
  cases d with
  | struct fields =>
   simp only [bB] at hb |-
   cases hm : bC P (fields.mapM fun f => do pure (f.offset, <- Go.sizeOf f.type)) with
   | none => rw [hm] at hb; cases hb
   | some places =>
    simp only [hm, yj] at hb |-
    cases hf : Instr.fill (places[·]?) z.cells ps.toList with
    | none => simp [hf, cU] at hb
    | some cells =>
     obtain ⟨k1, k2⟩ := key _ cells hf
     simp only [hf, dR, ya] at hb
     subst hb
     rw [k1, kJ]
     exact ⟨rfl, (nB A cells).2 k2⟩
  | array n elem =>
   simp only [bB, oX] at hb |-
   cases hm : fC P elem with
   | none => simp [hm] at hb
   | some s =>
    simp only [hm, yj] at hb |-
    cases hf : Instr.fill (fun i => some (i * s, s)) z.cells ps.toList with
    | none => simp [hf, cU] at hb
    | some cells =>
     obtain ⟨k1, k2⟩ := key _ cells hf
     simp only [hf, dR, ya] at hb
     subst hb
     rw [k1, kJ]
     exact ⟨rfl, (nB A cells).2 k2⟩
  | _ => simp [cU] at hb
theorem DY {x v : Value} {i : Nat} (hb : bC P (Instr.extract x i) = some v) (hsc : Sc A x) :
  bC P (Instr.extract (aK E x) i) = some (aK E v) /\ Sc A v := by
 cases x with
 | tuple vs =>
  rw [fL]
  unfold Instr.extract at hb |-
  simp only [Array.getElem?_map]
  cases hv : vs[i]? with
  | none => simp [hv, cU] at hb
  | some y =>
   simp only [hv, dR, ya] at hb
   subst hb
   exact ⟨rfl, (iH A vs).1 hsc y (yyh hv)⟩
 | _ => simp [Instr.extract, cU] at hb
theorem B0 {t : TypeId} {cs : Array Value} {off : Nat} {v : Value} (hb : bC P (part t cs off) = some v) (hsc : ∀ x ∈ cs, Sc A x) :
  bC P (part t (cs.map (aK E)) off) = some (aK E v) /\ Sc A v := by
 unfold part at hb |-
 simp only [bB, GP] at hb |-
 cases hg : Q3 P t with
 | none => simp [hg] at hb
 | some b =>
  simp only [hg, yj] at hb |-
  cases b with
  | true =>
   simp only [if_true, bB, oX] at hb |-
   cases hs : fC P t with
   | none => simp [hs] at hb
   | some s =>
    simp only [hs, yj, dR, ya] at hb |-
    subst hb
    rw [kJ]
    refine ⟨by simp [Array.map_extract], (nB A _).2 fun x hx => ?_⟩
    have hx := Array.mem_toList_iff.2 hx
    rw [Array.toList_extract] at hx
    exact hsc x (Array.mem_toList_iff.1 (List.mem_of_mem_drop (List.mem_of_mem_take hx)))
  | false =>
   simp only [ym, if_false] at hb |-
   cases hv : cs[off]? with
   | none => simp [hv, cU] at hb
   | some y =>
    simp only [hv, dR, ya] at hb
    subst hb
    simp only [Array.getElem?_map, hv, yr, dR]
    exact ⟨trivial, hsc y (yyh hv)⟩
theorem J6 {t : TypeId} {x v : Value} {i : Nat} (hb : bC P (Instr.field t x i) = some v) (hsc : Sc A x) :
  bC P (Instr.field t (aK E x) i) = some (aK E v) /\ Sc A v := by
 unfold Instr.field at hb |-
 simp only [bB, cV] at hb |-
 cases hu : P.underlying t with
 | none => simp [hu] at hb
 | some d =>
  simp only [hu, yj] at hb |-
  cases d with
  | struct fields =>
   simp only at hb |-
   cases hf : fields[i]? with
   | none => simp [hf, cU] at hb
   | some f =>
    simp only [hf, bB] at hb |-
    cases x with
    | agg cs =>
     rw [kJ]
     simp only [asAgg, dR, yj] at hb |-
     exact B0 hb ((nB A cs).1 hsc)
    | _ => simp [asAgg, cU] at hb
  | _ => simp [cU] at hb
theorem nD {α : Type} (k : IntKind) (x y : Int) (c : BoundsCode) : bC P (boundsPanic (α := α) k x y c) = none := by
 unfold boundsPanic
 dsimp only
 rw [qC]
 split
 ·rfl
 ·simp only [bB, dR, yj, runtimePanic]
  rfl
theorem J7 {t : TypeId} {x i v : Value} (hb : bC P (Instr.index t x i) = some v) (hsc : Sc A x) :
  bC P (Instr.index t (aK E x) (aK E i)) = some (aK E v) /\ Sc A v := by
 unfold Instr.index at hb |-
 cases i with
 | int k n =>
  rw [eV]
  simp only [asIntOf, bB, dR, yj, cV] at hb |-
  cases hu : P.underlying t with
  | none => simp [hu] at hb
  | some d =>
   simp only [hu, yj] at hb |-
   cases x with
   | agg cs =>
    rw [kJ]
    cases d with
    | array len elem =>
     simp only [qC, bB, oX] at hb |-
     split at hb
     ·rename_i hc
      rw [if_pos hc]
      cases hs : fC P elem with
      | none => simp [hs] at hb
      | some s =>
       simp only [hs, yj] at hb |-
       exact B0 hb ((nB A cs).1 hsc)
     ·rw [nD] at hb; simp at hb
    | _ => simp [cU] at hb
   | string s =>
    rw [dV]
    cases d with
    | string =>
     simp only at hb |-
     split at hb
     ·rename_i b hb'
      simp only [dR, ya] at hb
      subst hb
      rw [eV]
      exact ⟨rfl, nC _ _ _⟩
     ·rw [nD] at hb; simp at hb
    | _ => simp [cU] at hb
   | _ => cases d <;> simp [cU] at hb
 | pointer a => cases a <;> simp [asIntOf, bB, cU, vA] at hb
 | _ => simp [asIntOf, bB, cU] at hb
theorem iJ {v : Value} {n : Nat} (hn : vX v = some n) : ∃ k, v = .int k n /\ aK E v = .int k n := by
 cases v with
 | int k m =>
  simp only [vX] at hn
  split at hn
  ·simp at hn; subst hn
   rename_i h0
   rw [eV, Int.toNat_of_nonneg h0]
   exact ⟨k, rfl, rfl⟩
  ·simp at hn
 | _ => simp [vX] at hn
theorem AV {t : TypeId} {x v : Value} {f : Nat} (hb : uV P t x f = some v) (hsc : Sc A x) (w : World) :
  (Instr.fieldAt t (aK E x) f).run P w = .ok (aK E v) w /\ Sc A v := by
 unfold uV at hb
 split at hb
 ·rename_i fs n off hu
  split at hb
  ·rename_i fd hf
   split at hb
   ·rename_i s hs
    split at hb
    ·simp at hb
    ·rename_i h0
     simp at hb; subst hb
     have h0 : ¬ s = 0 := by simpa using h0
     rw [cF, cF]
     refine ⟨?_, by rw [kZ] at hsc |-; exact hsc⟩
     simp only [Instr.fieldAt, Sem.run_bind, run_underlying hu, Result.andThen_ok, hf, Instr.sureAddr, Sem.run_pure, fieldPlace, eR hs, h0, if_false, bV.addr, gR, yx]
   ·simp at hb
  ·simp at hb
 ·simp at hb
theorem AW {t : TypeId} {x i v : Value} (hb : uW P t x i = some v) (hsc : Sc A x) (w : World) :
  (Instr.indexAt t (aK E x) (aK E i)).run P w = .ok (aK E v) w /\ Sc A v := by
 unfold uW at hb
 split at hb
 ·rename_i e n off len cap k hu hk
  split at hb
  ·rename_i s hs
   simp only [yb, ya] at hb
   obtain ⟨hlt, rfl⟩ := hb
   have hlt : k < len := ye hlt
   obtain ⟨kk, _, hi⟩ := iJ (E := E) hk
   rw [bL, cF, hi]
   refine ⟨?_, by rw [dJ] at hsc; rw [kZ]; exact hsc⟩
   have hc : (0 : Int) <= (k : Int) /\ (k : Int) < (len : Int) := ⟨by omega, by omega⟩
   simp only [Instr.indexAt, asIntOf, Sem.run_bind, Sem.run_pure, Result.andThen_ok, run_underlying hu, hc, and_self, if_true, eR hs, bV.addr, gR, Int.toNat_natCast, yx]
  ·simp at hb
 ·rename_i m e n off k hu hk
  split at hb
  ·rename_i s hs
   simp only [yb, ya] at hb
   obtain ⟨hlt, rfl⟩ := hb
   have hlt : k < m := ye hlt
   obtain ⟨kk, _, hi⟩ := iJ (E := E) hk
   rw [cF, cF, hi]
   refine ⟨?_, by rw [kZ] at hsc |-; exact hsc⟩
   have hc : (0 : Int) <= (k : Int) /\ (k : Int) < (m : Int) := ⟨by omega, by omega⟩
   simp only [Instr.indexAt, asIntOf, Sem.run_bind, Sem.run_pure, Result.andThen_ok, run_underlying hu, Instr.sureAddr, hc, and_self, if_true, eR hs, bV.addr, gR, Int.toNat_natCast, yx]
  ·simp at hb
 ·simp at hb
theorem nF {v : Option Value} {d m k : Nat} (hb : oC v d m = some k) : (v = none /\ k = d) \/ (∃ x kk, v = some x /\ x = .int kk k /\ aK E x = .int kk k /\ k <= m) := by
 unfold oC at hb
 split at hb
 ·simp at hb; exact .inl ⟨rfl, hb.symm⟩
 ·rename_i x
  split at hb
  ·rename_i k' hk
   simp only [yb, ya] at hb
   obtain ⟨hle, rfl⟩ := hb
   obtain ⟨kk, h1, h2⟩ := iJ (E := E) hk
   exact .inr ⟨x, kk, rfl, h1, h2, ye hle⟩
  ·simp at hb
theorem iK {k : IntKind} {n m : Nat} {c : BoundsCode} (hle : n <= m) (w : World) : (Instr.sliceBound (.int k n) m c).run P w = .ok n w := by
 have hc : (0 : Int) <= (n : Int) /\ (n : Int) <= (m : Int) := ⟨by omega, by omega⟩
 simp only [Instr.sliceBound, asIntOf, Sem.run_bind, Sem.run_pure, Result.andThen_ok, hc, and_self, if_true, Int.toNat_natCast]
theorem mL {isS : Bool} {len cap cap' l h' : Nat} {lo hi : Option Value} (hh : oC hi len cap' = some h') (hl : oC lo 0 h' = some l) (hcap : h' <= cap) (w : World) :
  (Instr.sliceBounds isS len cap (lo.map (aK E)) (hi.map (aK E)) none).run P w = .ok (l, h', cap) w := by
 unfold Instr.sliceBounds
 rcases nF (E := E) hh with ⟨rfl, rfl⟩ | ⟨x, kk, rfl, _, hx, _⟩ <;> rcases nF (E := E) hl with ⟨rfl, rfl⟩ | ⟨y, ky, rfl, _, hy, hle'⟩
 ·simp only [Option.map_none, Sem.run_bind, Sem.run_pure, Result.andThen_ok]
 ·simp only [Option.map_none, yr, Sem.run_bind, Sem.run_pure, Result.andThen_ok, hy, Option.isSome_none, ym, if_false, iK hle']
 ·simp only [Option.map_none, yr, Sem.run_bind, Sem.run_pure, Result.andThen_ok, hx, iK hcap]
 ·simp only [yr, Sem.run_bind, Sem.run_pure, Result.andThen_ok, hx, hy, Option.isSome_none, ym, if_false, iK hcap, iK hle']
end
section
variable {P : Program} {E : bV} {A : Nat -> Prop} {h h' : List (Nat × Obj)} {nx : Nat} {w w' : World}
theorem J8 (H : aV P E A h w) {t : TypeId} {x v : Value} {lo hi : Option Value} (hb : MQ P h t x lo hi = some v) (hsc : Sc A x) :
  (Instr.sliceAt t (aK E x) (lo.map (aK E)) (hi.map (aK E)) none).run P w = .ok (aK E v) w /\ Sc A v := by
 unfold MQ at hb
 split at hb
 ·rename_i e n off len cap hu
  split at hb
  ·simp at hb
  ·rename_i s hs
   rw [bL]
   split at hb
   ·rename_i hrow
    split at hb
    ·simp at hb
    ·rename_i h' hh
     split at hb
     ·simp at hb
     ·rename_i l hl
      split at hb
      ·rename_i c e' fz hg
       simp only [yb, ya, yd, yu] at hb
       obtain ⟨⟨⟨⟨⟨h1, h2⟩, h3⟩, h4⟩, h5⟩, rfl⟩ := hb
       have h1 := ye h1
       have h2 : off = cap * s := by simpa using h2
       have h3 : 0 < s := ye h3
       have h5 : e' = e := by simpa using h5
       subst h5
       obtain ⟨_, _, oc, _, hr⟩ := H.blk n _ hg
       simp only [cK, hrow, if_true] at hr
       obtain ⟨cc, fzc, s', _, e2, _, _, e5, _⟩ := hr
       rw [hs] at e2; obtain rfl := yg e2
       have hk : cap + h' <= E.κ n := by
        have : (cap + h') * s <= E.κ n * s := by rw [Nat.add_mul]; omega
        exact Nat.le_of_mul_le_mul_right this h3
       have hr := mL (P := P) (E := E) (isS := true) hh hl (cap := E.κ n - cap) (by omega) w
       rw [bL, dJ]
       refine ⟨?_, by rw [dJ] at hsc; exact hsc⟩
       simp only [Instr.sliceAt, Instr.slice, Sem.run_bind, run_underlying hu, Result.andThen_ok, hrow, if_true, hr, eR hs, Sem.run_pure, bV.addr, yr, gR]
       have hl0 : l = 0 \/ l < h' := h4.imp (by simp) (fun h => ye h)
       congr 2
       ·rcases hl0 with rfl | hl0
        ·simp
        ·rw [if_neg (by omega), yx]
       ·omega
      ·simp at hb
   ·rename_i hrow
    split at hb
    ·simp at hb
    ·rename_i h' hh
     split at hb
     ·simp at hb
     ·rename_i l hl
      simp only [ya] at hb
      subst hb
      have hle : h' <= cap \/ hi = none := by
       rcases nF (E := E) hh with ⟨rfl, _⟩ | ⟨_, _, _, _, _, h⟩
       ·exact .inr rfl
       ·exact .inl h
      have hr : (Instr.sliceBounds true len cap (lo.map (aK E)) (hi.map (aK E)) none).run P w = .ok (l, h', cap) w := by
       rcases hle with hle | rfl
       ·exact mL hh hl hle w
       ·have : oC none len len = some h' := by simpa [oC] using hh
        unfold Instr.sliceBounds
        rcases nF (E := E) hl with ⟨rfl, rfl⟩ | ⟨y, ky, rfl, _, hy, hle'⟩
        ·simp [oC] at hh; subst hh
         simp only [Option.map_none, Sem.run_bind, Sem.run_pure, Result.andThen_ok]
        ·simp [oC] at hh; subst hh
         simp only [Option.map_none, yr, Sem.run_bind, Sem.run_pure, Result.andThen_ok, hy, Option.isSome_none, ym, if_false, iK hle']
      rw [bL, dJ]
      have hblk : (if Nat.beq cap l = true then (⟨n, off, none⟩ : Addr) else ⟨n, off + l * s, none⟩).block = n := by split <;> rfl
      rw [hblk, if_neg hrow, if_neg hrow]
      refine ⟨?_, (dJ A _ _ _).1 hsc⟩
      simp only [Instr.sliceAt, Instr.slice, Sem.run_bind, run_underlying hu, Result.andThen_ok, hr, eR hs, Sem.run_pure, bV.addr, yr, gR]
      congr 2
      by_cases hc : cap = l
      ·subst hc; simp
      ·simp [hc, yx]
 ·rename_i k e n off hu
  split at hb
  ·simp at hb
  ·rename_i s hs
   rw [cF]
   split at hb
   ·simp at hb
   ·rename_i hrow
    split at hb
    ·simp at hb
    ·rename_i h' hh
     split at hb
     ·simp at hb
     ·rename_i l hl
      simp only [ya] at hb
      subst hb
      have hle : h' <= k := by
       rcases nF (E := E) hh with ⟨_, h⟩ | ⟨_, _, _, _, _, h⟩ <;> omega
      have hr := mL (P := P) (E := E) (isS := false) hh hl hle w
      rw [bL, dJ]
      have hblk : (if Nat.beq k l = true then (⟨n, off, none⟩ : Addr) else ⟨n, off + l * s, none⟩).block = n := by split <;> rfl
      rw [hblk, if_neg hrow]
      refine ⟨?_, (kZ A _).1 hsc⟩
      simp only [Instr.sliceAt, Sem.run_bind, run_underlying hu, Result.andThen_ok, Instr.sureAddr, hr, eR hs, Sem.run_pure, bV.addr, gR]
      congr 3
      by_cases hc : k = l
      ·subst hc; simp
      ·simp [hc, yx]
 ·simp at hb
theorem B1 {t : TypeId} {x y : Value} {b : Bool} (hb : SY P t x y = some b) (w : World) :
  (Op.equal t (aK E x) (aK E y)).run P w = .ok b w := by
 unfold SY at hb
 show (Op.equalIn (9999 + 1) t (aK E x) (aK E y)).run P w = _
 unfold Op.equalIn
 split at hb
 ·rename_i e hu
  simp only [Sem.run_bind, run_underlying hu, Result.andThen_ok]
  split at hb
  ·rename_i b'
   simp at hb; subst hb
   cases b' with
   | none => rw [fD]; rfl
   | some a => rw [fD, cF]; rfl
  ·simp at hb; subst hb
   rw [cF, fD]; rfl
  ·rename_i m i n j
   split at hb
   ·rename_i s hs
    split at hb
    ·simp at hb
    ·rename_i h0
     simp only [yb, ya] at hb
     obtain ⟨hmn, rfl⟩ := hb
     have hmn : m = n := by simpa using hmn
     subst hmn
     rw [cF, cF]
     have h0 : s ≠ 0 := by simpa using h0
     simp only [Sem.run_bind, eR hs, Result.andThen_ok, h0, ne_eq, not_false_eq_true, if_true, bV.addr, sameAddr, beq_self_eq_true, Sem.run_pure]
     congr 1
     by_cases hij : i = j
     ·subst hij; simp
     ·have h1 : ¬ (⟨E.β m, E.σ m + i, none⟩ : Addr) = ⟨E.β m, E.σ m + j, none⟩ := by simp; exact hij
      rw [beq_eq_false_iff_ne.2 h1]
      cases hb : Nat.beq i j with
      | true => exact absurd (yf hb) hij
      | false => rfl
   ·simp at hb
  ·simp at hb
 ·rename_i e hu
  simp only [Sem.run_bind, run_underlying hu, Result.andThen_ok]
  split at hb
  ·rename_i _ _ b' _ _
   simp at hb; subst hb
   cases b' with
   | none => rw [bY, bY]; rfl
   | some a => rw [bY, bL]; rfl
  ·simp at hb; subst hb
   rw [bL, bY]; rfl
  ·simp at hb
 ·rename_i e hu
  simp only [Sem.run_bind, run_underlying hu, Result.andThen_ok]
  split at hb
  ·rename_i b'
   simp at hb; subst hb
   cases b' with
   | none => rw [fE]; rfl
   | some a => rw [fE, jL]; rfl
  ·simp at hb; subst hb
   rw [fE, jL]; rfl
  ·simp at hb
 ·rename_i e hu
  simp only [Sem.run_bind, run_underlying hu, Result.andThen_ok]
  split at hb
  ·simp at hb; subst hb
   rw [iG]; rfl
  ·simp at hb; subst hb
   rw [iG, fN]; rfl
  ·simp at hb; subst hb
   rw [iG, fN]; rfl
  ·simp at hb
 ·rename_i ms hu
  simp only [Sem.run_bind, run_underlying hu, Result.andThen_ok]
  split at hb
  ·simp at hb; subst hb
   rw [gS, mQ]; rfl
  ·rename_i tx k n ty k' n'
   split at hb
   ·rename_i i kk hi hk
    simp only [yb, ya, yd, decide_eq_true_eq] at hb
    obtain ⟨⟨h1, h2, h3⟩, rfl⟩ := hb
    have h1 : tx = ty := yf h1
    subst h1; subst h3
    rw [gS, gS, eV, eV]
    have hti : (typeInfo tx).run P w = .ok i w := by simp [typeInfo, hi]
    have hin : (Op.equalIn 9999 tx (.int k n) (.int k n')).run P w = .ok (n == n') w := by
     show (Op.equalIn (9998 + 1) tx _ _).run P w = _
     unfold Op.equalIn
     simp only [Sem.run_bind, run_underlying hk, Result.andThen_ok]
     simp
    simp only [ne_eq, not_true_eq_false, if_false, Sem.run_bind, hti, Result.andThen_ok, h2, Bool.not_true, ym]
    exact hin
   ·simp at hb
  ·simp at hb
 ·simp at hb
theorem B2 {x : Value} {n : Nat} (hb : Q4 x = some n) (w : World) : (Builtin.lenOf (aK E x)).run P w = .ok n w := by
 cases x with
 | slice a l c =>
  simp [Q4] at hb; subst hb
  cases a with
  | none => rw [bY]; rfl
  | some a => rw [bL]; rfl
 | string s => simp [Q4] at hb; subst hb; rw [dV]; rfl
 | _ => simp [Q4] at hb
theorem kL (H : aV P E A h w) {s n : Nat} {x : Value} {cs : List Value} (hb : uX h s n x = some cs) :
  (Builtin.firstCells s n (aK E x)).run P w = .ok (cs.map (aK E)).toArray w /\ ∀ v ∈ cs, Sc A v := by
 unfold uX at hb
 split at hb
 ·simp at hb; subst hb; rw [bY]; exact ⟨rfl, by simp⟩
 ·rename_i m off len cap
  rw [bL]
  split at hb
  ·rename_i h0
   simp at hb; subst hb
   have h0 : n * s = 0 := by simpa using h0
   refine ⟨?_, by simp⟩
   simp only [Builtin.firstCells, h0]; rfl
  ·split at hb
   ·rename_i c hc
    simp only [yb, ya] at hb
    obtain ⟨hle, rfl⟩ := hb
    obtain ⟨h1, h2⟩ := l8 H hc (ye hle)
    exact ⟨by simpa only [Builtin.firstCells, bV.addr] using h1, h2⟩
   ·simp at hb
 ·rename_i b
  simp only [ya] at hb; subst hb
  rw [dV]
  refine ⟨?_, ?_⟩
  ·simp only [Builtin.firstCells, Sem.run_pure]
   congr 1
   apply yl
   rw [List.map_map, show (aK E ∘ fun x : UInt8 => Value.int IntKind.u8 ↑x.toNat) = fun x : UInt8 => Value.int IntKind.u8 ↑x.toNat from funext fun x => eV _ _ _]
   simp [ByteArray.data_extract]
  ·intro v hv
   obtain ⟨x, _, rfl⟩ := yw.1 hv
   exact nC _ _ _
 ·simp at hb
end
end Go.Dam
