/- An own evaluator of closed runs of a program, proved sound against the model: one part of it. -/
import Derived.Test.YtgkhemnmcgicnaaGreatDoorG12
import Derived.Laws.World
import Derived.Laws.Cells
import Derived.Laws.CopyRow
import Derived.Laws.Rows
namespace Go.Dam
structure bV where
 β : Nat -> Nat
 σ : Nat -> Nat
 κ : Nat -> Nat
def bV.addr (E : bV) (a : Addr) : Addr := ⟨E.β a.block, E.σ a.block + a.off, a.spot⟩
def wF (E : bV) : Fn -> Fn
 | .yield n => .yield (E.β n)
 | f => f
def J0 (A : Nat -> Prop) : Fn -> Prop
 | .yield n => A n
 | _ => True
def aK (E : bV) : Value -> Value
 | .pointer (some a) => .pointer (some (E.addr a))
 | .slice (some a) len cap => .slice (some (E.addr a)) len (if iC a.block = true then E.κ a.block - cap else cap)
 | .map (some r) => .map (some (E.β r))
 | .func fn a b => .func (wF E fn) (a.attach.map fun ⟨x, _⟩ => aK E x) (b.attach.map fun ⟨x, _⟩ => aK E x)
 | .iface t v => .iface t (aK E v)
 | .agg cs => .agg (cs.attach.map fun ⟨x, _⟩ => aK E x)
 | .tuple cs => .tuple (cs.attach.map fun ⟨x, _⟩ => aK E x)
 | v => v
termination_by v => SizeOf.sizeOf v
decreasing_by
 all_goals simp_wf
 all_goals first | omega | (rename_i h; have := yq h; omega)
def Sc (A : Nat -> Prop) : Value -> Prop
 | .pointer (some a) => A a.block
 | .slice (some a) _ _ => A a.block
 | .map (some r) => A r
 | .func fn a b => J0 A fn /\ (∀ x, (h : x ∈ a) -> Sc A x) /\ (∀ x, (h : x ∈ b) -> Sc A x)
 | .iface _ v => Sc A v
 | .agg cs => ∀ x, (h : x ∈ cs) -> Sc A x
 | .tuple cs => ∀ x, (h : x ∈ cs) -> Sc A x
 | _ => True
termination_by v => SizeOf.sizeOf v
decreasing_by
 all_goals simp_wf
 all_goals first | omega | (have := yq h; omega)
section
variable (E : bV)
theorem kJ (cs : Array Value) : aK E (.agg cs) = .agg (cs.map (aK E)) := by rw [aK]; simp
theorem fL (cs : Array Value) : aK E (.tuple cs) = .tuple (cs.map (aK E)) := by rw [aK]; simp
theorem fN (fn : Fn) (a b : Array Value) : aK E (.func fn a b) = .func (wF E fn) (a.map (aK E)) (b.map (aK E)) := by rw [aK]; simp
@[simp] theorem BV (f : FuncId) : wF E (.func f) = .func f := rfl
@[simp] theorem zD (l : Nat) : wF E (.yield l) = .yield (E.β l) := rfl
theorem gS (t : TypeId) (v : Value) : aK E (.iface t v) = .iface t (aK E v) := by rw [aK]
theorem cF (a : Addr) : aK E (.pointer (some a)) = .pointer (some (E.addr a)) := by rw [aK]
theorem bL (a : Addr) (l c : Nat) : aK E (.slice (some a) l c) = .slice (some (E.addr a)) l (if iC a.block = true then E.κ a.block - c else c) := by rw [aK]
theorem jL (r : Nat) : aK E (.map (some r)) = .map (some (E.β r)) := by rw [aK]
theorem fP (b : Bool) : aK E (.bool b) = .bool b := by rw [aK] <;> simp
theorem eV (k : IntKind) (n : Int) : aK E (.int k n) = .int k n := by rw [aK] <;> simp
theorem dV (s : ByteArray) : aK E (.string s) = .string s := by rw [aK] <;> simp
theorem fD : aK E (.pointer none) = .pointer none := by rw [aK] <;> simp
theorem bY (l c : Nat) : aK E (.slice none l c) = .slice none l c := by rw [aK] <;> simp
theorem fE : aK E (.map none) = .map none := by rw [aK] <;> simp
theorem iG : aK E .nilFunc = .nilFunc := by rw [aK] <;> simp
theorem mQ : aK E .nilIface = .nilIface := by rw [aK] <;> simp
theorem ET (k : FloatKind) (n : Nat) : aK E (.float k n) = .float k n := by rw [aK] <;> simp
theorem zE (k : FloatKind) (n m : Nat) : aK E (.complex k n m) = .complex k n m := by rw [aK] <;> simp
theorem J1 (r : Option Nat) : aK E (.chan r) = .chan r := by rw [aK] <;> simp
theorem iV : aK E undef = undef := by rw [undef, fL]; simp
end
section
variable (A : Nat -> Prop)
theorem nB (cs : Array Value) : Sc A (.agg cs) ↔ ∀ x ∈ cs, Sc A x := by rw [Sc]
theorem iH (cs : Array Value) : Sc A (.tuple cs) ↔ ∀ x ∈ cs, Sc A x := by rw [Sc]
theorem mR (fn : Fn) (a b : Array Value) : Sc A (.func fn a b) ↔ J0 A fn /\ (∀ x ∈ a, Sc A x) /\ (∀ x ∈ b, Sc A x) := by rw [Sc]
@[simp] theorem ZF (f : FuncId) : J0 A (.func f) := trivial
theorem sC (t : TypeId) (v : Value) : Sc A (.iface t v) ↔ Sc A v := by rw [Sc]
theorem kZ (a : Addr) : Sc A (.pointer (some a)) ↔ A a.block := by rw [Sc]
theorem dJ (a : Addr) (l c : Nat) : Sc A (.slice (some a) l c) ↔ A a.block := by rw [Sc]
theorem GK (r : Nat) : Sc A (.map (some r)) ↔ A r := by rw [Sc]
theorem oE (b : Bool) : Sc A (.bool b) := by rw [Sc] <;> simp
theorem nC (k : IntKind) (n : Int) : Sc A (.int k n) := by rw [Sc] <;> simp
theorem k7 (s : ByteArray) : Sc A (.string s) := by rw [Sc] <;> simp
theorem yC : Sc A (.pointer none) := by rw [Sc] <;> simp
theorem sD (l c : Nat) : Sc A (.slice none l c) := by rw [Sc] <;> simp
theorem EU : Sc A (.map none) := by rw [Sc] <;> simp
theorem MX : Sc A .nilFunc := by rw [Sc] <;> simp
theorem J2 : Sc A .nilIface := by rw [Sc] <;> simp
theorem l6 : Sc A undef := by rw [undef, iH]; simp
end
def l7 (A : Nat -> Prop) (E E' : bV) : Prop := ∀ n, A n -> E'.β n = E.β n /\ E'.σ n = E.σ n /\ E'.κ n = E.κ n
theorem Q5 {A B : Nat -> Prop} (h : ∀ n, A n -> B n) (f : Fn) : J0 A f -> J0 B f := by
 cases f <;> first | exact h _ | exact fun _ => trivial
theorem J3 {A : Nat -> Prop} {E E' : bV} (h : l7 A E E') (f : Fn) (hs : J0 A f) : wF E' f = wF E f := by
 cases f <;> first | rfl | (simp only [wF]; rw [(h _ hs).1])
theorem gB {A B : Nat -> Prop} (h : ∀ n, A n -> B n) (v : Value) : Sc A v -> Sc B v := by
 induction hk : SizeOf.sizeOf v using Nat.strongRecOn generalizing v with
 | _ k ih =>
  subst hk
  cases v with
  | agg cs =>
   rw [nB, nB]
   exact fun hs x hx => ih _ (by have := yq hx; simp; omega) x rfl (hs x hx)
  | tuple cs =>
   rw [iH, iH]
   exact fun hs x hx => ih _ (by have := yq hx; simp; omega) x rfl (hs x hx)
  | func fn a b =>
   rw [mR, mR]
   exact fun hs => ⟨Q5 h fn hs.1, fun x hx => ih _ (by have := yq hx; simp; omega) x rfl (hs.2.1 x hx), fun x hx => ih _ (by have := yq hx; simp; omega) x rfl (hs.2.2 x hx)⟩
  | iface t v => rw [sC, sC]; exact ih _ (by simp; omega) v rfl
  | pointer a =>
   cases a with
   | none => exact fun _ => yC _
   | some a => rw [kZ, kZ]; exact h _
  | slice a l c =>
   cases a with
   | none => exact fun _ => sD _ _ _
   | some a => rw [dJ, dJ]; exact h _
  | map r =>
   cases r with
   | none => exact fun _ => EU _
   | some a => rw [GK, GK]; exact h _
  | _ => intro _; rw [Sc] <;> simp
theorem eQ {A : Nat -> Prop} {E E' : bV} (h : l7 A E E') (v : Value) : Sc A v -> aK E' v = aK E v := by
 induction hk : SizeOf.sizeOf v using Nat.strongRecOn generalizing v with
 | _ k ih =>
  subst hk
  cases v with
  | agg cs =>
   rw [nB, kJ, kJ]
   intro hs
   rw [yn fun x hx => ih _ (by have := yq hx; simp; omega) x rfl (hs x hx)]
  | tuple cs =>
   rw [iH, fL, fL]
   intro hs
   rw [yn fun x hx => ih _ (by have := yq hx; simp; omega) x rfl (hs x hx)]
  | func fn a b =>
   rw [mR, fN, fN]
   intro hs
   rw [yn fun x hx => ih _ (by have := yq hx; simp; omega) x rfl (hs.2.1 x hx),
    yn (xs := b) fun x hx => ih _ (by have := yq hx; simp; omega) x rfl (hs.2.2 x hx), J3 h fn hs.1]
  | iface t v => rw [sC, gS, gS]; intro hs; rw [ih _ (by simp; omega) v rfl hs]
  | pointer a =>
   cases a with
   | none => intro _; rw [fD, fD]
   | some a => rw [kZ, cF, cF]; intro hs; obtain ⟨h1, h2, h3⟩ := h _ hs; simp [bV.addr, h1, h2]
  | slice a l c =>
   cases a with
   | none => intro _; rw [bY, bY]
   | some a => rw [dJ, bL, bL]; intro hs; obtain ⟨h1, h2, h3⟩ := h _ hs; simp [bV.addr, h1, h2, h3]
  | map r =>
   cases r with
   | none => intro _; rw [fE, fE]
   | some a => rw [GK, jL, jL]; intro hs; obtain ⟨h1, h2, h3⟩ := h _ hs; simp [h1]
  | _ => intro _; rw [aK, aK] <;> simp
theorem qB {v : Value} (E : bV) (h : fV v = true) : aK E v = v := by
 cases v with
 | bool b => exact fP _ _
 | int k n => exact eV _ _ _
 | string s => exact dV _ _
 | pointer a => cases a with
  | none => exact fD _
  | some a => simp [fV] at h
 | slice a l c => cases a with
  | none => exact bY _ _ _
  | some a => simp [fV] at h
 | map r => cases r with
  | none => exact fE _
  | some a => simp [fV] at h
 | func fn a b =>
  cases fn <;> first
   | (simp [fV] at h; done)
   | (simp [fV] at h; rw [fN, h.1, h.2]; simp [wF])
 | nilFunc => exact iG _
 | nilIface => exact mQ _
 | _ => simp [fV] at h
theorem mX {v : Value} (A : Nat -> Prop) (h : fV v = true) : Sc A v := by
 cases v with
 | bool b => exact oE _ _
 | int k n => exact nC _ _ _
 | string s => exact k7 _ _
 | pointer a => cases a with
  | none => exact yC _
  | some a => simp [fV] at h
 | slice a l c => cases a with
  | none => exact sD _ _ _
  | some a => simp [fV] at h
 | map r => cases r with
  | none => exact EU _
  | some a => simp [fV] at h
 | func fn a b =>
  cases fn <;> first
   | (simp [fV] at h; done)
   | (simp [fV] at h; rw [mR, h.1, h.2]; simp [J0])
 | nilFunc => exact MX _
 | nilIface => exact J2 _
 | _ => simp [fV] at h
theorem eL {l : List Value} (h : dQ l = true) : ∀ v ∈ l, fV v = true := by
 induction l with
 | nil => simp
 | cons a r ih => simp [dQ] at h; intro v hv; rcases yk.1 hv with rfl | hv; exact h.1; exact ih h.2 v hv
theorem fW {v : Value} (E : bV) (h : jU v = true) : aK E v = v := by
 cases v with
 | agg cs =>
  have := eL (l := cs.toList) h
  have e : cs.map (aK E) = cs := by
   have := yn (xs := cs) (f := aK E) (g := id) (fun x hx => qB E (this x (by simpa using hx)))
   simpa using this
  rw [kJ, e]
 | _ => exact qB E h
theorem mY {v : Value} (A : Nat -> Prop) (h : jU v = true) : Sc A v := by
 cases v with
 | agg cs =>
  have := eL (l := cs.toList) h
  rw [nB]; exact fun x hx => mX A (this x (by simpa using hx))
 | _ => exact mX A h
theorem uD {l : List Value} (h : tM l = true) : ∀ v ∈ l, jU v = true := by
 induction l with
 | nil => simp
 | cons a r ih => simp [tM] at h; intro v hv; rcases yk.1 hv with rfl | hv; exact h.1; exact ih h.2 v hv
theorem iW {v : Value} (E : bV) (h : plain v = true) : aK E v = v := by
 cases v with
 | tuple cs =>
  have := uD (l := cs.toList) h
  have e : cs.map (aK E) = cs := by
   have := yn (xs := cs) (f := aK E) (g := id) (fun x hx => fW E (this x (by simpa using hx)))
   simpa using this
  rw [fL, e]
 | _ => exact fW E h
theorem sE {v : Value} (A : Nat -> Prop) (h : plain v = true) : Sc A v := by
 cases v with
 | tuple cs =>
  have := uD (l := cs.toList) h
  rw [iH]; exact fun x hx => mY A (this x (by simpa using hx))
 | _ => exact mY A h
theorem tS (E : bV) (v : Value) : (aK E v).cells = v.cells.map (aK E) := by
 cases v with
 | agg cs => rw [kJ]; rfl
 | pointer a => cases a <;> simp [Value.cells, cF, fD]
 | slice a => cases a <;> simp [Value.cells, bL, bY]
 | map a => cases a <;> simp [Value.cells, jL, fE]
 | func => simp [Value.cells, fN]
 | iface => simp [Value.cells, gS]
 | tuple => simp [Value.cells, fL]
 | bool => simp [Value.cells, fP]
 | int => simp [Value.cells, eV]
 | string => simp [Value.cells, dV]
 | float => simp [Value.cells, ET]
 | complex => simp [Value.cells, zE]
 | chan => simp [Value.cells, J1]
 | nilFunc => simp [Value.cells, iG]
 | nilIface => simp [Value.cells, mQ]
theorem BW {A : Nat -> Prop} {v : Value} (h : Sc A v) : ∀ x ∈ v.cells, Sc A x := by
 cases v with
 | agg cs => exact (nB A cs).1 h
 | _ => intro x hx; simp [Value.cells] at hx; subst hx; exact h
theorem P4 (E : bV) (v : Value) : one (aK E v) = one v := by
 cases v with
 | agg cs => rw [kJ]; rfl
 | pointer a => cases a <;> simp [one, cF, fD]
 | slice a => cases a <;> simp [one, bL, bY]
 | map a => cases a <;> simp [one, jL, fE]
 | func => simp [one, fN]
 | iface => simp [one, gS]
 | tuple => simp [one, fL]
 | bool => simp [one, fP]
 | int => simp [one, eV]
 | string => simp [one, dV]
 | float => simp [one, ET]
 | complex => simp [one, zE]
 | chan => simp [one, J1]
 | nilFunc => simp [one, iG]
 | nilIface => simp [one, mQ]
theorem dW {α : Type} {P : Program} {s : Sem α} {v : α} (h : bC P s = some v) (w : World) : s.run P w = .ok v w := by
 induction s with
 | pure a => simp [bC] at h; subst h; rfl
 | program k ih => exact ih P h
 | mark m k ih => exact ih h
 | _ => simp [bC] at h
def bG (E : bV) (x : MapEntry) : MapEntry := { key := aK E x.key, val := aK E x.val, born := x.born }
def k8 (es es' : Array MapEntry) : Prop := (es.toList.map fun x => (x.key, x.val)).Perm (es'.toList.map fun x => (x.key, x.val))
theorem k8.all {es es' : Array MapEntry} (h : k8 es es') {p : Value -> Value -> Prop} (hp : ∀ x ∈ es', p x.key x.val) : ∀ x ∈ es, p x.key x.val := by
 intro x hx
 have h1 : (x.key, x.val) ∈ es.toList.map fun x => (x.key, x.val) := yw.2 ⟨x, by simpa using hx, rfl⟩
 obtain ⟨y, hy, e⟩ := yw.1 (h.mem_iff.1 h1)
 have := hp y (by simpa using hy)
 simp only [yc] at e
 rw [e.1, e.2] at this
 exact this
def cK (P : Program) (E : bV) (n : Nat) (o oc : Obj) : Prop :=
 match o with
 | .cells c e fz =>
  if iC n = true then
   ∃ (cc : Array Value) (fzc : Nat × Nat) (s : Nat), oc = .cells cc e fzc /\ fC P e = some s /\
    (∀ i v, c[i]? = some v -> cc[E.σ n + i]? = some (aK E v)) /\ cc.size = E.σ n + E.κ n * s /\ c.size <= E.κ n * s /\
    (∀ off, fz.2 <= off -> off < E.κ n * s -> ¬ (fzc.1 <= E.σ n + off /\ E.σ n + off < fzc.2)) /\ (fz.1 = 0 -> fzc.1 = fzc.2 \/ fzc.2 <= E.σ n + fz.2)
  else E.σ n = 0 /\ oc = .cells (c.map (aK E)) e fz
 | .map es clock => if q8 es clock = true then ∃ (esl : Array MapEntry) (c' : Nat), k8 esl es /\ esl.size <= c' /\ oc = .map (esl.map (bG E)) c' else oc = .map (es.map (bG E)) clock
 | .stringIter s p => E.σ n = 0 /\ oc = .stringIter s p
 | .mapIter m s seen c => E.σ n = 0 /\ oc = .mapIter (m.map E.β) s seen c
 | .loop r => ∃ f d, oc = .loop { r with fn := f, defers := d, tmps := r.tmps.map (aK E) }
 | _ => False
def uE (A : Nat -> Prop) : Obj -> Prop
 | .cells c _ _ => ∀ x ∈ c, Sc A x
 | .map es _ => ∀ x ∈ es, Sc A x.key /\ Sc A x.val
 | .loop r => ∀ x ∈ r.tmps, Sc A x
 | .mapIter m _ _ _ => ∀ n, m = some n -> A n
 | _ => True
theorem jW {A B : Nat -> Prop} (h : ∀ n, A n -> B n) (o : Obj) : uE A o -> uE B o := by
 cases o with
 | cells c e fz => exact fun hs x hx => gB h x (hs x hx)
 | map es cl => exact fun hs x hx => ⟨gB h _ (hs x hx).1, gB h _ (hs x hx).2⟩
 | loop r => exact fun hs x hx => gB h _ (hs x hx)
 | mapIter m s seen c => exact fun hs n hn => h n (hs n hn)
 | _ => exact fun _ => trivial
theorem cK.agree {P : Program} {A : Nat -> Prop} {E E' : bV} (h : l7 A E E') {n : Nat} (hn : A n) {o oc : Obj} (hs : uE A o) :
  cK P E n o oc -> cK P E' n o oc := by
 obtain ⟨h1, h2, h3⟩ := h n hn
 cases o with
 | cells c e fz =>
  simp only [cK]
  split
  ·rintro ⟨cc, fzc, s, e1, e2, e3, e4, e5, e6, e7⟩
   refine ⟨cc, fzc, s, e1, e2, ?_, by rw [h2, h3]; exact e4, by rw [h3]; exact e5, by rw [h2, h3]; exact e6, by rw [h2]; exact e7⟩
   intro i v hv
   rw [h2, e3 i v hv, eQ h v (hs v (yyh hv))]
  ·rintro ⟨e1, e2⟩
   refine ⟨by rw [h2]; exact e1, ?_⟩
   rw [e2, yn fun x hx => (eQ h x (hs x hx))]
 | map es cl =>
  simp only [cK]
  split
  ·rintro ⟨esl, c', k1, k2, e1⟩
   refine ⟨esl, c', k1, k2, ?_⟩
   rw [e1]
   congr 1
   have hs' := k1.all (p := fun k v => Sc A k /\ Sc A v) hs
   exact yn fun x hx => by simp [bG, eQ h _ (hs' x hx).1, eQ h _ (hs' x hx).2]
  ·intro e1
   rw [e1]
   congr 1
   exact yn fun x hx => by simp [bG, eQ h _ (hs x hx).1, eQ h _ (hs x hx).2]
 | stringIter s p =>
  simp only [cK]
  rw [h2]; exact id
 | mapIter m s seen c =>
  simp only [cK]
  rintro ⟨e0, e1⟩
  refine ⟨by rw [h2]; exact e0, ?_⟩
  rw [e1]
  cases m with
  | none => rfl
  | some k => simp only [yr]; rw [(h k (hs k rfl)).1]
 | loop r =>
  simp only [cK]
  rintro ⟨f, d, e1⟩
  refine ⟨f, d, ?_⟩
  rw [e1, yn fun x hx => (eQ h x (hs x hx))]
 | _ => exact id
structure aV (P : Program) (E : bV) (A : Nat -> Prop) (h : List (Nat × Obj)) (w : World) : Prop where
 blk : ∀ n o, aL h n = some o -> A n /\ uE A o /\ ∃ oc, w.heap[E.β n]? = some oc /\ cK P E n o oc
 inj : ∀ n m o o', aL h n = some o -> aL h m = some o' -> E.β n = E.β m -> n = m
theorem aV.sub {P : Program} {E : bV} {A : Nat -> Prop} {h h' : List (Nat × Obj)} {w : World} (H : aV P E A h w) (hs : ∀ n o, aL h' n = some o -> aL h n = some o) : aV P E A h' w :=
 ⟨fun n o hn => H.blk n o (hs n o hn), fun n m o o' hn hm => H.inj n m o o' (hs n o hn) (hs m o' hm)⟩
theorem aV.mono {P : Program} {E : bV} {A B : Nat -> Prop} {h : List (Nat × Obj)} {w : World} (H : aV P E A h w) (hAB : ∀ n, A n -> B n) : aV P E B h w :=
 ⟨fun n o hn => let ⟨a, b, c⟩ := H.blk n o hn; ⟨hAB n a, jW hAB o b, c⟩, H.inj⟩
theorem aV.world {P : Program} {E : bV} {A : Nat -> Prop} {h : List (Nat × Obj)} {w w' : World} (H : aV P E A h w) (hw : w'.heap = w.heap) : aV P E A h w' :=
 ⟨fun n o hn => by rw [hw]; exact H.blk n o hn, H.inj⟩
structure aX (P : Program) (E : bV) (A : Nat -> Prop) (h : List (Nat × Obj)) (nx : Nat) (w : World) (E' : bV) (h' : List (Nat × Obj)) (nx' : Nat) (w' : World) : Prop where
 le : nx <= nx'
 even : nx' % 2 = nx % 2
 agree : ∀ n, ¬ (nx <= n /\ n < nx') -> E'.β n = E.β n /\ E'.σ n = E.σ n /\ E'.κ n = E.κ n
 holds : aV P E' (fun n => A n \/ (nx <= n /\ n < nx')) h' w'
 os : w'.os = w.os
 tape : w'.tape = w.tape
 output : w'.output = w.output
 size : w.heap.size <= w'.heap.size
 same : ∀ b, b < w.heap.size -> (∀ n o, aL h n = some o -> E.β n ≠ b) -> w'.heap[b]? = w.heap[b]?
 img : ∀ n o, aL h' n = some o -> (∃ m o', aL h m = some o' /\ E'.β n = E.β m) \/ w.heap.size <= E'.β n
section
variable {P : Program} {E E' E₁ E₂ : bV} {A : Nat -> Prop} {h h' h₁ h₂ : List (Nat × Obj)} {nx nx' nx₁ nx₂ : Nat} {w w' w₁ w₂ : World}
theorem aX.refl (H : aV P E A h w) : aX P E A h nx w E h nx w :=
 ⟨yh _, rfl, fun _ _ => ⟨rfl, rfl, rfl⟩, H.mono fun _ hn => .inl hn, rfl, rfl, rfl, yh _, fun _ _ _ => rfl, fun n o hn => .inl ⟨n, o, hn, rfl⟩⟩
theorem aX.trans (p : aX P E A h nx w E₁ h₁ nx₁ w₁) (q : aX P E₁ (fun n => A n \/ (nx <= n /\ n < nx₁)) h₁ nx₁ w₁ E₂ h₂ nx₂ w₂) : aX P E A h nx w E₂ h₂ nx₂ w₂ where
 le := yya p.le q.le
 even := q.even.trans p.even
 agree n hn := by
  have h1 := p.le; have h2 := q.le
  obtain ⟨a1, a2, a3⟩ := p.agree n (by omega)
  obtain ⟨b1, b2, b3⟩ := q.agree n (by omega)
  exact ⟨b1.trans a1, b2.trans a2, b3.trans a3⟩
 holds := q.holds.mono fun n hn => by have h1 := p.le; have h2 := q.le; rcases hn with (hn | hn) | hn; exact .inl hn; exact .inr (by omega); exact .inr (by omega)
 os := q.os.trans p.os
 tape := q.tape.trans p.tape
 output := q.output.trans p.output
 size := yya p.size q.size
 same b hb hnot := by
  have hp := p.same b hb hnot
  rw [<- hp]
  refine q.same b (Nat.lt_of_lt_of_le hb p.size) fun n o hn he => ?_
  rcases p.img n o hn with ⟨m, o', hm, e⟩ | e
  ·exact hnot m o' hm (by rw [<- e]; exact he)
  ·omega
 img n o hn := by
  rcases q.img n o hn with ⟨m, o', hm, e⟩ | e
  ·rcases p.img m o' hm with ⟨k, o'', hk, e'⟩ | e'
   ·exact .inl ⟨k, o'', hk, e.trans e'⟩
   ·exact .inr (by rw [e]; exact e')
  ·exact .inr (yya p.size e)
theorem aX.drop (p : aX P E A h nx w E' h' nx' w') (hs : ∀ n o, aL h₁ n = some o -> aL h' n = some o) : aX P E A h nx w E' h₁ nx' w' :=
 ⟨p.le, p.even, p.agree, p.holds.sub hs, p.os, p.tape, p.output, p.size, p.same, fun n o hn => p.img n o (hs n o hn)⟩
theorem aX.world (p : aX P E A h nx w E' h' nx' w') (h1 : w₁.heap = w'.heap) (h2 : w₁.os = w'.os) (h3 : w₁.tape = w'.tape) (h4 : w₁.output = w'.output) : aX P E A h nx w E' h' nx' w₁ :=
 ⟨p.le, p.even, p.agree, p.holds.world h1, h2.trans p.os, h3.trans p.tape, h4.trans p.output, by rw [h1]; exact p.size, fun b hb hn => by rw [h1]; exact p.same b hb hn, p.img⟩
theorem aX.agreeA (p : aX P E A h nx w E' h' nx' w') (hA : ∀ n, A n -> ¬ (nx <= n /\ n < nx')) : l7 A E E' := fun n hn => p.agree n (hA n hn)
theorem aX.put {m b : Nat} {o' oc' : Obj} (H : aV P E A h w) (hle : nx <= nx') (hev : nx' % 2 = nx % 2)
  (hE : ∀ k, ¬ (nx <= k /\ k < nx') -> E'.β k = E.β k /\ E'.σ k = E.σ k /\ E'.κ k = E.κ k) (hEm : ∀ k, k ≠ m -> E'.β k = E.β k)
  (hA : ∀ n, A n -> ¬ (nx <= n /\ n < nx')) (hAm : A m \/ (nx <= m /\ m < nx')) (hβ : E'.β m = b)
  (hh : ∀ k x, aL h' k = some x -> (k = m /\ x = o') \/ (k ≠ m /\ aL h k = some x /\ E.β k ≠ b))
  (hsc : uE (fun n => A n \/ (nx <= n /\ n < nx')) o') (hrel : cK P E' m o' oc') (hb : w'.heap[b]? = some oc') (hother : ∀ k, k ≠ b -> k < w.heap.size -> w'.heap[k]? = w.heap[k]?)
  (hsize : w.heap.size <= w'.heap.size) (h2 : w'.os = w.os) (h3 : w'.tape = w.tape) (h4 : w'.output = w.output)
  (himg : (∃ k x, aL h k = some x /\ E.β k = b) \/ w.heap.size <= b) : aX P E A h nx w E' h' nx' w' where
 le := hle
 even := hev
 agree := hE
 holds := by
  have hag : l7 A E E' := fun n hn => hE n (hA n hn)
  refine ⟨fun n o hn => ?_, fun n k o x hn hk he => ?_⟩
  ·rcases hh n o hn with ⟨rfl, rfl⟩ | ⟨hne, hg, hnb⟩
   ·exact ⟨hAm, hsc, oc', by rw [hβ]; exact hb, hrel⟩
   ·obtain ⟨a, s, oc, hc, hr⟩ := H.blk n o hg
    refine ⟨.inl a, jW (fun _ h => .inl h) o s, oc, ?_, cK.agree hag a s hr⟩
    have hlt : E.β n < w.heap.size := by
     rcases Nat.lt_or_ge (E.β n) w.heap.size with h' | h'
     ·exact h'
     ·rw [yye h'] at hc; cases hc
    rw [hEm n hne, hother _ hnb hlt]; exact hc
  ·rcases hh n o hn with ⟨rfl, rfl⟩ | ⟨hne, hg, hnb⟩ <;> rcases hh k x hk with ⟨rfl, rfl⟩ | ⟨hne', hg', hnb'⟩
   ·rfl
   ·rw [hβ, hEm k hne'] at he; exact absurd he.symm hnb'
   ·rw [hβ, hEm n hne] at he; exact absurd he hnb
   ·rw [hEm n hne, hEm k hne'] at he; exact H.inj n k o x hg hg' he
 os := h2
 tape := h3
 output := h4
 size := hsize
 same c hc hnot := by
  by_cases hcb : c = b
  ·subst hcb
   rcases himg with ⟨k, x, hk, e⟩ | e
   ·exact absurd e (hnot k x hk)
   ·omega
  ·exact hother c hcb hc
 img n o hn := by
  rcases hh n o hn with ⟨rfl, rfl⟩ | ⟨hne, hg, hnb⟩
  ·rw [hβ]
   exact himg.imp (fun ⟨k, x, hk, e⟩ => ⟨k, x, hk, e.symm⟩) id
  ·exact .inl ⟨n, o, hg, hEm n hne⟩
theorem pH (h : List (Nat × Obj)) (n k : Nat) (o x : Obj) : aL (rG h n o) k = some x -> (k = n /\ x = o) \/ (k ≠ n /\ aL h k = some x) := by
 induction h with
 | nil => simp [rG, aL]
 | cons a r ih =>
  obtain ⟨m, y⟩ := a
  simp only [rG]
  by_cases hmn : m = n
  ·subst hmn
   rw [if_pos (by simp)]
   simp only [aL]
   by_cases hk : m = k
   ·subst hk; rw [if_pos (by simp)]; intro e; exact .inl ⟨rfl, (yg e).symm⟩
   ·rw [if_neg (by simpa using hk), if_neg (by simpa using hk)]; intro e; exact .inr ⟨fun e => hk e.symm, e⟩
  ·rw [if_neg (by simpa using hmn)]
   simp only [aL]
   by_cases hk : m = k
   ·subst hk; rw [if_pos (by simp), if_pos (by simp)]; intro e; exact .inr ⟨hmn, e⟩
   ·rw [if_neg (by simpa using hk), if_neg (by simpa using hk)]; exact ih
theorem tT (h : List (Nat × Obj)) (n k : Nat) (x : Obj) : aL (DV h n) k = some x -> k ≠ n /\ aL h k = some x := by
 induction h with
 | nil => simp [DV, aL]
 | cons a r ih =>
  obtain ⟨m, y⟩ := a
  simp only [DV]
  by_cases hmn : m = n
  ·subst hmn
   rw [if_pos (by simp)]
   intro e
   obtain ⟨h1, h2⟩ := ih e
   exact ⟨h1, by simp only [aL]; rw [if_neg (by simpa using fun e => h1 e.symm)]; exact h2⟩
  ·rw [if_neg (by simpa using hmn)]
   simp only [aL]
   by_cases hk : m = k
   ·subst hk; rw [if_pos (by simp), if_pos (by simp)]; intro e; exact ⟨hmn, e⟩
   ·rw [if_neg (by simpa using hk), if_neg (by simpa using hk)]; exact ih
theorem GL (b : Nat) (h : List (Nat × Obj)) (k : Nat) (x : Obj) : aL (p7 b h) k = some x -> aL h k = some x /\ k < b := by
 induction h with
 | nil => simp [p7, aL]
 | cons a r ih =>
  obtain ⟨m, y⟩ := a
  simp only [p7]
  by_cases hmn : b <= m
  ·rw [if_pos (by simpa using hmn)]
   intro e
   obtain ⟨h1, h2⟩ := ih e
   exact ⟨by simp only [aL]; rw [if_neg (by simp; omega)]; exact h1, h2⟩
  ·rw [if_neg (by simpa using hmn)]
   simp only [aL]
   by_cases hk : m = k
   ·subst hk; rw [if_pos (by simp), if_pos (by simp)]; intro e; exact ⟨e, by omega⟩
   ·rw [if_neg (by simpa using hk), if_neg (by simpa using hk)]; exact ih
end
theorem BX {P : Program} {t : TypeId} {b : Bool} (h : Q3 P t = some b) (w : World) : (isAgg t).run P w = .ok b w := by
 unfold Q3 at h
 cases hu : P.underlying t with
 | none => simp [hu] at h
 | some d =>
  have := run_underlying hu w
  simp only [isAgg, Sem.run_bind, this, Result.andThen_ok]
  cases d <;> simp [hu] at h <;> subst h <;> rfl
theorem eR {P : Program} {t : TypeId} {s : Nat} (h : fC P t = some s) (w : World) : (Go.sizeOf t).run P w = .ok s w := by
 unfold fC at h
 cases hi : P.info? t with
 | none => simp [hi] at h
 | some i =>
  simp [hi] at h; subst h
  simp [Go.sizeOf, typeInfo, hi]
theorem yD {P : Program} {t : TypeId} {z : Value} (h : pE P t = some z) (w : World) : (zeroValue t).run P w = .ok z w := by
 unfold pE at h
 cases hi : P.info? t with
 | none => simp [hi] at h
 | some i =>
  simp [hi] at h
  simp [zeroValue, typeInfo, hi, h]
theorem kB {P : Program} {t e : TypeId} (h : BR P t = some e) : P.underlying t = some (.slice e) := by
 unfold BR at h
 split at h
 ·rename_i e' hu; simp at h; subst h; exact hu
 ·simp at h
theorem gR (b o k : Nat) : (⟨b, o, none⟩ : Addr).add k = ⟨b, o + k, none⟩ := by
 unfold Addr.add; split <;> simp_all
section
variable {P : Program} {E : bV} {A : Nat -> Prop} {h h' : List (Nat × Obj)} {w : World}
theorem GM {n : Nat} {c : List Value} (hc : cellsOf h n = some c) : ∃ cs e fz, aL h n = some (.cells cs e fz) /\ cs.toList = c := by
 unfold cellsOf at hc
 split at hc
 ·rename_i cs e fz hg; simp at hc; exact ⟨cs, e, fz, hg, hc⟩
 ·simp at hc
theorem aV.cells (H : aV P E A h w) {n : Nat} {c : Array Value} {e : TypeId} {fz : Nat × Nat} (hg : aL h n = some (.cells c e fz)) :
  ∃ cc fzc, w.heap[E.β n]? = some (.cells cc e fzc) /\ (∀ i v, c[i]? = some v -> cc[E.σ n + i]? = some (aK E v)) /\ (∀ x ∈ c, Sc A x) /\ A n /\
   (∀ off k, vW n off fz = true -> off <= k -> E.σ n + k < cc.size -> ¬ (fzc.1 <= E.σ n + k /\ E.σ n + k < fzc.2)) /\ E.σ n + c.size <= cc.size := by
 obtain ⟨ha, hs, oc, hoc, hr⟩ := H.blk n _ hg
 simp only [cK] at hr
 split at hr
 ·rename_i hrow
  obtain ⟨cc, fzc, s, rfl, h2, h3, h4, h5, h6, h7⟩ := hr
  refine ⟨cc, fzc, hoc, h3, hs, ha, fun off k hm hk hlt => h6 k ?_ (by omega), by omega⟩
  simp only [vW, hrow, if_true] at hm
  exact yya (ye hm) hk
 ·rename_i hrow
  obtain ⟨h1, rfl⟩ := hr
  refine ⟨c.map (aK E), fz, hoc, fun i v hv => by rw [h1, yym, Array.getElem?_map, hv]; rfl, hs, ha, fun off k hm hk hlt => ?_, by rw [h1]; simp⟩
  simp only [vW, hrow] at hm
  simp at hm
  rcases hm with hm | hm <;> omega
theorem aV.cellAt (H : aV P E A h w) {n i : Nat} {c : List Value} {v : Value} (hc : cellsOf h n = some c) (hi : c[i]? = some v) :
  w.cell? ⟨E.β n, E.σ n + i, none⟩ = some (aK E v) /\ Sc A v := by
 obtain ⟨cs, e, fz, hg, rfl⟩ := GM hc
 obtain ⟨cc, fzc, h1, h2, h3, _⟩ := H.cells hg
 have hi' : cs[i]? = some v := by simpa using hi
 exact ⟨by simp [World.cell?, h1, h2 i v hi'], h3 v (yyh hi')⟩
theorem l8 (H : aV P E A h w) {n off k : Nat} {c : List Value} (hc : cellsOf h n = some c) (hle : off + k <= c.length) :
  (loadCells ⟨E.β n, E.σ n + off, none⟩ k).run P w = .ok (((c.drop off).take k).map (aK E)).toArray w /\ ∀ x ∈ (c.drop off).take k, Sc A x := by
 have hlen : (((c.drop off).take k).map (aK E)).length = k := by simp; omega
 have hcell : ∀ j v, ((c.drop off).take k)[j]? = some v -> w.cell? ⟨E.β n, E.σ n + off + j, none⟩ = some (aK E v) /\ Sc A v := by
  intro j v hv
  rw [List.getElem?_take] at hv
  split at hv
  ·rw [List.getElem?_drop] at hv
   have := H.cellAt hc hv
   rw [yx]; exact this
  ·cases hv
 constructor
 ·have := run_loadCells_list (P := P) w ⟨E.β n, E.σ n + off, none⟩ (((c.drop off).take k).map (aK E)) (fun j v hv => by
   rw [yyl] at hv
   cases hx : ((c.drop off).take k)[j]? with
   | none => simp [hx] at hv
   | some x => simp [hx] at hv; subst hv; rw [gR]; exact (hcell j x hx).1)
  rw [hlen] at this
  exact this
 ·intro x hx
  obtain ⟨j, hj⟩ := List.getElem?_of_mem hx
  exact (hcell j x hj).2
theorem zF (H : aV P E A h w) {t : TypeId} {v r : Value} (hl : JU P h t v = some r) :
  (Instr.loadAt t (aK E v)).run P w = .ok (aK E r) w /\ Sc A r := by
 unfold JU at hl
 split at hl
 ·rename_i n off
  rw [cF]
  split at hl
  ·rename_i c s hc hagg hsz
   simp only [yb, ya] at hl
   obtain ⟨hle, rfl⟩ := hl
   have hle := ye hle
   obtain ⟨h1, h2⟩ := l8 H hc hle
   constructor
   ·simp only [Instr.loadAt, Instr.sureAddr, Sem.run_bind, Sem.run_pure, Result.andThen_ok, loadVar, BX hagg, if_true, eR hsz, bV.addr, h1]
    rw [kJ]; simp
   ·rw [nB]; intro x hx; exact h2 x (by simpa using hx)
  ·rename_i _ c hc hagg
   obtain ⟨h1, h2⟩ := H.cellAt hc hl
   refine ⟨?_, h2⟩
   simp only [Instr.loadAt, Instr.sureAddr, Sem.run_bind, Sem.run_pure, Result.andThen_ok, loadVar, BX hagg, ym, if_false, run_load, bV.addr, h1]
  ·simp at hl
 ·simp at hl
theorem wG : ∀ (c : List Value) (off : Nat) (vs : List Value), off + vs.length <= c.length -> ∀ i, (mP c off vs)[i]? = if i < off then c[i]? else if i < off + vs.length then vs[i - off]? else c[i]?
 | c, 0, vs, hl, i => by
  have : mP c 0 vs = vs ++ c.drop vs.length := by cases c <;> rfl
  rw [this]
  simp only [Nat.not_lt_zero, if_false, yym, Nat.sub_zero]
  by_cases hi : i < vs.length
  ·rw [if_pos hi, yyf hi]
  ·rw [if_neg hi, yyc (by omega), List.getElem?_drop]
   congr 1; omega
 | [], n + 1, vs, hl, i => by simp at hl
 | x :: c, n + 1, vs, hl, i => by
  cases i with
  | zero => simp [mP]
  | succ i =>
   simp only [mP, List.getElem?_cons_succ]
   rw [wG c n vs (by simp at hl; omega) i]
   simp only [Nat.add_lt_add_iff_right]
   by_cases h1 : i < n
   ·rw [if_pos h1, if_pos h1]
   ·rw [if_neg h1, if_neg h1]
    by_cases h2 : i < n + vs.length
    ·rw [if_pos h2, if_pos (by omega)]; congr 1; omega
    ·rw [if_neg h2, if_neg (by omega)]
theorem zG (c : List Value) (off : Nat) (vs : List Value) (hl : off + vs.length <= c.length) : (mP c off vs).length = c.length := by
 have h1 := wG c off vs hl
 rcases Nat.lt_trichotomy (mP c off vs).length c.length with h | h | h
 ·have := h1 (mP c off vs).length
  rw [List.getElem?_eq_none (yh _)] at this
  split at this
  ·rw [eq_comm, yyg] at this; omega
  ·split at this
   ·rw [eq_comm, yyg] at this; omega
   ·rw [eq_comm, yyg] at this; omega
 ·exact h
 ·have := h1 c.length
  rw [if_neg (by omega), if_neg (by omega), List.getElem?_eq_none (yh _), yyg] at this
  omega
theorem jX (g o : Nat) (t : TypeId) (fz : Nat × Nat) : ∀ (vs : List Value) (i : Nat) (cur : Array Value) (w : World), w.heap[g]? = some (.cells cur t fz) ->
  (∀ j, o + i <= j -> j < o + i + vs.length -> ¬ (fz.1 <= j /\ j < fz.2)) -> o + i + vs.length <= cur.size -> (∀ v ∈ vs, v.oneCell' = true) ->
  (storeCells ⟨g, o, none⟩ vs i).run P w = .ok () (w.setRow g (cur.toList.take (o + i) ++ vs ++ cur.toList.drop (o + i + vs.length)).toArray)
 | [], i, cur, w, hg, _, _, _ => by
  simp only [storeCells, List.append_nil, List.length_nil, Nat.add_zero, List.take_append_drop, Array.toArray_toList]
  rw [setRow_self w g cur t fz hg]
  rfl
 | v :: rest, i, cur, w, hg, hfz, hl, h1 => by
  have hi : o + i < cur.size := by simp at hl; omega
  have hcell : w.cell? ⟨g, o + i, none⟩ = some cur[o + i] := by simp [World.cell?, hg, hi]
  have hfro : w.frozen? ⟨g, o + i, none⟩ = false := by
   have := hfz (o + i) (yh _) (by simp)
   obtain ⟨lo, hi'⟩ := fz
   simp only [World.frozen?, hg, Bool.and_eq_false_iff, decide_eq_false_iff_not]
   simp only at this
   omega
  have hst : (store ((⟨g, o, none⟩ : Addr).add i) v).run P w = .ok () (w.setRow g (cur.setIfInBounds (o + i) v)) := by
   rw [gR, run_store P w _ v _ (h1 v (by simp)), hcell]
   simp [hfro, setCell_eq_setRow w g (o + i) cur t fz v hg]
  have ih := jX g o t fz rest (i + 1) (cur.setIfInBounds (o + i) v) (w.setRow g (cur.setIfInBounds (o + i) v)) (setRow_heap w g cur _ t _ hg) (fun j hj1 hj2 => hfz j (by omega) (by simp; omega)) (by simp at hl |-; omega) (fun x hx => h1 x (by simp [hx]))
  simp only [storeCells, Sem.run_bind, hst, Result.andThen_ok, ih, setRow_setRow]
  congr 3
  have e := list_seg_step cur.toList (o + i) v rest (by simp at hl |-; omega)
  simpa [Array.toList_setIfInBounds, yx] using e
theorem zH (v : Value) : one v = v.oneCell' := by cases v <;> rfl
theorem BY {l : List Value} (h : uU l = true) : ∀ v ∈ l, one v = true := by
 induction l with
 | nil => simp
 | cons a r ih => simp [uU] at h; intro v hv; rcases yk.1 hv with rfl | hv; exact h.1; exact ih h.2 v hv
theorem P5 (l vs : List Value) (k i : Nat) (hk : k + vs.length <= l.length) : (l.take k ++ vs ++ l.drop (k + vs.length))[i]? = if i < k then l[i]? else if i < k + vs.length then vs[i - k]? else l[i]? := by
 have hlt : (l.take k).length = k := by simp; omega
 by_cases h1 : i < k
 ·rw [if_pos h1, List.append_assoc, yyf (by omega), List.getElem?_take, if_pos h1]
 ·rw [if_neg h1]
  by_cases h2 : i < k + vs.length
  ·rw [if_pos h2, yyf (by simp; omega), yyc (by omega), hlt]
  ·rw [if_neg h2, yyc (by simp; omega), List.getElem?_drop]
   congr 1; simp; omega
theorem gW (H : aV P E A h w) {n off : Nat} {vs : List Value} (hs : j7 h n off vs = some h') (hsc : ∀ v ∈ vs, Sc A v) (nx : Nat) :
  ∃ w', (storeCells ⟨E.β n, E.σ n + off, none⟩ (vs.map (aK E))).run P w = .ok () w' /\ aX P E A h nx w E h' nx w' := by
 unfold j7 at hs
 split at hs
 ·simp at hs; subst hs
  exact ⟨w, rfl, aX.refl H⟩
 ·split at hs
  ·rename_i _ c e fz hg
   simp only [yb, ya, yd] at hs
   obtain ⟨⟨⟨hle, hone⟩, hmay⟩, rfl⟩ := hs
   have hle := ye hle
   obtain ⟨cc, fzc, h1, h2, h3, h4, h5, h6⟩ := H.cells hg
   have hrun := jX (P := P) (E.β n) (E.σ n + off) e fzc (vs.map (aK E)) 0 cc w h1 (fun j hj1 hj2 => by
     have := h5 off (j - E.σ n) hmay (by omega) (by simp at hj2; omega)
     rw [show E.σ n + (j - E.σ n) = j by omega] at this
     exact this) (by simp; omega) (fun v hv => by
     obtain ⟨x, hx, rfl⟩ := yw.1 hv
     rw [<- zH, P4]; exact BY hone x hx)
   refine ⟨_, hrun, ?_⟩
   have hov := wG c.toList off vs (by simpa using hle)
   have hget : ∀ i, (cc.toList.take (E.σ n + off + 0) ++ vs.map (aK E) ++ cc.toList.drop (E.σ n + off + 0 + (vs.map (aK E)).length))[i]? = if i < E.σ n + off then cc.toList[i]? else if i < E.σ n + off + vs.length then (vs.map (aK E))[i - (E.σ n + off)]? else cc.toList[i]? := by
    intro i
    have := P5 cc.toList (vs.map (aK E)) (E.σ n + off) i (by simp; omega)
    simpa using this
   have hlen : (cc.toList.take (E.σ n + off + 0) ++ vs.map (aK E) ++ cc.toList.drop (E.σ n + off + 0 + (vs.map (aK E)).length)).length = cc.size := by simp; omega
   generalize cc.toList.take (E.σ n + off + 0) ++ vs.map (aK E) ++ cc.toList.drop (E.σ n + off + 0 + (vs.map (aK E)).length) = nc at *
   have hnew : ∀ i v, (mP c.toList off vs)[i]? = some v -> nc[E.σ n + i]? = some (aK E v) := by
    intro i v hv
    rw [hov] at hv
    rw [hget]
    by_cases g1 : i < off
    ·rw [if_pos g1] at hv; rw [if_pos (by omega)]; have := h2 i v (by simpa using hv); simpa using this
    ·rw [if_neg g1] at hv; rw [if_neg (by omega)]
     by_cases g2 : i < off + vs.length
     ·rw [if_pos g2] at hv; rw [if_pos (by omega), yyl, show E.σ n + i - (E.σ n + off) = i - off by omega, hv]; rfl
     ·rw [if_neg g2] at hv; rw [if_neg (by omega)]; have := h2 i v (by simpa using hv); simpa using this
   have hscn : ∀ x ∈ (mP c.toList off vs).toArray, Sc A x := by
    intro x hx
    obtain ⟨i, hi⟩ := List.getElem?_of_mem (show x ∈ mP c.toList off vs by simpa using hx)
    rw [hov] at hi
    split at hi
    ·exact h3 x (yyh (by simpa using hi))
    ·split at hi
     ·exact hsc x (yyd hi)
     ·exact h3 x (yyh (by simpa using hi))
   have hbr : cK P E n (.cells (mP c.toList off vs).toArray e fz) (.cells nc.toArray e fzc) := by
    obtain ⟨_, _, oc, hoc, hr⟩ := H.blk n _ hg
    rw [h1] at hoc; obtain rfl := yg hoc
    have hol := zG c.toList off vs (by simpa using hle)
    simp only [cK] at hr |-
    split at hr
    ·rename_i hrow
     rw [if_pos hrow]
     obtain ⟨cc', fzc', s, e1, e2, e3, e4, e5, e6, e7⟩ := hr
     simp at e1; obtain ⟨rfl, rfl⟩ := e1
     exact ⟨nc.toArray, fzc, s, rfl, e2, fun i v hv => by simpa using hnew i v (by simpa using hv), by simp [hlen]; exact e4, by simp [hol]; exact e5, e6, e7⟩
    ·rename_i hrow
     rw [if_neg hrow]
     obtain ⟨e1, e2⟩ := hr
     simp at e2; obtain ⟨e2, e3⟩ := e2
     refine ⟨e1, ?_⟩
     subst e3
     congr 1
     apply yl
     simp only [yyj]
     apply List.ext_getElem?
     intro i
     rw [yyl]
     cases hx : (mP c.toList off vs)[i]? with
     | some v => have := hnew i v hx; rw [e1, yym] at this; rw [this]; rfl
     | none =>
      rw [yyg] at hx
      simp only [Option.map_none]
      rw [yyg, hlen, e2]; simp; simpa [hol] using hx
   refine aX.put (m := n) (b := E.β n) (o' := .cells (mP c.toList off vs).toArray e fz) (oc' := .cells nc.toArray e fzc) H (yh _) rfl (fun _ _ => ⟨rfl, rfl, rfl⟩) (fun _ _ => rfl) (fun k _ hk => by omega) (.inl h4) rfl ?_ (fun x hx => gB (fun _ h => .inl h) x (hscn x hx)) hbr ?_ ?_ (by simp) rfl rfl rfl (.inl ⟨n, _, hg, rfl⟩)
   ·intro k x hk
    rcases pH _ _ _ _ _ hk with ⟨rfl, rfl⟩ | ⟨hne, hgk⟩
    ·exact .inl ⟨rfl, rfl⟩
    ·exact .inr ⟨hne, hgk, fun he => hne (H.inj k n _ _ hgk hg he)⟩
   ·exact setRow_heap w _ cc _ e fzc h1
   ·intro k hk _; exact setRow_other w _ k _ hk
  ·simp at hs
theorem GN (H : aV P E A h w) {t : TypeId} {a v : Value} (hs : MP P h t a v = some h') (hsc : Sc A v) (nx : Nat) :
  ∃ w', (Instr.storeAt t (aK E a) (aK E v)).run P w = .ok () w' /\ aX P E A h nx w E h' nx w' := by
 unfold MP at hs
 split at hs
 ·rename_i n off
  split at hs
  ·rename_i s hsz
   simp only [yb] at hs
   obtain ⟨hsize, hs⟩ := hs
   obtain ⟨w', h1, h2⟩ := gW H hs (fun x hx => BW hsc x (by simpa using hx)) nx
   refine ⟨w', ?_, h2⟩
   have hsize : v.cells.size = s := by simpa using hsize
   have hc : (aK E v).cells.size = s := by rw [tS]; simpa using hsize
   have hcl : (aK E v).cells.toList = v.cells.toList.map (aK E) := by rw [tS]; simp
   rw [cF]
   simp only [Instr.storeAt, Instr.sureAddr, Sem.run_bind, Sem.run_pure, Result.andThen_ok, storeVar, eR hsz, hc, ne_eq, not_true_eq_false, if_false, bV.addr, hcl, h1]
  ·simp at hs
 ·simp at hs
end
end Go.Dam
