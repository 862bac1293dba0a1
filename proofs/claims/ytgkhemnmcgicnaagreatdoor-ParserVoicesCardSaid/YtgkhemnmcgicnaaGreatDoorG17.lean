/- An own evaluator of closed runs of a program, proved sound against the model: one part of it. -/
import Derived.Test.YtgkhemnmcgicnaaGreatDoorG16
namespace Go.Dam
section
variable {P : Program} {E : bV} {A : Nat -> Prop} {h h' : List (Nat × Obj)} {nx : Nat} {w w' : World}
theorem aV.mapAny (H : aV P E A h w) {n : Nat} {es : Array MapEntry} {clock : Nat} (hg : aL h n = some (.map es clock)) :
  ∃ (esl : Array MapEntry) (c' : Nat), k8 esl es /\ (q8 es clock = false -> esl = es /\ c' = clock) /\ w.heap[E.β n]? = some (.map (esl.map (bG E)) c') /\ (∀ x ∈ esl, Sc A x.key /\ Sc A x.val) /\ A n := by
 obtain ⟨ha, hs, oc, hoc, hr⟩ := H.blk n _ hg
 simp only [cK] at hr
 split at hr
 ·rename_i hl
  obtain ⟨esl, c', k1, _, rfl⟩ := hr
  exact ⟨esl, c', k1, (fun h => by rw [hl] at h; cases h), hoc, k1.all (p := fun k v => Sc A k /\ Sc A v) hs, ha⟩
 ·subst hr
  exact ⟨es, clock, List.Perm.refl _, fun _ => ⟨rfl, rfl⟩, hoc, hs, ha⟩
theorem aV.mapAt (H : aV P E A h w) {n : Nat} {es : Array MapEntry} {clock : Nat} (hg : aL h n = some (.map es clock)) (hl : q8 es clock = false) :
  w.heap[E.β n]? = some (.map (es.map (bG E)) clock) /\ (∀ x ∈ es, Sc A x.key /\ Sc A x.val) /\ A n := by
 obtain ⟨esl, c', _, h1, h2, h3, h4⟩ := H.mapAny hg
 obtain ⟨rfl, rfl⟩ := h1 hl
 exact ⟨h2, h3, h4⟩
theorem M4 (s t : ByteArray) : (s == t) = true ↔ s = t := by
 cases s with
 | mk a =>
  cases t with
  | mk b =>
   constructor
   ·intro h
    have : (a == b) = true := h
    rw [eq_of_beq this]
   ·intro h
    have : a = b := by injection h
    subst this
    show (a == a) = true
    exact beq_self_eq_true a
def gY (s : ByteArray) : List MapEntry -> Option Value
 | [] => none
 | e :: r => (match e.key with
  | .string t => if s == t then some e.val else gY s r
  | _ => gY s r)
def B5 (l : List MapEntry) : Prop := ∀ e ∈ l, ∃ t, e.key = .string t
theorem zM (s : ByteArray) : ∀ {l : List MapEntry} {j : Nat}, B5 l -> ∃ r, Instr.findNow .string (.string s) l j = some r /\ r.map (·.2) = gY s l
 | [], j, _ => ⟨none, rfl, rfl⟩
 | e :: r, j, h => by
  obtain ⟨t, ht⟩ := h e (by simp)
  simp only [Instr.findNow, gY, ht, Instr.sameNow]
  cases hst : s == t with
  | true => exact ⟨some (j, e.val), rfl, by simp⟩
  | false =>
   obtain ⟨r', h1, h2⟩ := zM s (l := r) (j := j + 1) fun e' he' => h e' (yo _ he')
   exact ⟨r', h1, by simpa using h2⟩
theorem zN {s : ByteArray} : ∀ {l : List MapEntry}, F9 s l = true -> ∀ e ∈ l, ∃ t, e.key = .string t /\ s ≠ t
 | [], _, e, he => by cases he
 | a :: r, h, e, he => by
  simp only [F9, yd] at h
  rcases yk.1 he with rfl | he
  ·have := h.1
   split at this
   ·rename_i t ht
    refine ⟨t, ht, fun e => ?_⟩
    have h2 := (M4 s t).2 e
    rw [h2] at this; cases this
   ·cases this
  ·exact zN h.2 e he
theorem rB : ∀ {l : List MapEntry}, iD l = true -> B5 l
 | [], _, e, he => by cases he
 | a :: r, h, e, he => by
  simp only [iD, yd] at h
  rcases yk.1 he with rfl | he
  ·have := h.1
   split at this
   ·rename_i t ht; exact ⟨t, ht⟩
   ·cases this
  ·exact rB h.2 e he
theorem rC : ∀ {l : List MapEntry}, iD l = true -> ∀ e ∈ l, ∀ e' ∈ l, e.key = e'.key -> (e.key, e.val) = (e'.key, e'.val)
 | [], _, e, he => by cases he
 | a :: r, h, e, he => by
  intro e' he' hk
  simp only [iD, yd] at h
  have ha := h.1
  split at ha
  case h_2 => cases ha
  rename_i s hs
  have cross : ∀ y ∈ r, a.key ≠ y.key := by
   intro y hy hky
   obtain ⟨t, ht, hne⟩ := zN ha y hy
   rw [hs, ht] at hky
   exact hne (by injection hky)
  rcases yk.1 he with h1 | h1 <;> rcases yk.1 he' with h2 | h2
  ·rw [h1, h2]
  ·exact absurd (by rw [<- h1]; exact hk) (cross e' h2)
  ·exact absurd (by rw [<- h2]; exact hk.symm) (cross e h1)
  ·exact rC h.2 e h1 e' h2 hk
theorem kM {s : ByteArray} {v : Value} : ∀ {l : List MapEntry}, gY s l = some v -> ∃ e ∈ l, e.key = .string s /\ e.val = v
 | [], h => by cases h
 | a :: r, h => by
  simp only [gY] at h
  split at h
  ·rename_i t ht
   split at h
   ·rename_i hst
    rw [(M4 s t).1 hst]
    exact ⟨a, by simp, ht, yg h⟩
   ·obtain ⟨e, h1, h2⟩ := kM h
    exact ⟨e, yo _ h1, h2⟩
  ·obtain ⟨e, h1, h2⟩ := kM h
   exact ⟨e, yo _ h1, h2⟩
theorem mS {s : ByteArray} : ∀ {l : List MapEntry}, gY s l = none -> ∀ e ∈ l, e.key ≠ .string s
 | [], _, e, he => by cases he
 | a :: r, h, e, he => by
  simp only [gY] at h
  split at h
  ·rename_i t ht
   split at h
   ·cases h
   ·rename_i hst
    rcases yk.1 he with rfl | he
    ·rw [ht]; intro hx; injection hx with hx; exact hst ((M4 s t).2 hx.symm)
    ·exact mS h e he
  ·rename_i hno
   rcases yk.1 he with rfl | he
   ·exact hno s
   ·exact mS h e he
theorem k8.mem {es es' : Array MapEntry} (h : k8 es es') {e : MapEntry} (he : e ∈ es.toList) : ∃ e' ∈ es'.toList, e'.key = e.key /\ e'.val = e.val := by
 have h1 : (e.key, e.val) ∈ es.toList.map fun x => (x.key, x.val) := yw.2 ⟨e, he, rfl⟩
 obtain ⟨y, hy, e1⟩ := yw.1 (h.mem_iff.1 h1)
 simp only [yc] at e1
 exact ⟨y, hy, e1⟩
theorem k8.symm {es es' : Array MapEntry} (h : k8 es es') : k8 es' es := List.Perm.symm h
theorem GS {s : ByteArray} {es es' : Array MapEntry} (h : k8 es es') (hd : iD es'.toList = true) : gY s es.toList = gY s es'.toList := by
 cases h1 : gY s es.toList with
 | none =>
  cases h2 : gY s es'.toList with
  | none => rfl
  | some v =>
   obtain ⟨e, he, hk, _⟩ := kM h2
   obtain ⟨e', he', hk', _⟩ := h.symm.mem he
   exact absurd (hk'.trans hk) (mS h1 e' he')
 | some v =>
  obtain ⟨e, he, hk, hv⟩ := kM h1
  obtain ⟨e', he', hk', hv'⟩ := h.mem he
  cases h2 : gY s es'.toList with
  | none => exact absurd (hk'.trans hk) (mS h2 e' he')
  | some v2 =>
   obtain ⟨e2, he2, hk2, hv2⟩ := kM h2
   have := rC hd e' he' e2 he2 (by rw [hk', hk, hk2])
   simp only [yc] at this
   rw [<- hv, <- hv', this.2, hv2]
theorem KB {es es' : Array MapEntry} (h : k8 es es') (hd : B5 es'.toList) : B5 es.toList := by
 intro e he
 obtain ⟨e', he', hk, _⟩ := h.mem he
 obtain ⟨t, ht⟩ := hd e' he'
 exact ⟨t, by rw [<- hk, ht]⟩
theorem wH {k : TypeId} (hk : P.underlying k = some .string) (b : Bool) (s : ByteArray) : bC P (Instr.checkKey b 10000 k (.string s)) = some () := by
 unfold Instr.checkKey
 rw [bB, cV, hk]
 rfl
theorem zQ {k : TypeId} (hk : P.underlying k = some .string) (s : ByteArray) {l : List MapEntry} (h : B5 l) : ∃ r, bC P (Instr.findKey k (.string s) l) = some r /\ r.map (·.2) = gY s l := by
 obtain ⟨r, h1, h2⟩ := zM s (j := 0) h
 refine ⟨r, ?_, h2⟩
 unfold Instr.findKey
 rw [bB, cV, hk]
 simp only [yj, h1]
 rfl
theorem B6 {k : TypeId} {i : Value} {es esl : Array MapEntry} {clock : Nat} (h : k8 esl es) (hx : q8 es clock = false -> esl = es) (ho : S5 P k i es clock = true) {r : Option (Nat × Value)} (hf : P0 P k i es = some r) :
  ∃ r', bC P (Instr.checkKey esl.isEmpty 10000 k i) = some () /\ bC P (Instr.findKey k i esl.toList) = some r' /\ r'.map (·.2) = r.map (·.2) := by
 unfold S5 at ho
 simp only [yu, yd, yyb] at ho
 rcases ho with ho | ⟨⟨h1, h2⟩, h3⟩
 ·obtain rfl := hx ho
  unfold P0 at hf
  rw [bB] at hf
  cases hc : bC P (Instr.checkKey esl.isEmpty 10000 k i) with
  | none => simp [hc] at hf
  | some u => simp only [hc, yj] at hf; exact ⟨r, rfl, hf, rfl⟩
 ·unfold SZ at h1
  split at h1
  case h_2 => cases h1
  rename_i hk
  unfold S4 at h2
  split at h2
  case h_2 => cases h2
  rename_i s
  have hd := rB h3
  obtain ⟨r1, q1, q2⟩ := zQ (P := P) hk s hd
  obtain ⟨r2, q3, q4⟩ := zQ (P := P) hk s (KB h hd)
  unfold P0 at hf
  rw [bB, wH hk, yj, q1] at hf
  obtain rfl := yg hf
  exact ⟨r2, wH hk _ _, q3, by rw [q4, q2, GS h h3]⟩
theorem wJ : ∀ {l : List MapEntry}, (∀ e ∈ l, jU e.key = true) -> eY l = true
 | [], _ => rfl
 | a :: r, h => by
  simp only [eY, yd]
  exact ⟨h a (by simp), wJ fun e he => h e (yo _ he)⟩
theorem B7 {es esl : Array MapEntry} (h : k8 esl es) (hk : ∀ e ∈ es.toList, jU e.key = true) : eY esl.toList = true :=
 wJ fun e he => by
  obtain ⟨e', he', k, _⟩ := h.mem he
  rw [<- k]; exact hk e' he'
theorem iL {r : Nat} {es : Array MapEntry} {clock : Nat} (hg : w.heap[r]? = some (.map es clock)) : (getObj r).run P w = .ok (.map es clock) w := by
 simp [getObj, Sem.run, hg]
theorem sK {r : Nat} {es es' : Array MapEntry} {clock clock' : Nat} (hg : w.heap[r]? = some (.map es clock)) : (setObj r (.map es' clock')).run P w = .ok () { w with heap := w.heap.setIfInBounds r (.map es' clock') } := by
 simp [setObj, Sem.run, hg]
theorem o0 : ∀ {l : List MapEntry}, eY l = true -> ∀ e ∈ l, jU e.key = true
 | [], _ => by simp
 | a :: r, h => by
  simp [eY] at h
  intro e he
  rcases yk.1 he with rfl | he
  ·exact h.1
  ·exact o0 h.2 e he
theorem zR (E : bV) (kind : TypeDesc) (k : Value) : ∀ (l : List MapEntry) (i : Nat), eY l = true ->
  Instr.findNow kind k (l.map (bG E)) i = (Instr.findNow kind k l i).map (fun o => o.map fun x => (x.1, aK E x.2))
 | [], i, _ => rfl
 | e :: l, i, h => by
  simp [eY] at h
  simp only [yyn, Instr.findNow, bG, fW E h.1]
  cases hs : Instr.sameNow kind k e.key with
  | none => rfl
  | some b => cases b with
   | true => rfl
   | false => exact zR E kind k l (i + 1) h.2
theorem sL (E : bV) (kt : TypeId) (k : Value) : ∀ (l : List MapEntry) (i : Nat), eY l = true ->
  bC P (Instr.findAsking kt k (l.map (bG E)) i) = (bC P (Instr.findAsking kt k l i)).map (fun o => o.map fun x => (x.1, aK E x.2))
 | [], i, _ => rfl
 | e :: l, i, h => by
  simp [eY] at h
  simp only [yyn, Instr.findAsking, bG, fW E h.1, bB]
  cases hq : bC P (Op.equal kt k e.key) with
  | none => rfl
  | some b =>
   simp only [yj, qC]
   cases b with
   | true => rfl
   | false => exact sL E kt k l (i + 1) h.2
theorem zS (E : bV) (kt : TypeId) (k : Value) (l : List MapEntry) (h : eY l = true) :
  bC P (Instr.findKey kt k (l.map (bG E))) = (bC P (Instr.findKey kt k l)).map (fun o => o.map fun x => (x.1, aK E x.2)) := by
 unfold Instr.findKey
 simp only [bB, cV]
 cases P.underlying kt with
 | none => rfl
 | some d =>
  simp only [yj, zR E d k l 0 h]
  cases hf : Instr.findNow d k l 0 with
  | none => exact sL E kt k l 0 h
  | some r => rfl
theorem zT (kind : TypeDesc) (k : Value) : ∀ (l : List MapEntry) (i j : Nat) (v : Value), Instr.findNow kind k l i = some (some (j, v)) -> ∃ e ∈ l, e.val = v
 | [], i, j, v, h => by simp [Instr.findNow] at h
 | e :: l, i, j, v, h => by
  simp only [Instr.findNow] at h
  split at h
  ·simp at h; exact ⟨e, List.mem_cons_self .., h.2⟩
  ·obtain ⟨e', h1, h2⟩ := zT kind k l (i + 1) j v h; exact ⟨e', yo _ h1, h2⟩
  ·simp at h
theorem sM (kt : TypeId) (k : Value) : ∀ (l : List MapEntry) (i j : Nat) (v : Value), bC P (Instr.findAsking kt k l i) = some (some (j, v)) -> ∃ e ∈ l, e.val = v
 | [], i, j, v, h => by simp [Instr.findAsking, dR] at h
 | e :: l, i, j, v, h => by
  simp only [Instr.findAsking, bB] at h
  cases hq : bC P (Op.equal kt k e.key) with
  | none => simp [hq] at h
  | some b =>
   simp only [hq, yj, qC] at h
   cases b with
   | true => simp [dR] at h; exact ⟨e, List.mem_cons_self .., h.2⟩
   | false => obtain ⟨e', h1, h2⟩ := sM kt k l (i + 1) j v (by simpa using h); exact ⟨e', yo _ h1, h2⟩
theorem KC (kt : TypeId) (k : Value) (l : List MapEntry) (j : Nat) (v : Value) (h : bC P (Instr.findKey kt k l) = some (some (j, v))) : ∃ e ∈ l, e.val = v := by
 unfold Instr.findKey at h
 simp only [bB, cV] at h
 cases hu : P.underlying kt with
 | none => simp [hu] at h
 | some d =>
  simp only [hu, yj] at h
  cases hf : Instr.findNow d k l 0 with
  | none => rw [hf] at h; exact sM kt k l 0 j v h
  | some r => rw [hf] at h; simp [dR] at h; subst h; exact zT d k l 0 j v hf
theorem GT (H : aV P E A h w) {t : TypeId} {x i v : Value} {ok : Bool} (hb : GA P h t x i ok = some v) :
  (Instr.lookup t (aK E x) (aK E i) ok).run P w = .ok (aK E v) w /\ Sc A v := by
 unfold GA at hb
 split at hb
 ·rename_i k e hu
  split at hb
  ·rename_i hpi
   rw [fW E hpi]
   have hzr : ∀ z, pE P e = some z -> jU z = true -> ∀ w : World, (zeroValue e).run P w = .ok (aK E z) w := by
    intro z hz hp w; rw [fW E hp]; exact yD hz w
   have hfin : ∀ (y : Value) (b : Bool), Sc A y -> aK E (if ok = true then .tuple #[y, .bool b] else y) = (if ok = true then .tuple #[aK E y, .bool b] else aK E y) /\ Sc A (if ok = true then .tuple #[y, .bool b] else y) := by
    intro y b hy
    cases ok with
    | true =>
     simp only [if_true]
     rw [fL, iH]
     refine ⟨by simp [fP], ?_⟩
     intro x hx
     simp at hx
     rcases hx with rfl | rfl
     ·exact hy
     ·exact oE _ _
    | false => exact ⟨rfl, hy⟩
   split at hb
   ·split at hb
    ·rename_i z hz
     simp only [yb] at hb
     obtain ⟨hp, hb⟩ := hb
     split at hb
     ·rename_i u hck
      simp only [ya] at hb; subst hb
      obtain ⟨f1, f2⟩ := hfin z false (mY A hp)
      refine ⟨?_, f2⟩
      rw [f1, fE]
      have hfk : bC P (Instr.findKey k i []) = bC P (Instr.findKey k i []) := rfl
      simp only [Instr.lookup, Sem.run_bind, run_underlying hu, Result.andThen_ok, Sem.run_pure]
      rw [show (#[] : Array MapEntry).isEmpty = true from rfl, dW hck]
      have hk0 : (Instr.findKey k i ([] : List MapEntry)).run P w = .ok none w := by
       unfold Instr.findKey
       have hk := hck
       unfold Instr.checkKey at hk
       rw [bB, cV] at hk
       cases hku : P.underlying k with
       | none => simp [hku] at hk
       | some d => simp only [Sem.run_bind, run_underlying hku, Result.andThen_ok, Instr.findNow, Sem.run_pure]
      simp only [Result.andThen_ok, hk0, Sem.run_bind, hzr z hz hp, Sem.run_pure]
     ·simp at hb
    ·simp at hb
   ·rename_i n
    rw [jL]
    split at hb
    ·rename_i es clock hg
     obtain ⟨esl, c', k1, k2, m1, m2, _⟩ := H.mapAny hg
     simp only [Option.ite_none_left_eq_some, yb, Bool.not_eq_false] at hb
     obtain ⟨hask, hkp, hb⟩ := hb
     have hkl := B7 k1 (o0 hkp)
     have hfr := zS (P := P) E k i esl.toList hkl
     have hlist : (esl.map (bG E)).toList = esl.toList.map (bG E) := by simp
     have hemp : (esl.map (bG E)).isEmpty = esl.isEmpty := by simp [Array.isEmpty]
     split at hb
     ·rename_i j y hf
      obtain ⟨r', c1, c2, c3⟩ := B6 k1 (fun hl => (k2 hl).1) hask hf
      obtain ⟨j', rfl⟩ : ∃ j', r' = some (j', y) := by
       cases r' with
       | none => simp at c3
       | some x => obtain ⟨j', y'⟩ := x; simp at c3; subst c3; exact ⟨j', rfl⟩
      simp only [ya] at hb; subst hb
      obtain ⟨e', he1, he2⟩ := KC (P := P) _ _ _ _ _ c2
      have hy : Sc A y := by rw [<- he2]; exact (m2 e' (by simpa using he1)).2
      obtain ⟨f1, f2⟩ := hfin y true hy
      refine ⟨?_, f2⟩
      rw [f1]
      rw [c2] at hfr
      simp only [Instr.lookup, Sem.run_bind, run_underlying hu, Result.andThen_ok, iL m1, Sem.run_pure, hemp, dW c1, hlist, dW hfr, yr]
     ·rename_i hf
      obtain ⟨r', c1, c2, c3⟩ := B6 k1 (fun hl => (k2 hl).1) hask hf
      obtain rfl : r' = none := by
       cases r' with
       | none => rfl
       | some x => simp at c3
      split at hb
      ·rename_i z hz
       simp only [yb, ya] at hb
       obtain ⟨hp, rfl⟩ := hb
       obtain ⟨f1, f2⟩ := hfin z false (mY A hp)
       refine ⟨?_, f2⟩
       rw [f1]
       rw [c2] at hfr
       simp only [Instr.lookup, Sem.run_bind, run_underlying hu, Result.andThen_ok, iL m1, Sem.run_pure, hemp, dW c1, hlist, dW hfr, Option.map_none, hzr z hz hp]
      ·simp at hb
     ·simp at hb
    ·simp at hb
   ·simp at hb
  ·simp at hb
 ·simp at hb
theorem zU (k v : Value) : ∀ (l : List MapEntry) (j : Nat), xZ l j k v = l.modify j fun e => { e with key := k, val := v }
 | [], j => by cases j <;> rfl
 | e :: r, 0 => by simp [xZ, List.modify]
 | e :: r, n + 1 => by simp [xZ, zU k v r n]
theorem EV : ∀ (l : List MapEntry) (j : Nat), (((l[j]?).map (·.key)).getD undef) = JW l j
 | [], j => by cases j <;> rfl
 | e :: r, 0 => rfl
 | e :: r, n + 1 => by simpa [JW] using EV r n
theorem vC (a b : Nat) : Nat.blt a b = false ↔ b <= a := by
 rw [<- Bool.not_eq_true]
 constructor
 ·intro h
  exact Nat.le_of_not_lt fun hlt => h (Nat.ble_eq_true_of_le hlt)
 ·intro h hlt
  have := ye hlt
  omega
theorem zV : ∀ (l : List MapEntry) (j : Nat) (k v : Value), (xZ l j k v).length = l.length
 | [], j, _, _ => by cases j <;> rfl
 | e :: r, 0, _, _ => rfl
 | e :: r, n + 1, k, v => by simp [xZ, zV r n k v]
theorem rD {S S' : St} (H : aV P E A S.heap w) {t : TypeId} {m i v : Value} (hb : uZ P S t m i v = some S') (hsc : Sc A v) :
  ∃ w', (Instr.mapUpdate t (aK E m) (aK E i) (aK E v)).run P w = .ok () w' /\ aX P E A S.heap S.next w E S'.heap S'.next w' := by
 unfold uZ at hb
 split at hb
 ·rename_i k e hu
  split at hb
  ·rename_i hpi
   rw [fW E hpi]
   split at hb
   ·rename_i n
    rw [jL]
    split at hb
    ·rename_i es clock hg
     simp only [Option.ite_none_left_eq_some, yb, Bool.not_eq_true] at hb
     obtain ⟨hloose, hkp, hb⟩ := hb
     obtain ⟨m1, m2, mA⟩ := H.mapAt hg hloose
     have hsz := (vC clock es.size).1 hloose
     have hfr := zS (P := P) E k i es.toList hkp
     have hck : ∀ r, bC P (do Instr.checkKey false 10000 k i; Instr.findKey k i es.toList) = some r -> bC P (Instr.checkKey false 10000 k i) = some () /\ bC P (Instr.findKey k i es.toList) = some r := by
      intro r hr
      rw [bB] at hr
      cases hc : bC P (Instr.checkKey false 10000 k i) with
      | none => simp [hc] at hr
      | some u => simp only [hc, yj] at hr; exact ⟨rfl, hr⟩
     have hlist : (es.map (bG E)).toList = es.toList.map (bG E) := by simp
     have hlt : E.β n < w.heap.size := (yz.1 m1).1
     have hpost : ∀ (es' : Array MapEntry) (clock' : Nat), (∀ x ∈ es', Sc A x.key /\ Sc A x.val) -> q8 es' clock' = false ->
       aX P E A S.heap S.next w E (rG S.heap n (.map es' clock')) S.next { w with heap := w.heap.setIfInBounds (E.β n) (.map (es'.map (bG E)) clock') } := by
      intro es' clock' hes hl'
      refine aX.put (m := n) (b := E.β n) (o' := .map es' clock') (oc' := .map (es'.map (bG E)) clock') H (yh _) rfl (fun _ _ => ⟨rfl, rfl, rfl⟩) (fun _ _ => rfl) (fun k _ hk => by omega) (.inl mA) rfl ?_
       (fun x hx => ⟨kX (hes x hx).1, kX (hes x hx).2⟩) (by simp only [cK, hl']; simp) ?_ ?_ (by simp) rfl rfl rfl (.inl ⟨n, _, hg, rfl⟩)
      ·intro k x hk
       rcases pH _ _ _ _ _ hk with ⟨rfl, rfl⟩ | ⟨hne, hgk⟩
       ·exact .inl ⟨rfl, rfl⟩
       ·exact .inr ⟨hne, hgk, fun he => hne (H.inj k n _ _ hgk hg he)⟩
      ·simp [hlt]
      ·intro j hj _
       simp [Ne.symm hj]
     split at hb
     ·rename_i j y hf
      obtain ⟨c1, c2⟩ := hck _ hf
      simp only [yb, ya, yd] at hb
      obtain ⟨⟨hsame, hjlt⟩, rfl⟩ := hb
      have hjlt : j < es.size := ye hjlt
      have hes' : ∀ x ∈ (xZ es.toList j i v).toArray, Sc A x.key /\ Sc A x.val := by
       intro x hx
       have hx : x ∈ xZ es.toList j i v := by simpa using hx
       have key : ∀ (l : List MapEntry) (j : Nat), x ∈ xZ l j i v -> x ∈ l \/ (Sc A x.key /\ Sc A x.val) := by
        intro l
        induction l with
        | nil => intro j h; cases j <;> simp [xZ] at h
        | cons a r ih =>
         intro j h
         cases j with
         | zero =>
          simp only [xZ, yk] at h
          rcases h with rfl | h
          ·exact .inr ⟨mY A hpi, hsc⟩
          ·exact .inl (yo _ h)
         | succ j =>
          simp only [xZ, yk] at h
          rcases h with rfl | h
          ·exact .inl (List.mem_cons_self ..)
          ·exact (ih j h).imp (yo _) id
       rcases key _ _ hx with h | h
       ·exact m2 x (by simpa using h)
       ·exact h
      refine ⟨_, ?_, hpost _ clock hes' ((vC _ _).2 (by simp [zV]; exact hsz))⟩
      rw [c2] at hfr
      have hold : JW es.toList j = (((es.map (bG E))[j]?).map (·.key)).getD i := by
       have hj : ∃ e', es.toList[j]? = some e' := ⟨es[j], by simp [hjlt]⟩
       obtain ⟨e', he'⟩ := hj
       rw [<- EV, he']
       have hpk := o0 hkp e' (yyd he')
       have : es[j]? = some e' := by simpa using he'
       simp [this, bG, fW E hpk]
      simp only [Instr.mapUpdate, Sem.run_bind, run_underlying hu, Result.andThen_ok, iL m1, dW c1, hlist, dW hfr, yr]
      rw [<- hold]
      simp only [Instr.keyThatStays, hsame, if_true, Sem.run_pure, Result.andThen_ok, sK m1]
      congr 3
      apply congrArg (fun x => Obj.map x clock)
      apply yl
      apply List.ext_getElem?
      intro q
      simp only [yyj, yyl, zU]
      rw [Array.getElem?_toList, Array.getElem?_modify, List.getElem?_modify]
      by_cases hq : j = q
      ·subst hq
       simp
       cases es[j]? with
       | none => rfl
       | some x => simp [bG, fW E hpi]
      ·simp [hq]
     ·rename_i hf
      obtain ⟨c1, c2⟩ := hck _ hf
      simp only [ya] at hb
      subst hb
      refine ⟨_, ?_, hpost (es.push { key := i, val := v, born := clock }) (clock + 1) ?_ ((vC _ _).2 (by simp; exact hsz))⟩
      ·rw [c2] at hfr
       simp only [Instr.mapUpdate, Sem.run_bind, run_underlying hu, Result.andThen_ok, iL m1, dW c1, hlist, dW hfr, Option.map_none, sK m1]
       simp [Array.map_push, bG, fW E hpi]
      ·intro x hx
       rcases Array.mem_push.1 hx with hx | rfl
       ·exact m2 x hx
       ·exact ⟨mY A hpi, hsc⟩
     ·simp at hb
    ·simp at hb
   ·simp at hb
  ·simp at hb
 ·simp at hb
theorem dK {r : Nat} {o : Obj} (hg : w.heap[r]? = some o) (hc : ∀ c e f, o ≠ .cells c e f) : (getObj r).run P w = .ok o w := by
 cases o <;> first | (simp only [getObj, Sem.run, hg]; done) | exact absurd rfl (hc _ _ _)
theorem sN {r : Nat} {o o' : Obj} (hg : w.heap[r]? = some o) (hc : ∀ c e f, o ≠ .cells c e f) : (setObj r o').run P w = .ok () { w with heap := w.heap.setIfInBounds r o' } := by
 cases o <;> first | (simp only [setObj, Sem.run, hg]; done) | exact absurd rfl (hc _ _ _)
theorem aX.turnAt {n : Nat} {o o' oc' : Obj} (H : aV P E A h w) (hg : aL h n = some o) (hA : ∀ k, A k -> ¬ (nx <= k /\ k < nx)) (hsc : uE A o') (hr : cK P E n o' oc') :
  aX P E A h nx w E (rG h n o') nx { w with heap := w.heap.setIfInBounds (E.β n) oc' } := by
 obtain ⟨ha, _, oc, hoc, _⟩ := H.blk n o hg
 have hlt : E.β n < w.heap.size := (yz.1 hoc).1
 refine aX.put (m := n) (b := E.β n) (o' := o') (oc' := oc') H (yh _) rfl (fun _ _ => ⟨rfl, rfl, rfl⟩) (fun _ _ => rfl) hA (.inl ha) rfl ?_ (jW (fun _ hn => Or.inl hn) o' hsc) hr (by simp [hlt]) ?_ (by simp) rfl rfl rfl (.inl ⟨n, _, hg, rfl⟩)
 ·intro k x hk
  rcases pH _ _ _ _ _ hk with ⟨rfl, rfl⟩ | ⟨hne, hgk⟩
  ·exact .inl ⟨rfl, rfl⟩
  ·exact .inr ⟨hne, hgk, fun he => hne (H.inj k n _ _ hgk hg he)⟩
 ·intro j hj _
  simp [Ne.symm hj]
theorem S9 (E : bV) (es : Array MapEntry) (seen : Array Nat) : (es.map (bG E)).filter (fun e => !seen.contains e.born) = ((P1 es.toList seen.toList).map (bG E)).toArray := by
 apply yl
 simp only [Array.toList_filter, yyj, P1, List.filter_map]
 congr 1
 apply List.filter_congr
 intro x _
 simp [bG, Function.comp]
theorem Q9 {es : List MapEntry} {seen : List Nat} {l : List MapEntry} (hl : P1 es seen = l) : ∀ e ∈ l, e ∈ es := by
 intro e he
 subst hl
 exact (List.mem_filter.1 he).1
theorem KD {S S' : St} (H : aV P E A S.heap w) {t : TypeId} {x v : Value} (hb : MR P S t x = some (v, S')) (hA : ∀ n, A n -> ¬ (S.next <= n /\ n < S'.next)) :
  ∃ E' w', (Instr.range t (aK E x)).run P w = .ok (aK E' v) w' /\ aX P E A S.heap S.next w E' S'.heap S'.next w' /\ Sc (fun n => A n \/ (S.next <= n /\ n < S'.next)) v := by
 have fin : ∀ (o oc : Obj), uE A o -> (∀ E' : bV, l7 A E E' -> E'.σ S.next = 0 -> cK P E' S.next o oc) -> (d9 S o) = (S.next, S') -> v = .pointer (some ⟨S.next, 0, none⟩) ->
   (Instr.range t (aK E x)).run P w = .ok (.pointer (some ⟨w.heap.size, 0, none⟩)) (w.alloc oc) ->
   ∃ E' w', (Instr.range t (aK E x)).run P w = .ok (aK E' v) w' /\ aX P E A S.heap S.next w E' S'.heap S'.next w' /\ Sc (fun n => A n \/ (S.next <= n /\ n < S'.next)) v := by
  intro o oc hs hrel hn hv hrun
  simp only [d9, yc, true_and] at hn
  subst hn hv
  have hag : l7 A E (E.bind S.next w.heap.size 0 0) := by
   intro n hn
   have : n ≠ S.next := by rintro rfl; exact hA _ hn ⟨yh _, by simp⟩
   simp [bV.bind, this]
  refine ⟨E.bind S.next w.heap.size 0 0, w.alloc oc, ?_, ?_, by rw [kZ]; exact .inr ⟨yh _, by simp⟩⟩
  ·rw [hrun, cF]; simp [bV.addr, bV.bind]
  ·exact aX.new H hA ⟨yh _, by omega⟩ hs (hrel _ hag (by simp [bV.bind])) rfl rfl rfl rfl
 unfold MR at hb
 split at hb
 ·rename_i s hu
  simp only [d9, ya, yc] at hb
  obtain ⟨rfl, rfl⟩ := hb
  refine fin (.stringIter s 0) (.stringIter s 0) trivial (fun _ _ h0 => ⟨h0, rfl⟩) rfl rfl ?_
  rw [dV]
  simp [Instr.range, run_underlying hu]
 ·rename_i hu
  simp only [d9, ya, yc] at hb
  obtain ⟨rfl, rfl⟩ := hb
  refine fin (.mapIter none 0 #[] 0) (.mapIter none 0 #[] 0) (by intro n hn; cases hn) (fun _ _ h0 => ⟨h0, rfl⟩) rfl rfl ?_
  rw [fE]
  simp [Instr.range, run_underlying hu]
 ·rename_i n hu
  split at hb
  ·rename_i es clock hg
   simp only [d9, Option.ite_none_left_eq_some, ya, yc, Bool.not_eq_true] at hb
   obtain ⟨hloose, rfl, rfl⟩ := hb
   obtain ⟨m1, _, mA⟩ := H.mapAt hg hloose
   refine fin (.mapIter (some n) clock #[] clock) (.mapIter (some (E.β n)) clock #[] clock) (by intro k hk; obtain rfl := yg hk; exact mA) (fun E' hag h0 => ⟨h0, by simp [(hag n mA).1]⟩) rfl rfl ?_
   rw [jL]
   simp [Instr.range, run_underlying hu, dK m1 (by simp)]
  ·simp at hb
 ·simp at hb
theorem M5 {S S' : St} (H : aV P E A S.heap w) {it v : Value} {b : Bool} {ty : TypeId} (hb : S6 S it b = some (v, S')) (hA : ∀ k, A k -> ¬ (S.next <= k /\ k < S.next)) :
  ∃ w', (Instr.next (aK E it) b ty).run P w = .ok (aK E v) w' /\ aX P E A S.heap S.next w E S'.heap S'.next w' /\ Sc A v := by
 have mP : aK E (.tuple #[.bool false]) = .tuple #[.bool false] /\ Sc A (.tuple #[.bool false]) := by
  refine ⟨by rw [fL]; simp [fP], by rw [iH]; intro x hx; simp at hx; subst hx; exact oE _ _⟩
 unfold S6 at hb
 split at hb
 case h_2 => simp at hb
 rename_i r
 split at hb
 ·
  rename_i s pos hg
  obtain ⟨_, _, oc, hoc, hr⟩ := H.blk r _ hg
  obtain ⟨h0, rfl⟩ := hr
  have hp : aK E (.pointer (some ⟨r, 0, none⟩)) = .pointer (some ⟨E.β r, 0, none⟩) := by rw [cF]; simp [bV.addr, h0]
  rw [hp]
  split at hb
  ·rename_i hlt
   have hlt : pos < s.size := ye hlt
   simp only [ya, yc] at hb
   obtain ⟨rfl, rfl⟩ := hb
   refine ⟨_, ?_, aX.turnAt H hg hA trivial ⟨h0, rfl⟩, ?_⟩
   ·rw [fL]
    simp [Instr.next, dK hoc (by simp), sN hoc (by simp), hlt, fP, goInt, eV]
   ·rw [iH]; intro x hx; simp [goInt] at hx
    rcases hx with rfl | rfl | rfl
    ·exact oE _ _
    ·exact nC _ _ _
    ·exact nC _ _ _
  ·rename_i hlt
   have hlt : ¬ pos < s.size := fun h => hlt (Nat.ble_eq_true_of_le h)
   simp only [ya, yc] at hb
   obtain ⟨rfl, rfl⟩ := hb
   refine ⟨w, ?_, aX.refl H, mP.2⟩
   rw [mP.1]
   simp [Instr.next, dK hoc (by simp), hlt]
 ·
  rename_i x1 x2 x3 hg
  obtain ⟨_, _, oc, hoc, hr⟩ := H.blk r _ hg
  obtain ⟨h0, rfl⟩ := hr
  have hp : aK E (.pointer (some ⟨r, 0, none⟩)) = .pointer (some ⟨E.β r, 0, none⟩) := by rw [cF]; simp [bV.addr, h0]
  simp only [ya, yc] at hb
  obtain ⟨rfl, rfl⟩ := hb
  refine ⟨w, ?_, aX.refl H, mP.2⟩
  rw [hp, mP.1]
  simp [Instr.next, dK hoc (by simp)]
 ·
  rename_i m since seen last hg
  obtain ⟨_, hsc, oc, hoc, hr⟩ := H.blk r _ hg
  obtain ⟨h0, rfl⟩ := hr
  have hp : aK E (.pointer (some ⟨r, 0, none⟩)) = .pointer (some ⟨E.β r, 0, none⟩) := by rw [cF]; simp [bV.addr, h0]
  rw [hp]
  split at hb
  case h_2 => simp at hb
  rename_i es clock hgm
  split at hb
  ·simp at hb
  rename_i hloose
  obtain ⟨m1, m2, mA⟩ := H.mapAt hgm (by simpa using hloose)
  split at hb
  ·simp at hb
  rename_i hcond
  have hcond' : (!seen.isEmpty && !(es.map (bG E)).isEmpty && (es.map (bG E)).all (fun e => decide (e.born ≥ last))) = false := by
   have he : (es.map (bG E)).isEmpty = es.isEmpty := by simp [Array.isEmpty]
   have ha : (es.map (bG E)).all (fun e => decide (e.born ≥ last)) = es.all (fun e => decide (e.born ≥ last)) := by
    rw [Array.all_map]; rfl
   rw [he, ha]
   simpa using hcond
  have hl := S9 E es seen
  split at hb
  ·rename_i hl0
   simp only [ya, yc] at hb
   obtain ⟨rfl, rfl⟩ := hb
   rw [hl0] at hl
   refine ⟨w, ?_, aX.refl H, mP.2⟩
   rw [mP.1]
   simp only [yr] at hoc
   simp only [Instr.next, Sem.run_bind, dK hoc (by simp), dK m1 (by simp), Result.andThen_ok, hcond', hl]
   simp [choose, Sem.run, Question.forced]
  ·rename_i e hl1
   simp only [yb, ya, yc] at hb
   obtain ⟨hlt, rfl, rfl⟩ := hb
   have hlt : e.born < since := ye hlt
   have he : e ∈ es := by simpa using Q9 hl1 e (by simp)
   rw [hl1] at hl
   simp only [yr] at hoc
   refine ⟨_, ?_, aX.turnAt (o' := .mapIter (some m) since (seen.push e.born) clock) H hg hA hsc ⟨h0, rfl⟩, ?_⟩
   ·rw [fL]
    simp only [Instr.next, Sem.run_bind, dK hoc (by simp), dK m1 (by simp), Result.andThen_ok, hcond', hl]
    simp [choose, Sem.run, Question.forced, bG, hlt, fP]
    rw [sN hoc (by simp)]
    rfl
   ·rw [iH]; intro x hx; simp at hx
    rcases hx with rfl | rfl | rfl
    ·exact oE _ _
    ·exact (m2 e he).1
    ·exact (m2 e he).2
  ·simp at hb
 ·simp at hb
theorem wK (E : bV) (b : Nat) : ∀ (l : List MapEntry), (l.map (bG E)).find? (fun x => x.born == b) = (m9 b l).map (bG E)
 | [] => rfl
 | e :: r => by
  simp only [yyn, List.find?_cons, m9, bG]
  by_cases h : e.born = b
  ·simp [h, bG]
  ·have : (e.born == b) = false := by simpa using h
   rw [this]
   simp only [Nat.beq_eq, h, if_false]
   exact wK E b r
theorem wL {b : Nat} : ∀ {l : List MapEntry} {e : MapEntry}, m9 b l = some e -> e ∈ l
 | [], _, h => by simp [m9] at h
 | a :: r, e, h => by
  simp only [m9] at h
  split at h
  ·rw [yg h]; simp
  ·exact yo _ (wL h)
theorem EW : ∀ (l : List Nat), P2 l = l.getLast?
 | [] => rfl
 | [x] => rfl
 | x :: y :: r => by
  show P2 (y :: r) = _
  rw [EW (y :: r)]; simp
theorem KE {S : St} (H : aV P E A S.heap w) {it v : Value} (hb : MT S it = some v) :
  (Instr.entry (aK E it)).run P w = .ok (aK E v) w /\ Sc A v := by
 unfold MT at hb
 split at hb
 case h_2 => simp at hb
 rename_i r
 split at hb
 case h_2 => simp at hb
 rename_i m since seen last hg
 obtain ⟨_, hsc, oc, hoc, hr⟩ := H.blk r _ hg
 obtain ⟨h0, rfl⟩ := hr
 have hp : aK E (.pointer (some ⟨r, 0, none⟩)) = .pointer (some ⟨E.β r, 0, none⟩) := by rw [cF]; simp [bV.addr, h0]
 rw [hp]
 split at hb
 case h_2 => simp at hb
 rename_i es clock b hgm hlast
 simp only [yb, yd, yyb] at hb
 obtain ⟨⟨hc, hloose⟩, hb⟩ := hb
 obtain ⟨m1, m2, mA⟩ := H.mapAt hgm hloose
 have hc := yf hc
 split at hb
 case h_2 => simp at hb
 rename_i e he
 simp only [ya] at hb
 subst hb
 simp only [yr] at hoc
 have hback : seen.back? = some b := by rw [<- Array.getLast?_toList, <- EW, hlast]
 have hfind : (es.map (bG E)).find? (fun x => x.born == b) = some (bG E e) := by
  rw [<- Array.find?_toList, yyj, wK, he]; rfl
 have hmem : e ∈ es := by simpa using wL he
 refine ⟨?_, ?_⟩
 ·rw [fL]
  simp [Instr.entry, dK hoc (by simp), dK m1 (by simp), hback, hc, hfind, bG]
 ·rw [iH]; intro x hx; simp at hx
  rcases hx with rfl | rfl
  ·exact (m2 e hmem).1
  ·exact (m2 e hmem).2
end
end Go.Dam
