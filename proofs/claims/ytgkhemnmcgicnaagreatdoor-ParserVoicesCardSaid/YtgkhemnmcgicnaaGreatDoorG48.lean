/- Towards the law ParserVoices, true for every text (no condition): one part of the proof. -/
import Derived.Test.YtgkhemnmcgicnaaGreatDoorG47
import Derived.Test.YtgkhemnmcgicnaaGreatDoorG01
import Derived.Test.YtgkhemnmcgicnaaGreatDoorG23
import Derived.KernelRfl
namespace Go.Dam
section
variable {P : Program}
def P6 (P : Program) (t : FuncId × List Value × Value) : Prop :=
 (∀ x ∈ t.2.1, plain x = true) /\ plain t.2.2 = true /\ ∀ w : World, Calls P t.1 t.2.1.toArray w fun e w' => e = .returned t.2.2 /\ RowKit.Below w.heap.size w w'
structure CG where
 f : FuncId
 args : List Value
 nx : Nat
 v : Value
 heap : List (Nat × Obj)
 nx' : Nat
def KH (P : Program) (t : CG) : Prop :=
 (∀ x ∈ t.args, plain x = true) /\ (∀ n o, aL t.heap n = some o -> t.nx <= n /\ n < t.nx') /\
 ∀ (E : bV) (A : Nat -> Prop) (w : World), rM P E A -> t.nx % 2 = 0 -> (∀ n, A n -> ¬ (t.nx <= n /\ n < t.nx')) ->
  Calls P t.f t.args.toArray w fun e w' => ∃ E', e = .returned (aK E' t.v) /\ aX P E A [] t.nx w E' t.heap t.nx' w' /\ Sc (fun n => A n \/ (t.nx <= n /\ n < t.nx')) t.v
def P7 (f : FuncId) (args : List Value) : List (FuncId × List Value × Value) -> Option Value
 | [] => none
 | (g, xs, v) :: r => if Nat.beq g f && wB xs args then some v else P7 f args r
def P8 (f : FuncId) (args : List Value) (nx : Nat) : List CG -> Option CG
 | [] => none
 | t :: r => if Nat.beq t.f f && Nat.beq t.nx nx && wB t.args args then some t else P8 f args nx r
def GW (l0 : List (FuncId × List Value × Value)) (l1 : List CG) : FuncId -> List Value -> St -> Option (Value × St) := fun f args S =>
 match P7 f args l0 with
 | some v => some (v, S)
 | none => match P8 f args S.next l1 with
  | some t => some (t.v, ⟨t.heap ++ S.heap, t.nx'⟩)
  | none => none
theorem CH {f : FuncId} {args : List Value} {v : Value} : ∀ {l : List (FuncId × List Value × Value)}, P7 f args l = some v -> (f, args, v) ∈ l
 | [], h => by cases h
 | (g, xs, u) :: r, h => by
  simp only [P7] at h
  split at h
  ·rename_i hc
   simp only [yd] at hc
   rw [<- yf hc.1, <- nH hc.2, <- yg h]
   simp
  ·exact yo _ (CH h)
theorem CJ {f : FuncId} {args : List Value} {nx : Nat} {t : CG} : ∀ {l : List CG}, P8 f args nx l = some t -> t ∈ l /\ t.f = f /\ t.nx = nx /\ t.args = args
 | [], h => by cases h
 | u :: r, h => by
  simp only [P8] at h
  split at h
  ·rename_i hc
   simp only [yd] at hc
   obtain rfl := yg h
   exact ⟨by simp, yf hc.1.1, yf hc.1.2, nH hc.2⟩
  ·obtain ⟨h1, h2⟩ := CJ h
   exact ⟨yo _ h1, h2⟩
theorem aX.framed {E E' : bV} {A : Nat -> Prop} {h g : List (Nat × Obj)} {nx nx' : Nat} {w w' : World} (p : aX P E A [] nx w E' h nx' w') (H : aV P E A g w) (hA : ∀ n, A n -> ¬ (nx <= n /\ n < nx')) : aX P E A g nx w E' (h ++ g) nx' w' where
 le := p.le
 even := p.even
 agree := p.agree
 holds := by
  have hag : l7 A E E' := p.agreeA hA
  have hg : ∀ n o, aL g n = some o -> (A n \/ (nx <= n /\ n < nx')) /\ uE (fun n => A n \/ (nx <= n /\ n < nx')) o /\ E'.β n = E.β n /\ E.β n < w.heap.size /\ ∃ oc, w'.heap[E'.β n]? = some oc /\ cK P E' n o oc := by
   intro n o hn
   obtain ⟨h1, h2, oc, h3, h4⟩ := H.blk n o hn
   have hlt := H.lt hn
   have hb := (hag n h1).1
   refine ⟨.inl h1, jW (fun _ hx => Or.inl hx) o h2, hb, hlt, oc, ?_, cK.agree hag h1 h2 h4⟩
   rw [hb, p.same _ hlt (fun _ _ hx => by cases hx)]
   exact h3
  have hh : ∀ n o, aL h n = some o -> w.heap.size <= E'.β n := by
   intro n o hn
   rcases p.img n o hn with ⟨m, o', hm, _⟩ | hx
   ·cases hm
   ·exact hx
  refine ⟨fun n o hn => ?_, fun n m o o' hn hm he => ?_⟩
  ·rcases mC _ _ _ _ hn with hn | ⟨_, hn⟩
   ·exact p.holds.blk n o hn
   ·obtain ⟨a1, a2, _, _, a3⟩ := hg n o hn
    exact ⟨a1, a2, a3⟩
  ·rcases mC _ _ _ _ hn with hn | ⟨_, hn⟩ <;> rcases mC _ _ _ _ hm with hm | ⟨_, hm⟩
   ·exact p.holds.inj n m _ _ hn hm he
   ·obtain ⟨_, _, b1, b2, _⟩ := hg m o' hm
    have := hh n o hn
    omega
   ·obtain ⟨_, _, b1, b2, _⟩ := hg n o hn
    have := hh m o' hm
    omega
   ·obtain ⟨_, _, b1, _, _⟩ := hg n o hn
    obtain ⟨_, _, c1, _, _⟩ := hg m o' hm
    exact H.inj n m _ _ hn hm (by rw [<- b1, <- c1]; exact he)
 os := p.os
 tape := p.tape
 output := p.output
 size := p.size
 same b hb _ := p.same b hb fun _ _ hx => by cases hx
 img n o hn := by
  rcases mC _ _ _ _ hn with hn | ⟨_, hn⟩
  ·rcases p.img n o hn with ⟨m, o', hm, _⟩ | hx
   ·cases hm
   ·exact .inr hx
  ·exact .inl ⟨n, o, hn, (p.agree n (hA n (H.blk n o hn).1)).1⟩
theorem aX.of_below {E : bV} {A : Nat -> Prop} {g : List (Nat × Obj)} {nx : Nat} {w w' : World} (hb : RowKit.Below w.heap.size w w') (H : aV P E A g w) : aX P E A g nx w E g nx w' where
 le := yh _
 even := rfl
 agree _ _ := ⟨rfl, rfl, rfl⟩
 holds := (H.grow fun k hk => hb.block k hk).mono fun _ hn => .inl hn
 os := hb.os
 tape := hb.tape
 output := hb.output
 size := hb.size
 same b hlt _ := hb.block b hlt
 img n o hn := .inl ⟨n, o, hn, rfl⟩
theorem M6 {l0 : List (FuncId × List Value × Value)} {l1 : List CG} (h0 : ∀ t ∈ l0, P6 P t) (h1 : ∀ t ∈ l1, KH P t) : CV P (GW l0 l1) := by
 intro f args S v S' h E A w hg hev hargs H hA
 have hren : (∀ x ∈ args, plain x = true) -> (args.map (aK E)).toArray = args.toArray := by
  intro hp
  have : args.map (aK E) = args.map id := yp fun x hx => iW _ (hp x hx)
  rw [this]; simp
 unfold GW at h
 split at h
 ·rename_i v0 hf
  simp only [ya, yc] at h
  obtain ⟨rfl, rfl⟩ := h
  obtain ⟨k1, k2, k3⟩ := h0 _ (CH hf)
  rw [hren k1]
  refine (k3 w).mono ?_
  rintro e w' ⟨rfl, hb⟩
  exact ⟨E, by rw [iW _ k2], aX.of_below hb H, kX (sE A k2)⟩
 ·split at h
  ·rename_i t hf
   simp only [ya, yc] at h
   obtain ⟨rfl, rfl⟩ := h
   obtain ⟨m1, rfl, m3, rfl⟩ := CJ hf
   obtain ⟨k1, k2, k3⟩ := h1 t m1
   rw [hren k1]
   rw [<- m3] at hev hA |-
   refine (k3 E A w hg hev hA).mono ?_
   rintro e w' ⟨E', rfl, p, hs⟩
   exact ⟨E', rfl, p.framed H hA, hs⟩
  ·cases h
end
section
variable {P : Program} {callF : Fn -> List Value -> St -> Option (Value × St)}
def l9 (callF : Fn -> List Value -> St -> Option (Value × St)) (P : Program) (f : Nat) (b : Code) : Nat -> List Value -> St -> Option (List Value × St)
 | 0, tm, S => some (tm, S)
 | k + 1, tm, S => match evC callF P f b tm S with
  | some (.normal, tm', S') => l9 callF P f b k tm' S'
  | _ => none
theorem o4 {f : Nat} {b : Code} : ∀ {k : Nat} {tm tm' : List Value} {S S' : St}, l9 callF P f b k tm S = some (tm', S') -> S.next <= S'.next
 | 0, _, _, _, _, h => by
  simp only [l9, ya, yc] at h
  rw [h.2]; exact yh _
 | k + 1, tm, tm', S, S', h => by
  simp only [l9] at h
  split at h
  ·rename_i h1
   exact yya (dX h1) (o4 h)
  ·cases h
theorem sQ (hm : P.follows .mixedOrders = true) (hcf : gE P callF) (hnm : eM P) {f : Nat} {b : Code} (hok : dE P b = true) {Q : Exit -> Act -> World -> Prop} {n : Nat} : ∀ {k : Nat} {tm tm' : List Value} {S S' : St}, l9 callF P f b k tm S = some (tm', S') ->
  ∀ {E : bV} {A : Nat -> Prop} {a : Act} {w : World}, Tm E A tm a -> rM P E A -> S.next % 2 = 0 -> aV P E A S.heap w -> (∀ n, A n -> n < S.next) -> gF P none E A S w a tm' S' (Code.roundsIn (rd none) 0 P b Q n) -> Code.roundsIn (rd none) 0 P b Q (k + n) a w
 | 0, tm, tm', S, S', h, E, A, a, w, ht, hg, hev, H, hA, hQ => by
  simp only [l9, ya, yc] at h
  obtain ⟨rfl, rfl⟩ := h
  rw [yym]
  exact hQ E a w (aX.refl H) ⟨ht.tmps, fun x hx => kX (ht.sc x hx)⟩ (D6.of_eq rfl)
 | k + 1, tm, tm', S, S', h, E, A, a, w, ht, hg, hev, H, hA, hQ => by
  simp only [l9] at h
  split at h
  ·rename_i tm1 S1 h1
   have m2 := o4 h
   have hA' : ∀ n, A n -> ¬ (S.next <= n /\ n < S1.next) := fun n hn hx => by have := hA n hn; omega
   rw [show k + 1 + n = (k + n) + 1 by omega, roundsIn_succ]
   refine (k9 hm hcf hnm f).1 b tm S .normal tm1 S1 h1 hok none (fun hx => by cases hx) E A a w _ ht hg hev H hA' ?_
   intro E1 a1 w1 p ht1 hd1
   refine sQ hm hcf hnm hok h ht1 (hg.next (p.agreeA hA') fun n hn => .inl hn) (by rw [p.even, hev]) p.holds ?_ (hQ.trans p hd1 m2)
   have := p.le
   rintro n (hn | hn)
   ·have := hA n hn; omega
   ·omega
  ·cases h
structure Lit where
 tm : List Value
 heap : List (Nat × Obj)
 next : Nat
def Lit.st (l : Lit) : St := ⟨l.heap, l.next⟩
def EZ (l : Lit) : List Value × St -> Bool
 | (tm, S) => MW l.tm tm && Nat.beq l.next S.next && sB S.heap l.heap
theorem vE {l : Lit} {x : List Value × St} (h : EZ l x = true) : x.1 = l.tm /\ x.2.next = l.next /\ ∀ n o, aL l.heap n = some o -> aL x.2.heap n = some o := by
 obtain ⟨tm, S⟩ := x
 simp only [EZ, yd] at h
 exact ⟨(yP h.1.1).symm, (yf h.1.2).symm, oJ h.2⟩
def sR (callF : Fn -> List Value -> St -> Option (Value × St)) (P : Program) (f : Nat) (b : Code) (k : Nat) (l l' : Lit) : Bool :=
 match l9 callF P f b k l.tm l.st with
 | some x => EZ l' x
 | none => false
theorem KJ (hm : P.follows .mixedOrders = true) (hcf : gE P callF) (hnm : eM P) {f k n : Nat} {b : Code} {l l' : Lit} (h : sR callF P f b k l l' = true) (hok : dE P b = true) {Q : Exit -> Act -> World -> Prop}
  {E : bV} {A : Nat -> Prop} {a : Act} {w : World} (ht : Tm E A l.tm a) (hg : rM P E A) (hev : l.next % 2 = 0) (H : aV P E A l.heap w) (hA : ∀ n, A n -> n < l.next) (hQ : gF P none E A l.st w a l'.tm l'.st (Code.roundsIn (rd none) 0 P b Q n)) : Code.roundsIn (rd none) 0 P b Q (k + n) a w := by
 unfold sR at h
 split at h
 ·rename_i x hx
  obtain ⟨tm, S⟩ := x
  obtain ⟨h1, h2, h3⟩ := vE h
  simp only at h1 h2 h3
  subst h1
  refine sQ hm hcf hnm hok hx ht hg hev H hA ?_
  intro E' a' w' p ht' hd
  refine hQ E' a' w' ?_ (by simpa [Lit.st, h2] using ht') hd
  have p2 := p.drop h3
  rw [h2] at p2
  exact p2
 ·cases h
end
section
variable {P : Program}
structure Told where
 f : FuncId
 args : List Value
 heap : List (Nat × Obj)
 nx : Nat
 v : Value
 out : List (Nat × Obj)
 nx' : Nat
def E4 (P : Program) (t : Told) : Prop :=
 ∀ (E : bV) (A : Nat -> Prop) (w : World), rM P E A -> t.nx % 2 = 0 -> (∀ x ∈ t.args, Sc A x) -> aV P E A t.heap w -> (∀ n, A n -> ¬ (t.nx <= n /\ n < t.nx')) ->
  Calls P t.f (t.args.map (aK E)).toArray w fun e w' => ∃ E', e = .returned (aK E' t.v) /\ aX P E A t.heap t.nx w E' t.out t.nx' w' /\ Sc (fun n => A n \/ (t.nx <= n /\ n < t.nx')) t.v
def P9 (f : FuncId) (args : List Value) (S : St) : List Told -> Option Told
 | [] => none
 | t :: r => if Nat.beq t.f f && Nat.beq t.nx S.next && MW t.args args && sB S.heap t.heap then some t else P9 f args S r
def iM (l0 : List (FuncId × List Value × Value)) (l1 : List CG) (l2 : List Told) : FuncId -> List Value -> St -> Option (Value × St) := fun f args S =>
 match GW l0 l1 f args S with
 | some r => some r
 | none => match P9 f args S l2 with
  | some t => some (t.v, ⟨t.out ++ oD t.heap S.heap, t.nx'⟩)
  | none => none
theorem CK {f : FuncId} {args : List Value} {S : St} {t : Told} : ∀ {l : List Told}, P9 f args S l = some t -> t ∈ l /\ t.f = f /\ t.nx = S.next /\ t.args = args /\ sB S.heap t.heap = true
 | [], h => by cases h
 | u :: r, h => by
  simp only [P9] at h
  split at h
  ·rename_i hc
   simp only [yd] at hc
   obtain rfl := yg h
   exact ⟨by simp, yf hc.1.1.1, yf hc.1.1.2, yP hc.1.2, hc.2⟩
  ·obtain ⟨h1, h2⟩ := CK h
   exact ⟨yo _ h1, h2⟩
theorem fS {l0 : List (FuncId × List Value × Value)} {l1 : List CG} {l2 : List Told} (h0 : ∀ t ∈ l0, P6 P t) (h1 : ∀ t ∈ l1, KH P t) (h2 : ∀ t ∈ l2, E4 P t) : CV P (iM l0 l1 l2) := by
 intro f args S v S' h E A w hg hev hargs H hA
 unfold iM at h
 split at h
 ·rename_i r hr
  obtain rfl := yg h
  exact M6 h0 h1 f args S v S' hr E A w hg hev hargs H hA
 ·split at h
  ·rename_i t hf
   simp only [ya, yc] at h
   obtain ⟨rfl, rfl⟩ := h
   obtain ⟨m1, rfl, m3, rfl, m5⟩ := CK hf
   have k2 := h2 t m1
   have hsub := oJ m5
   rw [<- m3] at hev hA |-
   refine (k2 E A w hg hev hargs (H.sub hsub) hA).mono ?_
   rintro e w' ⟨E', rfl, p, hs⟩
   exact ⟨E', rfl, p.framed2 H hsub hA, hs⟩
  ·cases h
theorem TC (hm : P.follows .mixedOrders = true) (hnm : eM P) {orc : FuncId -> List Value -> St -> Option (Value × St)} (horc : CV P orc) {fs fuel d : Nat} (hok : jK P P.funcs.size fs = true) {t : Told}
  (hrun : (match iF orc P fs fuel d (.func t.f) t.args ⟨t.heap, t.nx⟩ with | some (v, S') => VU t.v v && Nat.beq t.nx' S'.next && sB S'.heap t.out | none => false) = true) : E4 P t := by
 intro E A w hg hev hargs H hA
 split at hrun
 ·rename_i v S' he
  simp only [yd] at hrun
  obtain ⟨⟨r1, r2⟩, r3⟩ := hrun
  obtain rfl := nJ r1
  have r2 := yf r2
  have hw := oJ r3
  have := mT hm hnm horc hok fuel d (.func t.f) t.args ⟨t.heap, t.nx⟩ t.v S' he E A w hg hev hargs H (by rw [<- r2]; exact hA)
  refine Calls.mono this ?_
  rintro e w' ⟨E', rfl, p, hs⟩
  refine ⟨E', rfl, ?_, ?_⟩
  ·have := p.drop hw
   rw [<- r2] at this
   exact this
  ·rw [r2]; exact hs
 ·cases hrun
end
section
variable {P : Program} {callF : Fn -> List Value -> St -> Option (Value × St)}
def CL : Nat -> Code -> Code
 | 0, c => c
 | n + 1, .seq _ b => CL n b
 | _ + 1, c => c
def ZL : Code -> Code
 | .seq a _ => a
 | c => c
def aAJ : Code -> Array Oper
 | .region _ o _ => o
 | _ => #[]
theorem M7 {f : Nat} (k : Nat) : ∀ (c c' : Code) (tm tm' : List Value) (S S' : St), oF callF P f k c tm S = some (c', tm', S') -> c' = CL k c := by
 induction k with
 | zero =>
  intro c c' tm tm' S S' h
  simp only [oF, ya, yc] at h
  exact h.1.symm
 | succ k ih =>
  intro c c' tm tm' S S' h
  cases c with
  | seq a b =>
   simp only [oF] at h
   split at h
   ·exact ih _ _ _ _ _ _ h
   ·cases h
  | _ => simp [oF] at h
theorem gF.lit {ro : Option Nat} {E : bV} {A : Nat -> Prop} {S0 : St} {w : World} {a : Act} {l : Lit} {tm : List Value} {S : St} {R : Act -> World -> Prop} (h : EZ l (tm, S) = true) (hQ : gF P ro E A S0 w a l.tm l.st R) : gF P ro E A S0 w a tm S R := by
 obtain ⟨h1, h2, h3⟩ := vE h
 simp only at h1 h2 h3
 subst h1
 intro E' a' w' p ht hd
 refine hQ E' a' w' ?_ (by simpa [Lit.st, h2] using ht) hd
 have p2 := p.drop h3
 rw [h2] at p2
 exact p2
def QA (callF : Fn -> List Value -> St -> Option (Value × St)) (P : Program) (f k : Nat) (c : Code) (tm : List Value) (S : St) (l : Lit) : Bool :=
 match oF callF P f k c tm S with
 | some (_, tm', S') => EZ l (tm', S')
 | none => false
theorem zY (hm : P.follows .mixedOrders = true) (hcf : gE P callF) (hnm : eM P) {f k : Nat} {c : Code} {tm : List Value} {S : St} {l : Lit} (h : QA callF P f k c tm S l = true) (hok : dE P c = true) {Q : Exit -> Act -> World -> Prop}
  {E : bV} {A : Nat -> Prop} {a : Act} {w : World} (ht : Tm E A tm a) (hg : rM P E A) (hev : S.next % 2 = 0) (H : aV P E A S.heap w) (hA : ∀ n, A n -> n < S.next) (hQ : gF P none E A S w a l.tm l.st ((CL k c).wpIn (rd none) 0 P Q)) : c.wpIn (rd none) 0 P Q a w := by
 unfold QA at h
 split at h
 ·rename_i c' tm' S' he
  have := M7 _ _ _ _ _ _ _ he
  subst this
  exact zX hm hcf hnm he hok ht hg hev H hA (gF.lit h hQ)
 ·cases h
def CM (callF : Fn -> List Value -> St -> Option (Value × St)) (P : Program) (f : Nat) (c : Code) (tm : List Value) (S : St) (l : Lit) : Bool :=
 match evC callF P f c tm S with
 | some (.ret, tm', S') => EZ l (tm', S')
 | _ => false
theorem KL (hm : P.follows .mixedOrders = true) (hcf : gE P callF) (hnm : eM P) {f : Nat} {c : Code} {tm : List Value} {S : St} {l : Lit} (h : CM callF P f c tm S l = true) (hok : dE P c = true) {Q : Exit -> Act -> World -> Prop}
  {E : bV} {A : Nat -> Prop} {a : Act} {w : World} (ht : Tm E A tm a) (hg : rM P E A) (hev : S.next % 2 = 0) (H : aV P E A S.heap w) (hA : ∀ n, A n -> n < S.next) (hQ : gF P none E A S w a l.tm l.st (Q .ret)) : c.wpIn (rd none) 0 P Q a w := by
 unfold CM at h
 split at h
 ·rename_i tm' S' he
  exact (k9 hm hcf hnm f).1 c tm S .ret tm' S' he hok none (fun hx => by cases hx) E A a w Q ht hg hev H (fun n hn hx => by have := hA n hn; omega) (gF.lit h hQ)
 ·cases h
theorem GX (hm : P.follows .mixedOrders = true) (hcf : gE P callF) (hnm : eM P) {f : Nat} {b : Code} {tm : List Value} {S : St} {l : Lit} (h : CM callF P f (.loop b) tm S l = true) (hok : dE P b = true) {Q : Exit -> Act -> World -> Prop}
  {E : bV} {A : Nat -> Prop} {a : Act} {w : World} (ht : Tm E A tm a) (hg : rM P E A) (hev : S.next % 2 = 0) (H : aV P E A S.heap w) (hA : ∀ n, A n -> n < S.next) (hQ : gF P none E A S w a l.tm l.st (Q .ret)) : Code.roundsIn (rd none) 0 P b Q f a w := by
 unfold CM at h
 split at h
 ·rename_i tm' S' he
  exact (k9 hm hcf hnm f).2 b tm S .ret tm' S' he hok none (fun hx => by cases hx) E A a w Q ht hg hev H (fun n hn hx => by have := hA n hn; omega) (gF.lit h hQ)
 ·cases h
theorem KM {f k : Nat} {b : Code} {l l' : Lit} (h : sR callF P f b k l l' = true) : l.next <= l'.next := by
 unfold sR at h
 split at h
 ·rename_i x hx
  obtain ⟨tm, S⟩ := x
  obtain ⟨_, h2, _⟩ := vE h
  simp only at h2
  rw [<- h2]
  exact o4 hx
 ·cases h
inductive sS (callF : Fn -> List Value -> St -> Option (Value × St)) (P : Program) (f : Nat) (b : Code) : Nat -> Lit -> Lit -> Prop
 | last {l l' : Lit} (h : CM callF P f (.loop b) l.tm l.st l' = true) (hle : l.next <= l'.next) : sS callF P f b f l l'
 | more {n : Nat} {l l1 l' : Lit} (k : Nat) (h : sR callF P f b k l l1 = true) (hev : l1.next % 2 = 0) (r : sS callF P f b n l1 l') : sS callF P f b (k + n) l l'
theorem sS.le {f n : Nat} {b : Code} {l l' : Lit} (p : sS callF P f b n l l') : l.next <= l'.next := by
 induction p with
 | last h hle => exact hle
 | more k h _ r ih => exact yya (KM h) ih
theorem sS.sound (hm : P.follows .mixedOrders = true) (hcf : gE P callF) (hnm : eM P) {f n : Nat} {b : Code} (hok : dE P b = true) {Q : Exit -> Act -> World -> Prop} {l l' : Lit} (p : sS callF P f b n l l') :
  ∀ {E : bV} {A : Nat -> Prop} {a : Act} {w : World}, Tm E A l.tm a -> rM P E A -> l.next % 2 = 0 -> aV P E A l.heap w -> (∀ n, A n -> n < l.next) -> gF P none E A l.st w a l'.tm l'.st (Q .ret) -> Code.roundsIn (rd none) 0 P b Q n a w := by
 induction p with
 | last h _ =>
  intro E A a w ht hg hev H hA hQ
  exact GX hm hcf hnm h hok ht hg hev H hA hQ
 | @more n l l1 l' k h hev1 r ih =>
  intro E A a w ht hg hev H hA hQ
  refine KJ hm hcf hnm h hok ht hg hev H hA ?_
  intro E1 a1 w1 p1 ht1 hd1
  have hle1 := KM h
  have b1 : ∀ n, A n -> ¬ (l.st.next <= n /\ n < l1.st.next) := fun n hn hx => by have := hA n hn; have : l.st.next = l.next := rfl; omega
  refine ih ht1 (hg.next (p1.agreeA b1) fun n hn => .inl hn) hev1 p1.holds ?_ (hQ.trans p1 hd1 r.le)
  rintro n (hn | hn)
  ·have := hA n hn; omega
  ·exact hn.2
end
section
variable {P : Program} {callF : Fn -> List Value -> St -> Option (Value × St)}
end
end Go.Dam

namespace Go.Proofs.YtgkhemnmcgicnaaGreatDoor
open Go.RowKit Go.Dam
noncomputable def qP (f : FuncId) : Code := match Tryz.prog.funcs[f]? with
 | some fn => (match fn.body with
  | some c => c
  | none => .skip)
 | none => .skip
def LS : Nat := 2 ^ 286 - 1
set_option maxRecDepth 1000000
theorem RY : jK Tryz.prog Tryz.prog.funcs.size LS = true := by kernel_rfl
theorem WY : Tryz.prog.funcs.size = 286 := by kernel_rfl
theorem AP {P : Program} {fs fs' : Nat} : ∀ {n : Nat}, jK P n fs = true -> (∀ f, f < n -> Nat.testBit fs f = true) -> jK P n fs' = true
 | 0, _, _ => rfl
 | n + 1, h, hb => by
  simp only [jK, qqx] at h |-
  have h1 := h.1
  rw [hb n (Nat.lt_succ_self n)] at h1
  simp only [Bool.not_true, Bool.false_or] at h1
  refine ⟨?_, AP h.2 fun f hf => hb f (by omega)⟩
  rw [Bool.or_eq_true]
  exact .inr h1
theorem WZ : ((List.range 286).all fun f => Nat.testBit LS f) = true := by kernel_rfl
theorem JE (fs : Nat) : jK Tryz.prog Tryz.prog.funcs.size fs = true :=
 AP RY fun f hf => by
  rw [WY] at hf
  exact qqn.1 WZ f (List.mem_range.2 hf)
noncomputable def CF : Fn -> List Value -> St -> Option (Value × St) := iF QD Tryz.prog LS 400 12
def o9 : Code -> Code
 | .loop b => b
 | .seq a b => match o9 a with
  | .skip => o9 b
  | c => c
 | .block _ b => o9 b
 | _ => .skip
noncomputable def cM : ByteArray := ⟨#[115,99,111,114,101,32,34,68,117,111,34,10,112,97,114,116,32,34,70,108,117,116,101,34,32,115,116,97,102,102,32,116,114,101,98,108,101,10,109,101,97,115,117,114,101,32,109,101,116,114,101,32,51,47,52,32,107,101,121,32,49,32,123,32,40,51,58,50,32,71,52,58,56,32,65,52,58,56,32,66,52,58,56,41,32,60,67,53,126,32,69,53,62,58,52,32,91,97,99,99,101,110,116,32,109,102,93,32,34,108,97,34,32,114,58,52,32,125,10,109,101,97,115,117,114,101,32,123,32,67,53,58,50,46,32,125,10]⟩
abbrev BJ : List Value := [I 1, .string ⟨#[115, 99, 111, 114, 101]⟩, I 0, .string ⟨#[]⟩, I 1, I 1, .bool false, I 3, .string ⟨#[34, 68, 117, 111, 34]⟩, I 0, .string ⟨#[68, 117, 111]⟩, I 1, I 7, .bool false, I 1, .string ⟨#[112, 97, 114, 116]⟩, I 0, .string ⟨#[]⟩, I 2, I 1, .bool false, I 3, .string ⟨#[34, 70, 108, 117, 116, 101, 34]⟩, I 0, .string ⟨#[70, 108, 117, 116, 101]⟩, I 2, I 6, .bool false, I 1, .string ⟨#[115, 116, 97, 102, 102]⟩, I 0, .string ⟨#[]⟩, I 2, I 14, .bool false, I 1, .string ⟨#[116, 114, 101, 98, 108, 101]⟩, I 0, .string ⟨#[]⟩, I 2, I 20, .bool false, I 1, .string ⟨#[109, 101, 97, 115, 117, 114, 101]⟩, I 0, .string ⟨#[]⟩, I 3, I 1, .bool false, I 1, .string ⟨#[109, 101, 116, 114, 101]⟩, I 0, .string ⟨#[]⟩, I 3, I 9, .bool false, I 2, .string ⟨#[51]⟩, I 3, .string ⟨#[]⟩, I 3, I 15, .bool false, I 4, .string ⟨#[47]⟩, I 0, .string ⟨#[]⟩, I 3, I 16, .bool true, I 2, .string ⟨#[52]⟩, I 4, .string ⟨#[]⟩, I 3, I 17, .bool true, I 1, .string ⟨#[107, 101, 121]⟩, I 0, .string ⟨#[]⟩, I 3, I 19, .bool false, I 2, .string ⟨#[49]⟩, I 1, .string ⟨#[]⟩, I 3, I 23, .bool false, I 4, .string ⟨#[123]⟩, I 0, .string ⟨#[]⟩, I 3, I 25, .bool false, I 4, .string ⟨#[40]⟩, I 0, .string ⟨#[]⟩, I 3, I 27, .bool false, I 2, .string ⟨#[51]⟩, I 3, .string ⟨#[]⟩, I 3, I 28, .bool true, I 4, .string ⟨#[58]⟩, I 0, .string ⟨#[]⟩, I 3, I 29, .bool true, I 2, .string ⟨#[50]⟩, I 2, .string ⟨#[]⟩, I 3, I 30, .bool true, I 1, .string ⟨#[71, 52]⟩, I 0, .string ⟨#[]⟩, I 3, I 32, .bool false, I 4, .string ⟨#[58]⟩, I 0, .string ⟨#[]⟩, I 3, I 34, .bool true, I 2, .string ⟨#[56]⟩, I 8, .string ⟨#[]⟩, I 3, I 35, .bool true, I 1, .string ⟨#[65, 52]⟩, I 0, .string ⟨#[]⟩, I 3, I 37, .bool false, I 4, .string ⟨#[58]⟩, I 0, .string ⟨#[]⟩, I 3, I 39, .bool true, I 2, .string ⟨#[56]⟩, I 8, .string ⟨#[]⟩, I 3, I 40, .bool true, I 1, .string ⟨#[66, 52]⟩, I 0, .string ⟨#[]⟩, I 3, I 42, .bool false, I 4, .string ⟨#[58]⟩, I 0, .string ⟨#[]⟩, I 3, I 44, .bool true, I 2, .string ⟨#[56]⟩, I 8, .string ⟨#[]⟩, I 3, I 45, .bool true, I 4, .string ⟨#[41]⟩, I 0, .string ⟨#[]⟩, I 3, I 46, .bool true, I 4, .string ⟨#[60]⟩, I 0, .string ⟨#[]⟩, I 3, I 48, .bool false, I 1, .string ⟨#[67, 53]⟩, I 0, .string ⟨#[]⟩, I 3, I 49, .bool true, I 4, .string ⟨#[126]⟩, I 0, .string ⟨#[]⟩, I 3, I 51, .bool true, I 1, .string ⟨#[69, 53]⟩, I 0, .string ⟨#[]⟩, I 3, I 53, .bool false, I 4, .string ⟨#[62]⟩, I 0, .string ⟨#[]⟩, I 3, I 55, .bool true, I 4, .string ⟨#[58]⟩, I 0, .string ⟨#[]⟩, I 3, I 56, .bool true, I 2, .string ⟨#[52]⟩, I 4, .string ⟨#[]⟩, I 3, I 57, .bool true, I 4, .string ⟨#[91]⟩, I 0, .string ⟨#[]⟩, I 3, I 59, .bool false, I 1, .string ⟨#[97, 99, 99, 101, 110, 116]⟩, I 0, .string ⟨#[]⟩, I 3, I 60, .bool true, I 1, .string ⟨#[109, 102]⟩, I 0, .string ⟨#[]⟩, I 3, I 67, .bool false, I 4, .string ⟨#[93]⟩, I 0, .string ⟨#[]⟩, I 3, I 69, .bool true, I 3, .string ⟨#[34, 108, 97, 34]⟩, I 0, .string ⟨#[108, 97]⟩, I 3, I 71, .bool false, I 1, .string ⟨#[114]⟩, I 0, .string ⟨#[]⟩, I 3, I 76, .bool false, I 4, .string ⟨#[58]⟩, I 0, .string ⟨#[]⟩, I 3, I 77, .bool true, I 2, .string ⟨#[52]⟩, I 4, .string ⟨#[]⟩, I 3, I 78, .bool true, I 4, .string ⟨#[125]⟩, I 0, .string ⟨#[]⟩, I 3, I 80, .bool false, I 1, .string ⟨#[109, 101, 97, 115, 117, 114, 101]⟩, I 0, .string ⟨#[]⟩, I 4, I 1, .bool false, I 4, .string ⟨#[123]⟩, I 0, .string ⟨#[]⟩, I 4, I 9, .bool false, I 1, .string ⟨#[67, 53]⟩, I 0, .string ⟨#[]⟩, I 4, I 11, .bool false, I 4, .string ⟨#[58]⟩, I 0, .string ⟨#[]⟩, I 4, I 13, .bool true, I 2, .string ⟨#[50]⟩, I 2, .string ⟨#[]⟩, I 4, I 14, .bool true, I 4, .string ⟨#[46]⟩, I 0, .string ⟨#[]⟩, I 4, I 15, .bool true, I 4, .string ⟨#[125]⟩, I 0, .string ⟨#[]⟩, I 4, I 17, .bool false, I 0, .string ⟨#[]⟩, I 0, .string ⟨#[]⟩, I 5, I 1, .bool false]
abbrev pE : Nat -> List Value
 | 0 => []
 | n + 1 => .int .i64 0 :: .string ⟨#[]⟩ :: .int .i64 0 :: .string ⟨#[]⟩ :: .int .i64 0 :: .int .i64 0 :: .bool false :: pE n
noncomputable def fF : Go.Dam.Lit :=
 ⟨[.string cM, undef, .slice none 0 0, I 0, I 0, I 0, .pointer (some ⟨108, 0, none⟩), I 136, .string cM, I 137, .bool false, .string cM, .slice (some ⟨106, 0, none⟩) 1 1, .agg #[.string cM, I 0, .slice (some ⟨106, 0, none⟩) 1 1, .slice none 0 0, I 0, I 0], .pointer (some ⟨108, 0, none⟩), .string cM, I 137, I 137, .bool false, I 136, .string cM, I 136, .int .u8 10, .bool true, .pointer (some ⟨108, 0, none⟩), .pointer (some ⟨108, 0, none⟩), .pointer (some ⟨108, 0, none⟩), .pointer (some ⟨108, 2, none⟩), .slice (some ⟨121, 0, none⟩) 4 0, I 136, I 137, .slice (some ⟨122, 0, none⟩) 1 1, .slice (some ⟨125, 0, none⟩) 5 0, .pointer (some ⟨108, 0, none⟩), .pointer (some ⟨108, 2, none⟩), I 137] ++ List.replicate 26 undef,
  [(125, .cells #[I 0, I 12, I 38, I 119, I 137] 3 (0, 0)),
   (122, .cells #[I 137] 3 (0, 0)),
   (108, .cells #[.string cM, I 0, .slice (some ⟨125, 0, none⟩) 5 0, .slice none 0 0, I 0, I 0] 108 (0, 0)),
   (106, .cells #[I 0] 3 (0, 0))], 126⟩
noncomputable def sZ : Go.Dam.Lit :=
 ⟨[.pointer (some ⟨108, 0, none⟩), .pointer (some ⟨126, 0, none⟩), .slice (some ⟨128, 0, none⟩) 4 4, undef, .slice (some ⟨128, 0, none⟩) 4 4] ++ List.replicate 48 undef,
  [(128, .cells #[.func (.func 81) #[] #[], .func (.func 82) #[] #[], .func (.func 83) #[] #[], .func (.func 84) #[] #[]] 153 (0, 0)),
   (126, .cells #[.pointer (some ⟨108, 0, none⟩)] 105 (0, 0)),
   (125, .cells #[I 0, I 12, I 38, I 119, I 137] 3 (0, 0)),
   (108, .cells #[.string cM, I 0, .slice (some ⟨125, 0, none⟩) 5 0, .slice none 0 0, I 0, I 0] 108 (0, 0))], 130⟩
noncomputable def G5 : Go.Dam.Lit :=
 ⟨[.pointer (some ⟨108, 0, none⟩), .pointer (some ⟨126, 0, none⟩), .slice (some ⟨128, 0, none⟩) 4 4, .pointer (some ⟨240, 0, none⟩), .slice (some ⟨128, 0, none⟩) 4 4, .pointer (some ⟨108, 0, none⟩), .pointer (some ⟨108, 0, none⟩), .pointer (some ⟨108, 4, none⟩), I 0, .bool true, .pointer (some ⟨108, 0, none⟩), .bool false, .bool true, .pointer (some ⟨108, 0, none⟩), .pointer (some ⟨108, 0, none⟩), .pointer (some ⟨108, 1, none⟩), I 53, .pointer (some ⟨108, 0, none⟩), .pointer (some ⟨108, 0, none⟩), .pointer (some ⟨108, 0, none⟩), .string cM, I 137, .bool false] ++ List.replicate 8 undef ++ [.pointer (some ⟨108, 0, none⟩), .pointer (some ⟨108, 0, none⟩), .pointer (some ⟨108, 3, none⟩), .slice (some ⟨239, 0, none⟩) 9 0, I 9, .bool false] ++ List.replicate 6 undef ++ [.slice (some ⟨128, 0, none⟩) 4 4, .func (.func 89) #[] #[.pointer (some ⟨126, 0, none⟩), .pointer (some ⟨240, 0, none⟩)], .bool true, .bool false] ++ List.replicate 6 undef,
  [(247, .cells (BJ.take 70).toArray 59 (0, 0)),
   (240, .cells #[.bool true] 4 (0, 0)),
   (128, .cells #[.func (.func 81) #[] #[], .func (.func 82) #[] #[], .func (.func 83) #[] #[], .func (.func 84) #[] #[]] 153 (0, 0)),
   (126, .cells #[.pointer (some ⟨108, 0, none⟩)] 105 (0, 0)),
   (125, .cells #[I 0, I 12, I 38, I 119, I 137] 3 (0, 0)),
   (108, .cells #[.string cM, I 54, .slice (some ⟨125, 0, none⟩) 5 0, .slice (some ⟨247, 0, none⟩) 10 0, I 0, I 0] 108 (0, 0))], 248⟩
noncomputable def G6 : Go.Dam.Lit :=
 ⟨[.pointer (some ⟨108, 0, none⟩), .pointer (some ⟨126, 0, none⟩), .slice (some ⟨128, 0, none⟩) 4 4, .pointer (some ⟨328, 0, none⟩), .slice (some ⟨128, 0, none⟩) 4 4, .pointer (some ⟨108, 0, none⟩), .pointer (some ⟨108, 0, none⟩), .pointer (some ⟨108, 4, none⟩), I 0, .bool true, .pointer (some ⟨108, 0, none⟩), .bool false, .bool true, .pointer (some ⟨108, 0, none⟩), .pointer (some ⟨108, 0, none⟩), .pointer (some ⟨108, 1, none⟩), I 71, .pointer (some ⟨108, 0, none⟩), .pointer (some ⟨108, 0, none⟩), .pointer (some ⟨108, 0, none⟩), .string cM, I 137, .bool false] ++ List.replicate 8 undef ++ [.pointer (some ⟨108, 0, none⟩), .pointer (some ⟨108, 0, none⟩), .pointer (some ⟨108, 3, none⟩), .slice (some ⟨327, 0, none⟩) 19 0, I 19, .bool false] ++ List.replicate 6 undef ++ [.slice (some ⟨128, 0, none⟩) 4 4, .func (.func 89) #[] #[.pointer (some ⟨126, 0, none⟩), .pointer (some ⟨328, 0, none⟩)], .bool true, .bool false] ++ List.replicate 6 undef,
  [(335, .cells (BJ.take 140).toArray 59 (0, 0)),
   (328, .cells #[.bool true] 4 (0, 0)),
   (128, .cells #[.func (.func 81) #[] #[], .func (.func 82) #[] #[], .func (.func 83) #[] #[], .func (.func 84) #[] #[]] 153 (0, 0)),
   (126, .cells #[.pointer (some ⟨108, 0, none⟩)] 105 (0, 0)),
   (125, .cells #[I 0, I 12, I 38, I 119, I 137] 3 (0, 0)),
   (108, .cells #[.string cM, I 72, .slice (some ⟨125, 0, none⟩) 5 0, .slice (some ⟨335, 0, none⟩) 20 0, I 0, I 0] 108 (0, 0))], 336⟩
noncomputable def G7 : Go.Dam.Lit :=
 ⟨[.pointer (some ⟨108, 0, none⟩), .pointer (some ⟨126, 0, none⟩), .slice (some ⟨128, 0, none⟩) 4 4, .pointer (some ⟨414, 0, none⟩), .slice (some ⟨128, 0, none⟩) 4 4, .pointer (some ⟨108, 0, none⟩), .pointer (some ⟨108, 0, none⟩), .pointer (some ⟨108, 4, none⟩), I 0, .bool true, .pointer (some ⟨108, 0, none⟩), .bool false, .bool true, .pointer (some ⟨108, 0, none⟩), .pointer (some ⟨108, 0, none⟩), .pointer (some ⟨108, 1, none⟩), I 86, .pointer (some ⟨108, 0, none⟩), .pointer (some ⟨108, 0, none⟩), .pointer (some ⟨108, 0, none⟩), .string cM, I 137, .bool false] ++ List.replicate 8 undef ++ [.pointer (some ⟨108, 0, none⟩), .pointer (some ⟨108, 0, none⟩), .pointer (some ⟨108, 3, none⟩), .slice (some ⟨413, 0, none⟩) 29 0, I 29, .bool false] ++ List.replicate 6 undef ++ [.slice (some ⟨128, 0, none⟩) 4 4, .func (.func 89) #[] #[.pointer (some ⟨126, 0, none⟩), .pointer (some ⟨414, 0, none⟩)], .bool true, .bool false] ++ List.replicate 6 undef,
  [(421, .cells (BJ.take 210).toArray 59 (0, 0)),
   (414, .cells #[.bool true] 4 (0, 0)),
   (128, .cells #[.func (.func 81) #[] #[], .func (.func 82) #[] #[], .func (.func 83) #[] #[], .func (.func 84) #[] #[]] 153 (0, 0)),
   (126, .cells #[.pointer (some ⟨108, 0, none⟩)] 105 (0, 0)),
   (125, .cells #[I 0, I 12, I 38, I 119, I 137] 3 (0, 0)),
   (108, .cells #[.string cM, I 88, .slice (some ⟨125, 0, none⟩) 5 0, .slice (some ⟨421, 0, none⟩) 30 0, I 0, I 0] 108 (0, 0))], 422⟩
noncomputable def G8 : Go.Dam.Lit :=
 ⟨[.pointer (some ⟨108, 0, none⟩), .pointer (some ⟨126, 0, none⟩), .slice (some ⟨128, 0, none⟩) 4 4, .pointer (some ⟨496, 0, none⟩), .slice (some ⟨128, 0, none⟩) 4 4, .pointer (some ⟨108, 0, none⟩), .pointer (some ⟨108, 0, none⟩), .pointer (some ⟨108, 4, none⟩), I 0, .bool true, .pointer (some ⟨108, 0, none⟩), .bool true, .bool false, .pointer (some ⟨108, 0, none⟩), .pointer (some ⟨108, 0, none⟩), .pointer (some ⟨108, 1, none⟩), I 108, .pointer (some ⟨108, 0, none⟩), .pointer (some ⟨108, 0, none⟩), .pointer (some ⟨108, 0, none⟩), .string cM, I 137, .bool false] ++ List.replicate 8 undef ++ [.pointer (some ⟨108, 0, none⟩), .pointer (some ⟨108, 0, none⟩), .pointer (some ⟨108, 3, none⟩), .slice (some ⟨495, 0, none⟩) 39 0, I 39, .bool false] ++ List.replicate 6 undef ++ [.slice (some ⟨128, 0, none⟩) 4 4, .func (.func 89) #[] #[.pointer (some ⟨126, 0, none⟩), .pointer (some ⟨496, 0, none⟩)], .bool true, .bool false] ++ List.replicate 6 undef,
  [(513, .cells (BJ.take 280).toArray 59 (0, 0)),
   (496, .cells #[.bool false] 4 (0, 0)),
   (128, .cells #[.func (.func 81) #[] #[], .func (.func 82) #[] #[], .func (.func 83) #[] #[], .func (.func 84) #[] #[]] 153 (0, 0)),
   (126, .cells #[.pointer (some ⟨108, 0, none⟩)] 105 (0, 0)),
   (125, .cells #[I 0, I 12, I 38, I 119, I 137] 3 (0, 0)),
   (108, .cells #[.string cM, I 112, .slice (some ⟨125, 0, none⟩) 5 0, .slice (some ⟨513, 0, none⟩) 40 0, I 0, I 0] 108 (0, 0))], 514⟩
noncomputable def G9 : Go.Dam.Lit :=
 ⟨[.pointer (some ⟨108, 0, none⟩), .pointer (some ⟨126, 0, none⟩), .slice (some ⟨128, 0, none⟩) 4 4, .pointer (some ⟨590, 0, none⟩), .slice (some ⟨128, 0, none⟩) 4 4, .pointer (some ⟨108, 0, none⟩), .pointer (some ⟨108, 0, none⟩), .pointer (some ⟨108, 4, none⟩), I 0, .bool true, .pointer (some ⟨108, 0, none⟩), .bool false, .bool true, .pointer (some ⟨108, 0, none⟩), .pointer (some ⟨108, 0, none⟩), .pointer (some ⟨108, 1, none⟩), I 133, .pointer (some ⟨108, 0, none⟩), .pointer (some ⟨108, 0, none⟩), .pointer (some ⟨108, 0, none⟩), .string cM, I 137, .bool false] ++ List.replicate 8 undef ++ [.pointer (some ⟨108, 0, none⟩), .pointer (some ⟨108, 0, none⟩), .pointer (some ⟨108, 3, none⟩), .slice (some ⟨589, 0, none⟩) 49 0, I 49, .bool false] ++ List.replicate 6 undef ++ [.slice (some ⟨128, 0, none⟩) 4 4, .func (.func 89) #[] #[.pointer (some ⟨126, 0, none⟩), .pointer (some ⟨590, 0, none⟩)], .bool true, .bool false] ++ List.replicate 6 undef,
  [(597, .cells (BJ.take 350).toArray 59 (0, 0)),
   (590, .cells #[.bool true] 4 (0, 0)),
   (128, .cells #[.func (.func 81) #[] #[], .func (.func 82) #[] #[], .func (.func 83) #[] #[], .func (.func 84) #[] #[]] 153 (0, 0)),
   (126, .cells #[.pointer (some ⟨108, 0, none⟩)] 105 (0, 0)),
   (125, .cells #[I 0, I 12, I 38, I 119, I 137] 3 (0, 0)),
   (108, .cells #[.string cM, I 134, .slice (some ⟨125, 0, none⟩) 5 0, .slice (some ⟨597, 0, none⟩) 50 0, I 0, I 0] 108 (0, 0))], 598⟩
noncomputable def vL : Go.Dam.Lit :=
 ⟨[.pointer (some ⟨108, 0, none⟩), .pointer (some ⟨126, 0, none⟩), .slice (some ⟨128, 0, none⟩) 4 4, .pointer (some ⟨598, 0, none⟩), .slice (some ⟨128, 0, none⟩) 4 4, .pointer (some ⟨108, 0, none⟩), .pointer (some ⟨108, 0, none⟩), .pointer (some ⟨108, 4, none⟩), I 0, .bool true, .pointer (some ⟨108, 0, none⟩), .bool true, .bool false, .pointer (some ⟨108, 0, none⟩), .pointer (some ⟨108, 0, none⟩), .pointer (some ⟨108, 1, none⟩), I 135, .pointer (some ⟨108, 0, none⟩), .pointer (some ⟨108, 0, none⟩), .pointer (some ⟨108, 0, none⟩), .string cM, I 137, .bool false] ++ List.replicate 8 undef ++ [.pointer (some ⟨108, 0, none⟩), .pointer (some ⟨108, 0, none⟩), .pointer (some ⟨108, 3, none⟩), .slice (some ⟨597, 0, none⟩) 50 0, I 50, .bool false] ++ List.replicate 6 undef ++ [.slice (some ⟨128, 0, none⟩) 4 4, .func (.func 89) #[] #[.pointer (some ⟨126, 0, none⟩), .pointer (some ⟨598, 0, none⟩)], .bool true, .bool false] ++ List.replicate 6 undef,
  [(605, .cells (BJ.take 357).toArray 59 (0, 0)),
   (598, .cells #[.bool false] 4 (0, 0)),
   (128, .cells #[.func (.func 81) #[] #[], .func (.func 82) #[] #[], .func (.func 83) #[] #[], .func (.func 84) #[] #[]] 153 (0, 0)),
   (126, .cells #[.pointer (some ⟨108, 0, none⟩)] 105 (0, 0)),
   (125, .cells #[I 0, I 12, I 38, I 119, I 137] 3 (0, 0)),
   (108, .cells #[.string cM, I 136, .slice (some ⟨125, 0, none⟩) 5 0, .slice (some ⟨605, 0, none⟩) 51 0, I 0, I 0] 108 (0, 0))], 606⟩
noncomputable def kE : Go.Dam.Lit :=
 ⟨[.pointer (some ⟨108, 0, none⟩), .pointer (some ⟨126, 0, none⟩), .slice (some ⟨128, 0, none⟩) 4 4, .pointer (some ⟨606, 0, none⟩), .slice (some ⟨128, 0, none⟩) 4 4, .pointer (some ⟨108, 0, none⟩), .pointer (some ⟨108, 0, none⟩), .pointer (some ⟨108, 4, none⟩), I 0, .bool true, .pointer (some ⟨108, 0, none⟩), .bool true, .bool false, .pointer (some ⟨108, 0, none⟩), .pointer (some ⟨108, 0, none⟩), .pointer (some ⟨108, 1, none⟩), I 137, .pointer (some ⟨108, 0, none⟩), .pointer (some ⟨108, 0, none⟩), .pointer (some ⟨108, 0, none⟩), .string cM, I 137, .bool true, .pointer (some ⟨108, 0, none⟩), .agg #[I 0, .string ⟨#[]⟩, I 0, .string ⟨#[]⟩, I 0, I 0, .bool false], .pointer (some ⟨108, 0, none⟩), .pointer (some ⟨108, 0, none⟩), .pointer (some ⟨108, 1, none⟩), I 137, .bool false, undef, .pointer (some ⟨108, 0, none⟩), .pointer (some ⟨108, 0, none⟩), .pointer (some ⟨108, 3, none⟩), .slice (some ⟨597, 0, none⟩) 50 0, I 50, .bool false] ++ List.replicate 6 undef ++ [.slice (some ⟨128, 0, none⟩) 4 4, .func (.func 89) #[] #[.pointer (some ⟨126, 0, none⟩), .pointer (some ⟨598, 0, none⟩)], .bool true, .bool false] ++ List.replicate 6 undef,
  [(613, .cells BJ.toArray 59 (0, 0)),
   (125, .cells #[I 0, I 12, I 38, I 119, I 137] 3 (0, 0)),
   (108, .cells #[.string cM, I 137, .slice (some ⟨125, 0, none⟩) 5 0, .slice (some ⟨613, 0, none⟩) 52 0, I 0, I 0] 108 (0, 0))], 614⟩
noncomputable def TL : Value := .tuple #[.slice (some ⟨613, 0, none⟩) 52 0, I 0, I 0, I 0]
noncomputable def nR : Go.Dam.Lit :=
 ⟨[],
  [(613, .cells BJ.toArray 59 (0, 0))], 614⟩
end Go.Proofs.YtgkhemnmcgicnaaGreatDoor
