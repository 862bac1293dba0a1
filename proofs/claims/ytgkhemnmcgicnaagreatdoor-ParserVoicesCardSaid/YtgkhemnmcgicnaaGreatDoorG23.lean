/- Towards the law ParserVoices, true for every text (no condition): one part of the proof. -/
import Derived.Test.YtgkhemnmcgicnaaGreatDoorG22
import Derived.RangeFuncLeaves
import Derived.Below
import Derived.Test.YtgkhemnmcgicnaaGreatDoorG01
import Derived.Test.YtgkhemnmcgicnaaGreatDoorProg
import Derived.KernelRfl
namespace Go.Dam
set_option maxHeartbeats 2000000
section
variable {P : Program} {callF : Fn -> List Value -> St -> Option (Value × St)}
theorem D8 (hcf : gE P callF) (hnm : eM P) {f : Nat} {g : Operand} {ps : Array Tmp} {a9 b : Code} {tm tm' : List Value} {S S' : St} {e : Exit} (h : evC callF P (f + 1) (.rangeFunc g ps a9 b) tm S = some (e, tm', S'))
  (hok : dE P (.rangeFunc g ps a9 b) = true) {E : bV} {A : Nat -> Prop} {a : Act} {w : World} {Q : Exit -> Act -> World -> Prop} (ht : Tm E A tm a) (hg : rM P E A) (hev : S.next % 2 = 0) (H : aV P E A S.heap w)
  (hA : ∀ n, A n -> ¬ (S.next <= n /\ n < S'.next)) (hQ : gF P none E A S w a tm' S' (Q e)) : (Code.rangeFunc g ps a9 b).wpIn (rd none) 0 P Q a w := by
 simp only [dE] at hok
 obtain ⟨h1, h2⟩ := wP ht hg hok
 simp only [evC] at h
 split at h
 case h_2 => simp at h
 rename_i gf first captured hfv
 rw [hfv, fN, BV] at h1
 rw [hfv, mR] at h2
 split at h
 case isFalse => simp at h
 rename_i hc
 simp only [yd] at hc
 obtain ⟨hc1, hc2⟩ := hc
 have e1 : first = #[] := by apply yl; simpa using hc1
 subst e1
 split at h
 case h_2 => simp at h
 rename_i v2 S2 hcall
 split at h
 case isFalse => simp at h
 rename_i hle
 have hle := ye hle
 split at h
 case h_2 => simp at h
 rename_i r hr
 split at h
 case isTrue => simp at h
 rename_i hbusy
 split at h
 case h_2 => simp at h
 rename_i e' hleave
 simp only [ya, yc] at h
 obtain ⟨rfl, rfl, rfl⟩ := h
 simp only at hA hQ
 obtain ⟨fn0, hfn0, hbody0⟩ : ∃ fn, P.funcs[gf]? = some fn /\ fn.body.isSome = true := by
  unfold tR at hc2
  split at hc2
  ·rename_i fn hfn; exact ⟨fn, hfn, hc2⟩
  ·cases hc2
 refine wpIn_rangeFunc ?_
 intro fn _
 have p0 := aX.unnamed (nx := S.next) H (.deferred (some []))
 have hs0 : (w.alloc (.deferred (some []))).heap.size = w.heap.size + 1 := by simp
 have pn : aX P E (fun n => A n \/ (S.next <= n /\ n < S.next)) S.heap S.next (w.alloc (.deferred (some []))) (E.bind S.next (w.alloc (.deferred (some []))).heap.size 0 0)
   ((S.next, .loop ⟨.ready, none, 0, tm.toArray, ps, a9, b, 0⟩) :: S.heap) (S.next + 2)
   ((w.alloc (.deferred (some []))).alloc (.loop { state := .ready, pending := none, fn, tmps := a.tmps, params := ps, assign := a9, body := b, defers := w.heap.size })) := by
  refine aX.new p0.holds ?_ ⟨by omega, by omega⟩ ?_ ?_ rfl rfl rfl rfl
  ·rintro n (hn | hn) hx
   ·exact hA n hn (by omega)
   ·omega
  ·intro x hx
   exact gB (A := A) (fun n hn => Or.inl hn) x (ht.sc x (by simpa using hx))
  ·refine ⟨fn, w.heap.size, ?_⟩
   have hag : l7 A E (E.bind S.next (w.alloc (.deferred (some []))).heap.size 0 0) := by
    intro n hn
    have : n ≠ S.next := by rintro rfl; exact hA _ hn (by omega)
    simp [bV.bind, this]
   simp only
   rw [ht.tmps, yp fun x hx => (eQ hag x (ht.sc x hx)).symm]
   simp
 have p1 := p0.trans pn
 obtain ⟨E1, hE1⟩ : ∃ E1, E.bind S.next (w.alloc (.deferred (some []))).heap.size 0 0 = E1 := ⟨_, rfl⟩
 obtain ⟨W1, hW1⟩ : ∃ W1, (w.alloc (.deferred (some []))).alloc (.loop { state := .ready, pending := none, fn, tmps := a.tmps, params := ps, assign := a9, body := b, defers := w.heap.size }) = W1 := ⟨_, rfl⟩
 have hβ : E1.β S.next = w.heap.size + 1 := by rw [<- hE1]; simp [bV.bind]
 have hD1 : W1.heap[w.heap.size]? = some (.deferred (some [])) := by
  rw [<- hW1, RowKit.Below.heap_alloc _ _ _ (by simp)]
  exact World.alloc_heap_new w _
 have hD1' : w.heap.size < W1.heap.size := by rw [<- hW1]; simp; omega
 rw [hE1, hW1] at p1
 have hA2 : ∀ n, (A n \/ (S.next <= n /\ n < S.next + 2)) -> ¬ (S.next + 2 <= n /\ n < S2.next) := by
  rintro n (hn | hn) hx
  ·exact hA n hn (by omega)
  ·omega
 have hA1 : ∀ n, A n -> ¬ (S.next <= n /\ n < S.next + 2) := fun n hn hx => hA n hn (by omega)
 have hag1 : l7 A E E1 := p1.agreeA hA1
 have hcalls := hcf (.func gf) _ _ _ _ hcall E1 _ W1 (hg.next hag1 fun n hn => .inl hn) (by simp only; omega) (by
  intro x hx
  rcases yk.1 hx with rfl | hx
  ·rw [mR]; exact ⟨.inr ⟨yh _, by omega⟩, by simp, by simp⟩
  ·exact gB (B := fun n => A n \/ (S.next <= n /\ n < S.next + 2)) (fun n hn => Or.inl hn) x (h2.2.2 x (by simpa using hx))) p1.holds hA2
 have hargs : ((Value.func (.yield S.next) #[] #[] :: captured.toList).map (aK E1)).toArray = #[.func (.yield (w.heap.size + 1)) #[] #[]] ++ captured.map (aK E) := by
  apply yl
  simp only [yyn, fN, zD, hβ, Array.toList_append, yyj]
  rw [yp fun x hx => eQ hag1 x (h2.2.2 x (by simpa using hx))]
  simp
 rw [hargs] at hcalls
 have hen : (Instr.enterLoop fn a.tmps ps a9 b none).run P w = .ok (w.heap.size + 1, [G0 w.heap.size]) W1 := by
  rw [<- hW1]; exact run_enterLoop_outer _ _ _ _ _
 have hres : (resolve a.eval (rangeCall g (w.heap.size + 1)) 0).run P W1 = .ok { target := .fn (.func gf) (captured.map (aK E)), args := #[.func (.yield (w.heap.size + 1)) #[] #[]] } W1 := by
  unfold resolve rangeCall
  simp only [h1]
  simp [Deferred.ofValue, Act.eval]
 have hinv : (invoke (.fn (.func gf) (captured.map (aK E))) #[.func (.yield (w.heap.size + 1)) #[] #[]]).run P W1 = .ok (.enter gf (#[.func (.yield (w.heap.size + 1)) #[] #[]] ++ captured.map (aK E))) W1 :=
  gZ hfn0 hbody0 (hnm gf fn0 hfn0 hbody0) W1
 refine ⟨_, _, W1, _, W1, gf, _, W1, hen, hres, fun _ _ => trivial, hinv, wM none, (B8 hcalls).mono ?_⟩
 rintro en w2 ⟨E2, rfl, q, _⟩
 have pT := p1.trans q
 obtain ⟨_, _, oc, hoc, f', d', hoc'⟩ := q.holds.blk S.next _ hr
 have hβ2 : E2.β S.next = w.heap.size + 1 := by rw [(q.agree S.next (by simp only; omega)).1, hβ]
 rw [hβ2, hoc'] at hoc
 have hst : r.state ≠ .busy := by intro hx; rw [hx] at hbusy; exact hbusy rfl
 refine ⟨_, _, run_endLoop hoc hst, ?_⟩
 have hn : ∀ n x, aL (DV S2.heap S.next) n = some x -> E2.β n ≠ w.heap.size + 1 := by
  intro n x hx he
  obtain ⟨k1, k2⟩ := tT _ _ _ _ hx
  exact k1 (q.holds.inj n S.next _ _ k2 hr (by rw [he, hβ2]))
 have pF := (pT.drop fun n o hx => (tT _ _ _ _ hx).2).turn (l := w.heap.size + 1) (o := .loop { { r with fn := f', defers := d', tmps := r.tmps.map (aK E2) } with state := .exhausted }) (by omega) hn
 have hq := hQ E2 { a with defers := [G0 w.heap.size] ++ a.defers } _ pF (ht.agree (pT.agreeA hA) (fun n hn => .inl hn) rfl) ⟨[w.heap.size], rfl, by simp, by
  intro D hD
  obtain rfl := List.mem_singleton.1 hD
  refine ⟨yh _, ?_⟩
  rw [World.putObj_heap_other (by omega), q.same _ hD1' (p1.holds.noDeferred hD1)]
  exact hD1, by simp⟩
 unfold GH at hleave
 split at hleave
 ·rename_i hp
  obtain rfl := yg hleave
  simp only [hp] at hq |-
  exact hq
 ·rename_i hp
  obtain rfl := yg hleave
  simp only [hp] at hq |-
  exact wpIn_ret hq
 ·rename_i j hp
  obtain rfl := yg hleave
  simp only [hp] at hq |-
  exact wpIn_exit hq
 ·cases hleave
end
section
variable {P : Program} {callF : Fn -> List Value -> St -> Option (Value × St)}
def ZP (P : Program) (ev : Code -> List Value -> St -> Option (Exit × List Value × St)) : Prop :=
 ∀ c tm S e tm' S', ev c tm S = some (e, tm', S') -> dE P c = true -> ∀ (ro : Option Nat), (ro.isSome = true -> BT c = true) -> ∀ (E : bV) (A : Nat -> Prop) (a : Act) (w : World) (Q : Exit -> Act -> World -> Prop), Tm E A tm a -> rM P E A -> S.next % 2 = 0 -> aV P E A S.heap w ->
  (∀ n, A n -> ¬ (S.next <= n /\ n < S'.next)) -> gF P ro E A S w a tm' S' (Q e) -> c.wpIn (rd ro) 0 P Q a w
theorem k9 (hm : P.follows .mixedOrders = true) (hcf : gE P callF) (hnm : eM P) : ∀ (f : Nat), (ZP P (evC callF P f)) /\
  (∀ b tm S e tm' S', evC callF P f (.loop b) tm S = some (e, tm', S') -> dE P b = true -> ∀ (ro : Option Nat), (ro.isSome = true -> BT b = true) -> ∀ (E : bV) (A : Nat -> Prop) (a : Act) (w : World) (Q : Exit -> Act -> World -> Prop), Tm E A tm a -> rM P E A -> S.next % 2 = 0 -> aV P E A S.heap w ->
   (∀ n, A n -> ¬ (S.next <= n /\ n < S'.next)) -> gF P ro E A S w a tm' S' (Q e) -> Code.roundsIn (rd ro) 0 P b Q f a w)
 | 0 => ⟨fun _ _ _ _ _ _ h => by simp [evC] at h, fun _ _ _ _ _ _ h => by simp [evC] at h⟩
 | f + 1 => by
  obtain ⟨IS, IR⟩ := k9 hm hcf hnm f
  have two : ∀ (ro : Option Nat) (x : Code) (next : Act -> World -> Prop) (tm : List Value) (S : St) (e : Exit) (tm' : List Value) (S' : St) (E : bV) (A : Nat -> Prop) (a : Act) (w : World) (Q : Exit -> Act -> World -> Prop) (rest : List Value -> St -> Option (Exit × List Value × St)),
    dE P x = true -> (ro.isSome = true -> BT x = true) -> (match evC callF P f x tm S with | some (.normal, tm₁, S₁) => rest tm₁ S₁ | r => r) = some (e, tm', S') -> (∀ tm₁ S₁, rest tm₁ S₁ = some (e, tm', S') -> S₁.next <= S'.next) ->
    (∀ tm₁ S₁ E₁ A₁ a₁ w₁, rest tm₁ S₁ = some (e, tm', S') -> Tm E₁ A₁ tm₁ a₁ -> rM P E₁ A₁ -> S₁.next % 2 = 0 -> aV P E₁ A₁ S₁.heap w₁ -> (∀ n, A₁ n -> ¬ (S₁.next <= n /\ n < S'.next)) -> gF P ro E₁ A₁ S₁ w₁ a₁ tm' S' (Q e) -> next a₁ w₁) ->
    Tm E A tm a -> rM P E A -> S.next % 2 = 0 -> aV P E A S.heap w -> (∀ n, A n -> ¬ (S.next <= n /\ n < S'.next)) -> gF P ro E A S w a tm' S' (Q e) -> x.wpIn (rd ro) 0 P (Exit.then next Q) a w := by
   intro ro x next tm S e tm' S' E A a w Q rest hx hro h hmono hrest ht hg hev H hA hQ
   split at h
   ·rename_i tm₁ S₁ h1
    have hle := dX h1
    have hle' := hmono _ _ h
    have hA₁ : ∀ n, A n -> ¬ (S.next <= n /\ n < S₁.next) := fun n hn hx => hA n hn (by omega)
    refine IS x tm S .normal tm₁ S₁ h1 hx ro hro E A a w _ ht hg hev H hA₁ ?_
    intro E₁ a₁ w₁ p ht₁ hd₁
    refine hrest tm₁ S₁ E₁ _ a₁ w₁ h ht₁ (hg.next (p.agreeA hA₁) fun n hn => .inl hn) (by rw [p.even, hev]) p.holds ?_ (hQ.trans p hd₁ hle')
    rintro n (hn | hn) hx'
    ·exact hA n hn (by omega)
    ·omega
   ·rename_i hne
    refine IS x tm S e tm' S' h hx ro hro E A a w _ ht hg hev H hA ?_
    intro E₁ a₁ w₁ p ht₁ hd₁
    have hq := hQ E₁ a₁ w₁ p ht₁ hd₁
    cases e with
    | normal => exact absurd h (by intro h; exact hne _ _ h)
    | _ => exact hq
  refine ⟨?_, ?_⟩
  ·intro c tm S e tm' S' h hok ro hro E A a w Q ht hg hev H hA hQ
   cases c with
   | skip =>
    simp only [evC, ya, yc] at h; obtain ⟨rfl, rfl, rfl⟩ := h
    exact wpIn_skip (hQ E a w (aX.refl H) ⟨ht.tmps, fun x hx => kX (ht.sc x hx)⟩ (D6.of_eq rfl))
   | label l =>
    simp only [evC, ya, yc] at h; obtain ⟨rfl, rfl, rfl⟩ := h
    exact wpIn_label (hQ E a w (aX.refl H) ⟨ht.tmps, fun x hx => kX (ht.sc x hx)⟩ (D6.of_eq rfl))
   | exit id =>
    simp only [evC, ya, yc] at h; obtain ⟨rfl, rfl, rfl⟩ := h
    exact wpIn_exit (hQ E a w (aX.refl H) ⟨ht.tmps, fun x hx => kX (ht.sc x hx)⟩ (D6.of_eq rfl))
   | ret =>
    simp only [evC, ya, yc] at h; obtain ⟨rfl, rfl, rfl⟩ := h
    exact wpIn_ret (hQ E a w (aX.refl H) ⟨ht.tmps, fun x hx => kX (ht.sc x hx)⟩ (D6.of_eq rfl))
   | region rid ops d =>
    simp only [dE, yd, yu, yyb] at hok
    cases d with
    | false =>
     simp only [evC] at h
     split at h
     ·rename_i h'
      simp only [ya, yc] at h
      obtain ⟨rfl, rfl, rfl⟩ := h
      refine wpIn_region_list (sW hcf hnm h' (fun o ho x hx => ?_) ht hg hev H hA hQ)
      obtain ⟨i, hi⟩ := List.mem_iff_getElem?.1 ho
      exact vG hok.1 i o x hi hx
     ·simp at h
    | true =>
     simp only [evC] at h
     split at h
     ·rename_i h'
      simp only [ya, yc] at h
      obtain ⟨rfl, rfl, rfl⟩ := h
      exact CT hm hcf hnm hok.1 (hok.2.resolve_left (by simp)) h' ht hg hev H hA fun E' a' w' p ht' hd' => hQ E' a' w' p ht' (D6.of_eq hd')
     ·simp at h
   | seq x y =>
    simp only [dE, yd] at hok
    simp only [evC] at h
    simp only [BT, yd] at hro
    refine wpIn_seq (two ro x (y.wpIn (rd ro) 0 P Q) tm S e tm' S' E A a w Q (fun tm₁ S₁ => evC callF P f y tm₁ S₁) hok.1 (fun hr => (hro hr).1) h (fun _ _ h => dX h) ?_ ht hg hev H hA hQ)
    intro tm₁ S₁ E₁ A₁ a₁ w₁ h1 ht₁ hg₁ hev₁ H₁ hA₁ hQ₁
    exact IS y tm₁ S₁ e tm' S' h1 hok.2 ro (fun hr => (hro hr).2) E₁ A₁ a₁ w₁ Q ht₁ hg₁ hev₁ H₁ hA₁ hQ₁
   | cond x y z =>
    simp only [dE, yd] at hok
    simp only [evC] at h
    simp only [BT, yd] at hro
    have hx := (wP ht hg hok.1).1
    split at h
    ·rename_i hv
     rw [hv, fP] at hx
     exact wpIn_cond_true hx (IS y tm S e tm' S' h hok.2.1 ro (fun hr => (hro hr).1) E A a w Q ht hg hev H hA hQ)
    ·rename_i hv
     rw [hv, fP] at hx
     exact wpIn_cond_false hx (IS z tm S e tm' S' h hok.2.2 ro (fun hr => (hro hr).2) E A a w Q ht hg hev H hA hQ)
    ·simp at h
   | block id b =>
    simp only [dE] at hok
    simp only [evC] at h
    split at h
    ·rename_i j tm₁ S₁ h1
     split at h
     ·rename_i hj
      simp only [ya, yc] at h
      obtain ⟨rfl, rfl, rfl⟩ := h
      refine wpIn_block (IS b tm S _ _ _ h1 hok ro hro E A a w _ ht hg hev H hA ?_)
      intro E₁ a₁ w₁ p ht₁ hd₁
      simp only [Exit.inBlock]
      rw [if_pos (yf hj)]
      exact hQ E₁ a₁ w₁ p ht₁ hd₁
     ·rename_i hj
      simp only [ya, yc] at h
      obtain ⟨rfl, rfl, rfl⟩ := h
      refine wpIn_block (IS b tm S _ _ _ h1 hok ro hro E A a w _ ht hg hev H hA ?_)
      intro E₁ a₁ w₁ p ht₁ hd₁
      simp only [Exit.inBlock]
      rw [if_neg (fun e => hj (by rw [e]; simp))]
      exact hQ E₁ a₁ w₁ p ht₁ hd₁
    ·rename_i hne
     refine wpIn_block (IS b tm S _ _ _ h hok ro hro E A a w _ ht hg hev H hA ?_)
     intro E₁ a₁ w₁ p ht₁ hd₁
     have hq := hQ E₁ a₁ w₁ p ht₁ hd₁
     cases e with
     | exit j => exact absurd h (by intro h; exact hne _ _ _ h)
     | _ => exact hq
   | loop b =>
    simp only [dE] at hok
    have h0 := h
    simp only [evC] at h
    refine wpIn_loop_rounds (f + 1) ?_
    rw [roundsIn_succ]
    refine two ro b (Code.roundsIn (rd ro) 0 P b Q f) tm S e tm' S' E A a w Q (fun tm₁ S₁ => evC callF P f (.loop b) tm₁ S₁) hok hro h (fun _ _ h => dX h) ?_ ht hg hev H hA hQ
    intro tm₁ S₁ E₁ A₁ a₁ w₁ h1 ht₁ hg₁ hev₁ H₁ hA₁ hQ₁
    exact IR b tm₁ S₁ e tm' S' h1 hok ro hro E₁ A₁ a₁ w₁ Q ht₁ hg₁ hev₁ H₁ hA₁ hQ₁
   | scope b =>
    simp only [dE] at hok
    simp only [BT] at hro
    simp only [evC] at h
    refine uA (IS b tm S e tm' S' h hok ro hro E A a w _ ht hg hev H hA ?_)
    intro E₁ a₁ w₁ p ht₁ hd₁
    have hq := hQ E₁ a₁ w₁ p ht₁ hd₁
    cases e with
    | goto l => exact absurd h (gN)
    | _ => exact hq
   | rangeFunc g ps a9 b =>
    cases ro with
    | some l => have := hro rfl; cases this
    | none =>
     exact D8 hcf hnm h hok ht hg hev H hA hQ
   | _ => simp [evC] at h
  ·intro b tm S e tm' S' h hok ro hro E A a w Q ht hg hev H hA hQ
   simp only [evC] at h
   rw [roundsIn_succ]
   refine two ro b (Code.roundsIn (rd ro) 0 P b Q f) tm S e tm' S' E A a w Q (fun tm₁ S₁ => evC callF P f (.loop b) tm₁ S₁) hok hro h (fun _ _ h => dX h) ?_ ht hg hev H hA hQ
   intro tm₁ S₁ E₁ A₁ a₁ w₁ h1 ht₁ hg₁ hev₁ H₁ hA₁ hQ₁
   exact IR b tm₁ S₁ e tm' S' h1 hok ro hro E₁ A₁ a₁ w₁ Q ht₁ hg₁ hev₁ H₁ hA₁ hQ₁
end
section
variable {P : Program}
theorem KU (x : Addr) : asAddr (.pointer (some x)) = pure x := rfl
theorem nN {E : bV} {A : Nat -> Prop} {h : List (Nat × Obj)} {w : World} {tm : List Value} {a : Act} (H : aV P E A h w) (ht : Tm E A tm a) : ∀ {rs : List ResultVar} {vs : List Value}, iE P h tm rs = some vs ->
  (rs.mapM (m := Sem) fun | .tmp t => pure (a.tmps.getD t undef) | .cell ad t => do loadVar t (<- asAddr (a.tmps.getD ad undef))).run P w = .ok (vs.map (aK E)) w /\ (∀ v ∈ vs, Sc A v)
 | [], vs, hb => by
  simp only [iE, ya] at hb; subst hb
  simp
 | .tmp t :: r, vs, hb => by
  simp only [iE] at hb
  split at hb
  ·rename_i l hl
   simp only [ya] at hb; subst hb
   obtain ⟨h1, h2⟩ := nN H ht hl
   have hv : a.tmps.getD t undef = aK E (tN tm t) /\ Sc A (tN tm t) := by
    simp only [wN, ht.tmps]
    cases hx : tm[t]? with
    | none => simp [hx, iV, l6]
    | some v => simp [hx]; exact ht.sc v (yyd hx)
   refine ⟨?_, ?_⟩
   ·simp only [List.mapM_cons, Sem.run_bind, Sem.run_pure, Result.andThen_ok, h1, hv.1, yyn]
   ·intro v hv'
    rcases yk.1 hv' with rfl | hv'
    ·exact hv.2
    ·exact h2 v hv'
  ·simp at hb
 | .cell ad t :: r, vs, hb => by
  simp only [iE] at hb
  split at hb
  ·rename_i v l hv hl
   simp only [ya] at hb; subst hb
   obtain ⟨h1, h2⟩ := nN H ht hl
   have hav : a.tmps.getD ad undef = aK E (tN tm ad) := by
    simp only [wN, ht.tmps]
    cases hx : tm[ad]? with
    | none => simp [hx, iV]
    | some v => simp [hx]
   obtain ⟨l1, l2⟩ := zF H hv
   obtain ⟨p, hp⟩ : ∃ p, tN tm ad = .pointer (some p) := by
    unfold JU at hv
    split at hv
    ·rename_i e; exact ⟨_, e⟩
    ·simp at hv
   rw [hp, cF] at l1
   simp only [Instr.loadAt, Instr.sureAddr, Sem.run_bind, Sem.run_pure, Result.andThen_ok] at l1
   refine ⟨?_, ?_⟩
   ·simp only [List.mapM_cons, Sem.run_bind, Sem.run_pure, Result.andThen_ok, hav, hp, cF, KU, l1, h1, yyn]
   ·intro v' hv'
    rcases yk.1 hv' with rfl | hv'
    ·exact l2
    ·exact h2 v' hv'
  ·simp at hb
def g8 (vs : List Value) : Value :=
 match vs with
 | [v] => v
 | vs => .tuple vs.toArray
theorem uM {E : bV} {A : Nat -> Prop} {h : List (Nat × Obj)} {w : World} {tm : List Value} {a : Act} {fn : Func} {vs : List Value} (H : aV P E A h w) (ht : Tm E A tm a) (hb : iE P h tm fn.results.toList = some vs) :
  (results fn a.tmps).run P w = .ok (aK E (g8 vs)) w /\ Sc A (g8 vs) := by
 obtain ⟨h1, h2⟩ := nN H ht hb
 constructor
 ·unfold results
  rw [Array.mapM_eq_mapM_toList]
  simp only [Sem.run_bind, Sem.run_map]
  generalize hR : Sem.run P (List.mapM _ fn.results.toList) w = R
  have hR' : R = .ok (vs.map (aK E)) w := hR.symm.trans h1
  subst hR'
  simp only [Result.andThen_ok, Sem.run_pure]
  rcases vs with _ | ⟨v, _ | ⟨u, r⟩⟩
  ·simp [g8, aK]
  ·simp [g8]
  ·simp [g8, aK]
 ·rcases vs with _ | ⟨v, _ | ⟨u, r⟩⟩
  ·simp [g8, Sc]
  ·exact h2 v (by simp)
  ·simp only [g8, Sc]
   intro x hx
   exact h2 x (by simpa using hx)
theorem wV {fs : Nat} : ∀ {n : Nat}, jK P n fs = true -> ∀ f, f < n -> Nat.testBit fs f = true -> ∀ (fn : Func) (c : Code), P.funcs[f]? = some fn -> fn.body = some c -> dE P c = true
 | 0, _, _, h, _, _, _, _, _ => by omega
 | n + 1, h, f, hf, hb, fn, c, hfn, hc => by
  simp only [jK, yd, yu, yyb] at h
  by_cases hfn' : f = n
  ·subst hfn'
   rcases h.1 with h1 | h1
   ·rw [hb] at h1; cases h1
   ·rw [hfn] at h1
    simp only [hc] at h1
    exact h1
  ·exact wV h.2 f (by omega) hb fn c hfn hc
theorem qH {fn : Func} {tmps : Array Value} {R : Ending -> World -> Prop} {E E' : bV} {A : Nat -> Prop} {h h' : List (Nat × Obj)} {nx nx' : Nat} {w : World} (hfin : ∀ w'', aX P E A h nx w E' h' nx' w'' -> ∃ v, (results fn tmps).run P w'' = .ok v w'' /\ R (.returned v) w'') :
  ∀ (Ds : List Nat) (w' : World), aX P E A h nx w E' h' nx' w' -> (∀ D ∈ Ds, w.heap.size <= D /\ w'.heap[D]? = some (.deferred (some []))) -> Ds.Nodup -> LeavesInM (rd none) 0 P fn tmps R (Ds.map G0) .returning w'
 | [], w', p, _, _ => hfin w' p
 | D :: Ds, w', p, hD, hnd => by
  obtain ⟨h1, h2⟩ := hD D (by simp)
  rw [List.nodup_cons] at hnd
  refine ⟨by simp, .inl ⟨D, _, rfl, run_takeDeferred h2, qH hfin Ds _ (p.turn h1 (p.holds.noDeferred h2)) ?_ hnd.2⟩⟩
  intro D' hD'
  obtain ⟨k1, k2⟩ := hD D' (by simp [hD'])
  refine ⟨k1, ?_⟩
  rw [World.putObj_heap_other (by rintro rfl; exact hnd.1 hD')]
  exact k2
theorem aX.loop {E : bV} {A : Nat -> Prop} {h : List (Nat × Obj)} {nx : Nat} {w : World} {l : Nat} {r r' : Loop} (H : aV P E A h w) (hr : aL h l = some (.loop r)) (ht : r'.tmps = r.tmps) (hA : ∀ n, A n -> ¬ (nx <= n /\ n < nx)) (f : FuncId) (d : Nat) :
  aX P E A h nx w E (rG h l (.loop r')) nx (w.putObj (E.β l) (.loop { r' with fn := f, defers := d, tmps := r'.tmps.map (aK E) })) := by
 obtain ⟨h1, h2, _⟩ := H.blk l _ hr
 have hlt := H.lt hr
 refine aX.put (m := l) (b := E.β l) (o' := .loop r') H (yh _) rfl (fun _ _ => ⟨rfl, rfl, rfl⟩) (fun _ _ => rfl) hA (.inl h1) rfl ?_ ?_ ⟨f, d, rfl⟩ (World.putObj_heap_same hlt) (fun k hk _ => World.putObj_heap_other hk) (by simp [World.putObj]) rfl rfl rfl (.inl ⟨l, _, hr, rfl⟩)
 ·intro k x hk
  rcases pH _ _ _ _ _ hk with ⟨rfl, rfl⟩ | ⟨hne, hg⟩
  ·exact .inl ⟨rfl, rfl⟩
  ·exact .inr ⟨hne, hg, fun e => hne (H.inj k l _ _ hg hr e)⟩
 ·intro x hx
  rw [ht] at hx
  exact gB (A := A) (fun n hn => Or.inl hn) x (h2 x hx)
theorem wW (E : bV) : ∀ (ps : List Tmp) (args tm : List Value), ps.length = args.length ->
  (ps.zip (args.map (aK E))).foldl (fun (t : Array Value) (x : Tmp × Value) => t.setIfInBounds x.1 x.2) (tm.map (aK E)).toArray = ((mK ps args tm).map (aK E)).toArray
 | [], [], tm, _ => rfl
 | [], _ :: _, _, h => by simp at h
 | _ :: _, [], _, h => by simp at h
 | p :: ps, x :: xs, tm, h => by
  simp only [yyn, List.zip_cons_cons, List.foldl_cons, mK]
  rw [<- wW E ps xs (jA tm p x) (by simpa using h)]
  rw [nL]
  simp
theorem FB {A : Nat -> Prop} : ∀ (ps : List Tmp) (args tm : List Value), (∀ x ∈ args, Sc A x) -> (∀ x ∈ tm, Sc A x) -> ∀ x ∈ mK ps args tm, Sc A x
 | [], args, tm, _, h => by simpa [mK] using h
 | _ :: _, [], tm, _, h => by simpa [mK] using h
 | p :: ps, x :: xs, tm, ha, h => by
  simp only [mK]
  exact FB ps xs _ (fun y hy => ha y (by simp [hy])) (fun y hy => (vF hy).elim (fun e => by rw [e]; exact ha x (by simp)) (h y))
theorem D9 {callF : Fn -> List Value -> St -> Option (Value × St)} (hm : P.follows .mixedOrders = true) (hcf : gE P callF) (hnm : eM P) {fuel l : Nat} {args : List Value} {S S' : St} {v : Value} (h : GJ callF P fuel l args S = some (v, S'))
  {E : bV} {A : Nat -> Prop} {w : World} (hg : rM P E A) (hev : S.next % 2 = 0) (hargs : ∀ x ∈ args, Sc A x) (H : aV P E A S.heap w) (hA : ∀ n, A n -> ¬ (S.next <= n /\ n < S'.next)) :
  YieldAt Fence.wide 0 P (E.β l) (args.map (aK E)).toArray w fun e w' => ∃ E', e = .returned (aK E' v) /\ aX P E A S.heap S.next w E' S'.heap S'.next w' /\ Sc (fun n => A n \/ (S.next <= n /\ n < S'.next)) v := by
 unfold GJ at h
 split at h
 case h_2 => simp at h
 rename_i r hr
 split at h
 case isFalse => simp at h
 rename_i hc
 simp only [yd] at hc
 obtain ⟨⟨⟨c1, c2⟩, c3, c4⟩, c5, c6⟩ := hc
 have c2 := yf c2
 split at h
 case h_2 => simp at h
 rename_i tm1 S1 hs1
 split at h
 case h_2 => simp at h
 rename_i r1 hr1
 split at h
 case isFalse => simp at h
 rename_i hready
 split at h
 case h_2 => simp at h
 rename_i e tm3 S3 hs3
 split at h
 case h_2 => simp at h
 rename_i r3 j hr3 hj
 simp only [ya, yc] at h
 obtain ⟨rfl, rfl⟩ := h
 simp only at hA |-
 have m1 := dX hs1
 have m3 := dX hs3
 simp only at m3
 obtain ⟨hAl, hscr, oc, hoc, f', d', rfl⟩ := H.blk l _ hr
 have IS := (k9 hm hcf hnm fuel).1
 refine ⟨f', _, r.assign, r.body, run_yield hoc (by simp [c2]), ?_⟩
 have htm : ((r.params.zip (args.map (aK E)).toArray).foldl (fun (t : Array Value) (x : Tmp × Value) => t.setIfInBounds x.1 x.2) (r.tmps.map (aK E))) = ((mK r.params.toList args r.tmps.toList).map (aK E)).toArray := by
  rw [<- wW E _ _ _ (by simpa using c2.symm), <- Array.foldl_toList]
  congr 1
  ·apply yl; simp
  ·simp
 have hgoal : RoundIn Fence.wide 0 P (E.β l) f' ((mK r.params.toList args r.tmps.toList).map (aK E)).toArray r.assign r.body w fun e w' => ∃ E', e = .returned (aK E' (.bool j.isNone)) /\
   aX P E A S.heap S.next w E' (rG S3.heap l (.loop { r3 with state := if j.isNone then .ready else .done, pending := j })) S3.next w' /\ Sc (fun n => A n \/ (S.next <= n /\ n < S3.next)) (.bool j.isNone) := by
  refine roundIn_of_wpIn trivial ?_
  have ht0 : Tm E A (mK r.params.toList args r.tmps.toList) { tmps := ((mK r.params.toList args r.tmps.toList).map (aK E)).toArray, defers := [] } :=
   ⟨rfl, FB _ _ _ hargs fun x hx => hscr x (by simpa using hx)⟩
  have hA1 : ∀ n, A n -> ¬ (S.next <= n /\ n < S1.next) := fun n hn hx => hA n hn (by omega)
  refine IS r.assign _ S .normal tm1 S1 hs1 c5 (some (E.β l)) (fun _ => c3) E A _ w _ ht0 hg hev H hA1 ?_
  intro E1 a1 w1 p1 ht1 hd1
  obtain ⟨hAl1, _, oc1, hoc1, f1, d1, rfl⟩ := p1.holds.blk l _ hr1
  have hb1 : E1.β l = E.β l := (p1.agree l (hA1 l hAl)).1
  rw [hb1] at hoc1
  have hst : r1.state = .ready := by
   unfold GG at hready
   split at hready
   ·assumption
   ·cases hready
  refine ⟨_, run_beginRound hoc1 hst, ?_⟩
  have hAA : ∀ n, (A n \/ (S.next <= n /\ n < S1.next)) -> ¬ (S1.next <= n /\ n < S1.next) := fun n _ hx => by omega
  have pb := aX.loop (nx := S1.next) (r' := { r1 with state := .busy }) p1.holds hr1 rfl hAA f1 d1
  rw [hb1] at pb
  have p12 := p1.trans pb
  have hA3 : ∀ n, (A n \/ (S.next <= n /\ n < S1.next)) -> ¬ (S1.next <= n /\ n < S3.next) := by
   rintro n (hn | hn) hx
   ·exact hA n hn (by omega)
   ·omega
  refine IS r.body tm1 ⟨rG S1.heap l (.loop { r1 with state := .busy }), S1.next⟩ e tm3 S3 hs3 c6 (some (E.β l)) (fun _ => c4) E1 _ a1 _ _ ht1 (hg.next (p1.agreeA hA1) fun n hn => .inl hn) (by rw [<- hev]; exact p1.even) p12.holds hA3 ?_
  intro E3 a3 w3 p3 ht3 hd3
  have p123 := p12.trans p3
  obtain ⟨_, _, oc3, hoc3, f3, d3, rfl⟩ := p123.holds.blk l _ hr3
  have hb3 : E3.β l = E.β l := (p123.agree l (hA l hAl)).1
  have hBB : ∀ n, (A n \/ (S.next <= n /\ n < S3.next)) -> ¬ (S3.next <= n /\ n < S3.next) := fun n _ hx => by omega
  have pe := aX.loop (nx := S3.next) (r' := { r3 with state := if j.isNone then .ready else .done, pending := j }) p123.holds hr3 rfl hBB f3 d3
  have pF := p123.trans pe
  rw [hb3] at hoc3 pF
  have hres : ∀ jj, jj = j -> ∃ v w', (Instr.endRound (E.β l) jj).run P w3 = .ok v w' /\ ∃ E', Ending.returned v = .returned (aK E' (.bool j.isNone)) /\
    aX P E A S.heap S.next w E' (rG S3.heap l (.loop { r3 with state := if j.isNone then .ready else .done, pending := j })) S3.next w' /\ Sc (fun n => A n \/ (S.next <= n /\ n < S3.next)) (.bool j.isNone) := by
   rintro jj rfl
   exact ⟨_, _, run_endRound jj hoc3, E3, by rw [fP], pF, oE _ _⟩
  cases e with
  | normal => exact hres none (by simpa [BU] using hj)
  | ret => exact hres (some .ret) (by simpa [BU] using hj)
  | exit id => exact hres (some (.exit id)) (by simpa [BU] using hj)
  | _ => simp [BU] at hj
 rw [<- htm] at hgoal
 exact hgoal
def CV (P : Program) (orc : FuncId -> List Value -> St -> Option (Value × St)) : Prop :=
 ∀ f args S v S', orc f args S = some (v, S') -> ∀ (E : bV) (A : Nat -> Prop) (w : World), rM P E A -> S.next % 2 = 0 -> (∀ x ∈ args, Sc A x) -> aV P E A S.heap w ->
  (∀ n, A n -> ¬ (S.next <= n /\ n < S'.next)) ->
  Calls P f (args.map (aK E)).toArray w fun e w' => ∃ E', e = .returned (aK E' v) /\ aX P E A S.heap S.next w E' S'.heap S'.next w' /\ Sc (fun n => A n \/ (S.next <= n /\ n < S'.next)) v
theorem mT (hm : P.follows .mixedOrders = true) (hnm : eM P) {orc : FuncId -> List Value -> St -> Option (Value × St)} (horc : CV P orc) {fs : Nat} (hok : jK P P.funcs.size fs = true) (fuel : Nat) : ∀ d, gE P (iF orc P fs fuel d)
 | 0 => fun _ _ _ _ _ h => by simp [iF] at h
 | d + 1 => by
  intro F args S v S' h E A w hg hev hargs H hA
  have ih := mT hm hnm horc hok fuel d
  cases F with
  | method m => simp [iF] at h
  | methodOf t m => simp [iF] at h
  | via t p f b => simp [iF] at h
  | yield l =>
   simp only [iF] at h
   exact D9 hm ih hnm h hg hev hargs H hA
  | func f =>
  simp only [TB]
  simp only [iF] at h
  split at h
  ·rename_i hfs
   split at h
   ·simp at h
   ·rename_i fn hfn
    split at h
    ·simp at h
    ·rename_i c hc
     have hokc : dE P c = true := wV hok f (yz.1 hfn).1 hfs fn c hfn hc
     refine (callsIn_wide (n := 0)).1 (callsIn_of_wp_marks hfn hc trivial ?_)
     have ht : Tm E A (args ++ List.replicate (fn.ntmps - args.length) undef) { tmps := (args.map (aK E)).toArray ++ Array.replicate (fn.ntmps - (args.map (aK E)).toArray.size) undef, defers := [] } := by
      refine ⟨?_, ?_⟩
      ·simp [iV]
      ·intro x hx
       rcases yy.1 hx with hx | hx
       ·exact hargs x hx
       ·rw [(List.mem_replicate.1 hx).2]; exact l6 _
     have key : ∀ (e : Exit) (tm : List Value) (S₁ : St), evC (iF orc P fs fuel d) P fuel c (args ++ List.replicate (fn.ntmps - args.length) undef) S = some (e, tm, S₁) -> (e = .normal \/ e = .ret) ->
       (match iE P S₁.heap tm fn.results.toList with
        | some vs => if (plain (g8 vs) && vY args) = true then some (g8 vs, (⟨p7 S.next S₁.heap, S₁.next⟩ : St)) else some (g8 vs, S₁)
        | none => none) = some (v, S') ->
       c.wpIn (rd none) 0 P (bodyPostM (rd none) 0 P fn fun e w' => ∃ E', e = .returned (aK E' v) /\ aX P E A S.heap S.next w E' S'.heap S'.next w' /\ Sc (fun n => A n \/ (S.next <= n /\ n < S'.next)) v) { tmps := (args.map (aK E)).toArray ++ Array.replicate (fn.ntmps - (args.map (aK E)).toArray.size) undef, defers := [] } w := by
      intro e tm S₁ h1 he h2
      split at h2
      ·rename_i vs hvs
       have hS' : S'.next = S₁.next /\ v = g8 vs /\ (∀ n o, aL S'.heap n = some o -> aL S₁.heap n = some o) := by
        split at h2
        ·simp only [ya, yc] at h2; obtain ⟨rfl, rfl⟩ := h2
         exact ⟨rfl, rfl, fun n o hn => (GL _ _ _ _ hn).1⟩
        ·simp only [ya, yc] at h2; obtain ⟨rfl, rfl⟩ := h2
         exact ⟨rfl, rfl, fun _ _ hn => hn⟩
       obtain ⟨e1, rfl, e3⟩ := hS'
       refine (k9 hm ih hnm fuel).1 c _ S e tm S₁ h1 hokc none (fun hx => by cases hx) E A _ w _ ht hg hev H (by rw [<- e1]; exact hA) ?_
       intro E' a' w' p ht' hd
       obtain ⟨Ds, hd1, _, hd2, hd3⟩ := hd
       simp only [List.append_nil] at hd1
       have this : LeavesInM (rd none) 0 P fn a'.tmps (fun e w' => ∃ E', e = .returned (aK E' (g8 vs)) /\ aX P E A S.heap S.next w E' S'.heap S'.next w' /\ Sc (fun n => A n \/ (S.next <= n /\ n < S'.next)) (g8 vs)) a'.defers .returning w' := by
        rw [hd1]
        refine qH (fun w'' p'' => ?_) Ds w' p hd2 hd3
        obtain ⟨r1, r2⟩ := uM (fn := fn) p''.holds ht' hvs
        refine ⟨_, r1, E', rfl, ?_, ?_⟩
        ·rw [e1]; exact p''.drop e3
        ·rw [e1]; exact r2
       rcases he with rfl | rfl
       ·exact this
       ·exact this
      ·simp at h2
     split at h
     ·rename_i tm S₁ h1
      exact key _ tm S₁ h1 (.inl rfl) h
     ·rename_i tm S₁ h1
      exact key _ tm S₁ h1 (.inr rfl) h
     ·simp at h
  ·exact horc f args S v S' h E A w hg hev hargs H hA
end
open Go.RowKit
def G1 : Obj -> Obj -> Bool
 | .cells c e fz, .cells c' e' fz' => GD c.toList c'.toList && Nat.beq e e' && (Nat.beq fz.1 fz'.1 && Nat.beq fz.2 fz'.2)
 | _, _ => false
def wX (h' : List (Nat × Obj)) : List (Nat × Obj) -> Bool
 | [] => true
 | (n, o) :: r => (match aL h' n with | some o' => G1 o o' | none => false) && wX h' r
def G2 (size : Nat) : List (Nat × Obj) -> Bool
 | [] => true
 | (n, o) :: r => Nat.beq (n % 2) 0 && Nat.blt n (2 * size) && (match o with | .cells c _ _ => dQ c.toList | _ => false) && G2 size r
theorem G3 {o o' : Obj} (h : G1 o o' = true) : o = o' := by
 unfold G1 at h
 split at h
 ·rename_i c e fz c' e' fz'
  simp only [yd] at h
  obtain ⟨⟨h1, h2⟩, h3, h4⟩ := h
  have := pK h1
  congr 1
  ·exact yl this
  ·exact yf h2
  ·exact Prod.ext (yf h3) (yf h4)
 ·simp at h
theorem uN {h' : List (Nat × Obj)} : ∀ {h : List (Nat × Obj)}, wX h' h = true -> ∀ n o, aL h n = some o -> aL h' n = some o
 | [], _, n, o, hg => by simp [aL] at hg
 | (m, x) :: r, hs, n, o, hg => by
  simp only [wX, yd] at hs
  simp only [aL] at hg
  split at hg
  ·rename_i hm
   obtain rfl := yf hm
   obtain rfl := yg hg
   have := hs.1
   split at this
   ·rename_i o' ho'
    rw [ho', G3 this]
   ·cases this
  ·exact uN hs.2 n o hg
theorem mD {size : Nat} : ∀ {h : List (Nat × Obj)}, G2 size h = true -> ∀ n o, aL h n = some o -> n % 2 = 0 /\ n < 2 * size /\ ∃ c e fz, o = .cells c e fz /\ dQ c.toList = true
 | [], _, n, o, hg => by simp [aL] at hg
 | (m, x) :: r, hs, n, o, hg => by
  simp only [G2, yd] at hs
  obtain ⟨⟨⟨h1, h2⟩, h3⟩, h4⟩ := hs
  simp only [aL] at hg
  split at hg
  ·rename_i hm
   obtain rfl := yf hm
   obtain rfl := yg hg
   refine ⟨yf h1, (tW _ _).1 h2, ?_⟩
   split at h3
   ·exact ⟨_, _, _, rfl, h3⟩
   ·cases h3
  ·exact mD h4 n o hg
def kQ : bV := { β := fun n => n / 2, σ := fun _ => 0, κ := fun _ => 0 }
theorem mM {x : Value} (h : fV x = true) : plain x = true := by
 cases x <;> first | exact h | simp [fV] at h
theorem NE {P : Program} {orc : FuncId -> List Value -> St -> Option (Value × St)} (horc : CV P orc) {fs fuel d : Nat} {f : FuncId} {args : List Value} {h : List (Nat × Obj)} {nx : Nat} {v : Value} {S' : St} (hm : P.follows .mixedOrders = true) (hnm : eM P) (hok : jK P P.funcs.size fs = true)
  (hrows : G2 P.globals.size h = true) (hnx : nx % 2 = 0) (hnx2 : 2 * P.globals.size <= nx) (hargs : ∀ x ∈ args, plain x = true) (hv : plain v = true) (hev : iF orc P fs fuel d (.func f) args ⟨h, nx⟩ = some (v, S')) (hsame : wX S'.heap h = true)
  {w : World} (hw : ∀ n o, aL h n = some o -> w.heap[n / 2]? = some o) : Calls P f args.toArray w fun e w' => e = .returned v /\ Below w.heap.size w w' := by
 have hH : aV P kQ (fun n => n < 2 * P.globals.size /\ n % 2 = 0) h w := by
  refine ⟨fun n o hn => ?_, fun n m o o' hn hm' e => ?_⟩
  ·obtain ⟨h1, h2, c, e, fz, rfl, h3⟩ := mD hrows n o hn
   refine ⟨⟨h2, h1⟩, fun x hx => sE _ (mM (eL h3 x (by simpa using hx))), _, hw n _ hn, ?_⟩
   have hr : iC n = false := by unfold iC; rw [h1]; rfl
   simp only [cK, hr, ym, if_false]
   refine ⟨rfl, ?_⟩
   congr 1
   have : c.map (aK kQ) = c.map id := yn fun x hx => iW _ (mM (eL h3 x (by simpa using hx)))
   rw [this]; simp
  ·obtain ⟨h1, _⟩ := mD hrows n o hn
   obtain ⟨h2, _⟩ := mD hrows m o' hm'
   simp only [kQ] at e
   omega
 have hg : rM P kQ (fun n => n < 2 * P.globals.size /\ n % 2 = 0) := by
  intro g hg
  refine ⟨?_, rfl, ?_, ?_⟩
  ·simp only [kQ]; omega
  ·omega
  ·omega
 have := mT hm hnm horc hok fuel d (.func f) args ⟨h, nx⟩ v S' hev kQ _ w hg hnx (fun x hx => sE _ (hargs x hx)) hH (fun n hn hx => by have := hx.1; simp only at this; omega)
 have he : args.map (aK kQ) = args := by
  have : args.map (aK kQ) = args.map id := yp fun x hx => iW _ (hargs x hx)
  rw [this]; simp
 rw [he] at this
 refine this.mono ?_
 rintro e w' ⟨E', rfl, p, _⟩
 refine ⟨by rw [iW _ hv], p.os, p.tape, p.output, p.size, fun b hb => ?_⟩
 by_cases hex : ∃ n o, aL h n = some o /\ kQ.β n = b
 ·obtain ⟨n, o, hn, e⟩ := hex
  have hn' := uN hsame n o hn
  obtain ⟨h1, h2, c, t, fz, rfl, h3⟩ := mD hrows n o hn
  obtain ⟨_, _, oc, hc, hr⟩ := p.holds.blk n _ hn'
  have hrw : iC n = false := by unfold iC; rw [h1]; rfl
  simp only [cK, hrw, ym, if_false] at hr
  obtain ⟨_, rfl⟩ := hr
  have hb' : E'.β n = b := by rw [<- e]; exact (p.agree n (by simp only; omega)).1
  have hcc : c.map (aK E') = c := by
   have : c.map (aK E') = c.map id := yn fun x hx => iW _ (mM (eL h3 x (by simpa using hx)))
   rw [this]; simp
  rw [hb', hcc] at hc
  have hwn := hw n _ hn
  have e' : n / 2 = b := e
  rw [e'] at hwn
  rw [hc, hwn]
 ·exact p.same b hb fun n o hn e => hex ⟨n, o, hn, e⟩
def QD : FuncId -> List Value -> St -> Option (Value × St) := fun _ _ _ => none
theorem CW {P : Program} : CV P QD := fun _ _ _ _ _ h => by cases h
def KV (P : Program) : Bool := P.funcs.toList.all GU
theorem fX {P : Program} (h : KV P = true) : eM P := by
 intro g fn hg _
 exact List.all_eq_true.1 h fn (by have := yyh hg; simpa using this)
end Go.Dam
namespace Go.Proofs.YtgkhemnmcgicnaaGreatDoor
open Go.RowKit Go.Dam
def XW : Nat := 2 ^ 260 - 1
set_option maxRecDepth 1000000
theorem T9 : jK Tryz.prog Tryz.prog.funcs.size XW = true := by kernel_rfl
theorem jE : KV Tryz.prog = true := by kernel_rfl
theorem kU : Tryz.prog.follows .mixedOrders = true := by kernel_rfl
theorem UA : Nat.ble (2 * Tryz.prog.globals.size) 100 = true := by kernel_rfl
noncomputable def xK (f : FuncId) (args : List Value) (v : Value) : Bool := match iF QD Tryz.prog XW 400 14 (.func f) args ⟨[], 100⟩ with
 | some (u, _) => VU v u
 | none => false
theorem j3 {f : FuncId} {args : List Value} {v : Value} (ha : args.all plain = true) (hv : plain v = true) (h : xK f args v = true) (w : World) :
  Calls Tryz.prog f args.toArray w fun e w' => e = .returned v /\ Below w.heap.size w w' := by
 unfold xK at h
 split at h
 ·rename_i u S he
  obtain rfl := nJ h
  refine NE (args := args) CW kU (fX jE) T9 (h := []) (nx := 100) rfl (by decide) (qqo UA) ?_ hv he rfl ?_
  ·intro x hx; exact qqn.1 ha x hx
  ·intro n o hn; cases hn
 ·cases h
end Go.Proofs.YtgkhemnmcgicnaaGreatDoor
