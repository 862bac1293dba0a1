/-
  An own evaluator of closed runs of a program, proved sound against the model for every order of draws and every capacity of append. This text is one part of it; the last part's theorem 'closed' says what a run in the kernel proves. Used for the law's closed self-test.
-/
import Derived.Test.YtgjgdofofhmjgaaDoorDamW
import Derived.LoopN
import Derived.Laws.Sem
namespace Go.Dam

section
variable {P : Program} {callF : FuncId → List Value → St → Option (Value × St)}

theorem evOps_mono {ops : List Oper} : ∀ {l : List Oper} {tm tm' : List Value} {S S' : St}, evOps callF P ops l tm S = some (tm', S') → S.next ≤ S'.next
  | [], _, _, _, _, h => by
    simp only [evOps, Option.some.injEq, Prod.mk.injEq] at h
    rw [h.2]; exact Nat.le_refl _
  | o :: r, tm, tm', S, S', h => by
    simp only [evOps] at h
    split at h
    · split at h
      · simp only [Option.ite_none_right_eq_some] at h
        exact Nat.le_trans (Nat.le_of_ble_eq_true h.1) (evOps_mono h.2)
      · simp at h
    · exact evOps_mono h

/-- What follows a piece of code. -/
def After (P : Program) (E : Env) (A : Nat → Prop) (S : St) (w : World) (a : Act) (tm' : List Value) (S' : St) (R : Act → World → Prop) : Prop :=
  ∀ E' a' w', Post P E A S.heap S.next w E' S'.heap S'.next w' → Tm E' (fun n => A n ∨ (S.next ≤ n ∧ n < S'.next)) tm' a' → a'.defers = a.defers → R a' w'

theorem After.trans {E E₁ : Env} {A : Nat → Prop} {S S₁ S' : St} {w w₁ : World} {a a₁ : Act} {tm' : List Value} {R : Act → World → Prop} (h : After P E A S w a tm' S' R) (p : Post P E A S.heap S.next w E₁ S₁.heap S₁.next w₁) (hd : a₁.defers = a.defers) (hle : S₁.next ≤ S'.next) :
    After P E₁ (fun n => A n ∨ (S.next ≤ n ∧ n < S₁.next)) S₁ w₁ a₁ tm' S' R := by
  intro E' a' w' q ht hd'
  refine h E' a' w' (p.trans q) ⟨ht.tmps, fun x hx => Sc_mono ?_ x (ht.sc x hx)⟩ (hd'.trans hd)
  have := p.le
  rintro n ((hn | hn) | hn)
  · exact .inl hn
  · exact .inr (by omega)
  · exact .inr (by omega)

theorem Glb.next {E E' : Env} {A B : Nat → Prop} (hg : Glb P E A) (hag : Agree A E E') (hAB : ∀ n, A n → B n) : Glb P E' B := by
  intro g hgs
  obtain ⟨h1, h2, h3⟩ := hg g hgs
  obtain ⟨e1, e2, _⟩ := hag _ h3
  exact ⟨by rw [e1, h1], by rw [e2, h2], hAB _ h3⟩

theorem evOps_sound (hcf : CallOk P callF) (hnm : NamesOk P) {opsA : Array Oper} {Q : Exit → Act → World → Prop} : ∀ {l : List Oper} {tm tm' : List Value} {S S' : St} {E : Env} {A : Nat → Prop} {a : Act} {w : World},
    evOps callF P opsA.toList l tm S = some (tm', S') → (∀ o ∈ l, ∀ x ∈ o.op.operands, okOpd P x = true) → Tm E A tm a → Glb P E A → S.next % 2 = 0 → Holds P E A S.heap w → (∀ n, A n → ¬ (S.next ≤ n ∧ n < S'.next)) →
    After P E A S w a tm' S' (Q .normal) → wpList P opsA Q l a w
  | [], tm, tm', S, S', E, A, a, w, h, hops, ht, hg, hev, H, hA, hQ => by
    simp only [evOps, Option.some.injEq, Prod.mk.injEq] at h
    obtain ⟨rfl, rfl⟩ := h
    exact hQ E a w (Post.refl H) ⟨ht.tmps, fun x hx => Sc_or (ht.sc x hx)⟩ rfl
  | o :: r, tm, tm', S, S', E, A, a, w, h, hops, ht, hg, hev, H, hA, hQ => by
    simp only [evOps] at h
    refine wpList_step fun K hK => ?_
    rw [wanted_eq ht]
    split at h
    · rename_i hgd
      rw [if_pos hgd]
      split at h
      · rename_i v S₁ hs
        simp only [Option.ite_none_right_eq_some] at h
        have hle := Nat.le_of_ble_eq_true h.1
        have hle' := evOps_mono h.2
        have hA₁ : ∀ n, A n → ¬ (S.next ≤ n ∧ n < S₁.next) := fun n hn hx => hA n hn (by omega)
        refine astep_sound hcf hnm ht hg hev H (hops o (by simp)) hA₁ hs K Q ?_
        intro E₁ w₁ p hsc
        refine hK _ _ (evOps_sound hcf hnm h.2 (fun o' ho' => hops o' (by simp [ho'])) (ht.put (p.agreeA hA₁) (fun n hn => .inl hn) hsc) (hg.next (p.agreeA hA₁) fun n hn => .inl hn) (by rw [p.even, hev]) p.holds ?_ (hQ.trans p ?_ hle'))
        · rintro n (hn | hn) hx
          · exact hA n hn (by omega)
          · omega
        · unfold Act.put; split <;> rfl
      · simp at h
    · rename_i hgd
      rw [if_neg hgd]
      have hp : Tm E A (putD tm o.dst undef) (a.put o.dst undef) := by
        have := ht.put (E' := E) (B := A) (dst := o.dst) (v := undef) (fun n _ => ⟨rfl, rfl, rfl⟩) (fun n hn => hn) (Sc_undef _)
        rwa [ren_undef] at this
      refine hK _ _ (evOps_sound hcf hnm h (fun o' ho' => hops o' (by simp [ho'])) hp hg hev H hA ?_)
      intro E' a' w' p ht' hd'
      refine hQ E' a' w' p ht' (hd'.trans ?_)
      unfold Act.put; split <;> rfl

theorem evalDraw_mono {ops : List Oper} {tm tm' : List Value} {S S' : St} (h : evalDraw callF P ops tm S = some (tm', S')) : S.next ≤ S'.next := by
  unfold evalDraw at h
  split at h
  · rename_i F hF
    simp only [Option.ite_none_right_eq_some, Option.some.injEq, Prod.mk.injEq] at h
    obtain ⟨_, _, rfl⟩ := h
    obtain ⟨_, _, _, _, _, _, _, _, _, _, _, _, h, _⟩ := dRun_prefix hF
    exact h
  · simp at h

theorem evC_mono : ∀ {f : Nat} {c : Code} {tm tm' : List Value} {S S' : St} {e : Exit}, evC callF P f c tm S = some (e, tm', S') → S.next ≤ S'.next
  | 0, _, _, _, _, _, _, h => by simp [evC] at h
  | f + 1, c, tm, tm', S, S', e, h => by
    cases c with
    | region rid ops d =>
      cases d with
      | false =>
        simp only [evC] at h
        split at h
        · rename_i h'
          simp only [Option.some.injEq, Prod.mk.injEq] at h
          obtain ⟨_, _, rfl⟩ := h
          exact evOps_mono h'
        · simp at h
      | true =>
        simp only [evC] at h
        split at h
        · rename_i h'
          simp only [Option.some.injEq, Prod.mk.injEq] at h
          obtain ⟨_, _, rfl⟩ := h
          exact evalDraw_mono h'
        · simp at h
    | seq x y =>
      simp only [evC] at h
      split at h
      · rename_i h'
        exact Nat.le_trans (evC_mono h') (evC_mono h)
      · exact evC_mono h
    | cond x y z =>
      simp only [evC] at h
      split at h
      · exact evC_mono h
      · exact evC_mono h
      · simp at h
    | block id b =>
      simp only [evC] at h
      split at h
      · rename_i h'
        split at h <;> (simp only [Option.some.injEq, Prod.mk.injEq] at h; obtain ⟨_, _, rfl⟩ := h; exact evC_mono h')
      · exact evC_mono h
    | loop b =>
      simp only [evC] at h
      split at h
      · rename_i h'
        exact Nat.le_trans (evC_mono h') (evC_mono h)
      · exact evC_mono h
    | _ =>
      simp only [evC] at h
      first
        | (simp at h; done)
        | (simp only [Option.some.injEq, Prod.mk.injEq] at h; obtain ⟨_, _, rfl⟩ := h; exact Nat.le_refl _)

/-- A piece of code does what the evaluator says. -/
def Sound (P : Program) (ev : Code → List Value → St → Option (Exit × List Value × St)) : Prop :=
  ∀ c tm S e tm' S', ev c tm S = some (e, tm', S') → okCode P c = true → ∀ (E : Env) (A : Nat → Prop) (a : Act) (w : World) (Q : Exit → Act → World → Prop), Tm E A tm a → Glb P E A → S.next % 2 = 0 → Holds P E A S.heap w →
    (∀ n, A n → ¬ (S.next ≤ n ∧ n < S'.next)) → After P E A S w a tm' S' (Q e) → c.wp P Q a w

theorem evC_sound (hm : P.follows .mixedOrders = true) (hcf : CallOk P callF) (hnm : NamesOk P) : ∀ (f : Nat), (Sound P (evC callF P f)) ∧
    (∀ b tm S e tm' S', evC callF P f (.loop b) tm S = some (e, tm', S') → okCode P b = true → ∀ (E : Env) (A : Nat → Prop) (a : Act) (w : World) (Q : Exit → Act → World → Prop), Tm E A tm a → Glb P E A → S.next % 2 = 0 → Holds P E A S.heap w →
      (∀ n, A n → ¬ (S.next ≤ n ∧ n < S'.next)) → After P E A S w a tm' S' (Q e) → Code.rounds P b Q f a w)
  | 0 => ⟨fun _ _ _ _ _ _ h => by simp [evC] at h, fun _ _ _ _ _ _ h => by simp [evC] at h⟩
  | f + 1 => by
    obtain ⟨IS, IR⟩ := evC_sound hm hcf hnm f
    -- two pieces, one behind the other
    have two : ∀ (x : Code) (next : Act → World → Prop) (tm : List Value) (S : St) (e : Exit) (tm' : List Value) (S' : St) (E : Env) (A : Nat → Prop) (a : Act) (w : World) (Q : Exit → Act → World → Prop) (rest : List Value → St → Option (Exit × List Value × St)),
        okCode P x = true → (match evC callF P f x tm S with | some (.normal, tm₁, S₁) => rest tm₁ S₁ | r => r) = some (e, tm', S') → (∀ tm₁ S₁, rest tm₁ S₁ = some (e, tm', S') → S₁.next ≤ S'.next) →
        (∀ tm₁ S₁ E₁ A₁ a₁ w₁, rest tm₁ S₁ = some (e, tm', S') → Tm E₁ A₁ tm₁ a₁ → Glb P E₁ A₁ → S₁.next % 2 = 0 → Holds P E₁ A₁ S₁.heap w₁ → (∀ n, A₁ n → ¬ (S₁.next ≤ n ∧ n < S'.next)) → After P E₁ A₁ S₁ w₁ a₁ tm' S' (Q e) → next a₁ w₁) →
        Tm E A tm a → Glb P E A → S.next % 2 = 0 → Holds P E A S.heap w → (∀ n, A n → ¬ (S.next ≤ n ∧ n < S'.next)) → After P E A S w a tm' S' (Q e) → x.wp P (Exit.then next Q) a w := by
      intro x next tm S e tm' S' E A a w Q rest hx h hmono hrest ht hg hev H hA hQ
      split at h
      · rename_i tm₁ S₁ h1
        have hle := evC_mono h1
        have hle' := hmono _ _ h
        have hA₁ : ∀ n, A n → ¬ (S.next ≤ n ∧ n < S₁.next) := fun n hn hx => hA n hn (by omega)
        refine IS x tm S .normal tm₁ S₁ h1 hx E A a w _ ht hg hev H hA₁ ?_
        intro E₁ a₁ w₁ p ht₁ hd₁
        refine hrest tm₁ S₁ E₁ _ a₁ w₁ h ht₁ (hg.next (p.agreeA hA₁) fun n hn => .inl hn) (by rw [p.even, hev]) p.holds ?_ (hQ.trans p hd₁ hle')
        rintro n (hn | hn) hx'
        · exact hA n hn (by omega)
        · omega
      · rename_i hne
        refine IS x tm S e tm' S' h hx E A a w _ ht hg hev H hA ?_
        intro E₁ a₁ w₁ p ht₁ hd₁
        have hq := hQ E₁ a₁ w₁ p ht₁ hd₁
        cases e with
        | normal => exact absurd h (by intro h; exact hne _ _ h)
        | _ => exact hq
    refine ⟨?_, ?_⟩
    · intro c tm S e tm' S' h hok E A a w Q ht hg hev H hA hQ
      cases c with
      | skip =>
        simp only [evC, Option.some.injEq, Prod.mk.injEq] at h; obtain ⟨rfl, rfl, rfl⟩ := h
        exact wp_skip (hQ E a w (Post.refl H) ⟨ht.tmps, fun x hx => Sc_or (ht.sc x hx)⟩ rfl)
      | label l =>
        simp only [evC, Option.some.injEq, Prod.mk.injEq] at h; obtain ⟨rfl, rfl, rfl⟩ := h
        exact wp_label (hQ E a w (Post.refl H) ⟨ht.tmps, fun x hx => Sc_or (ht.sc x hx)⟩ rfl)
      | exit id =>
        simp only [evC, Option.some.injEq, Prod.mk.injEq] at h; obtain ⟨rfl, rfl, rfl⟩ := h
        exact wp_exit (hQ E a w (Post.refl H) ⟨ht.tmps, fun x hx => Sc_or (ht.sc x hx)⟩ rfl)
      | ret =>
        simp only [evC, Option.some.injEq, Prod.mk.injEq] at h; obtain ⟨rfl, rfl, rfl⟩ := h
        exact wp_ret (hQ E a w (Post.refl H) ⟨ht.tmps, fun x hx => Sc_or (ht.sc x hx)⟩ rfl)
      | region rid ops d =>
        simp only [okCode, Bool.and_eq_true, Bool.or_eq_true, Bool.not_eq_true'] at hok
        cases d with
        | false =>
          simp only [evC] at h
          split at h
          · rename_i h'
            simp only [Option.some.injEq, Prod.mk.injEq] at h
            obtain ⟨rfl, rfl, rfl⟩ := h
            refine wp_region_list (evOps_sound hcf hnm h' (fun o ho x hx => ?_) ht hg hev H hA hQ)
            obtain ⟨i, hi⟩ := List.mem_iff_getElem?.1 ho
            exact okOps_spec hok.1 i o x hi hx
          · simp at h
        | true =>
          simp only [evC] at h
          split at h
          · rename_i h'
            simp only [Option.some.injEq, Prod.mk.injEq] at h
            obtain ⟨rfl, rfl, rfl⟩ := h
            exact evalDraw_sound hm hcf hnm hok.1 (hok.2.resolve_left (by simp)) h' ht hg hev H hA hQ
          · simp at h
      | seq x y =>
        simp only [okCode, Bool.and_eq_true] at hok
        simp only [evC] at h
        refine wp_seq (two x (y.wp P Q) tm S e tm' S' E A a w Q (fun tm₁ S₁ => evC callF P f y tm₁ S₁) hok.1 h (fun _ _ h => evC_mono h) ?_ ht hg hev H hA hQ)
        intro tm₁ S₁ E₁ A₁ a₁ w₁ h1 ht₁ hg₁ hev₁ H₁ hA₁ hQ₁
        exact IS y tm₁ S₁ e tm' S' h1 hok.2 E₁ A₁ a₁ w₁ Q ht₁ hg₁ hev₁ H₁ hA₁ hQ₁
      | cond x y z =>
        simp only [okCode, Bool.and_eq_true] at hok
        simp only [evC] at h
        have hx := (eval_ok ht hg hok.1).1
        split at h
        · rename_i hv
          rw [hv, ren_bool] at hx
          exact wp_cond_true hx (IS y tm S e tm' S' h hok.2.1 E A a w Q ht hg hev H hA hQ)
        · rename_i hv
          rw [hv, ren_bool] at hx
          exact wp_cond_false hx (IS z tm S e tm' S' h hok.2.2 E A a w Q ht hg hev H hA hQ)
        · simp at h
      | block id b =>
        simp only [okCode] at hok
        simp only [evC] at h
        split at h
        · rename_i j tm₁ S₁ h1
          split at h
          · rename_i hj
            simp only [Option.some.injEq, Prod.mk.injEq] at h
            obtain ⟨rfl, rfl, rfl⟩ := h
            refine wp_block (IS b tm S _ _ _ h1 hok E A a w _ ht hg hev H hA ?_)
            intro E₁ a₁ w₁ p ht₁ hd₁
            simp only [Exit.inBlock]
            rw [if_pos (Nat.eq_of_beq_eq_true hj)]
            exact hQ E₁ a₁ w₁ p ht₁ hd₁
          · rename_i hj
            simp only [Option.some.injEq, Prod.mk.injEq] at h
            obtain ⟨rfl, rfl, rfl⟩ := h
            refine wp_block (IS b tm S _ _ _ h1 hok E A a w _ ht hg hev H hA ?_)
            intro E₁ a₁ w₁ p ht₁ hd₁
            simp only [Exit.inBlock]
            rw [if_neg (fun e => hj (by rw [e]; simp))]
            exact hQ E₁ a₁ w₁ p ht₁ hd₁
        · rename_i hne
          refine wp_block (IS b tm S _ _ _ h hok E A a w _ ht hg hev H hA ?_)
          intro E₁ a₁ w₁ p ht₁ hd₁
          have hq := hQ E₁ a₁ w₁ p ht₁ hd₁
          cases e with
          | exit j => exact absurd h (by intro h; exact hne _ _ _ h)
          | _ => exact hq
      | loop b =>
        simp only [okCode] at hok
        have h0 := h
        simp only [evC] at h
        refine wp_loop_rounds (f + 1) ?_
        rw [rounds_succ]
        refine two b (Code.rounds P b Q f) tm S e tm' S' E A a w Q (fun tm₁ S₁ => evC callF P f (.loop b) tm₁ S₁) hok h (fun _ _ h => evC_mono h) ?_ ht hg hev H hA hQ
        intro tm₁ S₁ E₁ A₁ a₁ w₁ h1 ht₁ hg₁ hev₁ H₁ hA₁ hQ₁
        exact IR b tm₁ S₁ e tm' S' h1 hok E₁ A₁ a₁ w₁ Q ht₁ hg₁ hev₁ H₁ hA₁ hQ₁
      | _ => simp [evC] at h
    · intro b tm S e tm' S' h hok E A a w Q ht hg hev H hA hQ
      simp only [evC] at h
      rw [rounds_succ]
      refine two b (Code.rounds P b Q f) tm S e tm' S' E A a w Q (fun tm₁ S₁ => evC callF P f (.loop b) tm₁ S₁) hok h (fun _ _ h => evC_mono h) ?_ ht hg hev H hA hQ
      intro tm₁ S₁ E₁ A₁ a₁ w₁ h1 ht₁ hg₁ hev₁ H₁ hA₁ hQ₁
      exact IR b tm₁ S₁ e tm' S' h1 hok E₁ A₁ a₁ w₁ Q ht₁ hg₁ hev₁ H₁ hA₁ hQ₁

end
end Go.Dam
