/-
  An own evaluator of closed runs of a program, proved sound against the model for every order of draws and every capacity of append. This text is one part of it; the last part's theorem 'closed' says what a run in the kernel proves. Used for the law's closed self-test.
-/
import Derived.Test.YtgjgdofofhmjgaaDoorDamU
namespace Go.Dam

theorem own_congr {p q : Nat → Bool} : ∀ {al : List (Nat × Nat × Obj)}, (∀ x ∈ al, p x.1 = q x.1) → own p al = own q al
  | [], _ => rfl
  | (j, n, o) :: r, h => by
    have hj : p j = q j := h (j, n, o) (by simp)
    simp only [own]
    rw [own_congr (al := r) fun x hx => h x (by simp [hx]), hj]

section
variable {P : Program} {callF : FuncId → List Value → St → Option (Value × St)} {opsA : Array Oper} {ms : List Nat} {tm0 : List Value} {F : DR} {E0 : Env} {A : Nat → Prop} {S : St} {w0 : World} {a0 : Act}
variable {L L' : Nat → Bool} {E : Env} {tm : List Value} {k : Nat} {a : Act} {w : World} {i : Nat} {o : Oper} {r : Rec}

theorem Ctx.globals (C : Ctx P callF opsA.toList ms tm0 F E0 A S) (hJ : Stand P opsA.toList ms tm0 F E0 A S w0 a0 L E tm k a w) : Glb P E (AL F.recs A L) := by
  intro g hg
  obtain ⟨h1, h2, h3⟩ := C.glb g hg
  obtain ⟨e1, e2, _⟩ := hJ.post.agree (2 * g) (C.out _ h3)
  exact ⟨by rw [e1, h1], by rw [e2, h2], .inl h3⟩

theorem hp_same (C : Ctx P callF opsA.toList ms tm0 F E0 A S) (hL' : ∀ l, L' l = true ↔ L l = true ∨ l = i) (hno : ∀ n y, (i, n, y) ∉ F.al) : ∀ n x, getB (hp ms F L' k) n = some x → getB (hp ms F L k) n = some x := by
  intro n x hg
  unfold hp at hg ⊢
  rcases C.getHp hg with ⟨j, hj, hp⟩ | ⟨hn, hg⟩
  · simp only [Bool.and_eq_true] at hp
    rcases (hL' j).1 hp.1 with hl | rfl
    · exact C.inOwn hj (by simp only [Bool.and_eq_true]; exact ⟨hl, hp.2⟩)
    · exact absurd hj (hno n x)
  · rw [getNotOwn]
    · exact hg
    · intro j y hj
      have := hn j y hj
      cases hl : L j with
      | false => rfl
      | true => rw [(hL' j).2 (.inl hl)] at this; simpa using this

theorem Stand.step (C : Ctx P callF opsA.toList ms tm0 F E0 A S) (hJ : Stand P opsA.toList ms tm0 F E0 A S w0 a0 L E tm k a w) (ho : opsA.toList[i]? = some o) (hi : L i = false)
    (hm : ∀ j, Nat.testBit (natAt ms i) j = true → L j = true) (hdown : ∀ l, L l = true → ∀ j, Nat.testBit (natAt ms l) j = true → L j = true) (hL' : ∀ l, L' l = true ↔ L l = true ∨ l = i)
    {K : Act → World → Prop} {Q : Exit → Act → World → Prop} (hK : ∀ E' tm' k' a' w', Stand P opsA.toList ms tm0 F E0 A S w0 a0 L' E' tm' k' a' w' → K a' w') :
    if Region.wanted o (yielded opsA a.tmps) = true then o.wp P a w K Q else K (a.put o.dst undef) w := by
  obtain ⟨r, hf, hn1, hn2⟩ := C.facts.fact i o (Nat.zero_le _) ho
  have hr := hf.record
  have hslot : ∀ t, slotOk ms opsA.toList i t = true → nth tm t = nth r.tm t := fun t ht =>
    SlotAt.agree C.facts.recs hJ.slots hf.slots ht hi ((blt_false i i).2 (Nat.le_refl _)) hm (fun l hl => (blt_iff l i).2 (C.ok.mask i o l ho hl).1)
      (fun l hl hs => by
        cases hLl : L l with
        | false => rfl
        | true => rw [hdown l hLl i hl] at hi; cases hi)
      (fun l hl hs => by
        obtain ⟨o', ho'⟩ := Option.isSome_iff_exists.1 hs
        have := (C.ok.mask l o' i ho' hl).1
        exact (blt_false l i).2 (by omega))
  have hopd : ∀ x ∈ o.op.operands, aeval tm x = aeval r.tm x := by
    intro x hx
    cases x with
    | tmp t => exact hslot t (C.ok.slot i o _ t ho hx rfl)
    | _ => rfl
  have hgd : aguard opsA.toList tm o = r.on := by
    rw [hf.on]
    exact aguard_congr fun g want p d hg hp hd => hslot d (C.ok.guard i o g want p d ho hg hp hd)
  have hnoeff : ¬ (r.on = true ∧ kind o.op ≠ 0 ∧ kind o.op ≠ 1 ∧ kind o.op ≠ 2) → ∀ t e, F.es[t]? = some e → (L' e = true ↔ t < k) := by
    intro hne t e he
    rw [hL', ← hJ.keff t e he]
    refine ⟨fun h => h.resolve_right ?_, .inl⟩
    rintro rfl
    rcases C.facts.effects t e he with h | ⟨o', r', ho', hr', h⟩
    · exact h
    · rw [ho] at ho'; obtain rfl := Option.some.inj ho'
      rw [hr] at hr'; obtain rfl := Option.some.inj hr'
      exact hne h
  have hnolay : ¬ (r.on = true ∧ kind o.op = 2) → ∀ n y, (i, n, y) ∉ F.al := by
    intro hne n y hy
    rcases C.facts.laid _ hy with h | ⟨o', r', ho', hr', h1, h2, _⟩
    · exact h
    · rw [ho] at ho'; obtain rfl := Option.some.inj ho'
      rw [hr] at hr'; obtain rfl := Option.some.inj hr'
      exact hne ⟨h1, h2⟩
  rw [wanted_eq hJ.tm, hgd]
  cases hon : r.on with
  | false =>
    obtain ⟨u1, u2⟩ := hf.off hon
    have hq : Post P E (AL F.recs A L) (hp ms F L k) r.nx w E (hp ms F L k) r.nx' w := by rw [u2]; exact Post.refl hJ.holds
    have := hJ.next C ho hr hi hL' (k' := k) hq (fun _ _ h => h) (fun n x hg => .inl (hp_same C hL' (hnolay (by simp [hon])) n x hg)) (by rw [u1]; exact Sc_undef _) hJ.kle (hnoeff (by simp [hon]))
    rw [u1, ren_undef] at this
    simp only [Bool.false_eq_true, if_false]
    exact hK _ _ _ _ _ this
  | true =>
    simp only [if_true]
    have hsel : ∀ {T S' : St} {v : Value}, astep callF P r.tm T o = some (v, S') → ∀ cs b, o.op ≠ .select cs b := by
      intro T S' v h cs b e
      obtain ⟨dst, op, ty, pos, after, guard⟩ := o
      simp only at e
      subst e
      simp [astep] at h
    -- one step of the evaluator, brought into the world
    have run : ∀ {h : List (Nat × Obj)} {S' : St} {k' : Nat}, astep callF P r.tm ⟨h, r.nx⟩ o = some (r.v, S') → S'.next = r.nx' →
        (∀ n x, getB h n = some x → getB (hp ms F L k) n = some x) → (∀ n x, getB (hp ms F L' k') n = some x → getB S'.heap n = some x ∨ (getB (hp ms F L k) n = some x ∧ getB h n = none)) →
        k' ≤ F.es.length → (∀ t e, F.es[t]? = some e → (L' e = true ↔ t < k')) → o.wp P a w K Q := by
      intro h S' k' hs hnx hsub hh hk' heff'
      have hs' : astep callF P tm ⟨h, r.nx⟩ o = some (r.v, S') := by rw [astep_congr (hsel hs) hopd]; exact hs
      refine astep_sound (A := AL F.recs A L) C.calls C.names hJ.tm (C.globals hJ) (S := ⟨h, r.nx⟩) hf.ev (hJ.holds.sub hsub) (fun x hx => C.opd i o x ho hx) (by simp only [hnx]; exact C.apartAL hr hi) hs' K Q ?_
      intro E' w' hq hsc
      rw [hnx] at hq hsc
      exact hK _ _ _ _ _ (hJ.next C ho hr hi hL' hq hsub hh hsc hk' heff')
    by_cases hk2 : kind o.op = 2
    · obtain ⟨n, b, hmem, hs⟩ := hf.lays hon hk2
      refine run (k' := k) hs rfl (fun _ _ h => by simp [getB] at h) ?_ hJ.kle (hnoeff (by simp [hk2]))
      intro n' x hg
      unfold hp at hg
      rcases C.getHp hg with ⟨j, hj, hp'⟩ | ⟨hn, hg⟩
      · simp only [Bool.and_eq_true] at hp'
        rcases (hL' j).1 hp'.1 with hl | rfl
        · exact .inr ⟨C.inOwn hj (by simp only [Bool.and_eq_true]; exact ⟨hl, hp'.2⟩), rfl⟩
        · left
          rcases C.facts.laid _ hj with h | ⟨o', r', ho', hr', _, _, h3⟩
          · exact h.elim
          · rw [ho] at ho'; obtain rfl := Option.some.inj ho'
            rw [hr] at hr'; obtain rfl := Option.some.inj hr'
            rw [hs] at h3
            simp only [Option.some.injEq, Prod.mk.injEq, St.mk.injEq, List.cons.injEq, and_true, true_and] at h3
            obtain ⟨rfl, rfl⟩ := h3
            simp [getB]
      · right
        refine ⟨?_, rfl⟩
        unfold hp
        rw [getNotOwn]
        · exact hg
        · intro j y hj
          have := hn j y hj
          cases hl : L j with
          | false => rfl
          | true => rw [(hL' j).2 (.inl hl)] at this; simpa using this
    by_cases hk01 : kind o.op = 0 ∨ kind o.op = 1
    · obtain ⟨hnx, k0, S', hk0, hs⟩ := hf.reads hon hk01
      have hst := astep_still hk01 hs
      have hsk : astep callF P r.tm ⟨seen ms F.es F.hs F.al i k, r.nx⟩ o = some (r.v, ⟨seen ms F.es F.hs F.al i k, r.nx⟩) := by
        rcases hk01 with h0 | h1
        · exact astep_pure h0 hs
        · have hrd := C.reads i o r ho hr hon h1 k hJ.kle
          unfold readOk at hrd
          simp only [Bool.or_eq_true] at hrd
          rcases hrd with (hrd | hrd) | hrd
          · obtain ⟨t, e, ht, he, hb⟩ := absd_spec hrd
            rw [hdown e ((hJ.keff t e he).2 ht) i hb] at hi; cases hi
          · obtain ⟨e, he, hb⟩ := List.any_eq_true.1 hrd
            obtain ⟨t, ht⟩ := List.mem_iff_getElem?.1 he
            rw [List.getElem?_drop] at ht
            have := (hJ.keff _ e ht).1 (hm e hb)
            omega
          · split at hrd
            · rename_i v S₂ hs2
              obtain rfl := veq_spec hrd
              obtain rfl := astep_still (.inr h1) hs2
              exact hs2
            · cases hrd
      refine run (k' := k) hsk hnx.symm (C.seen_sub hJ.kle hm) ?_ hJ.kle (hnoeff (by rcases hk01 with h | h <;> simp [h]))
      intro n x hg
      have h1 := hp_same C hL' (hnolay (by simp [hk2])) n x hg
      cases hc : getB (seen ms F.es F.hs F.al i k) n with
      | none => exact .inr ⟨h1, rfl⟩
      | some y =>
        have := C.seen_sub hJ.kle hm n y hc
        rw [h1] at this; obtain rfl := Option.some.inj this
        exact .inl rfl
    · have hk0 : kind o.op ≠ 0 := fun h => hk01 (.inl h)
      have hk1 : kind o.op ≠ 1 := fun h => hk01 (.inr h)
      obtain ⟨t, S', ht, hprev, hs, hnx, hheap⟩ := hf.effect hon hk0 hk1 hk2
      have htl := (List.getElem?_eq_some_iff.1 ht).1
      have htk : t = k := by
        have h1 : ¬ t < k := fun h => by rw [(hJ.keff t i ht).2 h] at hi; cases hi
        rcases Nat.lt_or_ge k t with h | h
        · have hkl : k < F.es.length := by omega
          have hek : F.es[k]? = some F.es[k] := List.getElem?_eq_getElem hkl
          have := (hJ.keff k _ hek).1 (hm _ (hprev k _ h hek))
          omega
        · omega
      subst htk
      refine run (k' := t + 1) hs hnx (C.seen_sub hJ.kle hm) ?_ htl ?_
      · intro n x hg
        unfold hp at hg
        rcases C.getHp hg with ⟨j, hj, hp'⟩ | ⟨hn, hg⟩
        · simp only [Bool.and_eq_true, Bool.not_eq_true', absd_succ ht, Bool.or_eq_false_iff] at hp'
          obtain ⟨q1, q2, q3⟩ := hp'
          right
          rcases (hL' j).1 q1 with hl | rfl
          · refine ⟨C.inOwn hj (by simp only [Bool.and_eq_true, Bool.not_eq_true']; exact ⟨hl, q2⟩), ?_⟩
            unfold seen
            rw [getNotOwn]
            · exact apartOk_spec C.apart j n x t hj hJ.kle q2
            · intro j' y hj'
              obtain ⟨rfl, _⟩ := noTwice_uniq C.twice hj' hj
              simp [q3]
          · exact absurd hj (hnolay (by simp [hk2]) n x)
        · left; rw [← hheap]; exact hg
      · intro s e he
        rw [hL', hJ.keff s e he]
        constructor
        · rintro (h | rfl)
          · omega
          · rcases Nat.lt_trichotomy s t with h | h | h
            · omega
            · omega
            · have h1 := List.pairwise_iff_getElem.1 C.facts.sorted t s htl (List.getElem?_eq_some_iff.1 he).1 h
              rw [(List.getElem?_eq_some_iff.1 ht).2, (List.getElem?_eq_some_iff.1 he).2] at h1
              omega
        · intro h
          rcases Nat.lt_or_ge s t with h' | h'
          · exact .inl h'
          · obtain rfl : s = t := by omega
            rw [ht] at he; exact .inr (Option.some.inj he).symm

end
end Go.Dam
