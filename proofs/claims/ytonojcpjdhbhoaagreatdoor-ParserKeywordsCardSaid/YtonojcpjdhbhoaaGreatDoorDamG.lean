/-
  An own evaluator of closed runs of a program, proved sound against the model for every order of draws and every capacity of append. This text is one part of it; the theorems 'closed', 'evCall_sound' say what a run in the kernel proves. Used for the law's closed self-test and for what it calls on constants.
-/
import Derived.Test.YtonojcpjdhbhoaaGreatDoorDamF
namespace Go.Dam

theorem mem_setNth : ∀ {l : List Value} {n : Nat} {x y : Value}, y ∈ setNth l n x → y = x ∨ y ∈ l
  | [], _, _, _, h => by simp [setNth] at h
  | _ :: _, 0, _, _, h => by
    simp only [setNth, List.mem_cons] at h
    exact h.imp id fun h => by simp [h]
  | _ :: r, n + 1, _, _, h => by
    simp only [setNth, List.mem_cons] at h
    rcases h with h | h
    · exact .inr (by simp [h])
    · exact (mem_setNth h).imp id fun h => by simp [h]

theorem Tm.move {E E' : Env} {A B : Nat → Prop} {tm : List Value} {a : Act} (ht : Tm E A tm a) (hag : Agree A E E') (hAB : ∀ n, A n → B n) : Tm E' B tm a :=
  ⟨by rw [ht.tmps]; congr 1; exact List.map_congr_left fun x hx => (ren_agree hag x (ht.sc x hx)).symm, fun x hx => Sc_mono hAB x (ht.sc x hx)⟩

theorem Tm.put {E E' : Env} {A B : Nat → Prop} {tm : List Value} {a : Act} (ht : Tm E A tm a) (hag : Agree A E E') (hAB : ∀ n, A n → B n) {dst : Option Tmp} {v : Value} (hs : Sc B v) : Tm E' B (putD tm dst v) (a.put dst (ren E' v)) := by
  have h := ht.move hag hAB
  cases dst with
  | none => exact h
  | some d =>
    refine ⟨?_, fun x hx => ?_⟩
    · simp only [Act.put, putD, h.tmps, setNth_toArray]
      simp
    · rcases mem_setNth hx with rfl | hx
      · exact hs
      · exact h.sc x hx

/-- All that the region's run found, and all that it rests on. -/
structure Ctx (P : Program) (callF : Fn → List Value → St → Option (Value × St)) (ops : List Oper) (ms : List Nat) (tm0 : List Value) (F : DR) (E0 : Env) (A : Nat → Prop) (S : St) : Prop where
  calls : CallOk P callF
  names : NamesOk P
  ok : OkD ops ms
  facts : Facts callF P ops ms tm0 F 0 S.next (fun _ => False) (fun _ => False)
  opd : ∀ (i : Nat) (o : Oper) (x : Operand), ops[i]? = some o → x ∈ o.op.operands → okOpd P x = true
  glb : Glb P E0 A
  out : ∀ n, A n → ¬ (S.next ≤ n ∧ n < F.nx)
  reads : ∀ (j : Nat) (o : Oper) (r : Rec), ops[j]? = some o → F.recs[j]? = some r → r.on = true → kind o.op = 1 → ∀ k, k ≤ F.es.length → readOk callF P ms F j o r k = true
  twice : noTwice F.al = true
  apart : apartOk ms F F.al = true

def AL (recs : List Rec) (A : Nat → Prop) (L : Nat → Bool) (n : Nat) : Prop := A n ∨ ∃ l r, L l = true ∧ recs[l]? = some r ∧ r.nx ≤ n ∧ n < r.nx'

def hp (ms : List Nat) (F : DR) (L : Nat → Bool) (k : Nat) : List (Nat × Obj) := own (fun j => L j && !absd ms F.es k j) F.al ++ heapAt F.hs k

/-- Where the region stands, the operations of which L holds being done. -/
structure Stand (P : Program) (ops : List Oper) (ms : List Nat) (tm0 : List Value) (F : DR) (E0 : Env) (A : Nat → Prop) (S : St) (w0 : World) (a0 : Act) (L : Nat → Bool) (E : Env) (tm : List Value) (k : Nat) (a : Act) (w : World) : Prop where
  slots : SlotAt ops F.recs tm0 L tm
  tm : Tm E (AL F.recs A L) tm a
  kle : k ≤ F.es.length
  keff : ∀ t e, F.es[t]? = some e → (L e = true ↔ t < k)
  holds : Holds P E (AL F.recs A L) (hp ms F L k) w
  post : Post P E0 A S.heap S.next w0 E (hp ms F L k) F.nx w
  dfr : a.defers = a0.defers

section
variable {P : Program} {callF : Fn → List Value → St → Option (Value × St)} {ops : List Oper} {ms : List Nat} {tm0 : List Value} {F : DR} {E0 : Env} {A : Nat → Prop} {S : St} {w0 : World} {a0 : Act}
variable {L L' : Nat → Bool} {E : Env} {tm : List Value} {k : Nat} {a : Act} {w : World} {i : Nat} {o : Oper} {r : Rec}

theorem Ctx.bounds (C : Ctx P callF ops ms tm0 F E0 A S) {l : Nat} {r : Rec} (hr : F.recs[l]? = some r) : S.next ≤ r.nx ∧ r.nx ≤ r.nx' ∧ r.nx' ≤ F.nx := by
  have hlt : l < ops.length := by rw [← C.facts.recs]; exact (List.getElem?_eq_some_iff.1 hr).1
  obtain ⟨r', h1, h2, h3⟩ := C.facts.fact l ops[l] (Nat.zero_le _) (List.getElem?_eq_getElem hlt)
  rw [h1.record] at hr; obtain rfl := Option.some.inj hr
  exact ⟨h2, h1.le, h3⟩

theorem Ctx.apartAL (C : Ctx P callF ops ms tm0 F E0 A S) (hr : F.recs[i]? = some r) (hi : L i = false) : ∀ n, AL F.recs A L n → ¬ (r.nx ≤ n ∧ n < r.nx') := by
  intro n hn hin
  obtain ⟨b1, b2, b3⟩ := C.bounds hr
  rcases hn with hn | ⟨l, r', hl, hr', h1, h2⟩
  · exact C.out n hn (by omega)
  · rcases Nat.lt_trichotomy l i with h | h | h
    · have := C.facts.order l i r' r (Nat.zero_le _) h hr' hr; omega
    · subst h; rw [hi] at hl; cases hl
    · have := C.facts.order i l r r' (Nat.zero_le _) h hr hr'; omega

theorem Stand.next (C : Ctx P callF ops ms tm0 F E0 A S) (hJ : Stand P ops ms tm0 F E0 A S w0 a0 L E tm k a w) (ho : ops[i]? = some o) (hr : F.recs[i]? = some r) (hi : L i = false)
    (hL' : ∀ l, L' l = true ↔ L l = true ∨ l = i) {E' : Env} {w' : World} {k' : Nat} {hs hs' : List (Nat × Obj)} (q : Post P E (AL F.recs A L) hs r.nx w E' hs' r.nx' w')
    (hsub : ∀ n x, getB hs n = some x → getB (hp ms F L k) n = some x) (hh : ∀ n x, getB (hp ms F L' k') n = some x → getB hs' n = some x ∨ (getB (hp ms F L k) n = some x ∧ getB hs n = none))
    (hsc : Sc (fun n => AL F.recs A L n ∨ (r.nx ≤ n ∧ n < r.nx')) r.v) (hk' : k' ≤ F.es.length) (heff' : ∀ t e, F.es[t]? = some e → (L' e = true ↔ t < k')) :
    Stand P ops ms tm0 F E0 A S w0 a0 L' E' (putD tm o.dst r.v) k' (a.put o.dst (ren E' r.v)) w' := by
  have hAL := C.apartAL (L := L) hr hi
  have hgrow : ∀ n, AL F.recs A L n ∨ (r.nx ≤ n ∧ n < r.nx') → AL F.recs A L' n := by
    intro n hn
    rcases hn with (hn | ⟨l, r', hl, hx⟩) | hn
    · exact .inl hn
    · exact .inr ⟨l, r', (hL' l).2 (.inl hl), hx⟩
    · exact .inr ⟨i, r, (hL' i).2 (.inr rfl), hr, hn⟩
  have hq := Post.frame hJ.holds hsub q hAL hh
  obtain ⟨b1, b2, b3⟩ := C.bounds hr
  refine ⟨hJ.slots.put C.ok ho hr hi hL', ?_, hk', heff', hq.holds.mono hgrow, hJ.post.wide hq b1 b3 ?_, ?_⟩
  · exact hJ.tm.put (q.agreeA hAL) (fun n hn => hgrow n (.inl hn)) (Sc_mono hgrow _ hsc)
  · intro n hn
    rcases hn with (hn | ⟨l, r', hl, hr', hx⟩) | hn
    · exact .inl hn
    · have := C.bounds hr'; exact .inr (by omega)
    · exact .inr (by omega)
  · rw [← hJ.dfr]; unfold Act.put; split <;> rfl

theorem Ctx.getHp (C : Ctx P callF ops ms tm0 F E0 A S) {p : Nat → Bool} {h : List (Nat × Obj)} {n : Nat} {x : Obj} (hg : getB (own p F.al ++ h) n = some x) :
    (∃ j, (j, n, x) ∈ F.al ∧ p j = true) ∨ ((∀ j y, (j, n, y) ∈ F.al → p j = false) ∧ getB h n = some x) := by
  rw [getB_append] at hg
  cases hc : getB (own p F.al) n with
  | some y =>
    rw [hc] at hg; obtain rfl := Option.some.inj hg
    exact .inl (getOwn_some hc)
  | none =>
    rw [hc] at hg
    refine .inr ⟨fun j y hj => ?_, hg⟩
    cases hp : p j with
    | false => rfl
    | true => rw [getOwn_mem C.twice hj hp] at hc; cases hc

theorem Ctx.inOwn (C : Ctx P callF ops ms tm0 F E0 A S) {p : Nat → Bool} {h : List (Nat × Obj)} {j n : Nat} {x : Obj} (hj : (j, n, x) ∈ F.al) (hp : p j = true) : getB (own p F.al ++ h) n = some x := by
  rw [getB_append, getOwn_mem C.twice hj hp]

theorem getNotOwn {p : Nat → Bool} {al : List (Nat × Nat × Obj)} {h : List (Nat × Obj)} {n : Nat} (hn : ∀ j y, (j, n, y) ∈ al → p j = false) : getB (own p al ++ h) n = getB h n := by
  rw [getB_append]
  cases hc : getB (own p al) n with
  | none => rfl
  | some y => obtain ⟨j, hj, hp⟩ := getOwn_some hc; rw [hn j y hj] at hp; cases hp

/-- What operation i sees is a part of what there is. -/
theorem Ctx.seen_sub (C : Ctx P callF ops ms tm0 F E0 A S) (hk : k ≤ F.es.length) (hm : ∀ j, Nat.testBit (natAt ms i) j = true → L j = true) : ∀ n x, getB (seen ms F.es F.hs F.al i k) n = some x → getB (hp ms F L k) n = some x := by
  intro n x hg
  unfold seen at hg
  unfold hp
  rcases C.getHp hg with ⟨j, hj, hp⟩ | ⟨hno, hg⟩
  · simp only [Bool.and_eq_true] at hp
    exact C.inOwn hj (by simp only [Bool.and_eq_true]; exact ⟨hm j hp.1, hp.2⟩)
  · rw [getNotOwn]
    · exact hg
    · intro j y hj
      cases hab : absd ms F.es k j with
      | true => simp
      | false => rw [apartOk_spec C.apart j n y k hj hk hab] at hg; cases hg

end
end Go.Dam

namespace Go.Dam

theorem own_congr {p q : Nat → Bool} : ∀ {al : List (Nat × Nat × Obj)}, (∀ x ∈ al, p x.1 = q x.1) → own p al = own q al
  | [], _ => rfl
  | (j, n, o) :: r, h => by
    have hj : p j = q j := h (j, n, o) (by simp)
    simp only [own]
    rw [own_congr (al := r) fun x hx => h x (by simp [hx]), hj]

section
variable {P : Program} {callF : Fn → List Value → St → Option (Value × St)} {opsA : Array Oper} {ms : List Nat} {tm0 : List Value} {F : DR} {E0 : Env} {A : Nat → Prop} {S : St} {w0 : World} {a0 : Act}
variable {L L' : Nat → Bool} {E : Env} {tm : List Value} {k : Nat} {a : Act} {w : World} {i : Nat} {o : Oper} {r : Rec}

theorem Ctx.globals (C : Ctx P callF opsA.toList ms tm0 F E0 A S) (hJ : Stand P opsA.toList ms tm0 F E0 A S w0 a0 L E tm k a w) : Glb P E (AL F.recs A L) := by
  intro g hg
  obtain ⟨h1, h2, h3⟩ := C.glb g hg
  obtain ⟨e1, e2, _⟩ := hJ.post.agree (2 * g) (C.out _ h3)
  exact ⟨by rw [e1, h1], by rw [e2, h2], .inl h3⟩

theorem hp_same (C : Ctx P callF opsA.toList ms tm0 F E0 A S) (hL' : ∀ l, L' l = true ↔ L l = true ∨ l = i) (hno : ∀ n y, (i, n, y) ∉ F.al) : ∀ n x, getB (hp ms F L' k) n = some x → getB (hp ms F L k) n = some x := by
  intro n x hg
  unfold hp at hg ⊢
  rcases C.getHp hg with ⟨j, hj, hp⟩ | ⟨hn, hg⟩
  · simp only [Bool.and_eq_true] at hp
    rcases (hL' j).1 hp.1 with hl | rfl
    · exact C.inOwn hj (by simp only [Bool.and_eq_true]; exact ⟨hl, hp.2⟩)
    · exact absurd hj (hno n x)
  · rw [getNotOwn]
    · exact hg
    · intro j y hj
      have := hn j y hj
      cases hl : L j with
      | false => rfl
      | true => rw [(hL' j).2 (.inl hl)] at this; simpa using this

theorem Stand.step (C : Ctx P callF opsA.toList ms tm0 F E0 A S) (hJ : Stand P opsA.toList ms tm0 F E0 A S w0 a0 L E tm k a w) (ho : opsA.toList[i]? = some o) (hi : L i = false)
    (hm : ∀ j, Nat.testBit (natAt ms i) j = true → L j = true) (hdown : ∀ l, L l = true → ∀ j, Nat.testBit (natAt ms l) j = true → L j = true) (hL' : ∀ l, L' l = true ↔ L l = true ∨ l = i)
    {ro : Option Nat} {K : Act → World → Prop} {Q : Exit → Act → World → Prop} (hK : ∀ E' tm' k' a' w', Stand P opsA.toList ms tm0 F E0 A S w0 a0 L' E' tm' k' a' w' → K a' w') :
    if Region.wanted o (yielded opsA a.tmps) = true then o.wpIn (rd ro) 0 P a w K Q else K (a.put o.dst undef) w := by
  obtain ⟨r, hf, hn1, hn2⟩ := C.facts.fact i o (Nat.zero_le _) ho
  have hr := hf.record
  have hslot : ∀ t, slotOk ms opsA.toList i t = true → nth tm t = nth r.tm t := fun t ht =>
    SlotAt.agree C.facts.recs hJ.slots hf.slots ht hi ((blt_false i i).2 (Nat.le_refl _)) hm (fun l hl => (blt_iff l i).2 (C.ok.mask i o l ho hl).1)
      (fun l hl hs => by
        cases hLl : L l with
        | false => rfl
        | true => rw [hdown l hLl i hl] at hi; cases hi)
      (fun l hl hs => by
        obtain ⟨o', ho'⟩ := Option.isSome_iff_exists.1 hs
        have := (C.ok.mask l o' i ho' hl).1
        exact (blt_false l i).2 (by omega))
  have hopd : ∀ x ∈ o.op.operands, aeval tm x = aeval r.tm x := by
    intro x hx
    cases x with
    | tmp t => exact hslot t (C.ok.slot i o _ t ho hx rfl)
    | _ => rfl
  have hgd : aguard opsA.toList tm o = r.on := by
    rw [hf.on]
    exact aguard_congr fun g want p d hg hp hd => hslot d (C.ok.guard i o g want p d ho hg hp hd)
  have hnoeff : ¬ (r.on = true ∧ kind o.op ≠ 0 ∧ kind o.op ≠ 1 ∧ kind o.op ≠ 2) → ∀ t e, F.es[t]? = some e → (L' e = true ↔ t < k) := by
    intro hne t e he
    rw [hL', ← hJ.keff t e he]
    refine ⟨fun h => h.resolve_right ?_, .inl⟩
    rintro rfl
    rcases C.facts.effects t e he with h | ⟨o', r', ho', hr', h⟩
    · exact h
    · rw [ho] at ho'; obtain rfl := Option.some.inj ho'
      rw [hr] at hr'; obtain rfl := Option.some.inj hr'
      exact hne h
  have hnolay : ¬ (r.on = true ∧ kind o.op = 2) → ∀ n y, (i, n, y) ∉ F.al := by
    intro hne n y hy
    rcases C.facts.laid _ hy with h | ⟨o', r', ho', hr', h1, h2, _⟩
    · exact h
    · rw [ho] at ho'; obtain rfl := Option.some.inj ho'
      rw [hr] at hr'; obtain rfl := Option.some.inj hr'
      exact hne ⟨h1, h2⟩
  rw [wanted_eq hJ.tm, hgd]
  cases hon : r.on with
  | false =>
    obtain ⟨u1, u2⟩ := hf.off hon
    have hq : Post P E (AL F.recs A L) (hp ms F L k) r.nx w E (hp ms F L k) r.nx' w := by rw [u2]; exact Post.refl hJ.holds
    have := hJ.next C ho hr hi hL' (k' := k) hq (fun _ _ h => h) (fun n x hg => .inl (hp_same C hL' (hnolay (by simp [hon])) n x hg)) (by rw [u1]; exact Sc_undef _) hJ.kle (hnoeff (by simp [hon]))
    rw [u1, ren_undef] at this
    simp only [Bool.false_eq_true, if_false]
    exact hK _ _ _ _ _ this
  | true =>
    simp only [if_true]
    have hsel : ∀ {T S' : St} {v : Value}, astep callF P r.tm T o = some (v, S') → ∀ cs b, o.op ≠ .select cs b := by
      intro T S' v h cs b e
      obtain ⟨dst, op, ty, pos, after, guard⟩ := o
      simp only at e
      subst e
      simp [astep] at h
    -- one step of the evaluator, brought into the world
    have run : ∀ {h : List (Nat × Obj)} {S' : St} {k' : Nat}, astep callF P r.tm ⟨h, r.nx⟩ o = some (r.v, S') → S'.next = r.nx' →
        (∀ n x, getB h n = some x → getB (hp ms F L k) n = some x) → (∀ n x, getB (hp ms F L' k') n = some x → getB S'.heap n = some x ∨ (getB (hp ms F L k) n = some x ∧ getB h n = none)) →
        k' ≤ F.es.length → (∀ t e, F.es[t]? = some e → (L' e = true ↔ t < k')) → o.wpIn (rd ro) 0 P a w K Q := by
      intro h S' k' hs hnx hsub hh hk' heff'
      have hs' : astep callF P tm ⟨h, r.nx⟩ o = some (r.v, S') := by rw [astep_congr (hsel hs) hopd]; exact hs
      refine astep_sound (A := AL F.recs A L) C.calls C.names hJ.tm (C.globals hJ) (S := ⟨h, r.nx⟩) hf.ev (hJ.holds.sub hsub) (fun x hx => C.opd i o x ho hx) (by simp only [hnx]; exact C.apartAL hr hi) hs' (astep_noDefer hs') ro K Q ?_
      intro E' w' hq hsc
      rw [hnx] at hq hsc
      exact hK _ _ _ _ _ (hJ.next C ho hr hi hL' hq hsub hh hsc hk' heff')
    by_cases hk2 : kind o.op = 2
    · obtain ⟨n, b, hmem, hs⟩ := hf.lays hon hk2
      refine run (k' := k) hs rfl (fun _ _ h => by simp [getB] at h) ?_ hJ.kle (hnoeff (by simp [hk2]))
      intro n' x hg
      unfold hp at hg
      rcases C.getHp hg with ⟨j, hj, hp'⟩ | ⟨hn, hg⟩
      · simp only [Bool.and_eq_true] at hp'
        rcases (hL' j).1 hp'.1 with hl | rfl
        · exact .inr ⟨C.inOwn hj (by simp only [Bool.and_eq_true]; exact ⟨hl, hp'.2⟩), rfl⟩
        · left
          rcases C.facts.laid _ hj with h | ⟨o', r', ho', hr', _, _, h3⟩
          · exact h.elim
          · rw [ho] at ho'; obtain rfl := Option.some.inj ho'
            rw [hr] at hr'; obtain rfl := Option.some.inj hr'
            rw [hs] at h3
            simp only [Option.some.injEq, Prod.mk.injEq, St.mk.injEq, List.cons.injEq, and_true, true_and] at h3
            obtain ⟨rfl, rfl⟩ := h3
            simp [getB]
      · right
        refine ⟨?_, rfl⟩
        unfold hp
        rw [getNotOwn]
        · exact hg
        · intro j y hj
          have := hn j y hj
          cases hl : L j with
          | false => rfl
          | true => rw [(hL' j).2 (.inl hl)] at this; simpa using this
    by_cases hk01 : kind o.op = 0 ∨ kind o.op = 1
    · obtain ⟨hnx, k0, S', hk0, hs⟩ := hf.reads hon hk01
      have hst := astep_still hk01 hs
      have hsk : astep callF P r.tm ⟨seen ms F.es F.hs F.al i k, r.nx⟩ o = some (r.v, ⟨seen ms F.es F.hs F.al i k, r.nx⟩) := by
        rcases hk01 with h0 | h1
        · exact astep_pure h0 hs
        · have hrd := C.reads i o r ho hr hon h1 k hJ.kle
          unfold readOk at hrd
          simp only [Bool.or_eq_true] at hrd
          rcases hrd with (hrd | hrd) | hrd
          · obtain ⟨t, e, ht, he, hb⟩ := absd_spec hrd
            rw [hdown e ((hJ.keff t e he).2 ht) i hb] at hi; cases hi
          · obtain ⟨e, he, hb⟩ := List.any_eq_true.1 hrd
            obtain ⟨t, ht⟩ := List.mem_iff_getElem?.1 he
            rw [List.getElem?_drop] at ht
            have := (hJ.keff _ e ht).1 (hm e hb)
            omega
          · split at hrd
            · rename_i v S₂ hs2
              obtain rfl := veq_spec hrd
              obtain rfl := astep_still (.inr h1) hs2
              exact hs2
            · cases hrd
      refine run (k' := k) hsk hnx.symm (C.seen_sub hJ.kle hm) ?_ hJ.kle (hnoeff (by rcases hk01 with h | h <;> simp [h]))
      intro n x hg
      have h1 := hp_same C hL' (hnolay (by simp [hk2])) n x hg
      cases hc : getB (seen ms F.es F.hs F.al i k) n with
      | none => exact .inr ⟨h1, rfl⟩
      | some y =>
        have := C.seen_sub hJ.kle hm n y hc
        rw [h1] at this; obtain rfl := Option.some.inj this
        exact .inl rfl
    · have hk0 : kind o.op ≠ 0 := fun h => hk01 (.inl h)
      have hk1 : kind o.op ≠ 1 := fun h => hk01 (.inr h)
      obtain ⟨t, S', ht, hprev, hs, hnx, hheap⟩ := hf.effect hon hk0 hk1 hk2
      have htl := (List.getElem?_eq_some_iff.1 ht).1
      have htk : t = k := by
        have h1 : ¬ t < k := fun h => by rw [(hJ.keff t i ht).2 h] at hi; cases hi
        rcases Nat.lt_or_ge k t with h | h
        · have hkl : k < F.es.length := by omega
          have hek : F.es[k]? = some F.es[k] := List.getElem?_eq_getElem hkl
          have := (hJ.keff k _ hek).1 (hm _ (hprev k _ h hek))
          omega
        · omega
      subst htk
      refine run (k' := t + 1) hs hnx (C.seen_sub hJ.kle hm) ?_ htl ?_
      · intro n x hg
        unfold hp at hg
        rcases C.getHp hg with ⟨j, hj, hp'⟩ | ⟨hn, hg⟩
        · simp only [Bool.and_eq_true, Bool.not_eq_true', absd_succ ht, Bool.or_eq_false_iff] at hp'
          obtain ⟨q1, q2, q3⟩ := hp'
          right
          rcases (hL' j).1 q1 with hl | rfl
          · refine ⟨C.inOwn hj (by simp only [Bool.and_eq_true, Bool.not_eq_true']; exact ⟨hl, q2⟩), ?_⟩
            unfold seen
            rw [getNotOwn]
            · exact apartOk_spec C.apart j n x t hj hJ.kle q2
            · intro j' y hj'
              obtain ⟨rfl, _⟩ := noTwice_uniq C.twice hj' hj
              simp [q3]
          · exact absurd hj (hnolay (by simp [hk2]) n x)
        · left; rw [← hheap]; exact hg
      · intro s e he
        rw [hL', hJ.keff s e he]
        constructor
        · rintro (h | rfl)
          · omega
          · rcases Nat.lt_trichotomy s t with h | h | h
            · omega
            · omega
            · have h1 := List.pairwise_iff_getElem.1 C.facts.sorted t s htl (List.getElem?_eq_some_iff.1 he).1 h
              rw [(List.getElem?_eq_some_iff.1 ht).2, (List.getElem?_eq_some_iff.1 he).2] at h1
              omega
        · intro h
          rcases Nat.lt_or_ge s t with h' | h'
          · exact .inl h'
          · obtain rfl : s = t := by omega
            rw [ht] at he; exact .inr (Option.some.inj he).symm

end
end Go.Dam

namespace Go.Dam

section
variable {P : Program} {callF : Fn → List Value → St → Option (Value × St)} {opsA : Array Oper} {ms : List Nat} {tm0 : List Value} {F : DR} {E0 : Env} {A : Nat → Prop} {S : St} {w0 : World} {a0 : Act}

theorem Stand.any (C : Ctx P callF opsA.toList ms tm0 F E0 A S) {ro : Option Nat} {Q : Exit → Act → World → Prop}
    (hQ : ∀ E tm k a w L, (∀ j, j < opsA.size → L j = true) → Stand P opsA.toList ms tm0 F E0 A S w0 a0 L E tm k a w → Q .normal a w) :
    ∀ (fuel : Nat) (listed : Array Bool) (rem : List Nat) (E : Env) (tm : List Value) (k : Nat) (a : Act) (w : World), listed.size = opsA.size → rem.length ≤ fuel → (∀ j, j < opsA.size → listed.getD j false = false → j ∈ rem) →
      (∀ l, listed.getD l false = true → ∀ j, Nat.testBit (natAt ms l) j = true → listed.getD j false = true) →
      Stand P opsA.toList ms tm0 F E0 A S w0 a0 (fun j => listed.getD j false) E tm k a w → wpAnyIn (rd ro) 0 P .any opsA Q fuel listed a w := by
  have hall : ∀ (listed : Array Bool), listed.size = opsA.size → Region.ready .any opsA listed = [] → ∀ j, j < opsA.size → listed.getD j false = true := by
    intro listed hsz hr j
    induction j using Nat.strongRecOn with
    | _ j ih =>
      intro hj
      cases hc : listed.getD j false with
      | true => rfl
      | false =>
        exfalso
        have ho : opsA[j]? = some opsA[j] := Array.getElem?_eq_getElem hj
        have : j ∈ Region.ready .any opsA listed := by
          rw [mem_ready]
          refine ⟨?_, opsA[j], ho, fun e he hb => ?_⟩
          · have hjl : j < listed.size := by omega
            simp only [Array.getD, hjl, dif_pos] at hc ⊢
            exact hc
          · have := C.ok.early j opsA[j] e (by simp [ho]) he hb
            exact ih e.on this (by omega)
        rw [hr] at this; cases this
  intro fuel
  induction fuel with
  | zero =>
    intro listed rem E tm k a w hsz hrem hmem hdown hJ
    have hrem0 : rem = [] := List.length_eq_zero_iff.1 (by omega)
    subst hrem0
    have hL : ∀ j, j < opsA.size → listed.getD j false = true := by
      intro j hj
      cases hc : listed.getD j false with
      | true => rfl
      | false => have := hmem j hj hc; cases this
    refine ⟨?_, hQ E tm k a w _ hL hJ⟩
    rw [List.eq_nil_iff_forall_not_mem]
    intro j hj
    obtain ⟨h1, o, ho, _⟩ := mem_ready.1 hj
    have hlt : j < opsA.size := (Array.getElem?_eq_some_iff.1 ho).1
    have h2 := hL j hlt
    have hjl : j < listed.size := by omega
    simp only [Array.getD, hjl, dif_pos] at h1 h2
    rw [h1] at h2; cases h2
  | succ fuel ih =>
    intro listed rem E tm k a w hsz hrem hmem hdown hJ
    refine ⟨fun hr => hQ E tm k a w _ (hall listed hsz hr) hJ, fun i hi => ?_⟩
    obtain ⟨h1, o, ho, hedge⟩ := mem_ready.1 hi
    have hlt : i < opsA.size := (Array.getElem?_eq_some_iff.1 ho).1
    have hil : i < listed.size := by omega
    have hi0 : listed.getD i false = false := by
      simp only [Array.getD, hil, dif_pos] at h1 ⊢
      exact h1
    have ho' : opsA.toList[i]? = some o := by simpa using ho
    have hm : ∀ j, Nat.testBit (natAt ms i) j = true → listed.getD j false = true := by
      intro j hj
      obtain ⟨_, e, he, hb, hx⟩ := C.ok.mask i o j ho' hj
      rcases hx with rfl | hx
      · exact hedge e he hb
      · exact hdown e.on (hedge e he hb) j hx
    have hL' : ∀ l, (fun j => (listed.setIfInBounds i true).getD j false) l = true ↔ (fun j => listed.getD j false) l = true ∨ l = i := by
      intro l
      by_cases hli : l = i
      · subst hli
        simp only [or_true, iff_true]
        simp [hil]
      · simp only [hli, or_false]
        rw [getD_set_ne false (fun e => hli e.symm)]
    unfold wpOpIn
    rw [ho]
    simp only
    have hstep := Stand.step (L := fun j => listed.getD j false) (L' := fun j => (listed.setIfInBounds i true).getD j false) C hJ ho' hi0 hm hdown hL' (ro := ro) (K := wpAnyIn (rd ro) 0 P .any opsA Q fuel (listed.setIfInBounds i true)) (Q := Q) (fun E' tm' k' a' w' hJ' => by
      refine ih (listed.setIfInBounds i true) (rem.erase i) E' tm' k' a' w' (by simpa using hsz) ?_ ?_ ?_ hJ'
      · have : i ∈ rem := hmem i hlt hi0
        rw [List.length_erase_of_mem this]; omega
      · intro j hj hc
        have hne : j ≠ i := by
          rintro rfl
          have := (hL' j).2 (.inr rfl)
          simp only at this
          rw [this] at hc; cases hc
        rw [getD_set_ne false (fun e => hne e.symm)] at hc
        exact (List.mem_erase_of_ne hne).2 (hmem j hj hc)
      · intro l hl j hj
        refine (hL' j).2 (.inl ?_)
        rcases (hL' l).1 hl with hl | rfl
        · exact hdown l hl j hj
        · exact hm j hj)
    split
    · rename_i hw
      rw [if_pos hw] at hstep; exact hstep
    · rename_i hw
      rw [if_neg hw] at hstep; exact ⟨fun _ _ => trivial, hstep⟩

theorem okOps_spec {l : List Oper} (h : okOps P l = true) : ∀ (i : Nat) (o : Oper) (x : Operand), l[i]? = some o → x ∈ o.op.operands → okOpd P x = true := by
  intro i o x ho hx
  have := allFrom_spec h i o ho
  exact List.all_eq_true.1 this x (by simpa using hx)

/-- A region that draws its order. -/
theorem evalDraw_sound (hm : P.follows .mixedOrders = true) (hcf : CallOk P callF) (hnm : NamesOk P) {E : Env} {tm tm' : List Value} {S' : St} {a : Act} {w : World} {rid : Nat} {ro : Option Nat} {Q : Exit → Act → World → Prop} (hops : okOps P opsA.toList = true) (hd : okDraw opsA.toList = true) (hb : evalDraw callF P opsA.toList tm S = some (tm', S'))
    (ht : Tm E A tm a) (hg : Glb P E A) (hev : S.next % 2 = 0) (H : Holds P E A S.heap w) (hA : ∀ n, A n → ¬ (S.next ≤ n ∧ n < S'.next))
    (hQ : ∀ E' a' w', Post P E A S.heap S.next w E' S'.heap S'.next w' → Tm E' (fun n => A n ∨ (S.next ≤ n ∧ n < S'.next)) tm' a' → a'.defers = a.defers → Q .normal a' w') :
    (Code.region rid opsA true).wpIn (rd ro) 0 P Q a w := by
  unfold evalDraw at hb
  split at hb
  · rename_i F hF
    simp only [Option.ite_none_right_eq_some, Option.some.injEq, Prod.mk.injEq, Bool.and_eq_true] at hb
    obtain ⟨⟨⟨k1, k2⟩, k3⟩, rfl, rfl⟩ := hb
    have hok := okDraw_spec hd
    have hsl0 : SlotAt opsA.toList F.recs tm (fun l => Nat.blt l 0) tm := ⟨rfl, fun d _ => ⟨fun l o r _ _ hl => by rw [blt_iff] at hl; omega, fun _ => rfl⟩⟩
    have hfacts := dRun_facts (tm0 := tm) hok hF (fun j => by simp) (by simp) rfl rfl hev hsl0 (by simp) (by simp)
    have hfacts : Facts callF P opsA.toList (maskList opsA.toList []) tm F 0 S.next (fun _ => False) (fun _ => False) :=
      { hfacts with
        effects := fun t e he => (hfacts.effects t e he).imp (fun h => by simp at h) id
        laid := fun x hx => (hfacts.laid x hx).imp (fun h => by simp at h) id }
    obtain ⟨_, _, _, _, _, _, _, phs, _⟩ := dRun_prefix hF
    have h0 : heapAt F.hs 0 = S.heap := by
      obtain ⟨recs', es', hs', al', q1, q2, q3, q4, _⟩ := dRun_prefix hF
      rw [q4]; rfl
    simp only at hA hQ
    have C : Ctx P callF opsA.toList (maskList opsA.toList []) tm F E A S :=
      { calls := hcf, names := hnm, ok := hok, facts := hfacts, opd := okOps_spec hops, glb := hg, out := hA, twice := k2, apart := k3,
        reads := fun j o r ho hr hon hk k hkl => by simpa using readsOk_spec k1 j o r ho hr hon hk k hkl }
    refine wpIn_region_any hm (Stand.any (ro := ro) (w0 := w) (a0 := a) C ?_ opsA.size _ (List.range opsA.size) E tm 0 a _ (by simp) (by simp) (fun j hj _ => List.mem_range.2 hj) ?_ ?_)
    · intro E' tm₁ k a' w' L hL hJ
      have hke : k = F.es.length := by
        rcases Nat.lt_or_ge k F.es.length with h | h
        · have hek : F.es[k]? = some F.es[k] := List.getElem?_eq_getElem h
          have hlt : F.es[k] < opsA.size := by
            rcases hfacts.effects k _ hek with h | ⟨o, r, ho, _⟩
            · exact h.elim
            · simpa using (List.getElem?_eq_some_iff.1 ho).1
          have := (hJ.keff k _ hek).1 (hL _ hlt)
          omega
        · have := hJ.kle; omega
      subst hke
      have htm : tm₁ = F.tm := by
        refine nth_ext (by rw [hJ.slots.1, hfacts.slots.1]) fun d hd => ?_
        rw [hJ.slots.1] at hd
        obtain ⟨p3, p4⟩ := hJ.slots.2 d hd
        obtain ⟨q3, q4⟩ := hfacts.slots.2 d hd
        by_cases hex : ∃ (l : Nat) (o : Oper), opsA.toList[l]? = some o ∧ o.dst = some d
        · obtain ⟨l, o, ho, hdo⟩ := hex
          have hlt := (List.getElem?_eq_some_iff.1 ho).1
          have hl : l < F.recs.length := by rw [hfacts.recs]; exact hlt
          have hr := List.getElem?_eq_getElem hl
          rw [p3 l o _ ho hr (hL l (by simpa using hlt)) hdo, q3 l o _ ho hr ((blt_iff _ _).2 hlt) hdo]
        · rw [p4 fun l o ho _ hdo => hex ⟨l, o, ho, hdo⟩, q4 fun l o ho _ hdo => hex ⟨l, o, ho, hdo⟩]
      subst htm
      have hhp : hp (maskList opsA.toList []) F L F.es.length = own (fun j => !absd (maskList opsA.toList []) F.es F.es.length j) F.al ++ heapAt F.hs F.es.length := by
        unfold hp
        rw [own_congr]
        intro x hx
        rcases hfacts.laid x hx with h | ⟨o, r, ho, _⟩
        · exact h.elim
        · simp [hL x.1 (by simpa using (List.getElem?_eq_some_iff.1 ho).1)]
      have hpost := hJ.post
      rw [hhp] at hpost
      refine hQ E' a' w' hpost ⟨hJ.tm.tmps, fun x hx => Sc_mono ?_ x (hJ.tm.sc x hx)⟩ hJ.dfr
      rintro n (hn | ⟨l, r, hl, hr, hx⟩)
      · exact .inl hn
      · have := C.bounds hr; exact .inr (by omega)
    · intro l hl
      exfalso
      by_cases h : l < opsA.size <;> simp [h] at hl
    · have hno : ∀ j, (Array.replicate opsA.size false).getD j false = false := by
        intro j
        by_cases h : j < opsA.size <;> simp [h]
      have hhp : ∀ n x, getB (hp (maskList opsA.toList []) F (fun j => (Array.replicate opsA.size false).getD j false) 0) n = some x → getB S.heap n = some x := by
        intro n x hg
        unfold hp at hg
        rw [getNotOwn (fun j y _ => by simp only [hno]; rfl), h0] at hg
        exact hg
      have hhd : Holds P E A S.heap { w with drawn := w.drawn + 1 } := H.world rfl
      refine ⟨⟨rfl, fun d _ => ⟨fun l o r _ _ hl => (by simp only [hno] at hl; cases hl), fun _ => rfl⟩⟩, ⟨ht.tmps, fun x hx => Sc_mono (fun n hn => .inl hn) x (ht.sc x hx)⟩, Nat.zero_le _, fun t e _ => ?_, (hhd.sub hhp).mono fun n hn => .inl hn, ?_, rfl⟩
      · simp only [hno]; simp
      · exact (Post.world (w₁ := { w with drawn := w.drawn + 1 }) (Post.start H hfacts.le (by rw [hfacts.ev, hev])) rfl rfl rfl rfl).drop hhp
  · simp at hb

end
end Go.Dam
