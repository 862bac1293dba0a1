/-
  An own evaluator of closed runs of a program, proved sound against the model for every order of draws and every capacity of append. This text is one part of it; the theorems 'closed', 'evCall_sound' say what a run in the kernel proves. Used for the law's closed self-test and for what it calls on constants.
-/
import Derived.Test.YtmoddgkjaimpfaaGreatDoorDamF
namespace Go.Dam

theorem mem_setNth : ∀ {l : List Value} {n : Nat} {x y : Value}, y ∈ setNth l n x → y = x ∨ y ∈ l
  | [], _, _, _, h => by simp [setNth] at h
  | _ :: _, 0, _, _, h => by
    simp only [setNth, List.mem_cons] at h
    exact h.imp id fun h => by simp [h]
  | _ :: r, n + 1, _, _, h => by
    simp only [setNth, List.mem_cons] at h
    rcases h with h | h
    · exact .inr (by simp [h])
    · exact (mem_setNth h).imp id fun h => by simp [h]

theorem Tm.move {E E' : Env} {A B : Nat → Prop} {tm : List Value} {a : Act} (ht : Tm E A tm a) (hag : Agree A E E') (hAB : ∀ n, A n → B n) : Tm E' B tm a :=
  ⟨by rw [ht.tmps]; congr 1; exact List.map_congr_left fun x hx => (ren_agree hag x (ht.sc x hx)).symm, fun x hx => Sc_mono hAB x (ht.sc x hx)⟩

theorem Tm.put {E E' : Env} {A B : Nat → Prop} {tm : List Value} {a : Act} (ht : Tm E A tm a) (hag : Agree A E E') (hAB : ∀ n, A n → B n) {dst : Option Tmp} {v : Value} (hs : Sc B v) : Tm E' B (putD tm dst v) (a.put dst (ren E' v)) := by
  have h := ht.move hag hAB
  cases dst with
  | none => exact h
  | some d =>
    refine ⟨?_, fun x hx => ?_⟩
    · simp only [Act.put, putD, h.tmps, setNth_toArray]
      simp
    · rcases mem_setNth hx with rfl | hx
      · exact hs
      · exact h.sc x hx

/-- All that the region's run found, and all that it rests on. -/
structure Ctx (P : Program) (callF : Fn → List Value → St → Option (Value × St)) (ops : List Oper) (ms : List Nat) (tm0 : List Value) (F : DR) (E0 : Env) (A : Nat → Prop) (S : St) : Prop where
  calls : CallOk P callF
  names : NamesOk P
  ok : OkD ops ms
  facts : Facts callF P ops ms tm0 F 0 S.next (fun _ => False) (fun _ => False)
  opd : ∀ (i : Nat) (o : Oper) (x : Operand), ops[i]? = some o → x ∈ o.op.operands → okOpd P x = true
  glb : Glb P E0 A
  out : ∀ n, A n → ¬ (S.next ≤ n ∧ n < F.nx)
  reads : ∀ (j : Nat) (o : Oper) (r : Rec), ops[j]? = some o → F.recs[j]? = some r → r.on = true → kind o.op = 1 → ∀ k, k ≤ F.es.length → readOk callF P ms F j o r k = true
  twice : noTwice F.al = true
  apart : apartOk ms F F.al = true

def AL (recs : List Rec) (A : Nat → Prop) (L : Nat → Bool) (n : Nat) : Prop := A n ∨ ∃ l r, L l = true ∧ recs[l]? = some r ∧ r.nx ≤ n ∧ n < r.nx'

def hp (ms : List Nat) (F : DR) (L : Nat → Bool) (k : Nat) : List (Nat × Obj) := own (fun j => L j && !absd ms F.es k j) F.al ++ heapAt F.hs k

/-- Where the region stands, the operations of which L holds being done. -/
structure Stand (P : Program) (ops : List Oper) (ms : List Nat) (tm0 : List Value) (F : DR) (E0 : Env) (A : Nat → Prop) (S : St) (w0 : World) (a0 : Act) (L : Nat → Bool) (E : Env) (tm : List Value) (k : Nat) (a : Act) (w : World) : Prop where
  slots : SlotAt ops F.recs tm0 L tm
  tm : Tm E (AL F.recs A L) tm a
  kle : k ≤ F.es.length
  keff : ∀ t e, F.es[t]? = some e → (L e = true ↔ t < k)
  holds : Holds P E (AL F.recs A L) (hp ms F L k) w
  post : Post P E0 A S.heap S.next w0 E (hp ms F L k) F.nx w
  dfr : a.defers = a0.defers

section
variable {P : Program} {callF : Fn → List Value → St → Option (Value × St)} {ops : List Oper} {ms : List Nat} {tm0 : List Value} {F : DR} {E0 : Env} {A : Nat → Prop} {S : St} {w0 : World} {a0 : Act}
variable {L L' : Nat → Bool} {E : Env} {tm : List Value} {k : Nat} {a : Act} {w : World} {i : Nat} {o : Oper} {r : Rec}

theorem Ctx.bounds (C : Ctx P callF ops ms tm0 F E0 A S) {l : Nat} {r : Rec} (hr : F.recs[l]? = some r) : S.next ≤ r.nx ∧ r.nx ≤ r.nx' ∧ r.nx' ≤ F.nx := by
  have hlt : l < ops.length := by rw [← C.facts.recs]; exact (List.getElem?_eq_some_iff.1 hr).1
  obtain ⟨r', h1, h2, h3⟩ := C.facts.fact l ops[l] (Nat.zero_le _) (List.getElem?_eq_getElem hlt)
  rw [h1.record] at hr; obtain rfl := Option.some.inj hr
  exact ⟨h2, h1.le, h3⟩

theorem Ctx.apartAL (C : Ctx P callF ops ms tm0 F E0 A S) (hr : F.recs[i]? = some r) (hi : L i = false) : ∀ n, AL F.recs A L n → ¬ (r.nx ≤ n ∧ n < r.nx') := by
  intro n hn hin
  obtain ⟨b1, b2, b3⟩ := C.bounds hr
  rcases hn with hn | ⟨l, r', hl, hr', h1, h2⟩
  · exact C.out n hn (by omega)
  · rcases Nat.lt_trichotomy l i with h | h | h
    · have := C.facts.order l i r' r (Nat.zero_le _) h hr' hr; omega
    · subst h; rw [hi] at hl; cases hl
    · have := C.facts.order i l r r' (Nat.zero_le _) h hr hr'; omega

theorem Stand.next (C : Ctx P callF ops ms tm0 F E0 A S) (hJ : Stand P ops ms tm0 F E0 A S w0 a0 L E tm k a w) (ho : ops[i]? = some o) (hr : F.recs[i]? = some r) (hi : L i = false)
    (hL' : ∀ l, L' l = true ↔ L l = true ∨ l = i) {E' : Env} {w' : World} {k' : Nat} {hs hs' : List (Nat × Obj)} (q : Post P E (AL F.recs A L) hs r.nx w E' hs' r.nx' w')
    (hsub : ∀ n x, getB hs n = some x → getB (hp ms F L k) n = some x) (hh : ∀ n x, getB (hp ms F L' k') n = some x → getB hs' n = some x ∨ (getB (hp ms F L k) n = some x ∧ getB hs n = none))
    (hsc : Sc (fun n => AL F.recs A L n ∨ (r.nx ≤ n ∧ n < r.nx')) r.v) (hk' : k' ≤ F.es.length) (heff' : ∀ t e, F.es[t]? = some e → (L' e = true ↔ t < k')) :
    Stand P ops ms tm0 F E0 A S w0 a0 L' E' (putD tm o.dst r.v) k' (a.put o.dst (ren E' r.v)) w' := by
  have hAL := C.apartAL (L := L) hr hi
  have hgrow : ∀ n, AL F.recs A L n ∨ (r.nx ≤ n ∧ n < r.nx') → AL F.recs A L' n := by
    intro n hn
    rcases hn with (hn | ⟨l, r', hl, hx⟩) | hn
    · exact .inl hn
    · exact .inr ⟨l, r', (hL' l).2 (.inl hl), hx⟩
    · exact .inr ⟨i, r, (hL' i).2 (.inr rfl), hr, hn⟩
  have hq := Post.frame hJ.holds hsub q hAL hh
  obtain ⟨b1, b2, b3⟩ := C.bounds hr
  refine ⟨hJ.slots.put C.ok ho hr hi hL', ?_, hk', heff', hq.holds.mono hgrow, hJ.post.wide hq b1 b3 ?_, ?_⟩
  · exact hJ.tm.put (q.agreeA hAL) (fun n hn => hgrow n (.inl hn)) (Sc_mono hgrow _ hsc)
  · intro n hn
    rcases hn with (hn | ⟨l, r', hl, hr', hx⟩) | hn
    · exact .inl hn
    · have := C.bounds hr'; exact .inr (by omega)
    · exact .inr (by omega)
  · rw [← hJ.dfr]; unfold Act.put; split <;> rfl

theorem Ctx.getHp (C : Ctx P callF ops ms tm0 F E0 A S) {p : Nat → Bool} {h : List (Nat × Obj)} {n : Nat} {x : Obj} (hg : getB (own p F.al ++ h) n = some x) :
    (∃ j, (j, n, x) ∈ F.al ∧ p j = true) ∨ ((∀ j y, (j, n, y) ∈ F.al → p j = false) ∧ getB h n = some x) := by
  rw [getB_append] at hg
  cases hc : getB (own p F.al) n with
  | some y =>
    rw [hc] at hg; obtain rfl := Option.some.inj hg
    exact .inl (getOwn_some hc)
  | none =>
    rw [hc] at hg
    refine .inr ⟨fun j y hj => ?_, hg⟩
    cases hp : p j with
    | false => rfl
    | true => rw [getOwn_mem C.twice hj hp] at hc; cases hc

theorem Ctx.inOwn (C : Ctx P callF ops ms tm0 F E0 A S) {p : Nat → Bool} {h : List (Nat × Obj)} {j n : Nat} {x : Obj} (hj : (j, n, x) ∈ F.al) (hp : p j = true) : getB (own p F.al ++ h) n = some x := by
  rw [getB_append, getOwn_mem C.twice hj hp]

theorem getNotOwn {p : Nat → Bool} {al : List (Nat × Nat × Obj)} {h : List (Nat × Obj)} {n : Nat} (hn : ∀ j y, (j, n, y) ∈ al → p j = false) : getB (own p al ++ h) n = getB h n := by
  rw [getB_append]
  cases hc : getB (own p al) n with
  | none => rfl
  | some y => obtain ⟨j, hj, hp⟩ := getOwn_some hc; rw [hn j y hj] at hp; cases hp

/-- What operation i sees is a part of what there is. -/
theorem Ctx.seen_sub (C : Ctx P callF ops ms tm0 F E0 A S) (hk : k ≤ F.es.length) (hm : ∀ j, Nat.testBit (natAt ms i) j = true → L j = true) : ∀ n x, getB (seen ms F.es F.hs F.al i k) n = some x → getB (hp ms F L k) n = some x := by
  intro n x hg
  unfold seen at hg
  unfold hp
  rcases C.getHp hg with ⟨j, hj, hp⟩ | ⟨hno, hg⟩
  · simp only [Bool.and_eq_true] at hp
    exact C.inOwn hj (by simp only [Bool.and_eq_true]; exact ⟨hm j hp.1, hp.2⟩)
  · rw [getNotOwn]
    · exact hg
    · intro j y hj
      cases hab : absd ms F.es k j with
      | true => simp
      | false => rw [apartOk_spec C.apart j n y k hj hk hab] at hg; cases hg

end
end Go.Dam

namespace Go.Dam

theorem own_congr {p q : Nat → Bool} : ∀ {al : List (Nat × Nat × Obj)}, (∀ x ∈ al, p x.1 = q x.1) → own p al = own q al
  | [], _ => rfl
  | (j, n, o) :: r, h => by
    have hj : p j = q j := h (j, n, o) (by simp)
    simp only [own]
    rw [own_congr (al := r) fun x hx => h x (by simp [hx]), hj]

section
variable {P : Program} {callF : Fn → List Value → St → Option (Value × St)} {opsA : Array Oper} {ms : List Nat} {tm0 : List Value} {F : DR} {E0 : Env} {A : Nat → Prop} {S : St} {w0 : World} {a0 : Act}
variable {L L' : Nat → Bool} {E : Env} {tm : List Value} {k : Nat} {a : Act} {w : World} {i : Nat} {o : Oper} {r : Rec}

theorem Ctx.globals (C : Ctx P callF opsA.toList ms tm0 F E0 A S) (hJ : Stand P opsA.toList ms tm0 F E0 A S w0 a0 L E tm k a w) : Glb P E (AL F.recs A L) := by
  intro g hg
  obtain ⟨h1, h2, h3⟩ := C.glb g hg
  obtain ⟨e1, e2, _⟩ := hJ.post.agree (2 * g) (C.out _ h3)
  exact ⟨by rw [e1, h1], by rw [e2, h2], .inl h3⟩

theorem hp_same (C : Ctx P callF opsA.toList ms tm0 F E0 A S) (hL' : ∀ l, L' l = true ↔ L l = true ∨ l = i) (hno : ∀ n y, (i, n, y) ∉ F.al) : ∀ n x, getB (hp ms F L' k) n = some x → getB (hp ms F L k) n = some x := by
  intro n x hg
  unfold hp at hg ⊢
  rcases C.getHp hg with ⟨j, hj, hp⟩ | ⟨hn, hg⟩
  · simp only [Bool.and_eq_true] at hp
    rcases (hL' j).1 hp.1 with hl | rfl
    · exact C.inOwn hj (by simp only [Bool.and_eq_true]; exact ⟨hl, hp.2⟩)
    · exact absurd hj (hno n x)
  · rw [getNotOwn]
    · exact hg
    · intro j y hj
      have := hn j y hj
      cases hl : L j with
      | false => rfl
      | true => rw [(hL' j).2 (.inl hl)] at this; simpa using this

theorem Stand.step (C : Ctx P callF opsA.toList ms tm0 F E0 A S) (hJ : Stand P opsA.toList ms tm0 F E0 A S w0 a0 L E tm k a w) (ho : opsA.toList[i]? = some o) (hi : L i = false)
    (hm : ∀ j, Nat.testBit (natAt ms i) j = true → L j = true) (hdown : ∀ l, L l = true → ∀ j, Nat.testBit (natAt ms l) j = true → L j = true) (hL' : ∀ l, L' l = true ↔ L l = true ∨ l = i)
    {ro : Option Nat} {K : Act → World → Prop} {Q : Exit → Act → World → Prop} (hK : ∀ E' tm' k' a' w', Stand P opsA.toList ms tm0 F E0 A S w0 a0 L' E' tm' k' a' w' → K a' w') :
    if Region.wanted o (yielded opsA a.tmps) = true then o.wpIn (rd ro) 0 P a w K Q else K (a.put o.dst undef) w := by
  obtain ⟨r, hf, hn1, hn2⟩ := C.facts.fact i o (Nat.zero_le _) ho
  have hr := hf.record
  have hslot : ∀ t, slotOk ms opsA.toList i t = true → nth tm t = nth r.tm t := fun t ht =>
    SlotAt.agree C.facts.recs hJ.slots hf.slots ht hi ((blt_false i i).2 (Nat.le_refl _)) hm (fun l hl => (blt_iff l i).2 (C.ok.mask i o l ho hl).1)
      (fun l hl hs => by
        cases hLl : L l with
        | false => rfl
        | true => rw [hdown l hLl i hl] at hi; cases hi)
      (fun l hl hs => by
        obtain ⟨o', ho'⟩ := Option.isSome_iff_exists.1 hs
        have := (C.ok.mask l o' i ho' hl).1
        exact (blt_false l i).2 (by omega))
  have hopd : ∀ x ∈ o.op.operands, aeval tm x = aeval r.tm x := by
    intro x hx
    cases x with
    | tmp t => exact hslot t (C.ok.slot i o _ t ho hx rfl)
    | _ => rfl
  have hgd : aguard opsA.toList tm o = r.on := by
    rw [hf.on]
    exact aguard_congr fun g want p d hg hp hd => hslot d (C.ok.guard i o g want p d ho hg hp hd)
  have hnoeff : ¬ (r.on = true ∧ kind o.op ≠ 0 ∧ kind o.op ≠ 1 ∧ kind o.op ≠ 2) → ∀ t e, F.es[t]? = some e → (L' e = true ↔ t < k) := by
    intro hne t e he
    rw [hL', ← hJ.keff t e he]
    refine ⟨fun h => h.resolve_right ?_, .inl⟩
    rintro rfl
    rcases C.facts.effects t e he with h | ⟨o', r', ho', hr', h⟩
    · exact h
    · rw [ho] at ho'; obtain rfl := Option.some.inj ho'
      rw [hr] at hr'; obtain rfl := Option.some.inj hr'
      exact hne h
  have hnolay : ¬ (r.on = true ∧ kind o.op = 2) → ∀ n y, (i, n, y) ∉ F.al := by
    intro hne n y hy
    rcases C.facts.laid _ hy with h | ⟨o', r', ho', hr', h1, h2, _⟩
    · exact h
    · rw [ho] at ho'; obtain rfl := Option.some.inj ho'
      rw [hr] at hr'; obtain rfl := Option.some.inj hr'
      exact hne ⟨h1, h2⟩
  rw [wanted_eq hJ.tm, hgd]
  cases hon : r.on with
  | false =>
    obtain ⟨u1, u2⟩ := hf.off hon
    have hq : Post P E (AL F.recs A L) (hp ms F L k) r.nx w E (hp ms F L k) r.nx' w := by rw [u2]; exact Post.refl hJ.holds
    have := hJ.next C ho hr hi hL' (k' := k) hq (fun _ _ h => h) (fun n x hg => .inl (hp_same C hL' (hnolay (by simp [hon])) n x hg)) (by rw [u1]; exact Sc_undef _) hJ.kle (hnoeff (by simp [hon]))
    rw [u1, ren_undef] at this
    simp only [Bool.false_eq_true, if_false]
    exact hK _ _ _ _ _ this
  | true =>
    simp only [if_true]
    have hsel : ∀ {T S' : St} {v : Value}, astep callF P r.tm T o = some (v, S') → ∀ cs b, o.op ≠ .select cs b := by
      intro T S' v h cs b e
      obtain ⟨dst, op, ty, pos, after, guard⟩ := o
      simp only at e
      subst e
      simp [astep] at h
    -- one step of the evaluator, brought into the world
    have run : ∀ {h : List (Nat × Obj)} {S' : St} {k' : Nat}, astep callF P r.tm ⟨h, r.nx⟩ o = some (r.v, S') → S'.next = r.nx' →
        (∀ n x, getB h n = some x → getB (hp ms F L k) n = some x) → (∀ n x, getB (hp ms F L' k') n = some x → getB S'.heap n = some x ∨ (getB (hp ms F L k) n = some x ∧ getB h n = none)) →
        k' ≤ F.es.length → (∀ t e, F.es[t]? = some e → (L' e = true ↔ t < k')) → o.wpIn (rd ro) 0 P a w K Q := by
      intro h S' k' hs hnx hsub hh hk' heff'
      have hs' : astep callF P tm ⟨h, r.nx⟩ o = some (r.v, S') := by rw [astep_congr (hsel hs) hopd]; exact hs
      refine astep_sound (A := AL F.recs A L) C.calls C.names hJ.tm (C.globals hJ) (S := ⟨h, r.nx⟩) hf.ev (hJ.holds.sub hsub) (fun x hx => C.opd i o x ho hx) (by simp only [hnx]; exact C.apartAL hr hi) hs' (astep_noDefer hs') ro K Q ?_
      intro E' w' hq hsc
      rw [hnx] at hq hsc
      exact hK _ _ _ _ _ (hJ.next C ho hr hi hL' hq hsub hh hsc hk' heff')
    by_cases hk2 : kind o.op = 2
    · obtain ⟨n, b, hmem, hs⟩ := hf.lays hon hk2
      refine run (k' := k) hs rfl (fun _ _ h => by simp [getB] at h) ?_ hJ.kle (hnoeff (by simp [hk2]))
      intro n' x hg
      unfold hp at hg
      rcases C.getHp hg with ⟨j, hj, hp'⟩ | ⟨hn, hg⟩
      · simp only [Bool.and_eq_true] at hp'
        rcases (hL' j).1 hp'.1 with hl | rfl
        · exact .inr ⟨C.inOwn hj (by simp only [Bool.and_eq_true]; exact ⟨hl, hp'.2⟩), rfl⟩
        · left
          rcases C.facts.laid _ hj with h | ⟨o', r', ho', hr', _, _, h3⟩
          · exact h.elim
          · rw [ho] at ho'; obtain rfl := Option.some.inj ho'
            rw [hr] at hr'; obtain rfl := Option.some.inj hr'
            rw [hs] at h3
            simp only [Option.some.injEq, Prod.mk.injEq, St.mk.injEq, List.cons.injEq, and_true, true_and] at h3
            obtain ⟨rfl, rfl⟩ := h3
            simp [getB]
      · right
        refine ⟨?_, rfl⟩
        unfold hp
        rw [getNotOwn]
        · exact hg
        · intro j y hj
          have := hn j y hj
          cases hl : L j with
          | false => rfl
          | true => rw [(hL' j).2 (.inl hl)] at this; simpa using this
    by_cases hk01 : kind o.op = 0 ∨ kind o.op = 1
    · obtain ⟨hnx, k0, S', hk0, hs⟩ := hf.reads hon hk01
      have hst := astep_still hk01 hs
      have hsk : astep callF P r.tm ⟨seen ms F.es F.hs F.al i k, r.nx⟩ o = some (r.v, ⟨seen ms F.es F.hs F.al i k, r.nx⟩) := by
        rcases hk01 with h0 | h1
        · exact astep_pure h0 hs
        · have hrd := C.reads i o r ho hr hon h1 k hJ.kle
          unfold readOk at hrd
          simp only [Bool.or_eq_true] at hrd
          rcases hrd with (hrd | hrd) | hrd
          · obtain ⟨t, e, ht, he, hb⟩ := absd_spec hrd
            rw [hdown e ((hJ.keff t e he).2 ht) i hb] at hi; cases hi
          · obtain ⟨e, he, hb⟩ := List.any_eq_true.1 hrd
            obtain ⟨t, ht⟩ := List.mem_iff_getElem?.1 he
            rw [List.getElem?_drop] at ht
            have := (hJ.keff _ e ht).1 (hm e hb)
            omega
          · split at hrd
            · rename_i v S₂ hs2
              obtain rfl := veq_spec hrd
              obtain rfl := astep_still (.inr h1) hs2
              exact hs2
            · cases hrd
      refine run (k' := k) hsk hnx.symm (C.seen_sub hJ.kle hm) ?_ hJ.kle (hnoeff (by rcases hk01 with h | h <;> simp [h]))
      intro n x hg
      have h1 := hp_same C hL' (hnolay (by simp [hk2])) n x hg
      cases hc : getB (seen ms F.es F.hs F.al i k) n with
      | none => exact .inr ⟨h1, rfl⟩
      | some y =>
        have := C.seen_sub hJ.kle hm n y hc
        rw [h1] at this; obtain rfl := Option.some.inj this
        exact .inl rfl
    · have hk0 : kind o.op ≠ 0 := fun h => hk01 (.inl h)
      have hk1 : kind o.op ≠ 1 := fun h => hk01 (.inr h)
      obtain ⟨t, S', ht, hprev, hs, hnx, hheap⟩ := hf.effect hon hk0 hk1 hk2
      have htl := (List.getElem?_eq_some_iff.1 ht).1
      have htk : t = k := by
        have h1 : ¬ t < k := fun h => by rw [(hJ.keff t i ht).2 h] at hi; cases hi
        rcases Nat.lt_or_ge k t with h | h
        · have hkl : k < F.es.length := by omega
          have hek : F.es[k]? = some F.es[k] := List.getElem?_eq_getElem hkl
          have := (hJ.keff k _ hek).1 (hm _ (hprev k _ h hek))
          omega
        · omega
      subst htk
      refine run (k' := t + 1) hs hnx (C.seen_sub hJ.kle hm) ?_ htl ?_
      · intro n x hg
        unfold hp at hg
        rcases C.getHp hg with ⟨j, hj, hp'⟩ | ⟨hn, hg⟩
        · simp only [Bool.and_eq_true, Bool.not_eq_true', absd_succ ht, Bool.or_eq_false_iff] at hp'
          obtain ⟨q1, q2, q3⟩ := hp'
          right
          rcases (hL' j).1 q1 with hl | rfl
          · refine ⟨C.inOwn hj (by simp only [Bool.and_eq_true, Bool.not_eq_true']; exact ⟨hl, q2⟩), ?_⟩
            unfold seen
            rw [getNotOwn]
            · exact apartOk_spec C.apart j n x t hj hJ.kle q2
            · intro j' y hj'
              obtain ⟨rfl, _⟩ := noTwice_uniq C.twice hj' hj
              simp [q3]
          · exact absurd hj (hnolay (by simp [hk2]) n x)
        · left; rw [← hheap]; exact hg
      · intro s e he
        rw [hL', hJ.keff s e he]
        constructor
        · rintro (h | rfl)
          · omega
          · rcases Nat.lt_trichotomy s t with h | h | h
            · omega
            · omega
            · have h1 := List.pairwise_iff_getElem.1 C.facts.sorted t s htl (List.getElem?_eq_some_iff.1 he).1 h
              rw [(List.getElem?_eq_some_iff.1 ht).2, (List.getElem?_eq_some_iff.1 he).2] at h1
              omega
        · intro h
          rcases Nat.lt_or_ge s t with h' | h'
          · exact .inl h'
          · obtain rfl : s = t := by omega
            rw [ht] at he; exact .inr (Option.some.inj he).symm

end
end Go.Dam

namespace Go.Dam

section
variable {P : Program} {callF : Fn → List Value → St → Option (Value × St)} {opsA : Array Oper} {ms : List Nat} {tm0 : List Value} {F : DR} {E0 : Env} {A : Nat → Prop} {S : St} {w0 : World} {a0 : Act}

theorem Stand.any (C : Ctx P callF opsA.toList ms tm0 F E0 A S) {ro : Option Nat} {Q : Exit → Act → World → Prop}
    (hQ : ∀ E tm k a w L, (∀ j, j < opsA.size → L j = true) → Stand P opsA.toList ms tm0 F E0 A S w0 a0 L E tm k a w → Q .normal a w) :
    ∀ (fuel : Nat) (listed : Array Bool) (rem : List Nat) (E : Env) (tm : List Value) (k : Nat) (a : Act) (w : World), listed.size = opsA.size → rem.length ≤ fuel → (∀ j, j < opsA.size → listed.getD j false = false → j ∈ rem) →
      (∀ l, listed.getD l false = true → ∀ j, Nat.testBit (natAt ms l) j = true → listed.getD j false = true) →
      Stand P opsA.toList ms tm0 F E0 A S w0 a0 (fun j => listed.getD j false) E tm k a w → wpAnyIn (rd ro) 0 P .any opsA Q fuel listed a w := by
  have hall : ∀ (listed : Array Bool), listed.size = opsA.size → Region.ready .any opsA listed = [] → ∀ j, j < opsA.size → listed.getD j false = true := by
    intro listed hsz hr j
    induction j using Nat.strongRecOn with
    | _ j ih =>
      intro hj
      cases hc : listed.getD j false with
      | true => rfl
      | false =>
        exfalso
        have ho : opsA[j]? = some opsA[j] := Array.getElem?_eq_getElem hj
        have : j ∈ Region.ready .any opsA listed := by
          rw [mem_ready]
          refine ⟨?_, opsA[j], ho, fun e he hb => ?_⟩
          · have hjl : j < listed.size := by omega
            simp only [Array.getD, hjl, dif_pos] at hc ⊢
            exact hc
          · have := C.ok.early j opsA[j] e (by simp [ho]) he hb
            exact ih e.on this (by omega)
        rw [hr] at this; cases this
  intro fuel
  induction fuel with
  | zero =>
    intro listed rem E tm k a w hsz hrem hmem hdown hJ
    have hrem0 : rem = [] := List.length_eq_zero_iff.1 (by omega)
    subst hrem0
    have hL : ∀ j, j < opsA.size → listed.getD j false = true := by
      intro j hj
      cases hc : listed.getD j false with
      | true => rfl
      | false => have := hmem j hj hc; cases this
    refine ⟨?_, hQ E tm k a w _ hL hJ⟩
    rw [List.eq_nil_iff_forall_not_mem]
    intro j hj
    obtain ⟨h1, o, ho, _⟩ := mem_ready.1 hj
    have hlt : j < opsA.size := (Array.getElem?_eq_some_iff.1 ho).1
    have h2 := hL j hlt
    have hjl : j < listed.size := by omega
    simp only [Array.getD, hjl, dif_pos] at h1 h2
    rw [h1] at h2; cases h2
  | succ fuel ih =>
    intro listed rem E tm k a w hsz hrem hmem hdown hJ
    refine ⟨fun hr => hQ E tm k a w _ (hall listed hsz hr) hJ, fun i hi => ?_⟩
    obtain ⟨h1, o, ho, hedge⟩ := mem_ready.1 hi
    have hlt : i < opsA.size := (Array.getElem?_eq_some_iff.1 ho).1
    have hil : i < listed.size := by omega
    have hi0 : listed.getD i false = false := by
      simp only [Array.getD, hil, dif_pos] at h1 ⊢
      exact h1
    have ho' : opsA.toList[i]? = some o := by simpa using ho
    have hm : ∀ j, Nat.testBit (natAt ms i) j = true → listed.getD j false = true := by
      intro j hj
      obtain ⟨_, e, he, hb, hx⟩ := C.ok.mask i o j ho' hj
      rcases hx with rfl | hx
      · exact hedge e he hb
      · exact hdown e.on (hedge e he hb) j hx
    have hL' : ∀ l, (fun j => (listed.setIfInBounds i true).getD j false) l = true ↔ (fun j => listed.getD j false) l = true ∨ l = i := by
      intro l
      by_cases hli : l = i
      · subst hli
        simp only [or_true, iff_true]
        simp [hil]
      · simp only [hli, or_false]
        rw [getD_set_ne false (fun e => hli e.symm)]
    unfold wpOpIn
    rw [ho]
    simp only
    have hstep := Stand.step (L := fun j => listed.getD j false) (L' := fun j => (listed.setIfInBounds i true).getD j false) C hJ ho' hi0 hm hdown hL' (ro := ro) (K := wpAnyIn (rd ro) 0 P .any opsA Q fuel (listed.setIfInBounds i true)) (Q := Q) (fun E' tm' k' a' w' hJ' => by
      refine ih (listed.setIfInBounds i true) (rem.erase i) E' tm' k' a' w' (by simpa using hsz) ?_ ?_ ?_ hJ'
      · have : i ∈ rem := hmem i hlt hi0
        rw [List.length_erase_of_mem this]; omega
      · intro j hj hc
        have hne : j ≠ i := by
          rintro rfl
          have := (hL' j).2 (.inr rfl)
          simp only at this
          rw [this] at hc; cases hc
        rw [getD_set_ne false (fun e => hne e.symm)] at hc
        exact (List.mem_erase_of_ne hne).2 (hmem j hj hc)
      · intro l hl j hj
        refine (hL' j).2 (.inl ?_)
        rcases (hL' l).1 hl with hl | rfl
        · exact hdown l hl j hj
        · exact hm j hj)
    split
    · rename_i hw
      rw [if_pos hw] at hstep; exact hstep
    · rename_i hw
      rw [if_neg hw] at hstep; exact ⟨fun _ _ => trivial, hstep⟩

theorem okOps_spec {l : List Oper} (h : okOps P l = true) : ∀ (i : Nat) (o : Oper) (x : Operand), l[i]? = some o → x ∈ o.op.operands → okOpd P x = true := by
  intro i o x ho hx
  have := allFrom_spec h i o ho
  exact List.all_eq_true.1 this x (by simpa using hx)

/-- A region that draws its order. -/
theorem evalDraw_sound (hm : P.follows .mixedOrders = true) (hcf : CallOk P callF) (hnm : NamesOk P) {E : Env} {tm tm' : List Value} {S' : St} {a : Act} {w : World} {rid : Nat} {ro : Option Nat} {Q : Exit → Act → World → Prop} (hops : okOps P opsA.toList = true) (hd : okDraw opsA.toList = true) (hb : evalDraw callF P opsA.toList tm S = some (tm', S'))
    (ht : Tm E A tm a) (hg : Glb P E A) (hev : S.next % 2 = 0) (H : Holds P E A S.heap w) (hA : ∀ n, A n → ¬ (S.next ≤ n ∧ n < S'.next))
    (hQ : ∀ E' a' w', Post P E A S.heap S.next w E' S'.heap S'.next w' → Tm E' (fun n => A n ∨ (S.next ≤ n ∧ n < S'.next)) tm' a' → a'.defers = a.defers → Q .normal a' w') :
    (Code.region rid opsA true).wpIn (rd ro) 0 P Q a w := by
  unfold evalDraw at hb
  split at hb
  · rename_i F hF
    simp only [Option.ite_none_right_eq_some, Option.some.injEq, Prod.mk.injEq, Bool.and_eq_true] at hb
    obtain ⟨⟨⟨k1, k2⟩, k3⟩, rfl, rfl⟩ := hb
    have hok := okDraw_spec hd
    have hsl0 : SlotAt opsA.toList F.recs tm (fun l => Nat.blt l 0) tm := ⟨rfl, fun d _ => ⟨fun l o r _ _ hl => by rw [blt_iff] at hl; omega, fun _ => rfl⟩⟩
    have hfacts := dRun_facts (tm0 := tm) hok hF (fun j => by simp) (by simp) rfl rfl hev hsl0 (by simp) (by simp)
    have hfacts : Facts callF P opsA.toList (maskList opsA.toList []) tm F 0 S.next (fun _ => False) (fun _ => False) :=
      { hfacts with
        effects := fun t e he => (hfacts.effects t e he).imp (fun h => by simp at h) id
        laid := fun x hx => (hfacts.laid x hx).imp (fun h => by simp at h) id }
    obtain ⟨_, _, _, _, _, _, _, phs, _⟩ := dRun_prefix hF
    have h0 : heapAt F.hs 0 = S.heap := by
      obtain ⟨recs', es', hs', al', q1, q2, q3, q4, _⟩ := dRun_prefix hF
      rw [q4]; rfl
    simp only at hA hQ
    have C : Ctx P callF opsA.toList (maskList opsA.toList []) tm F E A S :=
      { calls := hcf, names := hnm, ok := hok, facts := hfacts, opd := okOps_spec hops, glb := hg, out := hA, twice := k2, apart := k3,
        reads := fun j o r ho hr hon hk k hkl => by simpa using readsOk_spec k1 j o r ho hr hon hk k hkl }
    refine wpIn_region_any hm (Stand.any (ro := ro) (w0 := w) (a0 := a) C ?_ opsA.size _ (List.range opsA.size) E tm 0 a _ (by simp) (by simp) (fun j hj _ => List.mem_range.2 hj) ?_ ?_)
    · intro E' tm₁ k a' w' L hL hJ
      have hke : k = F.es.length := by
        rcases Nat.lt_or_ge k F.es.length with h | h
        · have hek : F.es[k]? = some F.es[k] := List.getElem?_eq_getElem h
          have hlt : F.es[k] < opsA.size := by
            rcases hfacts.effects k _ hek with h | ⟨o, r, ho, _⟩
            · exact h.elim
            · simpa using (List.getElem?_eq_some_iff.1 ho).1
          have := (hJ.keff k _ hek).1 (hL _ hlt)
          omega
        · have := hJ.kle; omega
      subst hke
      have htm : tm₁ = F.tm := by
        refine nth_ext (by rw [hJ.slots.1, hfacts.slots.1]) fun d hd => ?_
        rw [hJ.slots.1] at hd
        obtain ⟨p3, p4⟩ := hJ.slots.2 d hd
        obtain ⟨q3, q4⟩ := hfacts.slots.2 d hd
        by_cases hex : ∃ (l : Nat) (o : Oper), opsA.toList[l]? = some o ∧ o.dst = some d
        · obtain ⟨l, o, ho, hdo⟩ := hex
          have hlt := (List.getElem?_eq_some_iff.1 ho).1
          have hl : l < F.recs.length := by rw [hfacts.recs]; exact hlt
          have hr := List.getElem?_eq_getElem hl
          rw [p3 l o _ ho hr (hL l (by simpa using hlt)) hdo, q3 l o _ ho hr ((blt_iff _ _).2 hlt) hdo]
        · rw [p4 fun l o ho _ hdo => hex ⟨l, o, ho, hdo⟩, q4 fun l o ho _ hdo => hex ⟨l, o, ho, hdo⟩]
      subst htm
      have hhp : hp (maskList opsA.toList []) F L F.es.length = own (fun j => !absd (maskList opsA.toList []) F.es F.es.length j) F.al ++ heapAt F.hs F.es.length := by
        unfold hp
        rw [own_congr]
        intro x hx
        rcases hfacts.laid x hx with h | ⟨o, r, ho, _⟩
        · exact h.elim
        · simp [hL x.1 (by simpa using (List.getElem?_eq_some_iff.1 ho).1)]
      have hpost := hJ.post
      rw [hhp] at hpost
      refine hQ E' a' w' hpost ⟨hJ.tm.tmps, fun x hx => Sc_mono ?_ x (hJ.tm.sc x hx)⟩ hJ.dfr
      rintro n (hn | ⟨l, r, hl, hr, hx⟩)
      · exact .inl hn
      · have := C.bounds hr; exact .inr (by omega)
    · intro l hl
      exfalso
      by_cases h : l < opsA.size <;> simp [h] at hl
    · have hno : ∀ j, (Array.replicate opsA.size false).getD j false = false := by
        intro j
        by_cases h : j < opsA.size <;> simp [h]
      have hhp : ∀ n x, getB (hp (maskList opsA.toList []) F (fun j => (Array.replicate opsA.size false).getD j false) 0) n = some x → getB S.heap n = some x := by
        intro n x hg
        unfold hp at hg
        rw [getNotOwn (fun j y _ => by simp only [hno]; rfl), h0] at hg
        exact hg
      have hhd : Holds P E A S.heap { w with drawn := w.drawn + 1 } := H.world rfl
      refine ⟨⟨rfl, fun d _ => ⟨fun l o r _ _ hl => (by simp only [hno] at hl; cases hl), fun _ => rfl⟩⟩, ⟨ht.tmps, fun x hx => Sc_mono (fun n hn => .inl hn) x (ht.sc x hx)⟩, Nat.zero_le _, fun t e _ => ?_, (hhd.sub hhp).mono fun n hn => .inl hn, ?_, rfl⟩
      · simp only [hno]; simp
      · exact (Post.world (w₁ := { w with drawn := w.drawn + 1 }) (Post.start H hfacts.le (by rw [hfacts.ev, hev])) rfl rfl rfl rfl).drop hhp
  · simp at hb

end
end Go.Dam

namespace Go.Dam

section
variable {P : Program}

theorem Holds.lt2 {E : Env} {A : Nat → Prop} {h : List (Nat × Obj)} {w : World} (H : Holds P E A h w) {n : Nat} {o : Obj} (hg : getB h n = some o) : E.β n < w.heap.size := by
  obtain ⟨_, _, oc, hoc, _⟩ := H.blk n o hg
  exact (Array.getElem?_eq_some_iff.1 hoc).1

theorem getB_app (h g : List (Nat × Obj)) (k : Nat) (x : Obj) : getB (h ++ g) k = some x → getB h k = some x ∨ (getB h k = none ∧ getB g k = some x) := by
  induction h with
  | nil => intro e; exact .inr ⟨rfl, e⟩
  | cons a r ih =>
    obtain ⟨m, y⟩ := a
    simp only [List.cons_append, getB]
    split
    · intro e; exact .inl e
    · exact ih

theorem hasName_of {h : List (Nat × Obj)} {n : Nat} {o : Obj} (hg : getB h n = some o) : hasName n h = true := by
  induction h with
  | nil => cases hg
  | cons a r ih =>
    obtain ⟨m, y⟩ := a
    simp only [getB] at hg
    simp only [hasName, Bool.or_eq_true]
    split at hg
    · rename_i hm; exact .inl hm
    · exact .inr (ih hg)

theorem getB_without {h : List (Nat × Obj)} : ∀ {g : List (Nat × Obj)} {n : Nat} {o : Obj}, getB (without h g) n = some o → getB g n = some o ∧ getB h n = none
  | [], n, o, hg => by cases hg
  | (m, x) :: r, n, o, hg => by
    simp only [without] at hg
    split at hg
    · rename_i hm
      obtain ⟨h1, h2⟩ := getB_without hg
      refine ⟨?_, h2⟩
      simp only [getB]
      split
      · rename_i he
        obtain rfl := Nat.eq_of_beq_eq_true he
        -- the name is among h's: then it is not found
        exfalso
        have : ∀ {h : List (Nat × Obj)}, hasName m h = true → ∃ o', getB h m = some o' := by
          intro h
          induction h with
          | nil => intro h; cases h
          | cons a r ih =>
            obtain ⟨k, y⟩ := a
            intro h
            simp only [hasName, Bool.or_eq_true] at h
            simp only [getB]
            split
            · exact ⟨y, rfl⟩
            · rename_i hk
              exact ih (h.resolve_left hk)
        obtain ⟨o', ho'⟩ := this hm
        rw [h2] at ho'; cases ho'
      · exact h1
    · rename_i hm
      simp only [getB] at hg
      split at hg
      · rename_i he
        obtain rfl := Option.some.inj hg
        refine ⟨by simp [getB, he], ?_⟩
        obtain rfl := Nat.eq_of_beq_eq_true he
        cases hc : getB h m with
        | none => rfl
        | some y => exact absurd (hasName_of hc) hm
      · rename_i he
        obtain ⟨h1, h2⟩ := getB_without hg
        refine ⟨?_, h2⟩
        simp only [getB, he]
        exact h1

/-- A call that knew some of the blocks, in a world of which more are known. -/
theorem Post.framed2 {E E' : Env} {A : Nat → Prop} {hs ho g : List (Nat × Obj)} {nx nx' : Nat} {w w' : World} (p : Post P E A hs nx w E' ho nx' w') (H : Holds P E A g w)
    (hsub : ∀ n o, getB hs n = some o → getB g n = some o) (hA : ∀ n, A n → ¬ (nx ≤ n ∧ n < nx')) : Post P E A g nx w E' (ho ++ without hs g) nx' w' := by
  have hag : Agree A E E' := p.agreeA hA
  have hg : ∀ n o, getB (without hs g) n = some o → (A n ∨ (nx ≤ n ∧ n < nx')) ∧ ScObj (fun n => A n ∨ (nx ≤ n ∧ n < nx')) o ∧ E'.β n = E.β n ∧ E.β n < w.heap.size ∧ getB hs n = none ∧ getB g n = some o ∧ ∃ oc, w'.heap[E'.β n]? = some oc ∧ BlkRel P E' n o oc := by
    intro n o hn
    obtain ⟨hng, hnone⟩ := getB_without hn
    obtain ⟨h1, h2, oc, h3, h4⟩ := H.blk n o hng
    have hlt := H.lt2 hng
    have hb := (hag n h1).1
    refine ⟨.inl h1, ScObj_mono (fun _ hx => Or.inl hx) o h2, hb, hlt, hnone, hng, oc, ?_, BlkRel.agree hag h1 h2 h4⟩
    rw [hb, p.same _ hlt ?_]
    · exact h3
    · intro k o' hk he
      have := H.inj k n _ _ (hsub k o' hk) hng he
      subst this
      rw [hnone] at hk; cases hk
  have hh : ∀ n o, getB ho n = some o → (∃ o', getB hs n = some o' ∧ E'.β n = E.β n) ∨ w.heap.size ≤ E'.β n ∨ ∃ m o', getB hs m = some o' ∧ E'.β n = E.β m := by
    intro n o hn
    rcases p.img n o hn with ⟨m, o', hm, e⟩ | hx
    · exact .inr (.inr ⟨m, o', hm, e⟩)
    · exact .inr (.inl hx)
  have hdis : ∀ n o m o', getB ho n = some o → getB (without hs g) m = some o' → E'.β n ≠ E'.β m := by
    intro n o m o' hn hm he
    obtain ⟨_, _, b1, b2, hnone, hgm, _⟩ := hg m o' hm
    rcases hh n o hn with ⟨o1, h1, h2⟩ | h1 | ⟨k, o1, h1, h2⟩
    · have := H.inj n m _ _ (hsub n o1 h1) hgm (by rw [← h2, ← b1]; exact he)
      subst this
      rw [hnone] at h1; cases h1
    · rw [he, b1] at h1; omega
    · have := H.inj k m _ _ (hsub k o1 h1) hgm (by rw [← h2, ← b1]; exact he)
      subst this
      rw [hnone] at h1; cases h1
  exact
    { le := p.le
      even := p.even
      agree := p.agree
      holds := by
        refine ⟨fun n o hn => ?_, fun n m o o' hn hm he => ?_⟩
        · rcases getB_app _ _ _ _ hn with hn | ⟨_, hn⟩
          · exact p.holds.blk n o hn
          · obtain ⟨a1, a2, _, _, _, _, a3⟩ := hg n o hn
            exact ⟨a1, a2, a3⟩
        · rcases getB_app _ _ _ _ hn with hn | ⟨_, hn⟩ <;> rcases getB_app _ _ _ _ hm with hm | ⟨_, hm⟩
          · exact p.holds.inj n m _ _ hn hm he
          · exact absurd he (hdis n o m o' hn hm)
          · exact absurd he.symm (hdis m o' n o hm hn)
          · obtain ⟨_, _, b1, _, _, g1, _⟩ := hg n o hn
            obtain ⟨_, _, c1, _, _, g2, _⟩ := hg m o' hm
            exact H.inj n m _ _ g1 g2 (by rw [← b1, ← c1]; exact he)
      os := p.os
      tape := p.tape
      output := p.output
      size := p.size
      same := fun b hb hnot => p.same b hb fun n o hn => hnot n o (hsub n o hn)
      img := fun n o hn => by
        rcases getB_app _ _ _ _ hn with hn | ⟨_, hn⟩
        · rcases p.img n o hn with ⟨m, o', hm, e⟩ | hx
          · exact .inl ⟨m, o', hsub m o' hm, e⟩
          · exact .inr hx
        · obtain ⟨_, _, b1, _, _, g1, _⟩ := hg n o hn
          exact .inl ⟨n, o, g1, b1⟩ }


theorem getB_onlyB {ns : List Nat} : ∀ {h : List (Nat × Obj)} {n : Nat} {o : Obj}, getB (onlyB ns h) n = some o → getB h n = some o
  | [], _, _, h => by cases h
  | (m, x) :: r, n, o, h => by
    simp only [onlyB] at h
    split at h
    · simp only [getB] at h ⊢
      split
      · rename_i hm; rw [if_pos hm] at h; exact h
      · rename_i hm; rw [if_neg hm] at h; exact getB_onlyB h
    · rename_i hno
      have h' := getB_onlyB h
      simp only [getB]
      split
      · rename_i hm
        obtain rfl := Nat.eq_of_beq_eq_true hm
        exfalso
        -- the name is not among those that are kept
        have : ∀ {h : List (Nat × Obj)}, getB (onlyB ns h) m = some o → hasNat m ns = true := by
          intro h
          induction h with
          | nil => intro h; cases h
          | cons a r ih =>
            obtain ⟨k, y⟩ := a
            intro h
            simp only [onlyB] at h
            split at h
            · rename_i hk
              simp only [getB] at h
              split at h
              · rename_i he
                obtain rfl := Nat.eq_of_beq_eq_true he
                exact hk
              · exact ih h
            · exact ih h
        exact hno (this h)
      · exact h'

/-! the names of each operation -/

structure NxOk (nxs : List (Nat × Nat)) (n N : Nat) : Prop where
  le : n ≤ N
  even : n % 2 = 0
  evenN : N % 2 = 0
  bound : ∀ (l : Nat) (x : Nat × Nat), nxs[l]? = some x → n ≤ x.1 ∧ x.1 ≤ x.2 ∧ x.2 ≤ N ∧ x.1 % 2 = 0
  order : ∀ (l m : Nat) (x y : Nat × Nat), l < m → nxs[l]? = some x → nxs[m]? = some y → x.2 ≤ y.1

variable {callF : Fn → List Value → St → Option (Value × St)} {ops : List Oper}

theorem NxOk.cons {l : List (Nat × Nat)} {a b N : Nat} (ha : a % 2 = 0) (hab : a ≤ b) (h : NxOk l b N) : NxOk ((a, b) :: l) a N := by
  refine ⟨Nat.le_trans hab h.le, ha, h.evenN, ?_, ?_⟩
  · intro k x hx
    cases k with
    | zero =>
      obtain rfl := Option.some.inj (by simpa using hx)
      exact ⟨Nat.le_refl _, hab, h.le, ha⟩
    | succ k =>
      obtain ⟨h1, h2, h3, h4⟩ := h.bound k x (by simpa using hx)
      exact ⟨Nat.le_trans hab h1, h2, h3, h4⟩
  · intro k m x y hkm hx hy
    cases m with
    | zero => omega
    | succ m =>
      cases k with
      | zero =>
        obtain rfl := Option.some.inj (by simpa using hx)
        exact (h.bound m y (by simpa using hy)).1
      | succ k => exact h.order k m x y (by omega) (by simpa using hx) (by simpa using hy)

theorem nameRun_ok : ∀ {l : List Oper} {tm tmE : List Value} {S : St} {nxs : List (Nat × Nat)} {N : Nat}, nameRun callF P ops l tm S = some (nxs, tmE, N) → S.next % 2 = 0 → NxOk nxs S.next N ∧ nxs.length = l.length
  | [], tm, tmE, S, nxs, N, h, hev => by
    simp only [nameRun, Option.some.injEq, Prod.mk.injEq] at h
    obtain ⟨rfl, _, rfl⟩ := h
    exact ⟨⟨Nat.le_refl _, hev, hev, fun l x hx => by simp at hx, fun l m x y _ hx => by simp at hx⟩, rfl⟩
  | o :: r, tm, tmE, S, nxs, N, h, hev => by
    simp only [nameRun] at h
    split at h
    · split at h
      · rename_i v S' hs
        split at h
        · rename_i hc
          simp only [Bool.and_eq_true] at hc
          split at h
          · rename_i l tmE' N' hr
            simp only [Option.some.injEq, Prod.mk.injEq] at h
            obtain ⟨rfl, _, rfl⟩ := h
            obtain ⟨h1, h2⟩ := nameRun_ok hr (isEven_spec hc.2)
            exact ⟨h1.cons hev (Nat.le_of_ble_eq_true hc.1), by simp [h2]⟩
          · cases h
        · cases h
      · cases h
    · split at h
      · rename_i l tmE' N' hr
        simp only [Option.some.injEq, Prod.mk.injEq] at h
        obtain ⟨rfl, _, rfl⟩ := h
        obtain ⟨h1, h2⟩ := nameRun_ok hr hev
        exact ⟨h1.cons hev (Nat.le_refl _), by simp [h2]⟩
      · cases h

theorem pairAt_get : ∀ {l : List (Nat × Nat)} {i : Nat} {x : Nat × Nat}, l[i]? = some x → pairAt l i = x
  | [], i, x, h => by simp at h
  | a :: r, 0, x, h => by simpa [pairAt] using h
  | a :: r, n + 1, x, h => by simpa [pairAt] using pairAt_get (l := r) (i := n) (x := x) (by simpa using h)

/-! the levels -/

/-- What comes of an entry by an operation lies on the next level. -/
def Refines (e1 e' : Ent) : Prop := e'.L = e1.L ∧ e'.tm = e1.tm ∧ ∀ n o, getB e'.h n = some o → getB e1.h n = some o

theorem mergeEnt_self : ∀ {acc acc' : List Ent} {e : Ent}, mergeEnt e acc = some acc' → ∃ e' ∈ acc', Refines e e'
  | [], acc', e, h => by
    simp only [mergeEnt, Option.some.injEq] at h
    subst h
    exact ⟨e, by simp, rfl, rfl, fun _ _ h => h⟩
  | x :: r, acc', e, h => by
    simp only [mergeEnt] at h
    split at h
    · rename_i hL
      split at h
      · rename_i hc
        simp only [Bool.and_eq_true] at hc
        obtain rfl := Option.some.inj h
        exact ⟨x, by simp, Nat.eq_of_beq_eq_true hL, veqT_spec hc.1, within_spec hc.2⟩
      · cases h
    · split at h
      · rename_i r' hr
        obtain rfl := Option.some.inj h
        obtain ⟨e', h1, h2⟩ := mergeEnt_self hr
        exact ⟨e', by simp [h1], h2⟩
      · cases h

theorem mergeEnt_keep : ∀ {acc acc' : List Ent} {e : Ent}, mergeEnt e acc = some acc' → ∀ x ∈ acc, x ∈ acc'
  | [], acc', e, h, x, hx => by cases hx
  | y :: r, acc', e, h, x, hx => by
    simp only [mergeEnt] at h
    split at h
    · split at h
      · obtain rfl := Option.some.inj h; exact hx
      · cases h
    · split at h
      · rename_i r' hr
        obtain rfl := Option.some.inj h
        rcases List.mem_cons.1 hx with rfl | hx
        · simp
        · exact List.mem_cons_of_mem _ (mergeEnt_keep hr x hx)
      · cases h

theorem succ1_keep {nxs : List (Nat × Nat)} {e : Ent} : ∀ {l : List Oper} {i : Nat} {acc acc' : List Ent}, succ1 callF P ops nxs e i l acc = some acc' → ∀ x ∈ acc, x ∈ acc'
  | [], i, acc, acc', h, x, hx => by
    simp only [succ1, Option.some.injEq] at h
    subst h; exact hx
  | o :: r, i, acc, acc', h, x, hx => by
    simp only [succ1] at h
    split at h
    · split at h
      · split at h
        · rename_i hm
          exact succ1_keep h x (mergeEnt_keep hm x hx)
        · cases h
      · cases h
    · exact succ1_keep h x hx

theorem succ1_spec {nxs : List (Nat × Nat)} {e : Ent} : ∀ {l : List Oper} {i : Nat} {acc acc' : List Ent}, succ1 callF P ops nxs e i l acc = some acc' →
    ∀ (j : Nat) (o : Oper), l[j]? = some o → Nat.testBit e.L (i + j) = false → canGo e.L o = true → ∃ e1, entStep callF P ops nxs (i + j) o e = some e1 ∧ ∃ e' ∈ acc', Refines e1 e'
  | [], i, acc, acc', h, j, o, ho, _, _ => by simp at ho
  | o0 :: r, i, acc, acc', h, j, o, ho, hb, hc => by
    simp only [succ1] at h
    cases j with
    | zero =>
      obtain rfl := Option.some.inj (by simpa using ho)
      rw [Nat.add_zero] at hb ⊢
      rw [if_pos (by rw [hb, hc]; rfl)] at h
      split at h
      · rename_i e1 he1
        split at h
        · rename_i acc1 hm
          obtain ⟨e', h1, h2⟩ := mergeEnt_self hm
          exact ⟨e1, he1, e', succ1_keep h e' h1, h2⟩
        · cases h
      · cases h
    | succ j =>
      have e0 : i + (j + 1) = (i + 1) + j := by omega
      rw [e0] at hb ⊢
      have ho' : r[j]? = some o := by simpa using ho
      split at h
      · split at h
        · split at h
          · exact succ1_spec h j o ho' hb hc
          · cases h
        · cases h
      · exact succ1_spec h j o ho' hb hc

theorem succs_keep {nxs : List (Nat × Nat)} : ∀ {es acc acc' : List Ent}, succs callF P ops nxs es acc = some acc' → ∀ x ∈ acc, x ∈ acc'
  | [], acc, acc', h, x, hx => by
    simp only [succs, Option.some.injEq] at h
    subst h; exact hx
  | e :: r, acc, acc', h, x, hx => by
    simp only [succs] at h
    split at h
    · rename_i acc1 h1
      exact succs_keep h x (succ1_keep h1 x hx)
    · cases h

theorem succs_spec {nxs : List (Nat × Nat)} : ∀ {es acc acc' : List Ent}, succs callF P ops nxs es acc = some acc' → ∀ e ∈ es, ∀ (j : Nat) (o : Oper), ops[j]? = some o → Nat.testBit e.L j = false → canGo e.L o = true →
    ∃ e1, entStep callF P ops nxs j o e = some e1 ∧ ∃ e' ∈ acc', Refines e1 e'
  | [], acc, acc', h, e, he => by cases he
  | e0 :: r, acc, acc', h, e, he => by
    intro j o ho hb hc
    simp only [succs] at h
    split at h
    · rename_i acc1 h1
      rcases List.mem_cons.1 he with rfl | he
      · obtain ⟨e1, q1, e', q2, q3⟩ := succ1_spec h1 j o ho (by rw [Nat.zero_add]; exact hb) hc
        rw [Nat.zero_add] at q1
        exact ⟨e1, q1, e', succs_keep h e' q2, q3⟩
      · exact succs_spec h e he j o ho hb hc
    · cases h

/-- All that such a run rests on. -/
structure Ctx2 (P : Program) (callF : Fn → List Value → St → Option (Value × St)) (ops : List Oper) (nxs : List (Nat × Nat)) (E0 : Env) (A : Nat → Prop) (nx N : Nat) : Prop where
  calls : CallOk P callF
  names : NamesOk P
  early : ∀ (i : Nat) (o : Oper) (e : Edge), ops[i]? = some o → e ∈ o.after → Region.binds .any e = true → e.on < i
  nok : NxOk nxs nx N
  len : nxs.length = ops.length
  opd : ∀ (i : Nat) (o : Oper) (x : Operand), ops[i]? = some o → x ∈ o.op.operands → okOpd P x = true
  glb : Glb P E0 A
  out : ∀ n, A n → ¬ (nx ≤ n ∧ n < N)

def AL2 (nxs : List (Nat × Nat)) (A : Nat → Prop) (L : Nat → Bool) (n : Nat) : Prop := A n ∨ ∃ l x, L l = true ∧ nxs[l]? = some x ∧ x.1 ≤ n ∧ n < x.2

structure Stand2 (P : Program) (nxs : List (Nat × Nat)) (E0 : Env) (A : Nat → Prop) (hs : List (Nat × Obj)) (nx N : Nat) (w0 : World) (a0 : Act) (L : Nat → Bool) (e : Ent) (E : Env) (a : Act) (w : World) : Prop where
  tm : Tm E (AL2 nxs A L) e.tm a
  holds : Holds P E (AL2 nxs A L) e.h w
  post : Post P E0 A hs nx w0 E e.h N w
  dfr : a.defers = a0.defers

section
variable {nxs : List (Nat × Nat)} {E0 : Env} {A : Nat → Prop} {hs : List (Nat × Obj)} {nx N : Nat} {w0 : World} {a0 : Act} {L L' : Nat → Bool} {e e1 : Ent} {E : Env} {a : Act} {w : World} {i : Nat} {o : Oper}

theorem Ctx2.apart (C : Ctx2 P callF ops nxs E0 A nx N) {x : Nat × Nat} (hx : nxs[i]? = some x) (hi : L i = false) : ∀ n, AL2 nxs A L n → ¬ (x.1 ≤ n ∧ n < x.2) := by
  intro n hn hin
  obtain ⟨b1, b2, b3, _⟩ := C.nok.bound i x hx
  rcases hn with hn | ⟨l, y, hl, hy, h1, h2⟩
  · exact C.out n hn (by omega)
  · rcases Nat.lt_trichotomy l i with h | h | h
    · have := C.nok.order l i y x h hy hx; omega
    · subst h; rw [hi] at hl; cases hl
    · have := C.nok.order i l x y h hx hy; omega

set_option maxHeartbeats 1000000 in
theorem Stand2.step {opsA : Array Oper} (C : Ctx2 P callF opsA.toList nxs E0 A nx N) (hJ : Stand2 P nxs E0 A hs nx N w0 a0 L e E a w) (ho : opsA.toList[i]? = some o) (hi : L i = false) (he : entStep callF P opsA.toList nxs i o e = some e1) (hL' : ∀ l, L' l = true ↔ L l = true ∨ l = i)
    {ro : Option Nat} {K : Act → World → Prop} {Q : Exit → Act → World → Prop} (hK : ∀ E' a' w', Stand2 P nxs E0 A hs nx N w0 a0 L' e1 E' a' w' → K a' w') :
    if Region.wanted o (yielded opsA a.tmps) = true then o.wpIn (rd ro) 0 P a w K Q else K (a.put o.dst undef) w := by
  have hlt : i < nxs.length := by rw [C.len]; exact (List.getElem?_eq_some_iff.1 ho).1
  have hx : nxs[i]? = some nxs[i] := List.getElem?_eq_getElem hlt
  obtain ⟨b1, b2, b3, b4⟩ := C.nok.bound i _ hx
  have hap := C.apart (L := L) hx hi
  have hgrow0 : ∀ n, AL2 nxs A L n → AL2 nxs A L' n := by
    rintro n (hn | ⟨l, y, hl, hy⟩)
    · exact .inl hn
    · exact .inr ⟨l, y, (hL' l).2 (.inl hl), hy⟩
  have hgrow : ∀ n, AL2 nxs A L n ∨ (nxs[i].1 ≤ n ∧ n < nxs[i].2) → AL2 nxs A L' n := by
    rintro n (hn | hn)
    · exact hgrow0 n hn
    · exact .inr ⟨i, _, (hL' i).2 (.inr rfl), hx, hn⟩
  have hwide : ∀ n, AL2 nxs A L n ∨ (nxs[i].1 ≤ n ∧ n < nxs[i].2) → A n ∨ (nx ≤ n ∧ n < N) := by
    rintro n ((hn | ⟨l, y, _, hy, h1, h2⟩) | hn)
    · exact .inl hn
    · have := C.nok.bound l y hy; exact .inr (by omega)
    · exact .inr (by omega)
  have hg : Glb P E (AL2 nxs A L) := by
    intro g hg
    obtain ⟨h1, h2, h3⟩ := C.glb g hg
    obtain ⟨e1, e2, _⟩ := hJ.post.agree (2 * g) (C.out _ h3)
    exact ⟨by rw [e1, h1], by rw [e2, h2], .inl h3⟩
  rw [wanted_eq hJ.tm]
  unfold entStep at he
  rw [pairAt_get hx] at he
  split at he
  · rename_i hgd
    rw [if_pos hgd]
    split at he
    · rename_i v S' hs'
      simp only [Option.ite_none_right_eq_some, Option.some.injEq] at he
      obtain ⟨hn, rfl⟩ := he
      have hn := Nat.eq_of_beq_eq_true hn
      refine astep_sound (A := AL2 nxs A L) C.calls C.names hJ.tm hg (S := ⟨e.h, nxs[i].1⟩) b4 hJ.holds (fun x hx => C.opd i o x ho hx) (by simp only [hn]; exact hap) hs' (astep_noDefer hs') ro K Q ?_
      intro E' w' q hsc
      rw [hn] at q hsc
      refine hK E' _ w' ⟨?_, q.holds.mono hgrow, hJ.post.wide q b1 b3 hwide, ?_⟩
      · exact hJ.tm.put (q.agreeA hap) (fun n hn => hgrow0 n hn) (Sc_mono hgrow _ hsc)
      · rw [← hJ.dfr]; unfold Act.put; split <;> rfl
    · cases he
  · rename_i hgd
    rw [if_neg hgd]
    obtain rfl := Option.some.inj he
    refine hK E _ w ⟨?_, hJ.holds.mono hgrow0, hJ.post, ?_⟩
    · have := hJ.tm.put (E' := E) (B := AL2 nxs A L') (dst := o.dst) (v := undef) (fun n _ => ⟨rfl, rfl, rfl⟩) hgrow0 (Sc_undef _)
      rwa [ren_undef] at this
    · rw [← hJ.dfr]; unfold Act.put; split <;> rfl

theorem entStep_L (he : entStep callF P ops nxs i o e = some e1) : e1.L = e.L ||| 2 ^ i := by
  unfold entStep at he
  split at he
  · split at he
    · simp only [Option.ite_none_right_eq_some, Option.some.injEq] at he
      rw [← he.2]
    · cases he
  · rw [← Option.some.inj he]

theorem Stand2.refine (hJ : Stand2 P nxs E0 A hs nx N w0 a0 L e1 E a w) (hr : Refines e1 e) : Stand2 P nxs E0 A hs nx N w0 a0 L e E a w :=
  ⟨by rw [hr.2.1]; exact hJ.tm, hJ.holds.sub hr.2.2, hJ.post.drop hr.2.2, hJ.dfr⟩

theorem bit_or {L i l : Nat} : Nat.testBit (L ||| 2 ^ i) l = true ↔ Nat.testBit L l = true ∨ l = i := by
  rw [Nat.testBit_or, Nat.testBit_two_pow, Bool.or_eq_true, decide_eq_true_eq]
  constructor
  · rintro (h | rfl)
    · exact .inl h
    · exact .inr rfl
  · rintro (h | rfl)
    · exact .inl h
    · exact .inr rfl

theorem Stand2.any {opsA : Array Oper} (C : Ctx2 P callF opsA.toList nxs E0 A nx N) {ro : Option Nat} {Q : Exit → Act → World → Prop} {eF : Ent}
    (hQ : ∀ E a w L, Stand2 P nxs E0 A hs nx N w0 a0 L eF E a w → Q .normal a w) :
    ∀ (fuel : Nat) (listed : Array Bool) (rem : List Nat) (es : List Ent) (e : Ent) (E : Env) (a : Act) (w : World), listed.size = opsA.size → rem.length = fuel → rem.Nodup → (∀ j, j ∈ rem ↔ j < opsA.size ∧ listed.getD j false = false) →
      levels callF P opsA.toList nxs fuel es = some eF → e ∈ es → (∀ j, j < opsA.size → Nat.testBit e.L j = listed.getD j false) →
      Stand2 P nxs E0 A hs nx N w0 a0 (fun j => listed.getD j false) e E a w → wpAnyIn (rd ro) 0 P .any opsA Q fuel listed a w := by
  have hall : ∀ (listed : Array Bool), listed.size = opsA.size → Region.ready .any opsA listed = [] → ∀ j, j < opsA.size → listed.getD j false = true := by
    intro listed hsz hr j
    induction j using Nat.strongRecOn with
    | _ j ih =>
      intro hj
      cases hc : listed.getD j false with
      | true => rfl
      | false =>
        exfalso
        have ho : opsA[j]? = some opsA[j] := Array.getElem?_eq_getElem hj
        have : j ∈ Region.ready .any opsA listed := by
          rw [mem_ready]
          refine ⟨?_, opsA[j], ho, fun e he hb => ?_⟩
          · have hjl : j < listed.size := by omega
            simp only [Array.getD, hjl, dif_pos] at hc ⊢
            exact hc
          · have := C.early j opsA[j] e (by simp [ho]) he hb
            exact ih e.on this (by omega)
        rw [hr] at this; cases this
  intro fuel
  induction fuel with
  | zero =>
    intro listed rem es e E a w hsz hrem hnd hmem hlev hein hbits hJ
    have hrem0 : rem = [] := List.length_eq_zero_iff.1 hrem
    subst hrem0
    have hL : ∀ j, j < opsA.size → listed.getD j false = true := by
      intro j hj
      cases hc : listed.getD j false with
      | true => rfl
      | false => have := (hmem j).2 ⟨hj, hc⟩; cases this
    have hes : es = [eF] := by
      unfold levels at hlev
      split at hlev
      · rename_i heq; rw [Option.some.inj hlev]
      · cases hlev
      · rename_i heq; cases heq
    rw [hes] at hein
    obtain rfl := List.mem_singleton.1 hein
    refine ⟨?_, hQ E a w _ hJ⟩
    rw [List.eq_nil_iff_forall_not_mem]
    intro j hj
    obtain ⟨h1, o, ho, _⟩ := mem_ready.1 hj
    have hlt : j < opsA.size := (Array.getElem?_eq_some_iff.1 ho).1
    have h2 := hL j hlt
    have hjl : j < listed.size := by omega
    simp only [Array.getD, hjl, dif_pos] at h1 h2
    rw [h1] at h2; cases h2
  | succ fuel ih =>
    intro listed rem es e E a w hsz hrem hnd hmem hlev hein hbits hJ
    refine ⟨fun hr => ?_, fun i hi => ?_⟩
    · exfalso
      have hL := hall listed hsz hr
      cases rem with
      | nil => cases hrem
      | cons j r =>
        obtain ⟨h1, h2⟩ := (hmem j).1 (by simp)
        rw [hL j h1] at h2; cases h2
    obtain ⟨h1, o, ho, hedge⟩ := mem_ready.1 hi
    have hlt : i < opsA.size := (Array.getElem?_eq_some_iff.1 ho).1
    have hil : i < listed.size := by omega
    have hi0 : listed.getD i false = false := by
      simp only [Array.getD, hil, dif_pos] at h1 ⊢
      exact h1
    have ho' : opsA.toList[i]? = some o := by simpa using ho
    have hL' : ∀ l, (fun j => (listed.setIfInBounds i true).getD j false) l = true ↔ (fun j => listed.getD j false) l = true ∨ l = i := by
      intro l
      by_cases hli : l = i
      · subst hli
        simp only [or_true, iff_true]
        simp [hil]
      · simp only [hli, or_false]
        rw [getD_set_ne false (fun e => hli e.symm)]
    have hcan : canGo e.L o = true := by
      unfold canGo
      rw [List.all_eq_true]
      intro d hd
      rw [Bool.or_eq_true]
      cases hb : Region.binds .any d with
      | false => exact .inl rfl
      | true =>
        right
        have hd' : d ∈ o.after := by simpa using hd
        have h3 := hedge d hd' hb
        have h4 := C.early i o d ho' hd' hb
        rw [hbits d.on (by omega)]; exact h3
    have hlev' : (match succs callF P opsA.toList nxs es [] with
      | some es' => levels callF P opsA.toList nxs fuel es'
      | none => none) = some eF := hlev
    clear hlev
    have hlev := hlev'
    clear hlev'
    split at hlev
    · rename_i es' hsucc
      obtain ⟨e1, he1, e', he', href⟩ := succs_spec hsucc e hein i o ho' (by rw [hbits i hlt]; exact hi0) hcan
      unfold wpOpIn
      rw [ho]
      simp only
      have hstep := Stand2.step (L := fun j => listed.getD j false) (L' := fun j => (listed.setIfInBounds i true).getD j false) C hJ ho' hi0 he1 hL' (ro := ro) (K := wpAnyIn (rd ro) 0 P .any opsA Q fuel (listed.setIfInBounds i true)) (Q := Q) (fun E' a' w' hJ' => by
        have himem : i ∈ rem := (hmem i).2 ⟨hlt, hi0⟩
        refine ih (listed.setIfInBounds i true) (rem.erase i) es' e' E' a' w' (by simpa using hsz) ?_ (hnd.erase i) ?_ hlev he' ?_ (hJ'.refine href)
        · rw [List.length_erase_of_mem himem]; omega
        · intro j
          rw [hnd.mem_erase_iff, hmem j]
          constructor
          · rintro ⟨hne, hj, hc⟩
            refine ⟨hj, ?_⟩
            rw [getD_set_ne false (fun e => hne e.symm)]; exact hc
          · rintro ⟨hj, hc⟩
            have hne : j ≠ i := by
              rintro rfl
              have := (hL' j).2 (.inr rfl)
              simp only at this
              rw [this] at hc; cases hc
            rw [getD_set_ne false (fun e => hne e.symm)] at hc
            exact ⟨hne, hj, hc⟩
        · intro j hj
          rw [href.1, entStep_L he1]
          have h5 := hL' j
          simp only at h5
          have h6 := bit_or (L := e.L) (i := i) (l := j)
          rw [hbits j hj] at h6
          rw [Bool.eq_iff_iff, h6, h5])
      split
      · rename_i hw
        rw [if_pos hw] at hstep; exact hstep
      · rename_i hw
        rw [if_neg hw] at hstep; exact ⟨fun _ _ => trivial, hstep⟩
    · cases hlev

end

theorem evalSets_sound (hm : P.follows .mixedOrders = true) (hcf : CallOk P callF) (hnm : NamesOk P) {opsA : Array Oper} {A : Nat → Prop} {S : St} {E : Env} {tm tm' : List Value} {S' : St} {a : Act} {w : World} {rid : Nat} {ro : Option Nat} {Q : Exit → Act → World → Prop} (hops : okOps P opsA.toList = true) (hd : okDraw opsA.toList = true) (hb : evalSets callF P opsA.toList tm S = some (tm', S'))
    (ht : Tm E A tm a) (hg : Glb P E A) (hev : S.next % 2 = 0) (H : Holds P E A S.heap w) (hA : ∀ n, A n → ¬ (S.next ≤ n ∧ n < S'.next))
    (hQ : ∀ E' a' w', Post P E A S.heap S.next w E' S'.heap S'.next w' → Tm E' (fun n => A n ∨ (S.next ≤ n ∧ n < S'.next)) tm' a' → a'.defers = a.defers → Q .normal a' w') :
    (Code.region rid opsA true).wpIn (rd ro) 0 P Q a w := by
  unfold evalSets at hb
  split at hb
  · rename_i nxs tmE N hN
    split at hb
    · rename_i eF hF
      simp only [Option.some.injEq, Prod.mk.injEq] at hb
      obtain ⟨rfl, rfl⟩ := hb
      obtain ⟨hnx, hlen⟩ := nameRun_ok hN hev
      simp only at hA hQ
      have C : Ctx2 P callF opsA.toList nxs E A S.next N := ⟨hcf, hnm, (okDraw_spec hd).early, hnx, hlen, okOps_spec hops, hg, hA⟩
      have hsub : ∀ n o, getB (onlyB (touched opsA.toList tmE) S.heap) n = some o → getB S.heap n = some o := fun n o h => getB_onlyB h
      generalize onlyB (touched opsA.toList tmE) S.heap = hs at hF hQ hsub
      have Hs := H.sub hsub
      have hno : ∀ j, (Array.replicate opsA.size false).getD j false = false := by
        intro j
        by_cases h : j < opsA.size <;> simp [h]
      have hlen' : opsA.toList.length = opsA.size := by simp
      rw [hlen'] at hF
      refine wpIn_region_any hm (Stand2.any (ro := ro) (w0 := w) (a0 := a) (hs := hs) (eF := eF) C ?_ opsA.size _ (List.range opsA.size) _ ⟨0, tm, hs⟩ E a _ (by simp) (by simp) List.nodup_range (fun j => by rw [List.mem_range, hno]; simp) hF (by simp) (fun j _ => by rw [hno]; simp) ?_)
      · intro E' a' w' L hJ
        refine hQ E' a' w' (hJ.post.framed2 H hsub hA) ⟨hJ.tm.tmps, fun x hx => Sc_mono ?_ x (hJ.tm.sc x hx)⟩ hJ.dfr
        rintro n (hn | ⟨l, x, _, hx, h1, h2⟩)
        · exact .inl hn
        · have := hnx.bound l x hx; exact .inr (by omega)
      · refine ⟨⟨ht.tmps, fun x hx => Sc_mono (fun n hn => .inl hn) x (ht.sc x hx)⟩, (Hs.world (w' := { w with drawn := w.drawn + 1 }) rfl).mono fun n hn => .inl hn, ?_, rfl⟩
        exact Post.world (w₁ := { w with drawn := w.drawn + 1 }) (Post.start Hs hnx.le (by rw [hnx.evenN, hev])) rfl rfl rfl rfl
    · cases hb
  · cases hb

theorem evalAny_sound (hm : P.follows .mixedOrders = true) (hcf : CallOk P callF) (hnm : NamesOk P) {opsA : Array Oper} {A : Nat → Prop} {S : St} {E : Env} {tm tm' : List Value} {S' : St} {a : Act} {w : World} {rid : Nat} {ro : Option Nat} {Q : Exit → Act → World → Prop} (hops : okOps P opsA.toList = true) (hd : okDraw opsA.toList = true) (hb : evalAny callF P opsA.toList tm S = some (tm', S'))
    (ht : Tm E A tm a) (hg : Glb P E A) (hev : S.next % 2 = 0) (H : Holds P E A S.heap w) (hA : ∀ n, A n → ¬ (S.next ≤ n ∧ n < S'.next))
    (hQ : ∀ E' a' w', Post P E A S.heap S.next w E' S'.heap S'.next w' → Tm E' (fun n => A n ∨ (S.next ≤ n ∧ n < S'.next)) tm' a' → a'.defers = a.defers → Q .normal a' w') :
    (Code.region rid opsA true).wpIn (rd ro) 0 P Q a w := by
  unfold evalAny at hb
  split at hb
  · rename_i r hr
    obtain rfl := Option.some.inj hb
    exact evalDraw_sound hm hcf hnm hops hd hr ht hg hev H hA hQ
  · exact evalSets_sound hm hcf hnm hops hd hb ht hg hev H hA hQ

theorem nameRun_mono : ∀ {l : List Oper} {tm tmE : List Value} {S : St} {nxs : List (Nat × Nat)} {N : Nat}, nameRun callF P ops l tm S = some (nxs, tmE, N) → S.next ≤ N
  | [], tm, tmE, S, nxs, N, h => by
    simp only [nameRun, Option.some.injEq, Prod.mk.injEq] at h
    rw [h.2.2]; exact Nat.le_refl _
  | o :: r, tm, tmE, S, nxs, N, h => by
    simp only [nameRun] at h
    split at h
    · split at h
      · split at h
        · rename_i hc
          simp only [Bool.and_eq_true] at hc
          split at h
          · rename_i hr
            simp only [Option.some.injEq, Prod.mk.injEq] at h
            obtain ⟨_, _, rfl⟩ := h
            exact Nat.le_trans (Nat.le_of_ble_eq_true hc.1) (nameRun_mono hr)
          · cases h
        · cases h
      · cases h
    · split at h
      · rename_i hr
        simp only [Option.some.injEq, Prod.mk.injEq] at h
        obtain ⟨_, _, rfl⟩ := h
        exact nameRun_mono hr
      · cases h

end
end Go.Dam
