/-
  An own evaluator of closed runs of a program, proved sound against the model for every order of draws and every capacity of append. This text is one part of it; the last part's theorem 'closed' says what a run in the kernel proves. Used for the law's closed self-test.
-/
import Derived.Test.YtgjgdofofhmjgaaDoorDamT
namespace Go.Dam

theorem mem_setNth : ∀ {l : List Value} {n : Nat} {x y : Value}, y ∈ setNth l n x → y = x ∨ y ∈ l
  | [], _, _, _, h => by simp [setNth] at h
  | _ :: _, 0, _, _, h => by
    simp only [setNth, List.mem_cons] at h
    exact h.imp id fun h => by simp [h]
  | _ :: r, n + 1, _, _, h => by
    simp only [setNth, List.mem_cons] at h
    rcases h with h | h
    · exact .inr (by simp [h])
    · exact (mem_setNth h).imp id fun h => by simp [h]

theorem Tm.move {E E' : Env} {A B : Nat → Prop} {tm : List Value} {a : Act} (ht : Tm E A tm a) (hag : Agree A E E') (hAB : ∀ n, A n → B n) : Tm E' B tm a :=
  ⟨by rw [ht.tmps]; congr 1; exact List.map_congr_left fun x hx => (ren_agree hag x (ht.sc x hx)).symm, fun x hx => Sc_mono hAB x (ht.sc x hx)⟩

theorem Tm.put {E E' : Env} {A B : Nat → Prop} {tm : List Value} {a : Act} (ht : Tm E A tm a) (hag : Agree A E E') (hAB : ∀ n, A n → B n) {dst : Option Tmp} {v : Value} (hs : Sc B v) : Tm E' B (putD tm dst v) (a.put dst (ren E' v)) := by
  have h := ht.move hag hAB
  cases dst with
  | none => exact h
  | some d =>
    refine ⟨?_, fun x hx => ?_⟩
    · simp only [Act.put, putD, h.tmps, setNth_toArray]
      simp
    · rcases mem_setNth hx with rfl | hx
      · exact hs
      · exact h.sc x hx

/-- All that the region's run found, and all that it rests on. -/
structure Ctx (P : Program) (callF : FuncId → List Value → St → Option (Value × St)) (ops : List Oper) (ms : List Nat) (tm0 : List Value) (F : DR) (E0 : Env) (A : Nat → Prop) (S : St) : Prop where
  calls : CallOk P callF
  names : NamesOk P
  ok : OkD ops ms
  facts : Facts callF P ops ms tm0 F 0 S.next (fun _ => False) (fun _ => False)
  opd : ∀ (i : Nat) (o : Oper) (x : Operand), ops[i]? = some o → x ∈ o.op.operands → okOpd P x = true
  glb : Glb P E0 A
  out : ∀ n, A n → ¬ (S.next ≤ n ∧ n < F.nx)
  reads : ∀ (j : Nat) (o : Oper) (r : Rec), ops[j]? = some o → F.recs[j]? = some r → r.on = true → kind o.op = 1 → ∀ k, k ≤ F.es.length → readOk callF P ms F j o r k = true
  twice : noTwice F.al = true
  apart : apartOk ms F F.al = true

def AL (recs : List Rec) (A : Nat → Prop) (L : Nat → Bool) (n : Nat) : Prop := A n ∨ ∃ l r, L l = true ∧ recs[l]? = some r ∧ r.nx ≤ n ∧ n < r.nx'

def hp (ms : List Nat) (F : DR) (L : Nat → Bool) (k : Nat) : List (Nat × Obj) := own (fun j => L j && !absd ms F.es k j) F.al ++ heapAt F.hs k

/-- Where the region stands, the operations of which L holds being done. -/
structure Stand (P : Program) (ops : List Oper) (ms : List Nat) (tm0 : List Value) (F : DR) (E0 : Env) (A : Nat → Prop) (S : St) (w0 : World) (a0 : Act) (L : Nat → Bool) (E : Env) (tm : List Value) (k : Nat) (a : Act) (w : World) : Prop where
  slots : SlotAt ops F.recs tm0 L tm
  tm : Tm E (AL F.recs A L) tm a
  kle : k ≤ F.es.length
  keff : ∀ t e, F.es[t]? = some e → (L e = true ↔ t < k)
  holds : Holds P E (AL F.recs A L) (hp ms F L k) w
  post : Post P E0 A S.heap S.next w0 E (hp ms F L k) F.nx w
  dfr : a.defers = a0.defers

section
variable {P : Program} {callF : FuncId → List Value → St → Option (Value × St)} {ops : List Oper} {ms : List Nat} {tm0 : List Value} {F : DR} {E0 : Env} {A : Nat → Prop} {S : St} {w0 : World} {a0 : Act}
variable {L L' : Nat → Bool} {E : Env} {tm : List Value} {k : Nat} {a : Act} {w : World} {i : Nat} {o : Oper} {r : Rec}

theorem Ctx.bounds (C : Ctx P callF ops ms tm0 F E0 A S) {l : Nat} {r : Rec} (hr : F.recs[l]? = some r) : S.next ≤ r.nx ∧ r.nx ≤ r.nx' ∧ r.nx' ≤ F.nx := by
  have hlt : l < ops.length := by rw [← C.facts.recs]; exact (List.getElem?_eq_some_iff.1 hr).1
  obtain ⟨r', h1, h2, h3⟩ := C.facts.fact l ops[l] (Nat.zero_le _) (List.getElem?_eq_getElem hlt)
  rw [h1.record] at hr; obtain rfl := Option.some.inj hr
  exact ⟨h2, h1.le, h3⟩

theorem Ctx.apartAL (C : Ctx P callF ops ms tm0 F E0 A S) (hr : F.recs[i]? = some r) (hi : L i = false) : ∀ n, AL F.recs A L n → ¬ (r.nx ≤ n ∧ n < r.nx') := by
  intro n hn hin
  obtain ⟨b1, b2, b3⟩ := C.bounds hr
  rcases hn with hn | ⟨l, r', hl, hr', h1, h2⟩
  · exact C.out n hn (by omega)
  · rcases Nat.lt_trichotomy l i with h | h | h
    · have := C.facts.order l i r' r (Nat.zero_le _) h hr' hr; omega
    · subst h; rw [hi] at hl; cases hl
    · have := C.facts.order i l r r' (Nat.zero_le _) h hr hr'; omega

theorem Stand.next (C : Ctx P callF ops ms tm0 F E0 A S) (hJ : Stand P ops ms tm0 F E0 A S w0 a0 L E tm k a w) (ho : ops[i]? = some o) (hr : F.recs[i]? = some r) (hi : L i = false)
    (hL' : ∀ l, L' l = true ↔ L l = true ∨ l = i) {E' : Env} {w' : World} {k' : Nat} {hs hs' : List (Nat × Obj)} (q : Post P E (AL F.recs A L) hs r.nx w E' hs' r.nx' w')
    (hsub : ∀ n x, getB hs n = some x → getB (hp ms F L k) n = some x) (hh : ∀ n x, getB (hp ms F L' k') n = some x → getB hs' n = some x ∨ (getB (hp ms F L k) n = some x ∧ getB hs n = none))
    (hsc : Sc (fun n => AL F.recs A L n ∨ (r.nx ≤ n ∧ n < r.nx')) r.v) (hk' : k' ≤ F.es.length) (heff' : ∀ t e, F.es[t]? = some e → (L' e = true ↔ t < k')) :
    Stand P ops ms tm0 F E0 A S w0 a0 L' E' (putD tm o.dst r.v) k' (a.put o.dst (ren E' r.v)) w' := by
  have hAL := C.apartAL (L := L) hr hi
  have hgrow : ∀ n, AL F.recs A L n ∨ (r.nx ≤ n ∧ n < r.nx') → AL F.recs A L' n := by
    intro n hn
    rcases hn with (hn | ⟨l, r', hl, hx⟩) | hn
    · exact .inl hn
    · exact .inr ⟨l, r', (hL' l).2 (.inl hl), hx⟩
    · exact .inr ⟨i, r, (hL' i).2 (.inr rfl), hr, hn⟩
  have hq := Post.frame hJ.holds hsub q hAL hh
  obtain ⟨b1, b2, b3⟩ := C.bounds hr
  refine ⟨hJ.slots.put C.ok ho hr hi hL', ?_, hk', heff', hq.holds.mono hgrow, hJ.post.wide hq b1 b3 ?_, ?_⟩
  · exact hJ.tm.put (q.agreeA hAL) (fun n hn => hgrow n (.inl hn)) (Sc_mono hgrow _ hsc)
  · intro n hn
    rcases hn with (hn | ⟨l, r', hl, hr', hx⟩) | hn
    · exact .inl hn
    · have := C.bounds hr'; exact .inr (by omega)
    · exact .inr (by omega)
  · rw [← hJ.dfr]; unfold Act.put; split <;> rfl

theorem Ctx.getHp (C : Ctx P callF ops ms tm0 F E0 A S) {p : Nat → Bool} {h : List (Nat × Obj)} {n : Nat} {x : Obj} (hg : getB (own p F.al ++ h) n = some x) :
    (∃ j, (j, n, x) ∈ F.al ∧ p j = true) ∨ ((∀ j y, (j, n, y) ∈ F.al → p j = false) ∧ getB h n = some x) := by
  rw [getB_append] at hg
  cases hc : getB (own p F.al) n with
  | some y =>
    rw [hc] at hg; obtain rfl := Option.some.inj hg
    exact .inl (getOwn_some hc)
  | none =>
    rw [hc] at hg
    refine .inr ⟨fun j y hj => ?_, hg⟩
    cases hp : p j with
    | false => rfl
    | true => rw [getOwn_mem C.twice hj hp] at hc; cases hc

theorem Ctx.inOwn (C : Ctx P callF ops ms tm0 F E0 A S) {p : Nat → Bool} {h : List (Nat × Obj)} {j n : Nat} {x : Obj} (hj : (j, n, x) ∈ F.al) (hp : p j = true) : getB (own p F.al ++ h) n = some x := by
  rw [getB_append, getOwn_mem C.twice hj hp]

theorem getNotOwn {p : Nat → Bool} {al : List (Nat × Nat × Obj)} {h : List (Nat × Obj)} {n : Nat} (hn : ∀ j y, (j, n, y) ∈ al → p j = false) : getB (own p al ++ h) n = getB h n := by
  rw [getB_append]
  cases hc : getB (own p al) n with
  | none => rfl
  | some y => obtain ⟨j, hj, hp⟩ := getOwn_some hc; rw [hn j y hj] at hp; cases hp

/-- What operation i sees is a part of what there is. -/
theorem Ctx.seen_sub (C : Ctx P callF ops ms tm0 F E0 A S) (hk : k ≤ F.es.length) (hm : ∀ j, Nat.testBit (natAt ms i) j = true → L j = true) : ∀ n x, getB (seen ms F.es F.hs F.al i k) n = some x → getB (hp ms F L k) n = some x := by
  intro n x hg
  unfold seen at hg
  unfold hp
  rcases C.getHp hg with ⟨j, hj, hp⟩ | ⟨hno, hg⟩
  · simp only [Bool.and_eq_true] at hp
    exact C.inOwn hj (by simp only [Bool.and_eq_true]; exact ⟨hm j hp.1, hp.2⟩)
  · rw [getNotOwn]
    · exact hg
    · intro j y hj
      cases hab : absd ms F.es k j with
      | true => simp
      | false => rw [apartOk_spec C.apart j n y k hj hk hab] at hg; cases hg

end
end Go.Dam
