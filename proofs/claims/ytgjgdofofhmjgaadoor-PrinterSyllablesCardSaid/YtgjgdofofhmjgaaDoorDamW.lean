/-
  An own evaluator of closed runs of a program, proved sound against the model for every order of draws and every capacity of append. This text is one part of it; the last part's theorem 'closed' says what a run in the kernel proves. Used for the law's closed self-test.
-/
import Derived.Test.YtgjgdofofhmjgaaDoorDamV
namespace Go.Dam

section
variable {P : Program} {callF : FuncId → List Value → St → Option (Value × St)} {opsA : Array Oper} {ms : List Nat} {tm0 : List Value} {F : DR} {E0 : Env} {A : Nat → Prop} {S : St} {w0 : World} {a0 : Act}

theorem Stand.any (C : Ctx P callF opsA.toList ms tm0 F E0 A S) {Q : Exit → Act → World → Prop}
    (hQ : ∀ E tm k a w L, (∀ j, j < opsA.size → L j = true) → Stand P opsA.toList ms tm0 F E0 A S w0 a0 L E tm k a w → Q .normal a w) :
    ∀ (fuel : Nat) (listed : Array Bool) (rem : List Nat) (E : Env) (tm : List Value) (k : Nat) (a : Act) (w : World), listed.size = opsA.size → rem.length ≤ fuel → (∀ j, j < opsA.size → listed.getD j false = false → j ∈ rem) →
      (∀ l, listed.getD l false = true → ∀ j, Nat.testBit (natAt ms l) j = true → listed.getD j false = true) →
      Stand P opsA.toList ms tm0 F E0 A S w0 a0 (fun j => listed.getD j false) E tm k a w → wpAny P .any opsA Q fuel listed a w := by
  have hall : ∀ (listed : Array Bool), listed.size = opsA.size → Region.ready .any opsA listed = [] → ∀ j, j < opsA.size → listed.getD j false = true := by
    intro listed hsz hr j
    induction j using Nat.strongRecOn with
    | _ j ih =>
      intro hj
      cases hc : listed.getD j false with
      | true => rfl
      | false =>
        exfalso
        have ho : opsA[j]? = some opsA[j] := Array.getElem?_eq_getElem hj
        have : j ∈ Region.ready .any opsA listed := by
          rw [mem_ready]
          refine ⟨?_, opsA[j], ho, fun e he hb => ?_⟩
          · have hjl : j < listed.size := by omega
            simp only [Array.getD, hjl, dif_pos] at hc ⊢
            exact hc
          · have := C.ok.early j opsA[j] e (by simp [ho]) he hb
            exact ih e.on this (by omega)
        rw [hr] at this; cases this
  intro fuel
  induction fuel with
  | zero =>
    intro listed rem E tm k a w hsz hrem hmem hdown hJ
    have hrem0 : rem = [] := List.length_eq_zero_iff.1 (by omega)
    subst hrem0
    have hL : ∀ j, j < opsA.size → listed.getD j false = true := by
      intro j hj
      cases hc : listed.getD j false with
      | true => rfl
      | false => have := hmem j hj hc; cases this
    refine ⟨?_, hQ E tm k a w _ hL hJ⟩
    rw [List.eq_nil_iff_forall_not_mem]
    intro j hj
    obtain ⟨h1, o, ho, _⟩ := mem_ready.1 hj
    have hlt : j < opsA.size := (Array.getElem?_eq_some_iff.1 ho).1
    have h2 := hL j hlt
    have hjl : j < listed.size := by omega
    simp only [Array.getD, hjl, dif_pos] at h1 h2
    rw [h1] at h2; cases h2
  | succ fuel ih =>
    intro listed rem E tm k a w hsz hrem hmem hdown hJ
    refine ⟨fun hr => hQ E tm k a w _ (hall listed hsz hr) hJ, fun i hi => ?_⟩
    obtain ⟨h1, o, ho, hedge⟩ := mem_ready.1 hi
    have hlt : i < opsA.size := (Array.getElem?_eq_some_iff.1 ho).1
    have hil : i < listed.size := by omega
    have hi0 : listed.getD i false = false := by
      simp only [Array.getD, hil, dif_pos] at h1 ⊢
      exact h1
    have ho' : opsA.toList[i]? = some o := by simpa using ho
    have hm : ∀ j, Nat.testBit (natAt ms i) j = true → listed.getD j false = true := by
      intro j hj
      obtain ⟨_, e, he, hb, hx⟩ := C.ok.mask i o j ho' hj
      rcases hx with rfl | hx
      · exact hedge e he hb
      · exact hdown e.on (hedge e he hb) j hx
    have hL' : ∀ l, (fun j => (listed.setIfInBounds i true).getD j false) l = true ↔ (fun j => listed.getD j false) l = true ∨ l = i := by
      intro l
      by_cases hli : l = i
      · subst hli
        simp only [or_true, iff_true]
        simp [hil]
      · simp only [hli, or_false]
        rw [getD_set_ne false (fun e => hli e.symm)]
    unfold wpOp
    rw [ho]
    simp only
    have hstep := Stand.step (L := fun j => listed.getD j false) (L' := fun j => (listed.setIfInBounds i true).getD j false) C hJ ho' hi0 hm hdown hL' (K := wpAny P .any opsA Q fuel (listed.setIfInBounds i true)) (Q := Q) (fun E' tm' k' a' w' hJ' => by
      refine ih (listed.setIfInBounds i true) (rem.erase i) E' tm' k' a' w' (by simpa using hsz) ?_ ?_ ?_ hJ'
      · have : i ∈ rem := hmem i hlt hi0
        rw [List.length_erase_of_mem this]; omega
      · intro j hj hc
        have hne : j ≠ i := by
          rintro rfl
          have := (hL' j).2 (.inr rfl)
          simp only at this
          rw [this] at hc; cases hc
        rw [getD_set_ne false (fun e => hne e.symm)] at hc
        exact (List.mem_erase_of_ne hne).2 (hmem j hj hc)
      · intro l hl j hj
        refine (hL' j).2 (.inl ?_)
        rcases (hL' l).1 hl with hl | rfl
        · exact hdown l hl j hj
        · exact hm j hj)
    split
    · rename_i hw
      rw [if_pos hw] at hstep; exact .inl hstep
    · rename_i hw
      rw [if_neg hw] at hstep; exact hstep

theorem okOps_spec {l : List Oper} (h : okOps P l = true) : ∀ (i : Nat) (o : Oper) (x : Operand), l[i]? = some o → x ∈ o.op.operands → okOpd P x = true := by
  intro i o x ho hx
  have := allFrom_spec h i o ho
  exact List.all_eq_true.1 this x (by simpa using hx)

/-- A region that draws its order. -/
theorem evalDraw_sound (hm : P.follows .mixedOrders = true) (hcf : CallOk P callF) (hnm : NamesOk P) {E : Env} {tm tm' : List Value} {S' : St} {a : Act} {w : World} {rid : Nat} {Q : Exit → Act → World → Prop} (hops : okOps P opsA.toList = true) (hd : okDraw opsA.toList = true) (hb : evalDraw callF P opsA.toList tm S = some (tm', S'))
    (ht : Tm E A tm a) (hg : Glb P E A) (hev : S.next % 2 = 0) (H : Holds P E A S.heap w) (hA : ∀ n, A n → ¬ (S.next ≤ n ∧ n < S'.next))
    (hQ : ∀ E' a' w', Post P E A S.heap S.next w E' S'.heap S'.next w' → Tm E' (fun n => A n ∨ (S.next ≤ n ∧ n < S'.next)) tm' a' → a'.defers = a.defers → Q .normal a' w') :
    (Code.region rid opsA true).wp P Q a w := by
  unfold evalDraw at hb
  split at hb
  · rename_i F hF
    simp only [Option.ite_none_right_eq_some, Option.some.injEq, Prod.mk.injEq, Bool.and_eq_true] at hb
    obtain ⟨⟨⟨k1, k2⟩, k3⟩, rfl, rfl⟩ := hb
    have hok := okDraw_spec hd
    have hsl0 : SlotAt opsA.toList F.recs tm (fun l => Nat.blt l 0) tm := ⟨rfl, fun d _ => ⟨fun l o r _ _ hl => by rw [blt_iff] at hl; omega, fun _ => rfl⟩⟩
    have hfacts := dRun_facts (tm0 := tm) hok hF (fun j => by simp) (by simp) rfl rfl hev hsl0 (by simp) (by simp)
    have hfacts : Facts callF P opsA.toList (maskList opsA.toList []) tm F 0 S.next (fun _ => False) (fun _ => False) :=
      { hfacts with
        effects := fun t e he => (hfacts.effects t e he).imp (fun h => by simp at h) id
        laid := fun x hx => (hfacts.laid x hx).imp (fun h => by simp at h) id }
    obtain ⟨_, _, _, _, _, _, _, phs, _⟩ := dRun_prefix hF
    have h0 : heapAt F.hs 0 = S.heap := by
      obtain ⟨recs', es', hs', al', q1, q2, q3, q4, _⟩ := dRun_prefix hF
      rw [q4]; rfl
    simp only at hA hQ
    have C : Ctx P callF opsA.toList (maskList opsA.toList []) tm F E A S :=
      { calls := hcf, names := hnm, ok := hok, facts := hfacts, opd := okOps_spec hops, glb := hg, out := hA, twice := k2, apart := k3,
        reads := fun j o r ho hr hon hk k hkl => by simpa using readsOk_spec k1 j o r ho hr hon hk k hkl }
    refine wp_region_any hm (Stand.any (w0 := w) (a0 := a) C ?_ opsA.size _ (List.range opsA.size) E tm 0 a _ (by simp) (by simp) (fun j hj _ => List.mem_range.2 hj) ?_ ?_)
    · intro E' tm₁ k a' w' L hL hJ
      have hke : k = F.es.length := by
        rcases Nat.lt_or_ge k F.es.length with h | h
        · have hek : F.es[k]? = some F.es[k] := List.getElem?_eq_getElem h
          have hlt : F.es[k] < opsA.size := by
            rcases hfacts.effects k _ hek with h | ⟨o, r, ho, _⟩
            · exact h.elim
            · simpa using (List.getElem?_eq_some_iff.1 ho).1
          have := (hJ.keff k _ hek).1 (hL _ hlt)
          omega
        · have := hJ.kle; omega
      subst hke
      have htm : tm₁ = F.tm := by
        refine nth_ext (by rw [hJ.slots.1, hfacts.slots.1]) fun d hd => ?_
        rw [hJ.slots.1] at hd
        obtain ⟨p3, p4⟩ := hJ.slots.2 d hd
        obtain ⟨q3, q4⟩ := hfacts.slots.2 d hd
        by_cases hex : ∃ (l : Nat) (o : Oper), opsA.toList[l]? = some o ∧ o.dst = some d
        · obtain ⟨l, o, ho, hdo⟩ := hex
          have hlt := (List.getElem?_eq_some_iff.1 ho).1
          have hl : l < F.recs.length := by rw [hfacts.recs]; exact hlt
          have hr := List.getElem?_eq_getElem hl
          rw [p3 l o _ ho hr (hL l (by simpa using hlt)) hdo, q3 l o _ ho hr ((blt_iff _ _).2 hlt) hdo]
        · rw [p4 fun l o ho _ hdo => hex ⟨l, o, ho, hdo⟩, q4 fun l o ho _ hdo => hex ⟨l, o, ho, hdo⟩]
      subst htm
      have hhp : hp (maskList opsA.toList []) F L F.es.length = own (fun j => !absd (maskList opsA.toList []) F.es F.es.length j) F.al ++ heapAt F.hs F.es.length := by
        unfold hp
        rw [own_congr]
        intro x hx
        rcases hfacts.laid x hx with h | ⟨o, r, ho, _⟩
        · exact h.elim
        · simp [hL x.1 (by simpa using (List.getElem?_eq_some_iff.1 ho).1)]
      have hpost := hJ.post
      rw [hhp] at hpost
      refine hQ E' a' w' hpost ⟨hJ.tm.tmps, fun x hx => Sc_mono ?_ x (hJ.tm.sc x hx)⟩ hJ.dfr
      rintro n (hn | ⟨l, r, hl, hr, hx⟩)
      · exact .inl hn
      · have := C.bounds hr; exact .inr (by omega)
    · intro l hl
      exfalso
      by_cases h : l < opsA.size <;> simp [h] at hl
    · have hno : ∀ j, (Array.replicate opsA.size false).getD j false = false := by
        intro j
        by_cases h : j < opsA.size <;> simp [h]
      have hhp : ∀ n x, getB (hp (maskList opsA.toList []) F (fun j => (Array.replicate opsA.size false).getD j false) 0) n = some x → getB S.heap n = some x := by
        intro n x hg
        unfold hp at hg
        rw [getNotOwn (fun j y _ => by simp only [hno]; rfl), h0] at hg
        exact hg
      have hhd : Holds P E A S.heap { w with drawn := w.drawn + 1 } := H.world rfl
      refine ⟨⟨rfl, fun d _ => ⟨fun l o r _ _ hl => (by simp only [hno] at hl; cases hl), fun _ => rfl⟩⟩, ⟨ht.tmps, fun x hx => Sc_mono (fun n hn => .inl hn) x (ht.sc x hx)⟩, Nat.zero_le _, fun t e _ => ?_, (hhd.sub hhp).mono fun n hn => .inl hn, ?_, rfl⟩
      · simp only [hno]; simp
      · exact (Post.world (w₁ := { w with drawn := w.drawn + 1 }) (Post.start H hfacts.le (by rw [hfacts.ev, hev])) rfl rfl rfl rfl).drop hhp
  · simp at hb

end
end Go.Dam
