/-
  An own evaluator of closed runs of a program, proved sound against the model for every order of draws and every capacity of append. This text is one part of it; the theorems 'closed', 'evCall_sound' say what a run in the kernel proves. Used for the law's closed self-test and for what it calls on constants.
-/
import Derived.Test.YtmoddgkjaimpfaaGreatDoorDamH
import Derived.Maps.RangeRun
namespace Go.Dam

section
variable {P : Program}

/-- A loop over a function of which it is told that it ends in one of several ways: 'res c'. -/
theorem evRange_nd (hnm : NamesOk P) {C : Type} {g : Operand} {ps : Array Tmp} {as b : Code} {tm : List Value} {S : St} {gf : FuncId} {captured : Array Value} {res : C → St} {r : C → Loop} {e : C → Exit} (hok : okOpd P g = true)
    (hfv : aeval tm g = .func (.func gf) #[] captured) (hc2 : hasBody P gf = true) (hle : ∀ c, S.next + 2 ≤ (res c).next) (hr : ∀ c, getB (res c).heap S.next = some (.loop (r c))) (hbusy : ∀ c, isBusy (r c).state = false) (hleave : ∀ c, leaveOf (r c).pending = some (e c))
    {E : Env} {A : Nat → Prop} {a : Act} {w : World} {Q : Exit → Act → World → Prop} (ht : Tm E A tm a) (hg : Glb P E A) (hev : S.next % 2 = 0) (H : Holds P E A S.heap w)
    (hA0 : ∀ n, A n → n < S.next)
    (hcall : ∀ (E1 : Env) (W1 : World), Glb P E1 (fun n => A n ∨ (S.next ≤ n ∧ n < S.next + 2)) → Holds P E1 (fun n => A n ∨ (S.next ≤ n ∧ n < S.next + 2)) ((S.next, .loop ⟨.ready, none, 0, tm.toArray, ps, as, b, 0⟩) :: S.heap) W1 → (∀ x ∈ captured.toList, Sc (fun n => A n ∨ (S.next ≤ n ∧ n < S.next + 2)) x) →
      Calls P gf ((Value.func (.yield S.next) #[] #[] :: captured.toList).map (ren E1)).toArray W1 fun en w2 => ∃ c v E2, en = .returned (ren E2 v) ∧
        Post P E1 (fun n => A n ∨ (S.next ≤ n ∧ n < S.next + 2)) ((S.next, .loop ⟨.ready, none, 0, tm.toArray, ps, as, b, 0⟩) :: S.heap) (S.next + 2) W1 E2 (res c).heap (res c).next w2)
    (hQ : ∀ c, After P none E A S w a tm ⟨delB (res c).heap S.next, (res c).next⟩ (Q (e c))) : (Code.rangeFunc g ps as b).wpIn (rd none) 0 P Q a w := by
  obtain ⟨h1, h2⟩ := eval_ok ht hg hok
  rw [hfv, ren_func, renFn_func] at h1
  rw [hfv, Sc_func] at h2
  obtain ⟨fn0, hfn0, hbody0⟩ : ∃ fn, P.funcs[gf]? = some fn ∧ fn.body.isSome = true := by
    unfold hasBody at hc2
    split at hc2
    · rename_i fn hfn; exact ⟨fn, hfn, hc2⟩
    · cases hc2
  refine wpIn_rangeFunc ?_
  intro fn _
  -- the blocks that the statement lays
  have p0 := Post.unnamed (nx := S.next) H (.deferred (some []))
  have hs0 : (w.alloc (.deferred (some []))).heap.size = w.heap.size + 1 := by simp
  have pn : Post P E (fun n => A n ∨ (S.next ≤ n ∧ n < S.next)) S.heap S.next (w.alloc (.deferred (some []))) (E.bind S.next (w.alloc (.deferred (some []))).heap.size 0 0)
      ((S.next, .loop ⟨.ready, none, 0, tm.toArray, ps, as, b, 0⟩) :: S.heap) (S.next + 2)
      ((w.alloc (.deferred (some []))).alloc (.loop { state := .ready, pending := none, fn, tmps := a.tmps, params := ps, assign := as, body := b, defers := w.heap.size })) := by
    refine Post.new p0.holds ?_ ⟨by omega, by omega⟩ ?_ ?_ rfl rfl rfl rfl
    · rintro n (hn | hn) hx
      · have := hA0 n hn; omega
      · omega
    · intro x hx
      exact Sc_mono (A := A) (fun n hn => Or.inl hn) x (ht.sc x (by simpa using hx))
    · refine ⟨fn, w.heap.size, ?_⟩
      have hag : Agree A E (E.bind S.next (w.alloc (.deferred (some []))).heap.size 0 0) := by
        intro n hn
        have : n ≠ S.next := by rintro rfl; have := hA0 _ hn; omega
        simp [Env.bind, this]
      simp only
      rw [ht.tmps, List.map_congr_left fun x hx => (ren_agree hag x (ht.sc x hx)).symm]
      simp
  have p1 := p0.trans pn
  obtain ⟨E1, hE1⟩ : ∃ E1, E.bind S.next (w.alloc (.deferred (some []))).heap.size 0 0 = E1 := ⟨_, rfl⟩
  obtain ⟨W1, hW1⟩ : ∃ W1, (w.alloc (.deferred (some []))).alloc (.loop { state := .ready, pending := none, fn, tmps := a.tmps, params := ps, assign := as, body := b, defers := w.heap.size }) = W1 := ⟨_, rfl⟩
  have hβ : E1.β S.next = w.heap.size + 1 := by rw [← hE1]; simp [Env.bind]
  have hD1 : W1.heap[w.heap.size]? = some (.deferred (some [])) := by
    rw [← hW1, RowKit.Below.heap_alloc _ _ _ (by simp)]
    exact World.alloc_heap_new w _
  have hD1' : w.heap.size < W1.heap.size := by rw [← hW1]; simp; omega
  rw [hE1, hW1] at p1
  have hA1 : ∀ n, A n → ¬ (S.next ≤ n ∧ n < S.next + 2) := fun n hn hx => by have := hA0 n hn; omega
  have hag1 : Agree A E E1 := p1.agreeA hA1
  have hcalls := hcall E1 W1 (hg.next hag1 fun n hn => .inl hn) p1.holds (fun x hx => Sc_mono (B := fun n => A n ∨ (S.next ≤ n ∧ n < S.next + 2)) (fun n hn => Or.inl hn) x (h2.2.2 x (by simpa using hx)))
  have hargs : ((Value.func (.yield S.next) #[] #[] :: captured.toList).map (ren E1)).toArray = #[.func (.yield (w.heap.size + 1)) #[] #[]] ++ captured.map (ren E) := by
    apply Array.ext'
    simp only [List.map_cons, ren_func, renFn_yield, hβ, Array.toList_append, Array.toList_map]
    rw [List.map_congr_left fun x hx => ren_agree hag1 x (h2.2.2 x (by simpa using hx))]
    simp
  rw [hargs] at hcalls
  have hen : (Instr.enterLoop fn a.tmps ps as b none).run P w = .ok (w.heap.size + 1, [markOf w.heap.size]) W1 := by
    rw [← hW1]; exact run_enterLoop_outer _ _ _ _ _
  have hres : (resolve a.eval (rangeCall g (w.heap.size + 1)) 0).run P W1 = .ok { target := .fn (.func gf) (captured.map (ren E)), args := #[.func (.yield (w.heap.size + 1)) #[] #[]] } W1 := by
    unfold resolve rangeCall
    simp only [h1]
    simp [Deferred.ofValue, Act.eval]
  have hinv : (invoke (.fn (.func gf) (captured.map (ren E))) #[.func (.yield (w.heap.size + 1)) #[] #[]]).run P W1 = .ok (.enter gf (#[.func (.yield (w.heap.size + 1)) #[] #[]] ++ captured.map (ren E))) W1 :=
    run_callFunc_body hfn0 hbody0 (hnm gf fn0 hfn0 hbody0) W1
  refine ⟨_, _, W1, _, W1, gf, _, W1, hen, hres, fun _ _ => trivial, hinv, rd_depth none, (calls_rd hcalls).mono ?_⟩
  rintro en w2 ⟨c, v2, E2, rfl, q⟩
  have hr := hr c
  have hbusy := hbusy c
  have hleave := hleave c
  have hle := hle c
  have hQ := hQ c
  generalize hS2 : res c = S2 at hr q hle hQ
  generalize hr2 : r c = r at hr hbusy hleave
  generalize he2 : e c = e' at hleave hQ
  have hA : ∀ n, A n → ¬ (S.next ≤ n ∧ n < S2.next) := fun n hn hx => by have := hA0 n hn; omega
  have pT := p1.trans q
  obtain ⟨_, _, oc, hoc, f', d', hoc'⟩ := q.holds.blk S.next _ hr
  have hβ2 : E2.β S.next = w.heap.size + 1 := by rw [(q.agree S.next (by omega)).1, hβ]
  rw [hβ2, hoc'] at hoc
  have hst : r.state ≠ .busy := by intro hx; rw [hx] at hbusy; cases hbusy
  refine ⟨_, _, run_endLoop hoc hst, ?_⟩
  have hn : ∀ n x, getB (delB S2.heap S.next) n = some x → E2.β n ≠ w.heap.size + 1 := by
    intro n x hx he
    obtain ⟨k1, k2⟩ := getB_delB _ _ _ _ hx
    exact k1 (q.holds.inj n S.next _ _ k2 hr (by rw [he, hβ2]))
  have pF := (pT.drop fun n o hx => (getB_delB _ _ _ _ hx).2).turn (l := w.heap.size + 1) (o := .loop { { r with fn := f', defers := d', tmps := r.tmps.map (ren E2) } with state := .exhausted }) (by omega) hn
  have hq := hQ E2 { a with defers := [markOf w.heap.size] ++ a.defers } _ pF (ht.agree (pT.agreeA hA) (fun n hn => .inl hn) rfl) ⟨[w.heap.size], rfl, by simp, by
    intro D hD
    obtain rfl := List.mem_singleton.1 hD
    refine ⟨Nat.le_refl _, ?_⟩
    rw [World.putObj_heap_other (by omega), q.same _ hD1' (p1.holds.noDeferred hD1)]
    exact hD1, by simp⟩
  unfold leaveOf at hleave
  split at hleave
  · rename_i hp
    obtain rfl := Option.some.inj hleave
    simp only [hp] at hq ⊢
    exact hq
  · rename_i hp
    obtain rfl := Option.some.inj hleave
    simp only [hp] at hq ⊢
    exact wpIn_ret hq
  · rename_i j hp
    obtain rfl := Option.some.inj hleave
    simp only [hp] at hq ⊢
    exact wpIn_exit hq
  · cases hleave

end
end Go.Dam

namespace Go.Dam

section
variable {P : Program} {E : Env} {A : Nat → Prop} {w : World}

/-- One step of a range over a map: whichever entry that is left comes, or nothing is left. -/
theorem next_nd {S : St} (H : Holds P E A S.heap w) {r m since clock : Nat} {seen : Array Nat} {es : Array MapEntry} {ty : TypeId} (hr : getB S.heap r = some (.mapIter (some m) since seen clock)) (hm : getB S.heap m = some (.map es clock)) (hloose : loose es clock = false)
    (hold : ∀ x ∈ es.toList, x.born < since) (hsc : since ≤ clock) (hA : ∀ k, A k → ¬ (S.next ≤ k ∧ k < S.next)) :
    (leftA es.toList seen.toList = [] ∧ (Instr.next (ren E (.pointer (some ⟨r, 0, none⟩))) false ty).run P w = .ok (ren E (.tuple #[.bool false])) w) ∨
    ∃ e ∈ leftA es.toList seen.toList, ∃ w', (Instr.next (ren E (.pointer (some ⟨r, 0, none⟩))) false ty).run P w = .ok (ren E (.tuple #[.bool true, e.key, e.val])) w' ∧
      Post P E A S.heap S.next w E (setB S.heap r (.mapIter (some m) since (seen.push e.born) clock)) S.next w' ∧ Sc A (.tuple #[.bool true, e.key, e.val]) := by
  obtain ⟨_, hsc1, oc, hoc, hrel⟩ := H.blk r _ hr
  obtain ⟨h0, rfl⟩ := hrel
  obtain ⟨m1, m2, mA⟩ := H.mapAt hm hloose
  have hp : ren E (.pointer (some ⟨r, 0, none⟩)) = .pointer (some ⟨E.β r, 0, none⟩) := by rw [ren_ptr]; simp [Env.addr, h0]
  simp only [Option.map_some] at hoc
  have hl : leftOf (es.map (renEntry E)) seen = ((leftA es.toList seen.toList).map (renEntry E)).toArray := left_ren E es seen
  rw [hp]
  rcases run_next_at (P := P) w ty (E.β r) (E.β m) since clock seen (es.map (renEntry E)) clock hoc m1 (by
      intro x hx
      simp only [Array.toList_map, List.mem_map] at hx
      obtain ⟨y, hy, rfl⟩ := hx
      exact hold y hy) hsc with ⟨h1, h2⟩ | ⟨e, he, w1, hw1, hrun⟩
  · left
    rw [hl] at h1
    refine ⟨by simpa using h1, ?_⟩
    rw [h2, ren_tuple]; simp [ren_bool]
  · right
    rw [hl] at he
    simp only [List.mem_map] at he
    obtain ⟨x, hx, rfl⟩ := he
    have hxe : x ∈ es := by simpa using leftA_mem rfl x hx
    have hrun' : (Instr.next (.pointer (some ⟨E.β r, 0, none⟩)) false ty).run P w = .ok (ren E (.tuple #[.bool true, x.key, x.val])) (ChangeMaps.setBlock w1 (E.β r) (.mapIter (some (E.β m)) since (seen.push x.born) clock)) := by
      rw [hrun, ren_tuple]; simp [ren_bool, renEntry]
    refine ⟨x, hx, _, hrun', ?_, ?_⟩
    · have hp1 : Post P E A S.heap S.next w1 E (setB S.heap r (.mapIter (some m) since (seen.push x.born) clock)) S.next (ChangeMaps.setBlock w1 (E.β r) (.mapIter (some (E.β m)) since (seen.push x.born) clock)) :=
        Post.turnAt (o := .mapIter (some m) since seen clock) (o' := .mapIter (some m) since (seen.push x.born) clock) (oc' := .mapIter (some (E.β m)) since (seen.push x.born) clock) (by rcases hw1 with rfl | rfl; exact H; exact H.world rfl) hr hA hsc1 ⟨h0, rfl⟩
      rcases hw1 with rfl | rfl
      · exact hp1
      · exact Post.from hp1 rfl rfl rfl rfl
    · rw [Sc_tuple]; intro y hy; simp at hy
      rcases hy with rfl | rfl | rfl
      · exact Sc_bool _ _
      · exact (m2 x hxe).1
      · exact (m2 x hxe).2

theorem findBorn_self {e : MapEntry} : ∀ {l : List MapEntry}, (l.map (·.born)).Nodup → e ∈ l → findBorn e.born l = some e
  | [], _, h => by cases h
  | a :: r, hn, h => by
    simp only [List.map_cons, List.nodup_cons, List.mem_map, not_exists, not_and] at hn
    simp only [findBorn, Nat.beq_eq]
    rcases List.mem_cons.1 h with rfl | h
    · simp
    · rw [if_neg (fun he => hn.1 e h he.symm)]
      exact findBorn_self hn.2 h

theorem lastL_append : ∀ (l : List Nat) (x : Nat), lastL (l ++ [x]) = some x
  | [], _ => rfl
  | [a], x => rfl
  | a :: b :: r, x => by
    show lastL (b :: (r ++ [x])) = some x
    exact lastL_append (b :: r) x

/-- The entry that has come, read behind the step. -/
theorem aentry_nd {S : St} {r m since clock : Nat} {seen : Array Nat} {es : Array MapEntry} {e : MapEntry} (hr : getB S.heap r = some (.mapIter (some m) since (seen.push e.born) clock)) (hm : getB S.heap m = some (.map es clock)) (hloose : loose es clock = false)
    (hn : (es.toList.map (·.born)).Nodup) (he : e ∈ es.toList) : aentry S (.pointer (some ⟨r, 0, none⟩)) = some (.tuple #[e.key, e.val]) := by
  unfold aentry
  simp only [hr, hm]
  have : (seen.push e.born).toList = seen.toList ++ [e.born] := by simp
  rw [this, lastL_append]
  simp [findBorn_self hn he, hloose]

end
end Go.Dam

namespace Go.Dam

section
variable {P : Program} {callF : Fn → List Value → St → Option (Value × St)}

/-- What is left of a map when some entries have come. -/
theorem left_perm {es xs ls : List MapEntry} (hp : (xs ++ ls).Perm es) (hn : (es.map (·.born)).Nodup) : (leftA es (xs.map (·.born))).Perm ls := by
  have h1 : (leftA es (xs.map (·.born))).Perm (leftA (xs ++ ls) (xs.map (·.born))) := (hp.symm).filter _
  have hn2 : ((xs ++ ls).map (·.born)).Nodup := (hp.map (·.born)).nodup_iff.2 hn
  rw [List.map_append, List.nodup_append] at hn2
  have h2 : leftA (xs ++ ls) (xs.map (·.born)) = ls := by
    unfold leftA
    rw [List.filter_append]
    have e1 : xs.filter (fun e => !(xs.map (·.born)).contains e.born) = [] := by
      rw [List.filter_eq_nil_iff]
      intro a ha
      simp only [Bool.not_eq_true, Bool.not_eq_false']
      simp only [List.contains_iff_mem]
      exact List.mem_map.2 ⟨a, ha, rfl⟩
    have e2 : ls.filter (fun e => !(xs.map (·.born)).contains e.born) = ls := by
      rw [List.filter_eq_self]
      intro a ha
      simp only [Bool.not_eq_true']
      cases hc : (xs.map (·.born)).contains a.born with
      | false => rfl
      | true =>
        rw [List.contains_iff_mem] at hc
        exact absurd rfl (hn2.2.2 _ hc _ (List.mem_map.2 ⟨a, ha, rfl⟩))
    rw [e1, e2]; rfl
  rw [h2] at h1
  exact h1

theorem Post.monoA {E E' : Env} {A : Nat → Prop} {h h' : List (Nat × Obj)} {nx nx' k : Nat} {w w' : World} (q : Post P E A h nx w E' h' nx' w') : Post P E (fun n => A n ∨ (k ≤ n ∧ n < k)) h nx w E' h' nx' w' :=
  ⟨q.le, q.even, q.agree, q.holds.mono fun _ hn => hn.elim (fun x => .inl (.inl x)) .inr, q.os, q.tape, q.output, q.size, q.same, q.img⟩

/-- Two pieces, one behind the other: operations, then code. -/
theorem opsThen (hm : P.follows .mixedOrders = true) (hcf : CallOk P callF) (hnm : NamesOk P) {f N : Nat} {opsA : Array Oper} {l : List Oper} {rest : Code} {R : Exit → Act → World → Prop} {tm1 tm2 tm3 : List Value} {S1 S2 S3 : St} {e : Exit}
    (h1 : evOps callF P opsA.toList l tm1 S1 = some (tm2, S2)) (h2 : evC callF P f rest tm2 S2 = some (e, tm3, S3)) (hokl : ∀ o ∈ l, ∀ x ∈ o.op.operands, okOpd P x = true) (hokr : okCode P rest = true) (hN : S3.next ≤ N)
    {E : Env} {A : Nat → Prop} {a : Act} {w : World} (ht : Tm E A tm1 a) (hg : Glb P E A) (hev : S1.next % 2 = 0) (H : Holds P E A S1.heap w) (hA : ∀ n, A n → ¬ (S1.next ≤ n ∧ n < N)) (hQ : After P none E A S1 w a tm3 S3 (R e)) :
    wpListIn (rd none) 0 P opsA (Exit.then (rest.wpIn (rd none) 0 P R) R) l a w := by
  have m1 := evOps_mono h1
  have m2 := evC_mono h2
  have hA' : ∀ n, A n → ¬ (S1.next ≤ n ∧ n < S2.next) := fun n hn hx => hA n hn (by omega)
  refine evOps_sound hcf hnm h1 hokl ht hg hev H hA' ?_
  intro E2 a2 w2 p ht2 hd2
  show rest.wpIn (rd none) 0 P R a2 w2
  refine (evC_sound hm hcf hnm f).1 rest tm2 S2 e tm3 S3 h2 hokr none (fun hx => by cases hx) E2 _ a2 w2 R ht2 (hg.next (p.agreeA hA') fun n hn => .inl hn) (by rw [p.even, hev]) p.holds ?_ (hQ.trans p hd2 m2)
  rintro n (hn | hn) hx
  · exact hA n hn (by omega)
  · omega

set_option maxHeartbeats 1000000 in
/-- A loop over a map, whatever the order in which its entries come; what a round does is told by its rule. -/
theorem mapLoopR {i1 r m clock N : Nat} {tn ti : Tmp} {o1 o2 : Oper} {rest : Code} {es : Array MapEntry}
    {T : List MapEntry → List Value} {F : List MapEntry → St} {TE : List MapEntry → List Value} {FE : List MapEntry → St} {ex : Exit} {Q : Exit → Act → World → Prop}
    (h1op : o1.op = .next (.tmp ti) false) (h1g : o1.guard = none) (h1d : o1.dst = some tn) (hloose : loose es clock = false)
    (hborn : ∀ x ∈ es.toList, x.born < clock) (hnd : (es.toList.map (·.born)).Nodup) (hex : ex ≠ .normal)
    (hit : ∀ xs ls, (xs ++ ls).Perm es.toList → getB (F xs).heap r = some (.mapIter (some m) clock (xs.map (·.born)).toArray clock) ∧ getB (F xs).heap m = some (.map es clock) ∧ nth (T xs) ti = .pointer (some ⟨r, 0, none⟩) ∧ (F xs).next % 2 = 0)
    (hle : ∀ xs ls ys, (xs ++ ls).Perm es.toList → ys.Perm es.toList → (F xs).next ≤ (FE ys).next)
    (hN : ∀ xs ls, (xs ++ ls).Perm es.toList → (F xs).next ≤ N)
    (hround : ∀ xs e ls, (xs ++ e :: ls).Perm es.toList → ∀ (E : Env) (A : Nat → Prop) (a : Act) (w : World) (R : Exit → Act → World → Prop), Tm E A (putD (T xs) (some tn) (.tuple #[.bool true, e.key, e.val])) a → Glb P E A →
      Holds P E A (setB (F xs).heap r (.mapIter (some m) clock ((xs.map (·.born)).toArray.push e.born) clock)) w → (∀ n, A n → ¬ ((F xs).next ≤ n ∧ n < N)) →
      After P none E A ⟨setB (F xs).heap r (.mapIter (some m) clock ((xs.map (·.born)).toArray.push e.born) clock), (F xs).next⟩ w a (T (xs ++ [e])) (F (xs ++ [e])) (R .normal) → wpListIn (rd none) 0 P #[o1, o2] (Exit.then (rest.wpIn (rd none) 0 P R) R) [o2] a w)
    (hend : ∀ xs, xs.Perm es.toList → ∀ (E : Env) (A : Nat → Prop) (a : Act) (w : World) (R : Exit → Act → World → Prop), Tm E A (putD (T xs) (some tn) (.tuple #[.bool false])) a → Glb P E A → Holds P E A (F xs).heap w → (∀ n, A n → ¬ ((F xs).next ≤ n ∧ n < N)) →
      After P none E A (F xs) w a (TE xs) (FE xs) (R ex) → wpListIn (rd none) 0 P #[o1, o2] (Exit.then (rest.wpIn (rd none) 0 P R) R) [o2] a w) :
    ∀ (k : Nat) (xs ls : List MapEntry), ls.length = k → (xs ++ ls).Perm es.toList → ∀ (E : Env) (A : Nat → Prop) (a : Act) (w : World), Tm E A (T xs) a → Glb P E A → Holds P E A (F xs).heap w → (∀ n, A n → ¬ ((F xs).next ≤ n ∧ n < N)) →
      (∀ ys, ys.Perm es.toList → After P none E A (F xs) w a (TE ys) (FE ys) (Q ex)) → Code.roundsIn (rd none) 0 P (.seq (.region i1 #[o1, o2] false) rest) Q (k + 1) a w := by
  intro k
  induction k with
  | zero =>
    intro xs ls hk hp E A a w ht hg H hA hQ
    have hls : ls = [] := List.length_eq_zero_iff.1 hk
    subst hls
    obtain ⟨i1', i2', i3', i4'⟩ := hit xs [] hp
    rw [List.append_nil] at hp
    rw [roundsIn_succ]
    refine wpIn_seq (wpIn_region_list (wpListIn_step fun K hK => ?_))
    rw [if_pos (by simp [Region.wanted, h1g])]
    have hlp := left_perm (xs := xs) (ls := []) (by simpa using hp) hnd
    have hx : a.eval (.tmp ti) = ren E (.pointer (some ⟨r, 0, none⟩)) := by
      have := (eval_ok (P := P) ht hg (x := .tmp ti) rfl).1
      simpa [aeval, i3'] using this
    rcases next_nd (P := P) (ty := o1.type) H i1' i2' hloose hborn (Nat.le_refl _) (fun n hn hy => by omega) with ⟨_, hrun⟩ | ⟨e, he, _⟩
    · refine upon_value (v := ren E (.tuple #[.bool false])) (w' := w) (by rw [h1op]; simp) (execOp_value (s := Instr.next (ren E (.pointer (some ⟨r, 0, none⟩))) false o1.type) (by simp only [execOp, h1op, hx]) hrun) ?_
      rw [h1d]
      refine hK _ _ (hend xs hp E A _ w _ ?_ hg H hA ?_)
      · have := ht.put (E' := E) (B := A) (dst := some tn) (v := .tuple #[.bool false]) (fun n _ => ⟨rfl, rfl, rfl⟩) (fun n hn => hn) (by rw [Sc_tuple]; intro y hy; simp at hy; subst hy; exact Sc_bool _ _)
        exact this
      · intro E' a' w' p ht' hd'
        have := hQ xs hp E' a' w' p ht' hd'
        cases ex with
        | normal => exact absurd rfl hex
        | _ => exact this
    · have := hlp.mem_iff.1 he
      cases this
  | succ k ih =>
    intro xs ls hk hp E A a w ht hg H hA hQ
    obtain ⟨i1', i2', i3', i4'⟩ := hit xs ls hp
    rw [roundsIn_succ]
    refine wpIn_seq (wpIn_region_list (wpListIn_step fun K hK => ?_))
    rw [if_pos (by simp [Region.wanted, h1g])]
    have hlp := left_perm (xs := xs) (ls := ls) hp hnd
    have hx : a.eval (.tmp ti) = ren E (.pointer (some ⟨r, 0, none⟩)) := by
      have := (eval_ok (P := P) ht hg (x := .tmp ti) rfl).1
      simpa [aeval, i3'] using this
    rcases next_nd (P := P) (ty := o1.type) H i1' i2' hloose hborn (Nat.le_refl _) (fun n hn hy => by omega) with ⟨hl0, _⟩ | ⟨e, he, w', hrun, p, hsc⟩
    · have hl0' : leftA es.toList (xs.map (·.born)) = [] := by simpa using hl0
      rw [hl0'] at hlp
      have := hlp.length_eq
      simp at this; omega
    · have hel : e ∈ ls := hlp.mem_iff.1 (by simpa using he)
      obtain ⟨l1, l2, rfl⟩ := List.append_of_mem hel
      have hp' : (xs ++ e :: (l1 ++ l2)).Perm es.toList := (List.Perm.append_left xs List.perm_middle.symm).trans hp
      refine upon_value (v := ren E (.tuple #[.bool true, e.key, e.val])) (w' := w') (by rw [h1op]; simp) (execOp_value (s := Instr.next (ren E (.pointer (some ⟨r, 0, none⟩))) false o1.type) (by simp only [execOp, h1op, hx]) hrun) ?_
      rw [h1d]
      have hp2 : ((xs ++ [e]) ++ (l1 ++ l2)).Perm es.toList := by simpa using hp'
      have hAo : ∀ n, (A n ∨ ((F xs).next ≤ n ∧ n < (F xs).next)) → A n := fun n hn => hn.resolve_right (by omega)
      have Hn : Holds P E A (setB (F xs).heap r (.mapIter (some m) clock ((xs.map (·.born)).toArray.push e.born) clock)) w' := p.holds.mono hAo
      have htn : Tm E A (putD (T xs) (some tn) (.tuple #[.bool true, e.key, e.val])) (a.put (some tn) (ren E (.tuple #[.bool true, e.key, e.val]))) :=
        ht.put (E' := E) (B := A) (dst := some tn) (fun n _ => ⟨rfl, rfl, rfl⟩) (fun n hn => hn) hsc
      refine hK _ _ (hround xs e (l1 ++ l2) hp' E A _ w' _ htn hg Hn hA ?_)
      intro E' a' w'' q ht' hd'
      have m1 : (F xs).next ≤ (F (xs ++ [e])).next := q.le
      have pq : Post P E A (F xs).heap (F xs).next w E' (F (xs ++ [e])).heap (F (xs ++ [e])).next w'' := by
        have := p.trans (q := Post.monoA q)
        exact this
      have hN2 := hN (xs ++ [e]) (l1 ++ l2) hp2
      have hAq : ∀ n, A n → ¬ ((F xs).next ≤ n ∧ n < (F (xs ++ [e])).next) := fun n hn hy => hA n hn (by omega)
      have hdd : Dfr none w a w'' a' := by
        obtain ⟨Ds, d1, d2, d3, d4⟩ := hd'
        have hpd : (a.put (some tn) (ren E (.tuple #[.bool true, e.key, e.val]))).defers = a.defers := rfl
        exact ⟨Ds, by rw [d1, hpd], d2, fun D hD => ⟨Nat.le_trans p.size (d3 D hD).1, (d3 D hD).2⟩, d4⟩
      refine ih (xs ++ [e]) (l1 ++ l2) (by simp at hk ⊢; omega) hp2 E' _ a' w'' ht' (hg.next (pq.agreeA hAq) fun n hn => .inl hn) pq.holds ?_ fun ys hys => (hQ ys hys).trans pq hdd (hle _ _ ys hp2 hys)
      rintro n (hn | hn) hy
      · exact hA n hn (by omega)
      · omega

end
end Go.Dam

namespace Go.Dam

section
variable {P : Program} {callF : Fn → List Value → St → Option (Value × St)}

/-- The first k pieces of a row of pieces are run; what is left, and the state there. -/
def evPre (callF : Fn → List Value → St → Option (Value × St)) (P : Program) (f : Nat) : Nat → Code → List Value → St → Option (Code × List Value × St)
  | 0, c, tm, S => some (c, tm, S)
  | k + 1, .seq a b, tm, S => match evC callF P f a tm S with
    | some (.normal, tm', S') => evPre callF P f k b tm' S'
    | _ => none
  | _ + 1, _, _, _ => none

theorem evPre_mono {f : Nat} : ∀ {k : Nat} {c c' : Code} {tm tm' : List Value} {S S' : St}, evPre callF P f k c tm S = some (c', tm', S') → S.next ≤ S'.next
  | 0, _, _, _, _, _, _, h => by
    simp only [evPre, Option.some.injEq, Prod.mk.injEq] at h
    rw [h.2.2]; exact Nat.le_refl _
  | k + 1, c, c', tm, tm', S, S', h => by
    cases c with
    | seq a b =>
      simp only [evPre] at h
      split at h
      · rename_i h1
        exact Nat.le_trans (evC_mono h1) (evPre_mono h)
      · cases h
    | _ => simp [evPre] at h

theorem evPre_sound (hm : P.follows .mixedOrders = true) (hcf : CallOk P callF) (hnm : NamesOk P) {f : Nat} {Q : Exit → Act → World → Prop} : ∀ {k : Nat} {c c' : Code} {tm tm' : List Value} {S S' : St}, evPre callF P f k c tm S = some (c', tm', S') → okCode P c = true →
    ∀ {E : Env} {A : Nat → Prop} {a : Act} {w : World}, Tm E A tm a → Glb P E A → S.next % 2 = 0 → Holds P E A S.heap w → (∀ n, A n → n < S.next) → After P none E A S w a tm' S' (c'.wpIn (rd none) 0 P Q) → c.wpIn (rd none) 0 P Q a w
  | 0, c, c', tm, tm', S, S', h, hok, E, A, a, w, ht, hg, hev, H, hA, hQ => by
    simp only [evPre, Option.some.injEq, Prod.mk.injEq] at h
    obtain ⟨rfl, rfl, rfl⟩ := h
    exact hQ E a w (Post.refl H) ⟨ht.tmps, fun x hx => Sc_or (ht.sc x hx)⟩ (Dfr.of_eq rfl)
  | k + 1, c, c', tm, tm', S, S', h, hok, E, A, a, w, ht, hg, hev, H, hA, hQ => by
    cases c with
    | seq x y =>
      simp only [okCode, Bool.and_eq_true] at hok
      simp only [evPre] at h
      split at h
      · rename_i tm1 S1 h1
        have hA' : ∀ n, A n → ¬ (S.next ≤ n ∧ n < S1.next) := fun n hn hx => by have := hA n hn; omega
        have m2 := evPre_mono h
        refine wpIn_seq ((evC_sound hm hcf hnm f).1 x tm S .normal tm1 S1 h1 hok.1 none (fun hx => by cases hx) E A a w _ ht hg hev H hA' ?_)
        intro E1 a1 w1 p ht1 hd1
        refine evPre_sound hm hcf hnm h hok.2 ht1 (hg.next (p.agreeA hA') fun n hn => .inl hn) (by rw [p.even, hev]) p.holds ?_ (hQ.trans p hd1 m2)
        have := p.le
        rintro n (hn | hn)
        · have := hA n hn; omega
        · omega
      · cases h
    | _ => simp [evPre] at h

/-- A function's contract out of its body, where the body ends in one of several states. -/
theorem calls_nd {C : Type} {g : FuncId} {fn : Func} {c : Code} {args : List Value} {S : St} {E : Env} {A : Nat → Prop} {w : World} {tmR : C → List Value} {SR : C → St} {vs : C → List Value}
    (hfn : P.funcs[g]? = some fn) (hc : fn.body = some c) (hargs : ∀ x ∈ args, Sc A x) (hvs : ∀ k, aresults P (SR k).heap (tmR k) fn.results.toList = some (vs k))
    (hbody : ∀ (a : Act), Tm E A (args ++ List.replicate (fn.ntmps - args.length) undef) a → a.defers = [] → ∀ Q : Exit → Act → World → Prop, (∀ k, After P none E A S w a (tmR k) (SR k) (fun a' w' => Q .normal a' w' ∧ Q .ret a' w')) → c.wpIn (rd none) 0 P Q a w) :
    Calls P g (args.map (ren E)).toArray w fun e w' => ∃ k E', e = .returned (ren E' (oneOf (vs k))) ∧ Post P E A S.heap S.next w E' (SR k).heap (SR k).next w' ∧ Sc (fun n => A n ∨ (S.next ≤ n ∧ n < (SR k).next)) (oneOf (vs k)) := by
  refine (callsIn_wide (n := 0)).1 (callsIn_of_wp_marks hfn hc trivial ?_)
  have ht : Tm E A (args ++ List.replicate (fn.ntmps - args.length) undef) { tmps := (args.map (ren E)).toArray ++ Array.replicate (fn.ntmps - (args.map (ren E)).toArray.size) undef, defers := [] } := by
    refine ⟨by simp [ren_undef], ?_⟩
    intro x hx
    rcases List.mem_append.1 hx with hx | hx
    · exact hargs x hx
    · rw [(List.mem_replicate.1 hx).2]; exact Sc_undef _
  refine hbody _ ht rfl _ fun k => ?_
  intro E' a' w' p ht' hd
  obtain ⟨Ds, hd1, _, hd2, hd3⟩ := hd
  simp only [List.append_nil] at hd1
  have this : LeavesInM (rd none) 0 P fn a'.tmps (fun e w' => ∃ k E', e = .returned (ren E' (oneOf (vs k))) ∧ Post P E A S.heap S.next w E' (SR k).heap (SR k).next w' ∧ Sc (fun n => A n ∨ (S.next ≤ n ∧ n < (SR k).next)) (oneOf (vs k))) a'.defers .returning w' := by
    rw [hd1]
    refine leaves_marks (fun w'' p'' => ?_) Ds w' p hd2 hd3
    obtain ⟨r1, r2⟩ := results_sound (fn := fn) p''.holds ht' (hvs k)
    exact ⟨_, r1, k, E', rfl, p'', r2⟩
  exact ⟨this, this⟩

end
end Go.Dam
