/-
  An own evaluator of closed runs of a program, proved sound against the model for every order of draws and every capacity of append. This text is one part of it; the last part's theorem 'closed' says what a run in the kernel proves. Used for the law's closed self-test.
-/
import Derived.Test.YtgjgdofofhmjgaaDoorDamK
namespace Go.Dam

section
variable {P : Program} {E : Env} {A : Nat → Prop} {h h' : List (Nat × Obj)} {nx : Nat} {w w' : World}

theorem Holds.mapAt (H : Holds P E A h w) {n : Nat} {es : Array MapEntry} {clock : Nat} (hg : getB h n = some (.map es clock)) :
    w.heap[E.β n]? = some (.map (es.map (renEntry E)) clock) ∧ (∀ x ∈ es, Sc A x.key ∧ Sc A x.val) ∧ A n := by
  obtain ⟨ha, hs, oc, hoc, hr⟩ := H.blk n _ hg
  simp only [BlkRel] at hr
  subst hr
  exact ⟨hoc, hs, ha⟩

theorem run_getObj_map {r : Nat} {es : Array MapEntry} {clock : Nat} (hg : w.heap[r]? = some (.map es clock)) : (getObj r).run P w = .ok (.map es clock) w := by
  simp [getObj, Sem.run, hg]

theorem run_setObj_map {r : Nat} {es es' : Array MapEntry} {clock clock' : Nat} (hg : w.heap[r]? = some (.map es clock)) : (setObj r (.map es' clock')).run P w = .ok () { w with heap := w.heap.setIfInBounds r (.map es' clock') } := by
  simp [setObj, Sem.run, hg]

theorem keysPlain_mem : ∀ {l : List MapEntry}, keysPlain l = true → ∀ e ∈ l, plain2 e.key = true
  | [], _ => by simp
  | a :: r, h => by
    simp [keysPlain] at h
    intro e he
    rcases List.mem_cons.1 he with rfl | he
    · exact h.1
    · exact keysPlain_mem h.2 e he

theorem findNow_ren (E : Env) (kind : TypeDesc) (k : Value) : ∀ (l : List MapEntry) (i : Nat), keysPlain l = true →
    Instr.findNow kind k (l.map (renEntry E)) i = (Instr.findNow kind k l i).map (fun o => o.map fun x => (x.1, ren E x.2))
  | [], i, _ => rfl
  | e :: l, i, h => by
    simp [keysPlain] at h
    simp only [List.map_cons, Instr.findNow, renEntry, plain2_ren E h.1]
    cases hs : Instr.sameNow kind k e.key with
    | none => rfl
    | some b => cases b with
      | true => rfl
      | false => exact findNow_ren E kind k l (i + 1) h.2

theorem findAsking_ren (E : Env) (kt : TypeId) (k : Value) : ∀ (l : List MapEntry) (i : Nat), keysPlain l = true →
    purely P (Instr.findAsking kt k (l.map (renEntry E)) i) = (purely P (Instr.findAsking kt k l i)).map (fun o => o.map fun x => (x.1, ren E x.2))
  | [], i, _ => rfl
  | e :: l, i, h => by
    simp [keysPlain] at h
    simp only [List.map_cons, Instr.findAsking, renEntry, plain2_ren E h.1, purely_bind]
    cases hq : purely P (Op.equal kt k e.key) with
    | none => rfl
    | some b =>
      simp only [Option.bind_some, purely_ite]
      cases b with
      | true => rfl
      | false => exact findAsking_ren E kt k l (i + 1) h.2

theorem findKey_ren (E : Env) (kt : TypeId) (k : Value) (l : List MapEntry) (h : keysPlain l = true) :
    purely P (Instr.findKey kt k (l.map (renEntry E))) = (purely P (Instr.findKey kt k l)).map (fun o => o.map fun x => (x.1, ren E x.2)) := by
  unfold Instr.findKey
  simp only [purely_bind, purely_underlying]
  cases P.underlying kt with
  | none => rfl
  | some d =>
    simp only [Option.bind_some, findNow_ren E d k l 0 h]
    cases hf : Instr.findNow d k l 0 with
    | none => exact findAsking_ren E kt k l 0 h
    | some r => rfl

theorem findNow_mem (kind : TypeDesc) (k : Value) : ∀ (l : List MapEntry) (i j : Nat) (v : Value), Instr.findNow kind k l i = some (some (j, v)) → ∃ e ∈ l, e.val = v
  | [], i, j, v, h => by simp [Instr.findNow] at h
  | e :: l, i, j, v, h => by
    simp only [Instr.findNow] at h
    split at h
    · simp at h; exact ⟨e, List.mem_cons_self .., h.2⟩
    · obtain ⟨e', h1, h2⟩ := findNow_mem kind k l (i + 1) j v h; exact ⟨e', List.mem_cons_of_mem _ h1, h2⟩
    · simp at h

theorem findAsking_mem (kt : TypeId) (k : Value) : ∀ (l : List MapEntry) (i j : Nat) (v : Value), purely P (Instr.findAsking kt k l i) = some (some (j, v)) → ∃ e ∈ l, e.val = v
  | [], i, j, v, h => by simp [Instr.findAsking, purely_pure] at h
  | e :: l, i, j, v, h => by
    simp only [Instr.findAsking, purely_bind] at h
    cases hq : purely P (Op.equal kt k e.key) with
    | none => simp [hq] at h
    | some b =>
      simp only [hq, Option.bind_some, purely_ite] at h
      cases b with
      | true => simp [purely_pure] at h; exact ⟨e, List.mem_cons_self .., h.2⟩
      | false => obtain ⟨e', h1, h2⟩ := findAsking_mem kt k l (i + 1) j v (by simpa using h); exact ⟨e', List.mem_cons_of_mem _ h1, h2⟩

theorem findKey_mem (kt : TypeId) (k : Value) (l : List MapEntry) (j : Nat) (v : Value) (h : purely P (Instr.findKey kt k l) = some (some (j, v))) : ∃ e ∈ l, e.val = v := by
  unfold Instr.findKey at h
  simp only [purely_bind, purely_underlying] at h
  cases hu : P.underlying kt with
  | none => simp [hu] at h
  | some d =>
    simp only [hu, Option.bind_some] at h
    cases hf : Instr.findNow d k l 0 with
    | none => rw [hf] at h; exact findAsking_mem kt k l 0 j v h
    | some r => rw [hf] at h; simp [purely_pure] at h; subst h; exact findNow_mem d k l 0 j v hf

theorem lookup_sound (H : Holds P E A h w) {t : TypeId} {x i v : Value} {ok : Bool} (hb : alookup P h t x i ok = some v) :
    (Instr.lookup t (ren E x) (ren E i) ok).run P w = .ok (ren E v) w ∧ Sc A v := by
  unfold alookup at hb
  split at hb
  · rename_i k e hu
    split at hb
    · rename_i hpi
      rw [plain2_ren E hpi]
      have hzr : ∀ z, zeroT P e = some z → plain2 z = true → ∀ w : World, (zeroValue e).run P w = .ok (ren E z) w := by
        intro z hz hp w; rw [plain2_ren E hp]; exact run_zeroT hz w
      have hfin : ∀ (y : Value) (b : Bool), Sc A y → ren E (if ok = true then .tuple #[y, .bool b] else y) = (if ok = true then .tuple #[ren E y, .bool b] else ren E y) ∧ Sc A (if ok = true then .tuple #[y, .bool b] else y) := by
        intro y b hy
        cases ok with
        | true =>
          simp only [if_true]
          rw [ren_tuple, Sc_tuple]
          refine ⟨by simp [ren_bool], ?_⟩
          intro x hx
          simp at hx
          rcases hx with rfl | rfl
          · exact hy
          · exact Sc_bool _ _
        | false => exact ⟨rfl, hy⟩
      split at hb
      · split at hb
        · rename_i z hz
          simp only [Option.ite_none_right_eq_some] at hb
          obtain ⟨hp, hb⟩ := hb
          split at hb
          · rename_i u hck
            simp only [Option.some.injEq] at hb; subst hb
            obtain ⟨f1, f2⟩ := hfin z false (plain2_Sc A hp)
            refine ⟨?_, f2⟩
            rw [f1, ren_nilmap]
            have hfk : purely P (Instr.findKey k i []) = purely P (Instr.findKey k i []) := rfl
            simp only [Instr.lookup, Sem.run_bind, run_underlying hu, Result.andThen_ok, Sem.run_pure]
            rw [show (#[] : Array MapEntry).isEmpty = true from rfl, run_purely hck]
            have hk0 : (Instr.findKey k i ([] : List MapEntry)).run P w = .ok none w := by
              unfold Instr.findKey
              have hk := hck
              unfold Instr.checkKey at hk
              rw [purely_bind, purely_underlying] at hk
              cases hku : P.underlying k with
              | none => simp [hku] at hk
              | some d => simp only [Sem.run_bind, run_underlying hku, Result.andThen_ok, Instr.findNow, Sem.run_pure]
            simp only [Result.andThen_ok, hk0, Sem.run_bind, hzr z hz hp, Sem.run_pure]
          · simp at hb
        · simp at hb
      · rename_i n
        rw [ren_map]
        split at hb
        · rename_i es clock hg
          obtain ⟨m1, m2, _⟩ := H.mapAt hg
          simp only [Option.ite_none_right_eq_some] at hb
          obtain ⟨hkp, hb⟩ := hb
          have hfr := findKey_ren (P := P) E k i es.toList hkp
          have hck : ∀ r, afind P k i es = some r → purely P (Instr.checkKey es.isEmpty 10000 k i) = some () ∧ purely P (Instr.findKey k i es.toList) = some r := by
            intro r hr
            unfold afind at hr
            rw [purely_bind] at hr
            cases hc : purely P (Instr.checkKey es.isEmpty 10000 k i) with
            | none => simp [hc] at hr
            | some u => simp only [hc, Option.bind_some] at hr; exact ⟨rfl, hr⟩
          have hlist : (es.map (renEntry E)).toList = es.toList.map (renEntry E) := by simp
          have hemp : (es.map (renEntry E)).isEmpty = es.isEmpty := by simp [Array.isEmpty]
          split at hb
          · rename_i j y hf
            obtain ⟨c1, c2⟩ := hck _ hf
            simp only [Option.some.injEq] at hb; subst hb
            obtain ⟨e', he1, he2⟩ := findKey_mem (P := P) _ _ _ _ _ c2
            have hy : Sc A y := by rw [← he2]; exact (m2 e' (by simpa using he1)).2
            obtain ⟨f1, f2⟩ := hfin y true hy
            refine ⟨?_, f2⟩
            rw [f1]
            rw [c2] at hfr
            simp only [Instr.lookup, Sem.run_bind, run_underlying hu, Result.andThen_ok, run_getObj_map m1, Sem.run_pure, hemp, run_purely c1, hlist, run_purely hfr, Option.map_some]
          · rename_i hf
            obtain ⟨c1, c2⟩ := hck _ hf
            split at hb
            · rename_i z hz
              simp only [Option.ite_none_right_eq_some, Option.some.injEq] at hb
              obtain ⟨hp, rfl⟩ := hb
              obtain ⟨f1, f2⟩ := hfin z false (plain2_Sc A hp)
              refine ⟨?_, f2⟩
              rw [f1]
              rw [c2] at hfr
              simp only [Instr.lookup, Sem.run_bind, run_underlying hu, Result.andThen_ok, run_getObj_map m1, Sem.run_pure, hemp, run_purely c1, hlist, run_purely hfr, Option.map_none, hzr z hz hp]
            · simp at hb
          · simp at hb
        · simp at hb
      · simp at hb
    · simp at hb
  · simp at hb

theorem modL_modify (k v : Value) : ∀ (l : List MapEntry) (j : Nat), modL l j k v = l.modify j fun e => { e with key := k, val := v }
  | [], j => by cases j <;> rfl
  | e :: r, 0 => by simp [modL, List.modify]
  | e :: r, n + 1 => by simp [modL, modL_modify k v r n]

theorem keyAt_get : ∀ (l : List MapEntry) (j : Nat), (((l[j]?).map (·.key)).getD undef) = keyAt l j
  | [], j => by cases j <;> rfl
  | e :: r, 0 => rfl
  | e :: r, n + 1 => by simpa [keyAt] using keyAt_get r n

theorem mapUpdate_sound {S S' : St} (H : Holds P E A S.heap w) {t : TypeId} {m i v : Value} (hb : amapUpdate P S t m i v = some S') (hsc : Sc A v) :
    ∃ w', (Instr.mapUpdate t (ren E m) (ren E i) (ren E v)).run P w = .ok () w' ∧ Post P E A S.heap S.next w E S'.heap S'.next w' := by
  unfold amapUpdate at hb
  split at hb
  · rename_i k e hu
    split at hb
    · rename_i hpi
      rw [plain2_ren E hpi]
      split at hb
      · rename_i n
        rw [ren_map]
        split at hb
        · rename_i es clock hg
          obtain ⟨m1, m2, mA⟩ := H.mapAt hg
          simp only [Option.ite_none_right_eq_some] at hb
          obtain ⟨hkp, hb⟩ := hb
          have hfr := findKey_ren (P := P) E k i es.toList hkp
          have hck : ∀ r, purely P (do Instr.checkKey false 10000 k i; Instr.findKey k i es.toList) = some r → purely P (Instr.checkKey false 10000 k i) = some () ∧ purely P (Instr.findKey k i es.toList) = some r := by
            intro r hr
            rw [purely_bind] at hr
            cases hc : purely P (Instr.checkKey false 10000 k i) with
            | none => simp [hc] at hr
            | some u => simp only [hc, Option.bind_some] at hr; exact ⟨rfl, hr⟩
          have hlist : (es.map (renEntry E)).toList = es.toList.map (renEntry E) := by simp
          have hlt : E.β n < w.heap.size := (Array.getElem?_eq_some_iff.1 m1).1
          have hpost : ∀ (es' : Array MapEntry) (clock' : Nat), (∀ x ∈ es', Sc A x.key ∧ Sc A x.val) →
              Post P E A S.heap S.next w E (setB S.heap n (.map es' clock')) S.next { w with heap := w.heap.setIfInBounds (E.β n) (.map (es'.map (renEntry E)) clock') } := by
            intro es' clock' hes
            refine Post.put (m := n) (b := E.β n) (o' := .map es' clock') (oc' := .map (es'.map (renEntry E)) clock') H (Nat.le_refl _) rfl (fun _ _ => ⟨rfl, rfl, rfl⟩) (fun _ _ => rfl) (fun k _ hk => by omega) (.inl mA) rfl ?_
              (fun x hx => ⟨Sc_or (hes x hx).1, Sc_or (hes x hx).2⟩) rfl ?_ ?_ (by simp) rfl rfl rfl (.inl ⟨n, _, hg, rfl⟩)
            · intro k x hk
              rcases getB_setB _ _ _ _ _ hk with ⟨rfl, rfl⟩ | ⟨hne, hgk⟩
              · exact .inl ⟨rfl, rfl⟩
              · exact .inr ⟨hne, hgk, fun he => hne (H.inj k n _ _ hgk hg he)⟩
            · simp [hlt]
            · intro j hj _
              simp [Ne.symm hj]
          split at hb
          · rename_i j y hf
            obtain ⟨c1, c2⟩ := hck _ hf
            simp only [Option.ite_none_right_eq_some, Option.some.injEq, Bool.and_eq_true] at hb
            obtain ⟨⟨hsame, hjlt⟩, rfl⟩ := hb
            have hjlt : j < es.size := Nat.le_of_ble_eq_true hjlt
            have hes' : ∀ x ∈ (modL es.toList j i v).toArray, Sc A x.key ∧ Sc A x.val := by
              intro x hx
              have hx : x ∈ modL es.toList j i v := by simpa using hx
              have key : ∀ (l : List MapEntry) (j : Nat), x ∈ modL l j i v → x ∈ l ∨ (Sc A x.key ∧ Sc A x.val) := by
                intro l
                induction l with
                | nil => intro j h; cases j <;> simp [modL] at h
                | cons a r ih =>
                  intro j h
                  cases j with
                  | zero =>
                    simp only [modL, List.mem_cons] at h
                    rcases h with rfl | h
                    · exact .inr ⟨plain2_Sc A hpi, hsc⟩
                    · exact .inl (List.mem_cons_of_mem _ h)
                  | succ j =>
                    simp only [modL, List.mem_cons] at h
                    rcases h with rfl | h
                    · exact .inl (List.mem_cons_self ..)
                    · exact (ih j h).imp (List.mem_cons_of_mem _) id
              rcases key _ _ hx with h | h
              · exact m2 x (by simpa using h)
              · exact h
            refine ⟨_, ?_, hpost _ clock hes'⟩
            rw [c2] at hfr
            have hold : keyAt es.toList j = (((es.map (renEntry E))[j]?).map (·.key)).getD i := by
              have hj : ∃ e', es.toList[j]? = some e' := ⟨es[j], by simp [hjlt]⟩
              obtain ⟨e', he'⟩ := hj
              rw [← keyAt_get, he']
              have hpk := keysPlain_mem hkp e' (List.mem_of_getElem? he')
              have : es[j]? = some e' := by simpa using he'
              simp [this, renEntry, plain2_ren E hpk]
            simp only [Instr.mapUpdate, Sem.run_bind, run_underlying hu, Result.andThen_ok, run_getObj_map m1, run_purely c1, hlist, run_purely hfr, Option.map_some]
            rw [← hold]
            simp only [Instr.keyThatStays, hsame, if_true, Sem.run_pure, Result.andThen_ok, run_setObj_map m1]
            congr 3
            apply congrArg (fun x => Obj.map x clock)
            apply Array.ext'
            apply List.ext_getElem?
            intro q
            simp only [Array.toList_map, List.getElem?_map, modL_modify]
            rw [Array.getElem?_toList, Array.getElem?_modify, List.getElem?_modify]
            by_cases hq : j = q
            · subst hq
              simp
              cases es[j]? with
              | none => rfl
              | some x => simp [renEntry, plain2_ren E hpi]
            · simp [hq]
          · rename_i hf
            obtain ⟨c1, c2⟩ := hck _ hf
            simp only [Option.some.injEq] at hb
            subst hb
            refine ⟨_, ?_, hpost (es.push { key := i, val := v, born := clock }) (clock + 1) ?_⟩
            · rw [c2] at hfr
              simp only [Instr.mapUpdate, Sem.run_bind, run_underlying hu, Result.andThen_ok, run_getObj_map m1, run_purely c1, hlist, run_purely hfr, Option.map_none, run_setObj_map m1]
              simp [Array.map_push, renEntry, plain2_ren E hpi]
            · intro x hx
              rcases Array.mem_push.1 hx with hx | rfl
              · exact m2 x hx
              · exact ⟨plain2_Sc A hpi, hsc⟩
          · simp at hb
        · simp at hb
      · simp at hb
    · simp at hb
  · simp at hb

end
end Go.Dam
