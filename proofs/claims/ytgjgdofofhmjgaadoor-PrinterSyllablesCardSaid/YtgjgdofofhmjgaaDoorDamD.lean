/-
  An own evaluator of closed runs of a program, proved sound against the model for every order of draws and every capacity of append. This text is one part of it; the last part's theorem 'closed' says what a run in the kernel proves. Used for the law's closed self-test.
-/
import Derived.Test.YtgjgdofofhmjgaaDoorDamC
import Derived.Laws.Cells
import Derived.Laws.CopyRow
import Derived.Laws.Rows
namespace Go.Dam

/-! reading types -/
theorem run_isAggT {P : Program} {t : TypeId} {b : Bool} (h : aggT P t = some b) (w : World) : (isAgg t).run P w = .ok b w := by
  unfold aggT at h
  cases hu : P.underlying t with
  | none => simp [hu] at h
  | some d =>
    have := run_underlying hu w
    simp only [isAgg, Sem.run_bind, this, Result.andThen_ok]
    cases d <;> simp [hu] at h <;> subst h <;> rfl

theorem run_sizeT {P : Program} {t : TypeId} {s : Nat} (h : sizeT P t = some s) (w : World) : (Go.sizeOf t).run P w = .ok s w := by
  unfold sizeT at h
  cases hi : P.info? t with
  | none => simp [hi] at h
  | some i =>
    simp [hi] at h; subst h
    simp [Go.sizeOf, typeInfo, hi]

theorem run_infoT {P : Program} {t : TypeId} {i : TypeInfo} (h : P.info? t = some i) (w : World) : (typeInfo t).run P w = .ok i w := by
  simp [typeInfo, h]

theorem run_zeroT {P : Program} {t : TypeId} {z : Value} (h : zeroT P t = some z) (w : World) : (zeroValue t).run P w = .ok z w := by
  unfold zeroT at h
  cases hi : P.info? t with
  | none => simp [hi] at h
  | some i =>
    simp [hi] at h
    simp [zeroValue, typeInfo, hi, h]

theorem elemT_under {P : Program} {t e : TypeId} (h : elemT P t = some e) : P.underlying t = some (.slice e) := by
  unfold elemT at h
  split at h
  · rename_i e' hu; simp at h; subst h; exact hu
  · simp at h

theorem addr_add (b o k : Nat) : (⟨b, o, none⟩ : Addr).add k = ⟨b, o + k, none⟩ := by
  unfold Addr.add; split <;> simp_all

section
variable {P : Program} {E : Env} {A : Nat → Prop} {h h' : List (Nat × Obj)} {w : World}

theorem cellsOf_some {n : Nat} {c : List Value} (hc : cellsOf h n = some c) : ∃ cs e fz, getB h n = some (.cells cs e fz) ∧ cs.toList = c := by
  unfold cellsOf at hc
  split at hc
  · rename_i cs e fz hg; simp at hc; exact ⟨cs, e, fz, hg, hc⟩
  · simp at hc

theorem Holds.cells (H : Holds P E A h w) {n : Nat} {c : Array Value} {e : TypeId} {fz : Nat × Nat} (hg : getB h n = some (.cells c e fz)) :
    ∃ cc fzc, w.heap[E.β n]? = some (.cells cc e fzc) ∧ (∀ i v, c[i]? = some v → cc[E.σ n + i]? = some (ren E v)) ∧ (∀ x ∈ c, Sc A x) ∧ A n ∧
      (∀ off k, mayWrite n off fz = true → off ≤ k → E.σ n + k < cc.size → ¬ (fzc.1 ≤ E.σ n + k ∧ E.σ n + k < fzc.2)) ∧ E.σ n + c.size ≤ cc.size := by
  obtain ⟨ha, hs, oc, hoc, hr⟩ := H.blk n _ hg
  simp only [BlkRel] at hr
  split at hr
  · rename_i hrow
    obtain ⟨cc, fzc, s, rfl, h2, h3, h4, h5, h6, h7⟩ := hr
    refine ⟨cc, fzc, hoc, h3, hs, ha, fun off k hm hk hlt => h6 k ?_ (by omega), by omega⟩
    simp only [mayWrite, hrow, if_true] at hm
    exact Nat.le_trans (Nat.le_of_ble_eq_true hm) hk
  · rename_i hrow
    obtain ⟨h1, rfl⟩ := hr
    refine ⟨c.map (ren E), fz, hoc, fun i v hv => by rw [h1, Nat.zero_add, Array.getElem?_map, hv]; rfl, hs, ha, fun off k hm hk hlt => ?_, by rw [h1]; simp⟩
    simp only [mayWrite, hrow] at hm
    simp at hm
    rcases hm with hm | hm <;> omega

theorem Holds.cellAt (H : Holds P E A h w) {n i : Nat} {c : List Value} {v : Value} (hc : cellsOf h n = some c) (hi : c[i]? = some v) :
    w.cell? ⟨E.β n, E.σ n + i, none⟩ = some (ren E v) ∧ Sc A v := by
  obtain ⟨cs, e, fz, hg, rfl⟩ := cellsOf_some hc
  obtain ⟨cc, fzc, h1, h2, h3, _⟩ := H.cells hg
  have hi' : cs[i]? = some v := by simpa using hi
  exact ⟨by simp [World.cell?, h1, h2 i v hi'], h3 v (Array.mem_of_getElem? hi')⟩

theorem run_cellsOf (H : Holds P E A h w) {n off k : Nat} {c : List Value} (hc : cellsOf h n = some c) (hle : off + k ≤ c.length) :
    (loadCells ⟨E.β n, E.σ n + off, none⟩ k).run P w = .ok (((c.drop off).take k).map (ren E)).toArray w ∧ ∀ x ∈ (c.drop off).take k, Sc A x := by
  have hlen : (((c.drop off).take k).map (ren E)).length = k := by simp; omega
  have hcell : ∀ j v, ((c.drop off).take k)[j]? = some v → w.cell? ⟨E.β n, E.σ n + off + j, none⟩ = some (ren E v) ∧ Sc A v := by
    intro j v hv
    rw [List.getElem?_take] at hv
    split at hv
    · rw [List.getElem?_drop] at hv
      have := H.cellAt hc hv
      rw [Nat.add_assoc]; exact this
    · cases hv
  constructor
  · have := run_loadCells_list (P := P) w ⟨E.β n, E.σ n + off, none⟩ (((c.drop off).take k).map (ren E)) (fun j v hv => by
      rw [List.getElem?_map] at hv
      cases hx : ((c.drop off).take k)[j]? with
      | none => simp [hx] at hv
      | some x => simp [hx] at hv; subst hv; rw [addr_add]; exact (hcell j x hx).1)
    rw [hlen] at this
    exact this
  · intro x hx
    obtain ⟨j, hj⟩ := List.getElem?_of_mem hx
    exact (hcell j x hj).2

theorem aload_sound (H : Holds P E A h w) {t : TypeId} {v r : Value} (hl : aload P h t v = some r) :
    (Instr.loadAt t (ren E v)).run P w = .ok (ren E r) w ∧ Sc A r := by
  unfold aload at hl
  split at hl
  · rename_i n off
    rw [ren_ptr]
    split at hl
    · rename_i c s hc hagg hsz
      simp only [Option.ite_none_right_eq_some, Option.some.injEq] at hl
      obtain ⟨hle, rfl⟩ := hl
      have hle := Nat.le_of_ble_eq_true hle
      obtain ⟨h1, h2⟩ := run_cellsOf H hc hle
      constructor
      · simp only [Instr.loadAt, Instr.sureAddr, Sem.run_bind, Sem.run_pure, Result.andThen_ok, loadVar, run_isAggT hagg, if_true, run_sizeT hsz, Env.addr, h1]
        rw [ren_agg]; simp
      · rw [Sc_agg]; intro x hx; exact h2 x (by simpa using hx)
    · rename_i _ c hc hagg
      obtain ⟨h1, h2⟩ := H.cellAt hc hl
      refine ⟨?_, h2⟩
      simp only [Instr.loadAt, Instr.sureAddr, Sem.run_bind, Sem.run_pure, Result.andThen_ok, loadVar, run_isAggT hagg, Bool.false_eq_true, if_false, run_load, Env.addr, h1]
    · simp at hl
  · simp at hl

/-! writing cells -/
theorem over_get : ∀ (c : List Value) (off : Nat) (vs : List Value), off + vs.length ≤ c.length → ∀ i, (over c off vs)[i]? = if i < off then c[i]? else if i < off + vs.length then vs[i - off]? else c[i]?
  | c, 0, vs, hl, i => by
    have : over c 0 vs = vs ++ c.drop vs.length := by cases c <;> rfl
    rw [this]
    simp only [Nat.not_lt_zero, if_false, Nat.zero_add, Nat.sub_zero]
    by_cases hi : i < vs.length
    · rw [if_pos hi, List.getElem?_append_left hi]
    · rw [if_neg hi, List.getElem?_append_right (by omega), List.getElem?_drop]
      congr 1; omega
  | [], n + 1, vs, hl, i => by simp at hl
  | x :: c, n + 1, vs, hl, i => by
    cases i with
    | zero => simp [over]
    | succ i =>
      simp only [over, List.getElem?_cons_succ]
      rw [over_get c n vs (by simp at hl; omega) i]
      simp only [Nat.add_lt_add_iff_right]
      by_cases h1 : i < n
      · rw [if_pos h1, if_pos h1]
      · rw [if_neg h1, if_neg h1]
        by_cases h2 : i < n + vs.length
        · rw [if_pos h2, if_pos (by omega)]; congr 1; omega
        · rw [if_neg h2, if_neg (by omega)]

theorem over_length (c : List Value) (off : Nat) (vs : List Value) (hl : off + vs.length ≤ c.length) : (over c off vs).length = c.length := by
  have h1 := over_get c off vs hl
  rcases Nat.lt_trichotomy (over c off vs).length c.length with h | h | h
  · have := h1 (over c off vs).length
    rw [List.getElem?_eq_none (Nat.le_refl _)] at this
    split at this
    · rw [eq_comm, List.getElem?_eq_none_iff] at this; omega
    · split at this
      · rw [eq_comm, List.getElem?_eq_none_iff] at this; omega
      · rw [eq_comm, List.getElem?_eq_none_iff] at this; omega
  · exact h
  · have := h1 c.length
    rw [if_neg (by omega), if_neg (by omega), List.getElem?_eq_none (Nat.le_refl _), List.getElem?_eq_none_iff] at this
    omega

theorem run_storeCells_any (g o : Nat) (t : TypeId) (fz : Nat × Nat) : ∀ (vs : List Value) (i : Nat) (cur : Array Value) (w : World), w.heap[g]? = some (.cells cur t fz) →
    (∀ j, o + i ≤ j → j < o + i + vs.length → ¬ (fz.1 ≤ j ∧ j < fz.2)) → o + i + vs.length ≤ cur.size → (∀ v ∈ vs, v.oneCell' = true) →
    (storeCells ⟨g, o, none⟩ vs i).run P w = .ok () (w.setRow g (cur.toList.take (o + i) ++ vs ++ cur.toList.drop (o + i + vs.length)).toArray)
  | [], i, cur, w, hg, _, _, _ => by
    simp only [storeCells, List.append_nil, List.length_nil, Nat.add_zero, List.take_append_drop, Array.toArray_toList]
    rw [setRow_self w g cur t fz hg]
    rfl
  | v :: rest, i, cur, w, hg, hfz, hl, h1 => by
    have hi : o + i < cur.size := by simp at hl; omega
    have hcell : w.cell? ⟨g, o + i, none⟩ = some cur[o + i] := by simp [World.cell?, hg, hi]
    have hfro : w.frozen? ⟨g, o + i, none⟩ = false := by
      have := hfz (o + i) (Nat.le_refl _) (by simp)
      obtain ⟨lo, hi'⟩ := fz
      simp only [World.frozen?, hg, Bool.and_eq_false_iff, decide_eq_false_iff_not]
      simp only at this
      omega
    have hst : (store ((⟨g, o, none⟩ : Addr).add i) v).run P w = .ok () (w.setRow g (cur.setIfInBounds (o + i) v)) := by
      rw [addr_add, run_store P w _ v _ (h1 v (by simp)), hcell]
      simp [hfro, setCell_eq_setRow w g (o + i) cur t fz v hg]
    have ih := run_storeCells_any g o t fz rest (i + 1) (cur.setIfInBounds (o + i) v) (w.setRow g (cur.setIfInBounds (o + i) v)) (setRow_heap w g cur _ t _ hg) (fun j hj1 hj2 => hfz j (by omega) (by simp; omega)) (by simp at hl ⊢; omega) (fun x hx => h1 x (by simp [hx]))
    simp only [storeCells, Sem.run_bind, hst, Result.andThen_ok, ih, setRow_setRow]
    congr 3
    have e := list_seg_step cur.toList (o + i) v rest (by simp at hl ⊢; omega)
    simpa [Array.toList_setIfInBounds, Nat.add_assoc] using e

theorem one_oneCell (v : Value) : one v = v.oneCell' := by cases v <;> rfl

theorem allOne_mem {l : List Value} (h : allOne l = true) : ∀ v ∈ l, one v = true := by
  induction l with
  | nil => simp
  | cons a r ih => simp [allOne] at h; intro v hv; rcases List.mem_cons.1 hv with rfl | hv; exact h.1; exact ih h.2 v hv

theorem seg_get (l vs : List Value) (k i : Nat) (hk : k + vs.length ≤ l.length) : (l.take k ++ vs ++ l.drop (k + vs.length))[i]? = if i < k then l[i]? else if i < k + vs.length then vs[i - k]? else l[i]? := by
  have hlt : (l.take k).length = k := by simp; omega
  by_cases h1 : i < k
  · rw [if_pos h1, List.append_assoc, List.getElem?_append_left (by omega), List.getElem?_take, if_pos h1]
  · rw [if_neg h1]
    by_cases h2 : i < k + vs.length
    · rw [if_pos h2, List.getElem?_append_left (by simp; omega), List.getElem?_append_right (by omega), hlt]
    · rw [if_neg h2, List.getElem?_append_right (by simp; omega), List.getElem?_drop]
      congr 1; simp; omega

/-- What a row of cells reads as behind a store, both sides. -/
theorem astoreCells_sound (H : Holds P E A h w) {n off : Nat} {vs : List Value} (hs : astoreCells h n off vs = some h') (hsc : ∀ v ∈ vs, Sc A v) (nx : Nat) :
    ∃ w', (storeCells ⟨E.β n, E.σ n + off, none⟩ (vs.map (ren E))).run P w = .ok () w' ∧ Post P E A h nx w E h' nx w' := by
  unfold astoreCells at hs
  split at hs
  · simp at hs; subst hs
    exact ⟨w, rfl, Post.refl H⟩
  · split at hs
    · rename_i _ c e fz hg
      simp only [Option.ite_none_right_eq_some, Option.some.injEq, Bool.and_eq_true] at hs
      obtain ⟨⟨⟨hle, hone⟩, hmay⟩, rfl⟩ := hs
      have hle := Nat.le_of_ble_eq_true hle
      obtain ⟨cc, fzc, h1, h2, h3, h4, h5, h6⟩ := H.cells hg
      have hrun := run_storeCells_any (P := P) (E.β n) (E.σ n + off) e fzc (vs.map (ren E)) 0 cc w h1 (fun j hj1 hj2 => by
          have := h5 off (j - E.σ n) hmay (by omega) (by simp at hj2; omega)
          rw [show E.σ n + (j - E.σ n) = j by omega] at this
          exact this) (by simp; omega) (fun v hv => by
          obtain ⟨x, hx, rfl⟩ := List.mem_map.1 hv
          rw [← one_oneCell, one_ren]; exact allOne_mem hone x hx)
      refine ⟨_, hrun, ?_⟩
      have hov := over_get c.toList off vs (by simpa using hle)
      have hget : ∀ i, (cc.toList.take (E.σ n + off + 0) ++ vs.map (ren E) ++ cc.toList.drop (E.σ n + off + 0 + (vs.map (ren E)).length))[i]? = if i < E.σ n + off then cc.toList[i]? else if i < E.σ n + off + vs.length then (vs.map (ren E))[i - (E.σ n + off)]? else cc.toList[i]? := by
        intro i
        have := seg_get cc.toList (vs.map (ren E)) (E.σ n + off) i (by simp; omega)
        simpa using this
      have hlen : (cc.toList.take (E.σ n + off + 0) ++ vs.map (ren E) ++ cc.toList.drop (E.σ n + off + 0 + (vs.map (ren E)).length)).length = cc.size := by simp; omega
      generalize cc.toList.take (E.σ n + off + 0) ++ vs.map (ren E) ++ cc.toList.drop (E.σ n + off + 0 + (vs.map (ren E)).length) = nc at *
      have hnew : ∀ i v, (over c.toList off vs)[i]? = some v → nc[E.σ n + i]? = some (ren E v) := by
        intro i v hv
        rw [hov] at hv
        rw [hget]
        by_cases g1 : i < off
        · rw [if_pos g1] at hv; rw [if_pos (by omega)]; have := h2 i v (by simpa using hv); simpa using this
        · rw [if_neg g1] at hv; rw [if_neg (by omega)]
          by_cases g2 : i < off + vs.length
          · rw [if_pos g2] at hv; rw [if_pos (by omega), List.getElem?_map, show E.σ n + i - (E.σ n + off) = i - off by omega, hv]; rfl
          · rw [if_neg g2] at hv; rw [if_neg (by omega)]; have := h2 i v (by simpa using hv); simpa using this
      have hscn : ∀ x ∈ (over c.toList off vs).toArray, Sc A x := by
        intro x hx
        obtain ⟨i, hi⟩ := List.getElem?_of_mem (show x ∈ over c.toList off vs by simpa using hx)
        rw [hov] at hi
        split at hi
        · exact h3 x (Array.mem_of_getElem? (by simpa using hi))
        · split at hi
          · exact hsc x (List.mem_of_getElem? hi)
          · exact h3 x (Array.mem_of_getElem? (by simpa using hi))
      have hbr : BlkRel P E n (.cells (over c.toList off vs).toArray e fz) (.cells nc.toArray e fzc) := by
        obtain ⟨_, _, oc, hoc, hr⟩ := H.blk n _ hg
        rw [h1] at hoc; obtain rfl := Option.some.inj hoc
        have hol := over_length c.toList off vs (by simpa using hle)
        simp only [BlkRel] at hr ⊢
        split at hr
        · rename_i hrow
          rw [if_pos hrow]
          obtain ⟨cc', fzc', s, e1, e2, e3, e4, e5, e6, e7⟩ := hr
          simp at e1; obtain ⟨rfl, rfl⟩ := e1
          exact ⟨nc.toArray, fzc, s, rfl, e2, fun i v hv => by simpa using hnew i v (by simpa using hv), by simp [hlen]; exact e4, by simp [hol]; exact e5, e6, e7⟩
        · rename_i hrow
          rw [if_neg hrow]
          obtain ⟨e1, e2⟩ := hr
          simp at e2; obtain ⟨e2, e3⟩ := e2
          refine ⟨e1, ?_⟩
          subst e3
          congr 1
          apply Array.ext'
          simp only [Array.toList_map]
          apply List.ext_getElem?
          intro i
          rw [List.getElem?_map]
          cases hx : (over c.toList off vs)[i]? with
          | some v => have := hnew i v hx; rw [e1, Nat.zero_add] at this; rw [this]; rfl
          | none =>
            rw [List.getElem?_eq_none_iff] at hx
            simp only [Option.map_none]
            rw [List.getElem?_eq_none_iff, hlen, e2]; simp; simpa [hol] using hx
      refine Post.put (m := n) (b := E.β n) (o' := .cells (over c.toList off vs).toArray e fz) (oc' := .cells nc.toArray e fzc) H (Nat.le_refl _) rfl (fun _ _ => ⟨rfl, rfl, rfl⟩) (fun _ _ => rfl) (fun k _ hk => by omega) (.inl h4) rfl ?_ (fun x hx => Sc_mono (fun _ h => .inl h) x (hscn x hx)) hbr ?_ ?_ (by simp) rfl rfl rfl (.inl ⟨n, _, hg, rfl⟩)
      · intro k x hk
        rcases getB_setB _ _ _ _ _ hk with ⟨rfl, rfl⟩ | ⟨hne, hgk⟩
        · exact .inl ⟨rfl, rfl⟩
        · exact .inr ⟨hne, hgk, fun he => hne (H.inj k n _ _ hgk hg he)⟩
      · exact setRow_heap w _ cc _ e fzc h1
      · intro k hk _; exact setRow_other w _ k _ hk
    · simp at hs

theorem astore_sound (H : Holds P E A h w) {t : TypeId} {a v : Value} (hs : astore P h t a v = some h') (hsc : Sc A v) (nx : Nat) :
    ∃ w', (Instr.storeAt t (ren E a) (ren E v)).run P w = .ok () w' ∧ Post P E A h nx w E h' nx w' := by
  unfold astore at hs
  split at hs
  · rename_i n off
    split at hs
    · rename_i s hsz
      simp only [Option.ite_none_right_eq_some] at hs
      obtain ⟨hsize, hs⟩ := hs
      obtain ⟨w', h1, h2⟩ := astoreCells_sound H hs (fun x hx => Sc_cells hsc x (by simpa using hx)) nx
      refine ⟨w', ?_, h2⟩
      have hsize : v.cells.size = s := by simpa using hsize
      have hc : (ren E v).cells.size = s := by rw [cells_ren]; simpa using hsize
      have hcl : (ren E v).cells.toList = v.cells.toList.map (ren E) := by rw [cells_ren]; simp
      rw [ren_ptr]
      simp only [Instr.storeAt, Instr.sureAddr, Sem.run_bind, Sem.run_pure, Result.andThen_ok, storeVar, run_sizeT hsz, hc, ne_eq, not_true_eq_false, if_false, Env.addr, hcl, h1]
    · simp at hs
  · simp at hs

end
end Go.Dam
