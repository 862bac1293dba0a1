/-
  An own evaluator of closed runs of a program, proved sound against the model for every order of draws and every capacity of append. This text is one part of it; the theorems 'closed', 'evCall_sound' say what a run in the kernel proves. Used for the law's closed self-test and for what it calls on constants.
-/
import Derived.Test.YtholnnabakaliaaGreatDoorDamA
import Derived.Laws.Cells
import Derived.Laws.CopyRow
import Derived.Laws.Rows
import Derived.Laws.Build
namespace Go.Dam

/-! reading types -/
theorem run_isAggT {P : Program} {t : TypeId} {b : Bool} (h : aggT P t = some b) (w : World) : (isAgg t).run P w = .ok b w := by
  unfold aggT at h
  cases hu : P.underlying t with
  | none => simp [hu] at h
  | some d =>
    have := run_underlying hu w
    simp only [isAgg, Sem.run_bind, this, Result.andThen_ok]
    cases d <;> simp [hu] at h <;> subst h <;> rfl

theorem run_sizeT {P : Program} {t : TypeId} {s : Nat} (h : sizeT P t = some s) (w : World) : (Go.sizeOf t).run P w = .ok s w := by
  unfold sizeT at h
  cases hi : P.info? t with
  | none => simp [hi] at h
  | some i =>
    simp [hi] at h; subst h
    simp [Go.sizeOf, typeInfo, hi]

theorem run_infoT {P : Program} {t : TypeId} {i : TypeInfo} (h : P.info? t = some i) (w : World) : (typeInfo t).run P w = .ok i w := by
  simp [typeInfo, h]

theorem run_zeroT {P : Program} {t : TypeId} {z : Value} (h : zeroT P t = some z) (w : World) : (zeroValue t).run P w = .ok z w := by
  unfold zeroT at h
  cases hi : P.info? t with
  | none => simp [hi] at h
  | some i =>
    simp [hi] at h
    simp [zeroValue, typeInfo, hi, h]

theorem elemT_under {P : Program} {t e : TypeId} (h : elemT P t = some e) : P.underlying t = some (.slice e) := by
  unfold elemT at h
  split at h
  · rename_i e' hu; simp at h; subst h; exact hu
  · simp at h

theorem addr_add (b o k : Nat) : (⟨b, o, none⟩ : Addr).add k = ⟨b, o + k, none⟩ := by
  unfold Addr.add; split <;> simp_all

section
variable {P : Program} {E : Env} {A : Nat → Prop} {h h' : List (Nat × Obj)} {w : World}

theorem cellsOf_some {n : Nat} {c : List Value} (hc : cellsOf h n = some c) : ∃ cs e fz, getB h n = some (.cells cs e fz) ∧ cs.toList = c := by
  unfold cellsOf at hc
  split at hc
  · rename_i cs e fz hg; simp at hc; exact ⟨cs, e, fz, hg, hc⟩
  · simp at hc

theorem Holds.cells (H : Holds P E A h w) {n : Nat} {c : Array Value} {e : TypeId} {fz : Nat × Nat} (hg : getB h n = some (.cells c e fz)) :
    ∃ cc fzc, w.heap[E.β n]? = some (.cells cc e fzc) ∧ (∀ i v, c[i]? = some v → cc[E.σ n + i]? = some (ren E v)) ∧ (∀ x ∈ c, Sc A x) ∧ A n ∧
      (∀ off k, mayWrite n off fz = true → off ≤ k → E.σ n + k < cc.size → ¬ (fzc.1 ≤ E.σ n + k ∧ E.σ n + k < fzc.2)) ∧ E.σ n + c.size ≤ cc.size := by
  obtain ⟨ha, hs, oc, hoc, hr⟩ := H.blk n _ hg
  simp only [BlkRel] at hr
  split at hr
  · rename_i hrow
    obtain ⟨cc, fzc, s, rfl, h2, h3, h4, h5, h6, h7⟩ := hr
    refine ⟨cc, fzc, hoc, h3, hs, ha, fun off k hm hk hlt => h6 k ?_ (by omega), by omega⟩
    simp only [mayWrite, hrow, if_true] at hm
    exact Nat.le_trans (Nat.le_of_ble_eq_true hm) hk
  · rename_i hrow
    obtain ⟨h1, rfl⟩ := hr
    refine ⟨c.map (ren E), fz, hoc, fun i v hv => by rw [h1, Nat.zero_add, Array.getElem?_map, hv]; rfl, hs, ha, fun off k hm hk hlt => ?_, by rw [h1]; simp⟩
    simp only [mayWrite, hrow] at hm
    simp at hm
    rcases hm with hm | hm <;> omega

theorem Holds.cellAt (H : Holds P E A h w) {n i : Nat} {c : List Value} {v : Value} (hc : cellsOf h n = some c) (hi : c[i]? = some v) :
    w.cell? ⟨E.β n, E.σ n + i, none⟩ = some (ren E v) ∧ Sc A v := by
  obtain ⟨cs, e, fz, hg, rfl⟩ := cellsOf_some hc
  obtain ⟨cc, fzc, h1, h2, h3, _⟩ := H.cells hg
  have hi' : cs[i]? = some v := by simpa using hi
  exact ⟨by simp [World.cell?, h1, h2 i v hi'], h3 v (Array.mem_of_getElem? hi')⟩

theorem run_cellsOf (H : Holds P E A h w) {n off k : Nat} {c : List Value} (hc : cellsOf h n = some c) (hle : off + k ≤ c.length) :
    (loadCells ⟨E.β n, E.σ n + off, none⟩ k).run P w = .ok (((c.drop off).take k).map (ren E)).toArray w ∧ ∀ x ∈ (c.drop off).take k, Sc A x := by
  have hlen : (((c.drop off).take k).map (ren E)).length = k := by simp; omega
  have hcell : ∀ j v, ((c.drop off).take k)[j]? = some v → w.cell? ⟨E.β n, E.σ n + off + j, none⟩ = some (ren E v) ∧ Sc A v := by
    intro j v hv
    rw [List.getElem?_take] at hv
    split at hv
    · rw [List.getElem?_drop] at hv
      have := H.cellAt hc hv
      rw [Nat.add_assoc]; exact this
    · cases hv
  constructor
  · have := run_loadCells_list (P := P) w ⟨E.β n, E.σ n + off, none⟩ (((c.drop off).take k).map (ren E)) (fun j v hv => by
      rw [List.getElem?_map] at hv
      cases hx : ((c.drop off).take k)[j]? with
      | none => simp [hx] at hv
      | some x => simp [hx] at hv; subst hv; rw [addr_add]; exact (hcell j x hx).1)
    rw [hlen] at this
    exact this
  · intro x hx
    obtain ⟨j, hj⟩ := List.getElem?_of_mem hx
    exact (hcell j x hj).2

theorem aload_sound (H : Holds P E A h w) {t : TypeId} {v r : Value} (hl : aload P h t v = some r) :
    (Instr.loadAt t (ren E v)).run P w = .ok (ren E r) w ∧ Sc A r := by
  unfold aload at hl
  split at hl
  · rename_i n off
    rw [ren_ptr]
    split at hl
    · rename_i c s hc hagg hsz
      simp only [Option.ite_none_right_eq_some, Option.some.injEq] at hl
      obtain ⟨hle, rfl⟩ := hl
      have hle := Nat.le_of_ble_eq_true hle
      obtain ⟨h1, h2⟩ := run_cellsOf H hc hle
      constructor
      · simp only [Instr.loadAt, Instr.sureAddr, Sem.run_bind, Sem.run_pure, Result.andThen_ok, loadVar, run_isAggT hagg, if_true, run_sizeT hsz, Env.addr, h1]
        rw [ren_agg]; simp
      · rw [Sc_agg]; intro x hx; exact h2 x (by simpa using hx)
    · rename_i _ c hc hagg
      obtain ⟨h1, h2⟩ := H.cellAt hc hl
      refine ⟨?_, h2⟩
      simp only [Instr.loadAt, Instr.sureAddr, Sem.run_bind, Sem.run_pure, Result.andThen_ok, loadVar, run_isAggT hagg, Bool.false_eq_true, if_false, run_load, Env.addr, h1]
    · simp at hl
  · simp at hl

/-! writing cells -/
theorem over_get : ∀ (c : List Value) (off : Nat) (vs : List Value), off + vs.length ≤ c.length → ∀ i, (over c off vs)[i]? = if i < off then c[i]? else if i < off + vs.length then vs[i - off]? else c[i]?
  | c, 0, vs, hl, i => by
    have : over c 0 vs = vs ++ c.drop vs.length := by cases c <;> rfl
    rw [this]
    simp only [Nat.not_lt_zero, if_false, Nat.zero_add, Nat.sub_zero]
    by_cases hi : i < vs.length
    · rw [if_pos hi, List.getElem?_append_left hi]
    · rw [if_neg hi, List.getElem?_append_right (by omega), List.getElem?_drop]
      congr 1; omega
  | [], n + 1, vs, hl, i => by simp at hl
  | x :: c, n + 1, vs, hl, i => by
    cases i with
    | zero => simp [over]
    | succ i =>
      simp only [over, List.getElem?_cons_succ]
      rw [over_get c n vs (by simp at hl; omega) i]
      simp only [Nat.add_lt_add_iff_right]
      by_cases h1 : i < n
      · rw [if_pos h1, if_pos h1]
      · rw [if_neg h1, if_neg h1]
        by_cases h2 : i < n + vs.length
        · rw [if_pos h2, if_pos (by omega)]; congr 1; omega
        · rw [if_neg h2, if_neg (by omega)]

theorem over_length (c : List Value) (off : Nat) (vs : List Value) (hl : off + vs.length ≤ c.length) : (over c off vs).length = c.length := by
  have h1 := over_get c off vs hl
  rcases Nat.lt_trichotomy (over c off vs).length c.length with h | h | h
  · have := h1 (over c off vs).length
    rw [List.getElem?_eq_none (Nat.le_refl _)] at this
    split at this
    · rw [eq_comm, List.getElem?_eq_none_iff] at this; omega
    · split at this
      · rw [eq_comm, List.getElem?_eq_none_iff] at this; omega
      · rw [eq_comm, List.getElem?_eq_none_iff] at this; omega
  · exact h
  · have := h1 c.length
    rw [if_neg (by omega), if_neg (by omega), List.getElem?_eq_none (Nat.le_refl _), List.getElem?_eq_none_iff] at this
    omega

theorem run_storeCells_any (g o : Nat) (t : TypeId) (fz : Nat × Nat) : ∀ (vs : List Value) (i : Nat) (cur : Array Value) (w : World), w.heap[g]? = some (.cells cur t fz) →
    (∀ j, o + i ≤ j → j < o + i + vs.length → ¬ (fz.1 ≤ j ∧ j < fz.2)) → o + i + vs.length ≤ cur.size → (∀ v ∈ vs, v.oneCell' = true) →
    (storeCells ⟨g, o, none⟩ vs i).run P w = .ok () (w.setRow g (cur.toList.take (o + i) ++ vs ++ cur.toList.drop (o + i + vs.length)).toArray)
  | [], i, cur, w, hg, _, _, _ => by
    simp only [storeCells, List.append_nil, List.length_nil, Nat.add_zero, List.take_append_drop, Array.toArray_toList]
    rw [setRow_self w g cur t fz hg]
    rfl
  | v :: rest, i, cur, w, hg, hfz, hl, h1 => by
    have hi : o + i < cur.size := by simp at hl; omega
    have hcell : w.cell? ⟨g, o + i, none⟩ = some cur[o + i] := by simp [World.cell?, hg, hi]
    have hfro : w.frozen? ⟨g, o + i, none⟩ = false := by
      have := hfz (o + i) (Nat.le_refl _) (by simp)
      obtain ⟨lo, hi'⟩ := fz
      simp only [World.frozen?, hg, Bool.and_eq_false_iff, decide_eq_false_iff_not]
      simp only at this
      omega
    have hst : (store ((⟨g, o, none⟩ : Addr).add i) v).run P w = .ok () (w.setRow g (cur.setIfInBounds (o + i) v)) := by
      rw [addr_add, run_store P w _ v _ (h1 v (by simp)), hcell]
      simp [hfro, setCell_eq_setRow w g (o + i) cur t fz v hg]
    have ih := run_storeCells_any g o t fz rest (i + 1) (cur.setIfInBounds (o + i) v) (w.setRow g (cur.setIfInBounds (o + i) v)) (setRow_heap w g cur _ t _ hg) (fun j hj1 hj2 => hfz j (by omega) (by simp; omega)) (by simp at hl ⊢; omega) (fun x hx => h1 x (by simp [hx]))
    simp only [storeCells, Sem.run_bind, hst, Result.andThen_ok, ih, setRow_setRow]
    congr 3
    have e := list_seg_step cur.toList (o + i) v rest (by simp at hl ⊢; omega)
    simpa [Array.toList_setIfInBounds, Nat.add_assoc] using e

theorem one_oneCell (v : Value) : one v = v.oneCell' := by cases v <;> rfl

theorem allOne_mem {l : List Value} (h : allOne l = true) : ∀ v ∈ l, one v = true := by
  induction l with
  | nil => simp
  | cons a r ih => simp [allOne] at h; intro v hv; rcases List.mem_cons.1 hv with rfl | hv; exact h.1; exact ih h.2 v hv

theorem seg_get (l vs : List Value) (k i : Nat) (hk : k + vs.length ≤ l.length) : (l.take k ++ vs ++ l.drop (k + vs.length))[i]? = if i < k then l[i]? else if i < k + vs.length then vs[i - k]? else l[i]? := by
  have hlt : (l.take k).length = k := by simp; omega
  by_cases h1 : i < k
  · rw [if_pos h1, List.append_assoc, List.getElem?_append_left (by omega), List.getElem?_take, if_pos h1]
  · rw [if_neg h1]
    by_cases h2 : i < k + vs.length
    · rw [if_pos h2, List.getElem?_append_left (by simp; omega), List.getElem?_append_right (by omega), hlt]
    · rw [if_neg h2, List.getElem?_append_right (by simp; omega), List.getElem?_drop]
      congr 1; simp; omega

/-- What a row of cells reads as behind a store, both sides. -/
theorem astoreCells_sound (H : Holds P E A h w) {n off : Nat} {vs : List Value} (hs : astoreCells h n off vs = some h') (hsc : ∀ v ∈ vs, Sc A v) (nx : Nat) :
    ∃ w', (storeCells ⟨E.β n, E.σ n + off, none⟩ (vs.map (ren E))).run P w = .ok () w' ∧ Post P E A h nx w E h' nx w' := by
  unfold astoreCells at hs
  split at hs
  · simp at hs; subst hs
    exact ⟨w, rfl, Post.refl H⟩
  · split at hs
    · rename_i _ c e fz hg
      simp only [Option.ite_none_right_eq_some, Option.some.injEq, Bool.and_eq_true] at hs
      obtain ⟨⟨⟨hle, hone⟩, hmay⟩, rfl⟩ := hs
      have hle := Nat.le_of_ble_eq_true hle
      obtain ⟨cc, fzc, h1, h2, h3, h4, h5, h6⟩ := H.cells hg
      have hrun := run_storeCells_any (P := P) (E.β n) (E.σ n + off) e fzc (vs.map (ren E)) 0 cc w h1 (fun j hj1 hj2 => by
          have := h5 off (j - E.σ n) hmay (by omega) (by simp at hj2; omega)
          rw [show E.σ n + (j - E.σ n) = j by omega] at this
          exact this) (by simp; omega) (fun v hv => by
          obtain ⟨x, hx, rfl⟩ := List.mem_map.1 hv
          rw [← one_oneCell, one_ren]; exact allOne_mem hone x hx)
      refine ⟨_, hrun, ?_⟩
      have hov := over_get c.toList off vs (by simpa using hle)
      have hget : ∀ i, (cc.toList.take (E.σ n + off + 0) ++ vs.map (ren E) ++ cc.toList.drop (E.σ n + off + 0 + (vs.map (ren E)).length))[i]? = if i < E.σ n + off then cc.toList[i]? else if i < E.σ n + off + vs.length then (vs.map (ren E))[i - (E.σ n + off)]? else cc.toList[i]? := by
        intro i
        have := seg_get cc.toList (vs.map (ren E)) (E.σ n + off) i (by simp; omega)
        simpa using this
      have hlen : (cc.toList.take (E.σ n + off + 0) ++ vs.map (ren E) ++ cc.toList.drop (E.σ n + off + 0 + (vs.map (ren E)).length)).length = cc.size := by simp; omega
      generalize cc.toList.take (E.σ n + off + 0) ++ vs.map (ren E) ++ cc.toList.drop (E.σ n + off + 0 + (vs.map (ren E)).length) = nc at *
      have hnew : ∀ i v, (over c.toList off vs)[i]? = some v → nc[E.σ n + i]? = some (ren E v) := by
        intro i v hv
        rw [hov] at hv
        rw [hget]
        by_cases g1 : i < off
        · rw [if_pos g1] at hv; rw [if_pos (by omega)]; have := h2 i v (by simpa using hv); simpa using this
        · rw [if_neg g1] at hv; rw [if_neg (by omega)]
          by_cases g2 : i < off + vs.length
          · rw [if_pos g2] at hv; rw [if_pos (by omega), List.getElem?_map, show E.σ n + i - (E.σ n + off) = i - off by omega, hv]; rfl
          · rw [if_neg g2] at hv; rw [if_neg (by omega)]; have := h2 i v (by simpa using hv); simpa using this
      have hscn : ∀ x ∈ (over c.toList off vs).toArray, Sc A x := by
        intro x hx
        obtain ⟨i, hi⟩ := List.getElem?_of_mem (show x ∈ over c.toList off vs by simpa using hx)
        rw [hov] at hi
        split at hi
        · exact h3 x (Array.mem_of_getElem? (by simpa using hi))
        · split at hi
          · exact hsc x (List.mem_of_getElem? hi)
          · exact h3 x (Array.mem_of_getElem? (by simpa using hi))
      have hbr : BlkRel P E n (.cells (over c.toList off vs).toArray e fz) (.cells nc.toArray e fzc) := by
        obtain ⟨_, _, oc, hoc, hr⟩ := H.blk n _ hg
        rw [h1] at hoc; obtain rfl := Option.some.inj hoc
        have hol := over_length c.toList off vs (by simpa using hle)
        simp only [BlkRel] at hr ⊢
        split at hr
        · rename_i hrow
          rw [if_pos hrow]
          obtain ⟨cc', fzc', s, e1, e2, e3, e4, e5, e6, e7⟩ := hr
          simp at e1; obtain ⟨rfl, rfl⟩ := e1
          exact ⟨nc.toArray, fzc, s, rfl, e2, fun i v hv => by simpa using hnew i v (by simpa using hv), by simp [hlen]; exact e4, by simp [hol]; exact e5, e6, e7⟩
        · rename_i hrow
          rw [if_neg hrow]
          obtain ⟨e1, e2⟩ := hr
          simp at e2; obtain ⟨e2, e3⟩ := e2
          refine ⟨e1, ?_⟩
          subst e3
          congr 1
          apply Array.ext'
          simp only [Array.toList_map]
          apply List.ext_getElem?
          intro i
          rw [List.getElem?_map]
          cases hx : (over c.toList off vs)[i]? with
          | some v => have := hnew i v hx; rw [e1, Nat.zero_add] at this; rw [this]; rfl
          | none =>
            rw [List.getElem?_eq_none_iff] at hx
            simp only [Option.map_none]
            rw [List.getElem?_eq_none_iff, hlen, e2]; simp; simpa [hol] using hx
      refine Post.put (m := n) (b := E.β n) (o' := .cells (over c.toList off vs).toArray e fz) (oc' := .cells nc.toArray e fzc) H (Nat.le_refl _) rfl (fun _ _ => ⟨rfl, rfl, rfl⟩) (fun _ _ => rfl) (fun k _ hk => by omega) (.inl h4) rfl ?_ (fun x hx => Sc_mono (fun _ h => .inl h) x (hscn x hx)) hbr ?_ ?_ (by simp) rfl rfl rfl (.inl ⟨n, _, hg, rfl⟩)
      · intro k x hk
        rcases getB_setB _ _ _ _ _ hk with ⟨rfl, rfl⟩ | ⟨hne, hgk⟩
        · exact .inl ⟨rfl, rfl⟩
        · exact .inr ⟨hne, hgk, fun he => hne (H.inj k n _ _ hgk hg he)⟩
      · exact setRow_heap w _ cc _ e fzc h1
      · intro k hk _; exact setRow_other w _ k _ hk
    · simp at hs

theorem astore_sound (H : Holds P E A h w) {t : TypeId} {a v : Value} (hs : astore P h t a v = some h') (hsc : Sc A v) (nx : Nat) :
    ∃ w', (Instr.storeAt t (ren E a) (ren E v)).run P w = .ok () w' ∧ Post P E A h nx w E h' nx w' := by
  unfold astore at hs
  split at hs
  · rename_i n off
    split at hs
    · rename_i s hsz
      simp only [Option.ite_none_right_eq_some] at hs
      obtain ⟨hsize, hs⟩ := hs
      obtain ⟨w', h1, h2⟩ := astoreCells_sound H hs (fun x hx => Sc_cells hsc x (by simpa using hx)) nx
      refine ⟨w', ?_, h2⟩
      have hsize : v.cells.size = s := by simpa using hsize
      have hc : (ren E v).cells.size = s := by rw [cells_ren]; simpa using hsize
      have hcl : (ren E v).cells.toList = v.cells.toList.map (ren E) := by rw [cells_ren]; simp
      rw [ren_ptr]
      simp only [Instr.storeAt, Instr.sureAddr, Sem.run_bind, Sem.run_pure, Result.andThen_ok, storeVar, run_sizeT hsz, hc, ne_eq, not_true_eq_false, if_false, Env.addr, hcl, h1]
    · simp at hs
  · simp at hs

end
end Go.Dam

namespace Go.Dam

def Env.bind (E : Env) (n b s k : Nat) : Env := ⟨fun m => if m = n then b else E.β m, fun m => if m = n then s else E.σ m, fun m => if m = n then k else E.κ m⟩

theorem Env.bind_other (E : Env) (n b s k m : Nat) (h : m ≠ n) : (E.bind n b s k).β m = E.β m ∧ (E.bind n b s k).σ m = E.σ m ∧ (E.bind n b s k).κ m = E.κ m := by
  simp [Env.bind, h]

theorem purely_bind {α β : Type} (P : Program) (x : Sem α) (f : α → Sem β) : purely P (x >>= f) = (purely P x).bind fun a => purely P (f a) := by
  show purely P (x.bind f) = _
  induction x with
  | pure a => rfl
  | program k ih => exact ih P
  | mark m k ih => exact ih
  | _ => rfl

theorem purely_pure {α : Type} (P : Program) (a : α) : purely P (Pure.pure a : Sem α) = some a := rfl
theorem purely_ite {α : Type} (P : Program) (c : Prop) [Decidable c] (x y : Sem α) : purely P (if c then x else y) = if c then purely P x else purely P y := by split <;> rfl
theorem purely_stuck {α : Type} (P : Program) (s : String) : purely P (stuck s : Sem α) = none := rfl
theorem purely_unsupported {α : Type} (P : Program) (s : Unsupported) : purely P (unsupported s : Sem α) = none := rfl
theorem purely_underlying (P : Program) (t : TypeId) : purely P (underlying t) = P.underlying t := by
  show purely P (program >>= _) = _
  rw [purely_bind]
  show Option.bind (some P) _ = _
  simp only [Option.bind_some]
  cases P.underlying t <;> rfl
theorem purely_typeInfo (P : Program) (t : TypeId) : purely P (typeInfo t) = P.info? t := by
  show purely P (program >>= _) = _
  rw [purely_bind]
  show Option.bind (some P) _ = _
  simp only [Option.bind_some]
  cases P.info? t <;> rfl
theorem purely_sizeOf (P : Program) (t : TypeId) : purely P (Go.sizeOf t) = sizeT P t := by
  unfold Go.sizeOf sizeT
  rw [purely_bind, purely_typeInfo]
  cases P.info? t <;> rfl
theorem purely_isAgg (P : Program) (t : TypeId) : purely P (isAgg t) = aggT P t := by
  unfold isAgg aggT
  rw [purely_bind, purely_underlying]
  cases P.underlying t with
  | none => rfl
  | some d => cases d <;> rfl
theorem purely_zeroValue (P : Program) (t : TypeId) : purely P (zeroValue t) = zeroT P t := by
  unfold zeroValue zeroT
  rw [purely_bind, purely_typeInfo]
  cases P.info? t with
  | none => rfl
  | some i => simp only [Option.bind_some]; cases i.zero <;> rfl

section
variable {P : Program} {E : Env} {A : Nat → Prop} {h h' : List (Nat × Obj)} {nx : Nat} {w w' : World}

/-- One new block. -/
theorem Post.new {m s k : Nat} {o oc : Obj} (H : Holds P E A h w) (hA : ∀ n, A n → ¬ (nx ≤ n ∧ n < nx + 2)) (hm : nx ≤ m ∧ m < nx + 2) (hsc : ScObj A o)
    (hrel : BlkRel P (E.bind m w.heap.size s k) m o oc) (hw : w'.heap = w.heap.push oc) (h2 : w'.os = w.os) (h3 : w'.tape = w.tape) (h4 : w'.output = w.output) :
    Post P E A h nx w (E.bind m w.heap.size s k) ((m, o) :: h) (nx + 2) w' := by
  refine Post.put (m := m) (b := w.heap.size) (o' := o) (oc' := oc) H (by omega) (by omega) (fun k hk => Env.bind_other E m _ _ _ k (by omega)) (fun k hk => (Env.bind_other E m _ _ _ k hk).1)
    hA (.inr hm) (by simp [Env.bind]) ?_ (ScObj_mono (fun _ h => .inl h) o hsc) hrel (by rw [hw]; simp) ?_ (by rw [hw]; simp) h2 h3 h4 (.inr (Nat.le_refl _))
  · intro k x hk
    simp only [getB] at hk
    by_cases e : m = k
    · subst e; rw [if_pos (by simp)] at hk; exact .inl ⟨rfl, (Option.some.inj hk).symm⟩
    · rw [if_neg (by simpa using e)] at hk
      refine .inr ⟨fun e' => e e'.symm, hk, ?_⟩
      obtain ⟨_, _, oc', hoc, _⟩ := H.blk k x hk
      intro e'
      rw [e', Array.getElem?_eq_none (Nat.le_refl _)] at hoc
      cases hoc
  · intro k hk hlt
    rw [hw, Array.getElem?_push, if_neg hk]

theorem rel_exact {m b k : Nat} {c : Array Value} {e : TypeId} {fz : Nat × Nat} (hm : isRow m = false) (hA : ¬ A m) (hsc : ∀ x ∈ c, Sc A x) :
    BlkRel P (E.bind m b 0 k) m (.cells c e fz) (.cells (c.map (ren E)) e fz) := by
  simp only [BlkRel, hm]
  refine ⟨by simp [Env.bind], ?_⟩
  congr 1
  exact Array.map_congr_left fun x hx => (ren_agree (A := A) (fun n hn => Env.bind_other E m _ _ _ n (fun e => hA (e ▸ hn))) x (hsc x hx)).symm

theorem isRow_even {n : Nat} (h : n % 2 = 0) : isRow n = false := by unfold isRow; rw [h]; rfl
theorem isRow_odd {n : Nat} (h : n % 2 = 0) : isRow (n + 1) = true := by unfold isRow; rw [show (n + 1) % 2 = 1 by omega]; rfl

/-- A new block of known cells: the pointer to it. -/
theorem newCells_sound (H : Holds P E A h w) (hev : nx % 2 = 0) (hA : ∀ n, A n → ¬ (nx ≤ n ∧ n < nx + 2)) (c : Array Value) (t : TypeId) (hsc : ∀ x ∈ c, Sc A x) :
    ∃ E' w', (newRow t (c.map (ren E))).run P w = .ok (E'.addr ⟨nx, 0, none⟩) w' ∧ Post P E A h nx w E' ((nx, .cells c t) :: h) (nx + 2) w' := by
  refine ⟨E.bind nx w.heap.size 0 0, { w with heap := w.heap.push (.cells (c.map (ren E)) t) }, ?_, ?_⟩
  · simp [newRow, Env.addr, Env.bind]
  · exact Post.new H hA ⟨Nat.le_refl _, by omega⟩ hsc (rel_exact (isRow_even hev) (fun hn => hA nx hn ⟨Nat.le_refl _, by omega⟩) hsc) rfl rfl rfl rfl

theorem map_plainAll (E : Env) {l : List Value} (h : plainAll l = true) : l.map (ren E) = l := by
  have := List.map_congr_left (l := l) (f := ren E) (g := id) (fun x hx => plain1_ren E (plainAll_mem h x hx))
  simpa using this

theorem mapA_plainAll (E : Env) {c : Array Value} (h : plainAll c.toList = true) : c.map (ren E) = c := by
  apply Array.ext'; rw [Array.toList_map]; exact map_plainAll E h

theorem alloc_sound (H : Holds P E A h w) (hev : nx % 2 = 0) (hA : ∀ n, A n → ¬ (nx ≤ n ∧ n < nx + 2)) {t : TypeId} {cs : List Value} (hc : aallocCells P t = some cs) (hp : plainAll cs = true) :
    ∃ E' w', (Instr.alloc t true (.tuple #[])).run P w = .ok (ren E' (.pointer (some ⟨nx, 0, none⟩))) w' ∧ Post P E A h nx w E' ((nx, .cells cs.toArray t) :: h) (nx + 2) w' := by
  unfold aallocCells at hc
  split at hc
  · rename_i z hz
    simp at hc; subst hc
    obtain ⟨E', w', h1, h2⟩ := newCells_sound (P := P) H hev hA z.cells t (fun x hx => plain1_Sc A (plainAll_mem hp x (by simpa using hx)))
    rw [mapA_plainAll E hp] at h1
    refine ⟨E', w', ?_, by simpa using h2⟩
    simp only [Instr.alloc, Sem.run_bind, run_zeroT hz, Result.andThen_ok, newVar, h1, ren_ptr, Sem.run_pure]
  · simp at hc

theorem box_sound (H : Holds P E A h w) (hev : nx % 2 = 0) (hA : ∀ n, A n → ¬ (nx ≤ n ∧ n < nx + 2)) {t : TypeId} {v : Value} (hsc : Sc A v) :
    ∃ E' w', (Instr.box t (ren E v)).run P w = .ok (ren E' (.pointer (some ⟨nx, 0, none⟩))) w' ∧ Post P E A h nx w E' ((nx, .cells v.cells t) :: h) (nx + 2) w' := by
  obtain ⟨E', w', h1, h2⟩ := newCells_sound (P := P) H hev hA v.cells t (Sc_cells hsc)
  refine ⟨E', w', ?_, h2⟩
  rw [← cells_ren] at h1
  simp only [Instr.box, newVar, Sem.run_bind, h1, Result.andThen_ok, ren_ptr, Sem.run_pure]

/-! parts laid into cells -/
theorem foldl_set_ren (E : Env) (off : Nat) : ∀ (l : List (Value × Nat)) (cs : Array Value),
    (l.map fun x => (ren E x.1, x.2)).foldl (fun cs (x : Value × Nat) => cs.setIfInBounds (off + x.2) x.1) (cs.map (ren E)) = (l.foldl (fun cs (x : Value × Nat) => cs.setIfInBounds (off + x.2) x.1) cs).map (ren E)
  | [], cs => rfl
  | (v, j) :: l, cs => by
    simp only [List.map_cons, List.foldl_cons]
    rw [← foldl_set_ren E off l (cs.setIfInBounds (off + j) v)]
    congr 1
    simp [Array.map_setIfInBounds]

theorem zipIdx_ren (E : Env) (c : Array Value) : (c.map (ren E)).zipIdx.toList = c.zipIdx.toList.map fun x => (ren E x.1, x.2) := by
  simp [Array.toList_zipIdx, List.zipIdx_map]

theorem foldl_zip_ren (E : Env) (off : Nat) (c cs : Array Value) : (c.map (ren E)).zipIdx.foldl (fun cs (c, j) => cs.setIfInBounds (off + j) c) (cs.map (ren E)) = (c.zipIdx.foldl (fun cs (c, j) => cs.setIfInBounds (off + j) c) cs).map (ren E) := by
  rw [← Array.foldl_toList, ← Array.foldl_toList, zipIdx_ren]
  exact foldl_set_ren E off _ _

theorem fill_ren (E : Env) (place : Nat → Option (Nat × Nat)) : ∀ (ps : List (Nat × Value)) (cs : Array Value),
    Instr.fill place (cs.map (ren E)) (ps.map fun x => (x.1, ren E x.2)) = (Instr.fill place cs ps).map (·.map (ren E))
  | [], cs => rfl
  | (i, v) :: ps, cs => by
    simp only [List.map_cons, Instr.fill]
    cases place i with
    | none => rfl
    | some p =>
      obtain ⟨off, size⟩ := p
      simp only [cells_ren, Array.size_map]
      split
      · rfl
      · rw [foldl_zip_ren]; exact fill_ren E place ps _

theorem Sc_fill {A : Nat → Prop} (place : Nat → Option (Nat × Nat)) : ∀ (ps : List (Nat × Value)) (cs r : Array Value), (∀ x ∈ cs, Sc A x) → (∀ p ∈ ps, Sc A p.2) →
    Instr.fill place cs ps = some r → ∀ x ∈ r, Sc A x
  | [], cs, r, h1, _, hr => by simp [Instr.fill] at hr; subst hr; exact h1
  | (i, v) :: ps, cs, r, h1, h2, hr => by
    simp only [Instr.fill] at hr
    cases hp : place i with
    | none => simp [hp] at hr
    | some p =>
      obtain ⟨off, size⟩ := p
      simp only [hp] at hr
      split at hr
      · simp at hr
      · refine Sc_fill place ps _ r ?_ (fun p hp => h2 p (List.mem_cons_of_mem _ hp)) hr
        have hv := Sc_cells (h2 (i, v) (List.mem_cons_self ..))
        have key : ∀ (l : List (Value × Nat)) (cs : Array Value), (∀ x ∈ l, Sc A x.1) → (∀ x ∈ cs, Sc A x) → ∀ x ∈ l.foldl (fun cs (x : Value × Nat) => cs.setIfInBounds (off + x.2) x.1) cs, Sc A x := by
          intro l
          induction l with
          | nil => exact fun cs _ h => h
          | cons a l ih =>
            intro cs ha hcs
            refine ih _ (fun x hx => ha x (List.mem_cons_of_mem _ hx)) fun x hx => ?_
            rcases Array.mem_or_eq_of_mem_setIfInBounds hx with hx | hx
            · exact hcs x hx
            · subst hx; exact ha a (List.mem_cons_self ..)
        rw [← Array.foldl_toList]
        refine key _ cs (fun x hx => ?_) h1
        have : x.1 ∈ v.cells := by
          exact Array.fst_mem_of_mem_zipIdx (Array.mem_toList_iff.1 hx)
        exact hv x.1 this

end
end Go.Dam

namespace Go.Dam

def renP (E : Env) (x : Nat × Value) : Nat × Value := (x.1, ren E x.2)

section
variable {P : Program} {E : Env} {A : Nat → Prop} {h h' : List (Nat × Obj)} {nx : Nat} {w w' : World}

theorem build_sound {t : TypeId} {ps : Array (Nat × Value)} {z v : Value} (hz : zeroT P t = some z) (hp : plainAll z.cells.toList = true) (hb : purely P (Instr.build t ps) = some v) (hsc : ∀ p ∈ ps, Sc A p.2) :
    purely P (Instr.build t (ps.map (renP E))) = some (ren E v) ∧ Sc A v := by
  have hpl : (ps.map (renP E)).toList = ps.toList.map fun x => (x.1, ren E x.2) := by simp [renP]
  have hzc : ∀ x ∈ z.cells, Sc A x := fun x hx => plain1_Sc A (plainAll_mem hp x (by simpa using hx))
  have key : ∀ (place : Nat → Option (Nat × Nat)) (cells : Array Value), Instr.fill place z.cells ps.toList = some cells →
      Instr.fill place z.cells (ps.map (renP E)).toList = some (cells.map (ren E)) ∧ ∀ x ∈ cells, Sc A x := by
    intro place cells hc
    have h1 := fill_ren E place ps.toList z.cells
    rw [mapA_plainAll E hp, hc] at h1
    rw [hpl]
    exact ⟨by simpa using h1, Sc_fill place ps.toList z.cells cells hzc (fun p hp => hsc p (by simpa using hp)) hc⟩
  unfold Instr.build at hb ⊢
  simp only [purely_bind, purely_zeroValue, hz, Option.bind_some, purely_underlying] at hb ⊢
  cases hu : P.underlying t with
  | none => simp [hu] at hb
  | some d =>
    simp only [hu, Option.bind_some] at hb ⊢
    cases d with
    | struct fields =>
      simp only [purely_bind] at hb ⊢
      cases hm : purely P (fields.mapM fun f => do pure (f.offset, ← Go.sizeOf f.type)) with
      | none => rw [hm] at hb; cases hb
      | some places =>
        simp only [hm, Option.bind_some] at hb ⊢
        cases hf : Instr.fill (places[·]?) z.cells ps.toList with
        | none => simp [hf, purely_stuck] at hb
        | some cells =>
          obtain ⟨k1, k2⟩ := key _ cells hf
          simp only [hf, purely_pure, Option.some.injEq] at hb
          subst hb
          rw [k1, ren_agg]
          exact ⟨rfl, (Sc_agg A cells).2 k2⟩
    | array n elem =>
      simp only [purely_bind, purely_sizeOf] at hb ⊢
      cases hm : sizeT P elem with
      | none => simp [hm] at hb
      | some s =>
        simp only [hm, Option.bind_some] at hb ⊢
        cases hf : Instr.fill (fun i => some (i * s, s)) z.cells ps.toList with
        | none => simp [hf, purely_stuck] at hb
        | some cells =>
          obtain ⟨k1, k2⟩ := key _ cells hf
          simp only [hf, purely_pure, Option.some.injEq] at hb
          subst hb
          rw [k1, ren_agg]
          exact ⟨rfl, (Sc_agg A cells).2 k2⟩
    | _ => simp [purely_stuck] at hb

theorem extract_sound {x v : Value} {i : Nat} (hb : purely P (Instr.extract x i) = some v) (hsc : Sc A x) :
    purely P (Instr.extract (ren E x) i) = some (ren E v) ∧ Sc A v := by
  cases x with
  | tuple vs =>
    rw [ren_tuple]
    unfold Instr.extract at hb ⊢
    simp only [Array.getElem?_map]
    cases hv : vs[i]? with
    | none => simp [hv, purely_stuck] at hb
    | some y =>
      simp only [hv, purely_pure, Option.some.injEq] at hb
      subst hb
      exact ⟨rfl, (Sc_tuple A vs).1 hsc y (Array.mem_of_getElem? hv)⟩
  | _ => simp [Instr.extract, purely_stuck] at hb

theorem part_sound {t : TypeId} {cs : Array Value} {off : Nat} {v : Value} (hb : purely P (part t cs off) = some v) (hsc : ∀ x ∈ cs, Sc A x) :
    purely P (part t (cs.map (ren E)) off) = some (ren E v) ∧ Sc A v := by
  unfold part at hb ⊢
  simp only [purely_bind, purely_isAgg] at hb ⊢
  cases hg : aggT P t with
  | none => simp [hg] at hb
  | some b =>
    simp only [hg, Option.bind_some] at hb ⊢
    cases b with
    | true =>
      simp only [if_true, purely_bind, purely_sizeOf] at hb ⊢
      cases hs : sizeT P t with
      | none => simp [hs] at hb
      | some s =>
        simp only [hs, Option.bind_some, purely_pure, Option.some.injEq] at hb ⊢
        subst hb
        rw [ren_agg]
        refine ⟨by simp [Array.map_extract], (Sc_agg A _).2 fun x hx => ?_⟩
        have hx := Array.mem_toList_iff.2 hx
        rw [Array.toList_extract] at hx
        exact hsc x (Array.mem_toList_iff.1 (List.mem_of_mem_drop (List.mem_of_mem_take hx)))
    | false =>
      simp only [Bool.false_eq_true, if_false] at hb ⊢
      cases hv : cs[off]? with
      | none => simp [hv, purely_stuck] at hb
      | some y =>
        simp only [hv, purely_pure, Option.some.injEq] at hb
        subst hb
        simp only [Array.getElem?_map, hv, Option.map_some, purely_pure]
        exact ⟨trivial, hsc y (Array.mem_of_getElem? hv)⟩

theorem field_sound {t : TypeId} {x v : Value} {i : Nat} (hb : purely P (Instr.field t x i) = some v) (hsc : Sc A x) :
    purely P (Instr.field t (ren E x) i) = some (ren E v) ∧ Sc A v := by
  unfold Instr.field at hb ⊢
  simp only [purely_bind, purely_underlying] at hb ⊢
  cases hu : P.underlying t with
  | none => simp [hu] at hb
  | some d =>
    simp only [hu, Option.bind_some] at hb ⊢
    cases d with
    | struct fields =>
      simp only at hb ⊢
      cases hf : fields[i]? with
      | none => simp [hf, purely_stuck] at hb
      | some f =>
        simp only [hf, purely_bind] at hb ⊢
        cases x with
        | agg cs =>
          rw [ren_agg]
          simp only [asAgg, purely_pure, Option.bind_some] at hb ⊢
          exact part_sound hb ((Sc_agg A cs).1 hsc)
        | _ => simp [asAgg, purely_stuck] at hb
    | _ => simp [purely_stuck] at hb

theorem purely_boundsPanic {α : Type} (k : IntKind) (x y : Int) (c : BoundsCode) : purely P (boundsPanic (α := α) k x y c) = none := by
  unfold boundsPanic
  dsimp only
  rw [purely_ite]
  split
  · rfl
  · simp only [purely_bind, purely_pure, Option.bind_some, runtimePanic]
    rfl

theorem index_sound {t : TypeId} {x i v : Value} (hb : purely P (Instr.index t x i) = some v) (hsc : Sc A x) :
    purely P (Instr.index t (ren E x) (ren E i)) = some (ren E v) ∧ Sc A v := by
  unfold Instr.index at hb ⊢
  cases i with
  | int k n =>
    rw [ren_int]
    simp only [asIntOf, purely_bind, purely_pure, Option.bind_some, purely_underlying] at hb ⊢
    cases hu : P.underlying t with
    | none => simp [hu] at hb
    | some d =>
      simp only [hu, Option.bind_some] at hb ⊢
      cases x with
      | agg cs =>
        rw [ren_agg]
        cases d with
        | array len elem =>
          simp only [purely_ite, purely_bind, purely_sizeOf] at hb ⊢
          split at hb
          · rename_i hc
            rw [if_pos hc]
            cases hs : sizeT P elem with
            | none => simp [hs] at hb
            | some s =>
              simp only [hs, Option.bind_some] at hb ⊢
              exact part_sound hb ((Sc_agg A cs).1 hsc)
          · rw [purely_boundsPanic] at hb; simp at hb
        | _ => simp [purely_stuck] at hb
      | string s =>
        rw [ren_string]
        cases d with
        | string =>
          simp only at hb ⊢
          split at hb
          · rename_i b hb'
            simp only [purely_pure, Option.some.injEq] at hb
            subst hb
            rw [ren_int]
            exact ⟨rfl, Sc_int _ _ _⟩
          · rw [purely_boundsPanic] at hb; simp at hb
        | _ => simp [purely_stuck] at hb
      | _ => cases d <;> simp [purely_stuck] at hb
  | pointer a => cases a <;> simp [asIntOf, purely_bind, purely_stuck, purely_unsupported] at hb
  | _ => simp [asIntOf, purely_bind, purely_stuck] at hb

theorem natOf_some {v : Value} {n : Nat} (hn : natOf v = some n) : ∃ k, v = .int k n ∧ ren E v = .int k n := by
  cases v with
  | int k m =>
    simp only [natOf] at hn
    split at hn
    · simp at hn; subst hn
      rename_i h0
      rw [ren_int, Int.toNat_of_nonneg h0]
      exact ⟨k, rfl, rfl⟩
    · simp at hn
  | _ => simp [natOf] at hn

theorem fieldAddr_sound {t : TypeId} {x v : Value} {f : Nat} (hb : afieldAddr P t x f = some v) (hsc : Sc A x) (w : World) :
    (Instr.fieldAt t (ren E x) f).run P w = .ok (ren E v) w ∧ Sc A v := by
  unfold afieldAddr at hb
  split at hb
  · rename_i fs n off hu
    split at hb
    · rename_i fd hf
      split at hb
      · rename_i s hs
        split at hb
        · simp at hb
        · rename_i h0
          simp at hb; subst hb
          have h0 : ¬ s = 0 := by simpa using h0
          rw [ren_ptr, ren_ptr]
          refine ⟨?_, by rw [Sc_ptr] at hsc ⊢; exact hsc⟩
          simp only [Instr.fieldAt, Sem.run_bind, run_underlying hu, Result.andThen_ok, hf, Instr.sureAddr, Sem.run_pure, fieldPlace, run_sizeT hs, h0, if_false, Env.addr, addr_add, Nat.add_assoc]
      · simp at hb
    · simp at hb
  · simp at hb

theorem indexAddr_sound {t : TypeId} {x i v : Value} (hb : aindexAddr P t x i = some v) (hsc : Sc A x) (w : World) :
    (Instr.indexAt t (ren E x) (ren E i)).run P w = .ok (ren E v) w ∧ Sc A v := by
  unfold aindexAddr at hb
  split at hb
  · rename_i e n off len cap k hu hk
    split at hb
    · rename_i s hs
      simp only [Option.ite_none_right_eq_some, Option.some.injEq] at hb
      obtain ⟨hlt, rfl⟩ := hb
      have hlt : k < len := Nat.le_of_ble_eq_true hlt
      obtain ⟨kk, _, hi⟩ := natOf_some (E := E) hk
      rw [ren_slice, ren_ptr, hi]
      refine ⟨?_, by rw [Sc_slice] at hsc; rw [Sc_ptr]; exact hsc⟩
      have hc : (0 : Int) ≤ (k : Int) ∧ (k : Int) < (len : Int) := ⟨by omega, by omega⟩
      simp only [Instr.indexAt, asIntOf, Sem.run_bind, Sem.run_pure, Result.andThen_ok, run_underlying hu, hc, and_self, if_true, run_sizeT hs, Env.addr, addr_add, Int.toNat_natCast, Nat.add_assoc]
    · simp at hb
  · rename_i m e n off k hu hk
    split at hb
    · rename_i s hs
      simp only [Option.ite_none_right_eq_some, Option.some.injEq] at hb
      obtain ⟨hlt, rfl⟩ := hb
      have hlt : k < m := Nat.le_of_ble_eq_true hlt
      obtain ⟨kk, _, hi⟩ := natOf_some (E := E) hk
      rw [ren_ptr, ren_ptr, hi]
      refine ⟨?_, by rw [Sc_ptr] at hsc ⊢; exact hsc⟩
      have hc : (0 : Int) ≤ (k : Int) ∧ (k : Int) < (m : Int) := ⟨by omega, by omega⟩
      simp only [Instr.indexAt, asIntOf, Sem.run_bind, Sem.run_pure, Result.andThen_ok, run_underlying hu, Instr.sureAddr, hc, and_self, if_true, run_sizeT hs, Env.addr, addr_add, Int.toNat_natCast, Nat.add_assoc]
    · simp at hb
  · simp at hb

theorem bound_some {v : Option Value} {d m k : Nat} (hb : bound v d m = some k) : (v = none ∧ k = d) ∨ (∃ x kk, v = some x ∧ x = .int kk k ∧ ren E x = .int kk k ∧ k ≤ m) := by
  unfold bound at hb
  split at hb
  · simp at hb; exact .inl ⟨rfl, hb.symm⟩
  · rename_i x
    split at hb
    · rename_i k' hk
      simp only [Option.ite_none_right_eq_some, Option.some.injEq] at hb
      obtain ⟨hle, rfl⟩ := hb
      obtain ⟨kk, h1, h2⟩ := natOf_some (E := E) hk
      exact .inr ⟨x, kk, rfl, h1, h2, Nat.le_of_ble_eq_true hle⟩
    · simp at hb

theorem run_sliceBound {k : IntKind} {n m : Nat} {c : BoundsCode} (hle : n ≤ m) (w : World) : (Instr.sliceBound (.int k n) m c).run P w = .ok n w := by
  have hc : (0 : Int) ≤ (n : Int) ∧ (n : Int) ≤ (m : Int) := ⟨by omega, by omega⟩
  simp only [Instr.sliceBound, asIntOf, Sem.run_bind, Sem.run_pure, Result.andThen_ok, hc, and_self, if_true, Int.toNat_natCast]

/-- The bounds of a slice expression without a third index; 'cap' may be larger than the abstract machine knows. -/
theorem run_sliceBounds {isS : Bool} {len cap cap' l h' : Nat} {lo hi : Option Value} (hh : bound hi len cap' = some h') (hl : bound lo 0 h' = some l) (hcap : h' ≤ cap) (w : World) :
    (Instr.sliceBounds isS len cap (lo.map (ren E)) (hi.map (ren E)) none).run P w = .ok (l, h', cap) w := by
  unfold Instr.sliceBounds
  rcases bound_some (E := E) hh with ⟨rfl, rfl⟩ | ⟨x, kk, rfl, _, hx, _⟩ <;> rcases bound_some (E := E) hl with ⟨rfl, rfl⟩ | ⟨y, ky, rfl, _, hy, hle'⟩
  · simp only [Option.map_none, Sem.run_bind, Sem.run_pure, Result.andThen_ok]
  · simp only [Option.map_none, Option.map_some, Sem.run_bind, Sem.run_pure, Result.andThen_ok, hy, Option.isSome_none, Bool.false_eq_true, if_false, run_sliceBound hle']
  · simp only [Option.map_none, Option.map_some, Sem.run_bind, Sem.run_pure, Result.andThen_ok, hx, run_sliceBound hcap]
  · simp only [Option.map_some, Sem.run_bind, Sem.run_pure, Result.andThen_ok, hx, hy, Option.isSome_none, Bool.false_eq_true, if_false, run_sliceBound hcap, run_sliceBound hle']

end
end Go.Dam

namespace Go.Dam

section
variable {P : Program} {E : Env} {A : Nat → Prop} {h h' : List (Nat × Obj)} {nx : Nat} {w w' : World}

theorem slice_place {b o s l m : Nat} : (if m = l then (⟨b, o, none⟩ : Addr) else (⟨b, o, none⟩ : Addr).add (l * s)) = if m = l then ⟨b, o, none⟩ else ⟨b, o + l * s, none⟩ := by
  rw [addr_add]

theorem slice_sound (H : Holds P E A h w) {t : TypeId} {x v : Value} {lo hi : Option Value} (hb : aslice P h t x lo hi = some v) (hsc : Sc A x) :
    (Instr.sliceAt t (ren E x) (lo.map (ren E)) (hi.map (ren E)) none).run P w = .ok (ren E v) w ∧ Sc A v := by
  unfold aslice at hb
  split at hb
  · rename_i e n off len cap hu
    split at hb
    · simp at hb
    · rename_i s hs
      rw [ren_slice]
      split at hb
      · rename_i hrow
        split at hb
        · simp at hb
        · rename_i h' hh
          split at hb
          · simp at hb
          · rename_i l hl
            split at hb
            · rename_i c e' fz hg
              simp only [Option.ite_none_right_eq_some, Option.some.injEq, Bool.and_eq_true, Bool.or_eq_true] at hb
              obtain ⟨⟨⟨⟨⟨h1, h2⟩, h3⟩, h4⟩, h5⟩, rfl⟩ := hb
              have h1 := Nat.le_of_ble_eq_true h1
              have h2 : off = cap * s := by simpa using h2
              have h3 : 0 < s := Nat.le_of_ble_eq_true h3
              have h5 : e' = e := by simpa using h5
              subst h5
              obtain ⟨_, _, oc, _, hr⟩ := H.blk n _ hg
              simp only [BlkRel, hrow, if_true] at hr
              obtain ⟨cc, fzc, s', _, e2, _, _, e5, _⟩ := hr
              rw [hs] at e2; obtain rfl := Option.some.inj e2
              have hk : cap + h' ≤ E.κ n := by
                have : (cap + h') * s ≤ E.κ n * s := by rw [Nat.add_mul]; omega
                exact Nat.le_of_mul_le_mul_right this h3
              have hr := run_sliceBounds (P := P) (E := E) (isS := true) hh hl (cap := E.κ n - cap) (by omega) w
              rw [ren_slice, Sc_slice]
              refine ⟨?_, by rw [Sc_slice] at hsc; exact hsc⟩
              simp only [Instr.sliceAt, Instr.slice, Sem.run_bind, run_underlying hu, Result.andThen_ok, hrow, if_true, hr, run_sizeT hs, Sem.run_pure, Env.addr, Option.map_some, addr_add]
              have hl0 : l = 0 ∨ l < h' := h4.imp (by simp) (fun h => Nat.le_of_ble_eq_true h)
              congr 2
              · rcases hl0 with rfl | hl0
                · simp
                · rw [if_neg (by omega), Nat.add_assoc]
              · omega
            · simp at hb
      · rename_i hrow
        split at hb
        · simp at hb
        · rename_i h' hh
          split at hb
          · simp at hb
          · rename_i l hl
            simp only [Option.some.injEq] at hb
            subst hb
            have hle : h' ≤ cap ∨ hi = none := by
              rcases bound_some (E := E) hh with ⟨rfl, _⟩ | ⟨_, _, _, _, _, h⟩
              · exact .inr rfl
              · exact .inl h
            have hr : (Instr.sliceBounds true len cap (lo.map (ren E)) (hi.map (ren E)) none).run P w = .ok (l, h', cap) w := by
              rcases hle with hle | rfl
              · exact run_sliceBounds hh hl hle w
              · have : bound none len len = some h' := by simpa [bound] using hh
                unfold Instr.sliceBounds
                rcases bound_some (E := E) hl with ⟨rfl, rfl⟩ | ⟨y, ky, rfl, _, hy, hle'⟩
                · simp [bound] at hh; subst hh
                  simp only [Option.map_none, Sem.run_bind, Sem.run_pure, Result.andThen_ok]
                · simp [bound] at hh; subst hh
                  simp only [Option.map_none, Option.map_some, Sem.run_bind, Sem.run_pure, Result.andThen_ok, hy, Option.isSome_none, Bool.false_eq_true, if_false, run_sliceBound hle']
            rw [ren_slice, Sc_slice]
            have hblk : (if Nat.beq cap l = true then (⟨n, off, none⟩ : Addr) else ⟨n, off + l * s, none⟩).block = n := by split <;> rfl
            rw [hblk, if_neg hrow, if_neg hrow]
            refine ⟨?_, (Sc_slice A _ _ _).1 hsc⟩
            simp only [Instr.sliceAt, Instr.slice, Sem.run_bind, run_underlying hu, Result.andThen_ok, hr, run_sizeT hs, Sem.run_pure, Env.addr, Option.map_some, addr_add]
            congr 2
            by_cases hc : cap = l
            · subst hc; simp
            · simp [hc, Nat.add_assoc]
  · rename_i k e n off hu
    split at hb
    · simp at hb
    · rename_i s hs
      rw [ren_ptr]
      split at hb
      · simp at hb
      · rename_i hrow
        split at hb
        · simp at hb
        · rename_i h' hh
          split at hb
          · simp at hb
          · rename_i l hl
            simp only [Option.some.injEq] at hb
            subst hb
            have hle : h' ≤ k := by
              rcases bound_some (E := E) hh with ⟨_, h⟩ | ⟨_, _, _, _, _, h⟩ <;> omega
            have hr := run_sliceBounds (P := P) (E := E) (isS := false) hh hl hle w
            rw [ren_slice, Sc_slice]
            have hblk : (if Nat.beq k l = true then (⟨n, off, none⟩ : Addr) else ⟨n, off + l * s, none⟩).block = n := by split <;> rfl
            rw [hblk, if_neg hrow]
            refine ⟨?_, (Sc_ptr A _).1 hsc⟩
            simp only [Instr.sliceAt, Sem.run_bind, run_underlying hu, Result.andThen_ok, Instr.sureAddr, hr, run_sizeT hs, Sem.run_pure, Env.addr, addr_add]
            congr 3
            by_cases hc : k = l
            · subst hc; simp
            · simp [hc, Nat.add_assoc]
  · simp at hb

theorem aeql_sound {t : TypeId} {x y : Value} {b : Bool} (hb : aeql P t x y = some b) (w : World) :
    (Op.equal t (ren E x) (ren E y)).run P w = .ok b w := by
  unfold aeql at hb
  show (Op.equalIn (9999 + 1) t (ren E x) (ren E y)).run P w = _
  unfold Op.equalIn
  split at hb
  · rename_i e hu
    simp only [Sem.run_bind, run_underlying hu, Result.andThen_ok]
    split at hb
    · rename_i b'
      simp at hb; subst hb
      cases b' with
      | none => rw [ren_nilptr]; rfl
      | some a => rw [ren_nilptr, ren_ptr]; rfl
    · simp at hb; subst hb
      rw [ren_ptr, ren_nilptr]; rfl
    · rename_i m i n j
      split at hb
      · rename_i s hs
        split at hb
        · simp at hb
        · rename_i h0
          simp only [Option.ite_none_right_eq_some, Option.some.injEq] at hb
          obtain ⟨hmn, rfl⟩ := hb
          have hmn : m = n := by simpa using hmn
          subst hmn
          rw [ren_ptr, ren_ptr]
          have h0 : s ≠ 0 := by simpa using h0
          simp only [Sem.run_bind, run_sizeT hs, Result.andThen_ok, h0, ne_eq, not_false_eq_true, if_true, Env.addr, sameAddr, beq_self_eq_true, Sem.run_pure]
          congr 1
          by_cases hij : i = j
          · subst hij; simp
          · have h1 : ¬ (⟨E.β m, E.σ m + i, none⟩ : Addr) = ⟨E.β m, E.σ m + j, none⟩ := by simp; exact hij
            rw [beq_eq_false_iff_ne.2 h1]
            cases hb : Nat.beq i j with
            | true => exact absurd (Nat.eq_of_beq_eq_true hb) hij
            | false => rfl
      · simp at hb
    · simp at hb
  · rename_i e hu
    simp only [Sem.run_bind, run_underlying hu, Result.andThen_ok]
    split at hb
    · rename_i _ _ b' _ _
      simp at hb; subst hb
      cases b' with
      | none => rw [ren_nilslice, ren_nilslice]; rfl
      | some a => rw [ren_nilslice, ren_slice]; rfl
    · simp at hb; subst hb
      rw [ren_slice, ren_nilslice]; rfl
    · simp at hb
  · rename_i e hu
    simp only [Sem.run_bind, run_underlying hu, Result.andThen_ok]
    split at hb
    · rename_i b'
      simp at hb; subst hb
      cases b' with
      | none => rw [ren_nilmap]; rfl
      | some a => rw [ren_nilmap, ren_map]; rfl
    · simp at hb; subst hb
      rw [ren_nilmap, ren_map]; rfl
    · simp at hb
  · rename_i e hu
    simp only [Sem.run_bind, run_underlying hu, Result.andThen_ok]
    split at hb
    · simp at hb; subst hb
      rw [ren_nilfunc]; rfl
    · simp at hb; subst hb
      rw [ren_nilfunc, ren_func]; rfl
    · simp at hb; subst hb
      rw [ren_nilfunc, ren_func]; rfl
    · simp at hb
  · rename_i ms hu
    simp only [Sem.run_bind, run_underlying hu, Result.andThen_ok]
    split at hb
    · simp at hb; subst hb
      rw [ren_iface, ren_niliface]; rfl
    · rename_i tx k n ty k' n'
      split at hb
      · rename_i i kk hi hk
        simp only [Option.ite_none_right_eq_some, Option.some.injEq, Bool.and_eq_true, decide_eq_true_eq] at hb
        obtain ⟨⟨h1, h2, h3⟩, rfl⟩ := hb
        have h1 : tx = ty := Nat.eq_of_beq_eq_true h1
        subst h1; subst h3
        rw [ren_iface, ren_iface, ren_int, ren_int]
        have hti : (typeInfo tx).run P w = .ok i w := by simp [typeInfo, hi]
        have hin : (Op.equalIn 9999 tx (.int k n) (.int k n')).run P w = .ok (n == n') w := by
          show (Op.equalIn (9998 + 1) tx _ _).run P w = _
          unfold Op.equalIn
          simp only [Sem.run_bind, run_underlying hk, Result.andThen_ok]
          simp
        simp only [ne_eq, not_true_eq_false, if_false, Sem.run_bind, hti, Result.andThen_ok, h2, Bool.not_true, Bool.false_eq_true]
        exact hin
      · simp at hb
    · simp at hb
  · simp at hb

theorem lenA_sound {x : Value} {n : Nat} (hb : lenA x = some n) (w : World) : (Builtin.lenOf (ren E x)).run P w = .ok n w := by
  cases x with
  | slice a l c =>
    simp [lenA] at hb; subst hb
    cases a with
    | none => rw [ren_nilslice]; rfl
    | some a => rw [ren_slice]; rfl
  | string s => simp [lenA] at hb; subst hb; rw [ren_string]; rfl
  | _ => simp [lenA] at hb

theorem firstA_sound (H : Holds P E A h w) {s n : Nat} {x : Value} {cs : List Value} (hb : firstA h s n x = some cs) :
    (Builtin.firstCells s n (ren E x)).run P w = .ok (cs.map (ren E)).toArray w ∧ ∀ v ∈ cs, Sc A v := by
  unfold firstA at hb
  split at hb
  · simp at hb; subst hb; rw [ren_nilslice]; exact ⟨rfl, by simp⟩
  · rename_i m off len cap
    rw [ren_slice]
    split at hb
    · rename_i h0
      simp at hb; subst hb
      have h0 : n * s = 0 := by simpa using h0
      refine ⟨?_, by simp⟩
      simp only [Builtin.firstCells, h0]; rfl
    · split at hb
      · rename_i c hc
        simp only [Option.ite_none_right_eq_some, Option.some.injEq] at hb
        obtain ⟨hle, rfl⟩ := hb
        obtain ⟨h1, h2⟩ := run_cellsOf H hc (Nat.le_of_ble_eq_true hle)
        exact ⟨by simpa only [Builtin.firstCells, Env.addr] using h1, h2⟩
      · simp at hb
  · rename_i b
    simp only [Option.some.injEq] at hb; subst hb
    rw [ren_string]
    refine ⟨?_, ?_⟩
    · simp only [Builtin.firstCells, Sem.run_pure]
      congr 1
      apply Array.ext'
      rw [List.map_map, show (ren E ∘ fun x : UInt8 => Value.int IntKind.u8 ↑x.toNat) = fun x : UInt8 => Value.int IntKind.u8 ↑x.toNat from funext fun x => ren_int _ _ _]
      simp [ByteArray.data_extract]
    · intro v hv
      obtain ⟨x, _, rfl⟩ := List.mem_map.1 hv
      exact Sc_int _ _ _
  · simp at hb

end
end Go.Dam
