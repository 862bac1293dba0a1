/-
  A part of the proof that the law InterchangeTexts (chapter 22) returns true for every loss: runs of the program's functions in the kernel, by the own evaluator, and walks.
-/
import Derived.Test.YtionfcmmfbecfaaGreatDoorDamK
import Derived.Test.YtionfcmmfbecfaaGreatDoorOnc
namespace Go.Proofs.YtionfcmmfbecfaaGreatDoor
open Go.Dam

section
variable {P : Program} {E : Env} {A : Nat → Prop} {h : List (Nat × Obj)} {nx : Nat} {w : World}

theorem setCell_eq {b off : Nat} {c : Array Value} {e : TypeId} {fz : Nat × Nat} (hb : w.heap[b]? = some (.cells c e fz)) (v : Value) : w.setCell ⟨b, off, none⟩ v = { w with heap := w.heap.setIfInBounds b (.cells (c.setIfInBounds off v) e fz) } := by
  unfold World.setCell
  congr 1
  apply Array.ext_getElem?
  intro i
  simp only [Array.getElem?_modify, Array.getElem?_setIfInBounds]
  have hlt : b < w.heap.size := (Array.getElem?_eq_some_iff.1 hb).1
  by_cases hi : b = i
  · subst hi
    have hb' : w.heap[b] = .cells c e fz := by
      rw [Array.getElem?_eq_getElem hlt] at hb
      exact Option.some.inj hb
    simp [hlt, hb']
  · simp [hi]

theorem Post.setCell (H : Holds P E A h w) {n off : Nat} {c : Array Value} {e : TypeId} {fz : Nat × Nat} (hg : getB h n = some (.cells c e fz)) (hrow : isRow n = false) {v : Value} (hv : plain v = true) : Post P E A h nx w E (setB h n (.cells (c.setIfInBounds off v) e fz)) nx (w.setCell ⟨E.β n, off, none⟩ v) := by
  obtain ⟨_, hs, oc, hoc, hr⟩ := H.blk n _ hg
  simp only [BlkRel, hrow, Bool.false_eq_true, if_false] at hr
  obtain ⟨h0, rfl⟩ := hr
  rw [setCell_eq hoc]
  refine Post.turnAt H hg (fun k _ hk => by omega) ?_ ?_
  · intro x hx
    rcases Array.mem_or_eq_of_mem_setIfInBounds hx with hx | rfl
    · exact hs x hx
    · exact plain_Sc A hv
  · simp only [BlkRel, hrow, Bool.false_eq_true, if_false]
    refine ⟨h0, ?_⟩
    congr 1
    apply Array.ext_getElem?
    intro i
    simp only [Array.getElem?_map, Array.getElem?_setIfInBounds, Array.size_map]
    by_cases hi : off = i
    · subst hi
      by_cases hl : off < c.size
      · simp [hl, plain_ren E hv]
      · simp [hl]
    · simp [hi]

theorem cell_of (H : Holds P E A h w) {n off : Nat} {c : Array Value} {e : TypeId} {v : Value} (hg : getB h n = some (.cells c e (0, 0))) (hrow : isRow n = false) (hc : c[off]? = some v) (hv : plain v = true) : w.cell? ⟨E.β n, off, none⟩ = some v ∧ w.frozen? ⟨E.β n, off, none⟩ = false ∧ E.σ n = 0 := by
  obtain ⟨_, hs, oc, hoc, hr⟩ := H.blk n _ hg
  simp only [BlkRel, hrow, Bool.false_eq_true, if_false] at hr
  obtain ⟨h0, rfl⟩ := hr
  refine ⟨?_, ?_, h0⟩
  · simp [World.cell?, hoc, hc, plain_ren E hv]
  · simp [World.frozen?, hoc]
end

def zero32 : Value → Bool
  | .int .u32 0 => true
  | _ => false
def isI32 (n : Int) : Value → Bool
  | .int .i32 m => m == n
  | _ => false
def at? (c : Array Value) (i : Nat) (f : Value → Bool) : Bool := match c[i]? with
  | some v => f v
  | none => false
def isVoid : Value → Bool
  | .tuple vs => vs.toList.isEmpty
  | _ => false

theorem at_zero {c : Array Value} {i : Nat} (h : at? c i zero32 = true) : c[i]? = some (.int .u32 0) := by
  unfold at? at h
  split at h
  · rename_i v hv
    unfold zero32 at h
    split at h
    · exact hv
    · cases h
  · cases h
theorem at_i32 {c : Array Value} {i : Nat} {n : Int} (h : at? c i (isI32 n) = true) : c[i]? = some (.int .i32 n) := by
  unfold at? at h
  split at h
  · rename_i v hv
    unfold isI32 at h
    split at h
    · rename_i m
      rw [hv, eq_of_beq h]
    · cases h
  · cases h
theorem void_eq {v : Value} (h : isVoid v = true) : v = .tuple #[] := by
  unfold isVoid at h
  split at h
  · rename_i vs
    congr 1
    apply Array.ext'
    simpa using h
  · cases h

/-- sync.Once's Do of buildOnce, told: 'callF' runs what is run once. -/
def orcDo (callF : Fn → List Value → St → Option (Value × St)) (f : FuncId) (args : List Value) (S : St) : Option (Value × St) :=
  if Nat.beq f 202 = true then
    match args with
    | [.pointer (some ⟨n, off, none⟩), .func (.func 203) first cap] =>
      match first.toList, cap.toList with
      | [.pointer (some q)], [] =>
        match getB S.heap n with
        | some (.cells c e (0, 0)) =>
          if !(isRow n) && (at? c off zero32 && at? c (off + 1) (isI32 0)) then
            match callF (.func 203) [.pointer (some q)] ⟨setB S.heap n (.cells (c.setIfInBounds (off + 1) (.int .i32 1)) e (0, 0)), S.next⟩ with
            | some (v, S2) =>
              match getB S2.heap n with
              | some (.cells c2 e2 (0, 0)) =>
                if isVoid v && (at? c2 off zero32 && at? c2 (off + 1) (isI32 1)) then
                  some (.tuple #[], ⟨setB S2.heap n (.cells ((c2.setIfInBounds off (.int .u32 1)).setIfInBounds (off + 1) (.int .i32 0)) e2 (0, 0)), S2.next⟩)
                else none
              | _ => none
            | none => none
          else none
        | _ => none
      | _, _ => none
    | _ => none
  else none

theorem setB_setB (h : List (Nat × Obj)) (n : Nat) (o o' : Obj) : setB (setB h n o) n o' = setB h n o' := by
  induction h with
  | nil => rfl
  | cons a r ih =>
    obtain ⟨m, y⟩ := a
    simp only [setB]
    by_cases hm : Nat.beq m n = true
    · rw [if_pos hm, if_pos hm]
      simp only [setB]
      rw [if_pos hm]
    · rw [if_neg hm, if_neg hm]
      simp only [setB]
      rw [if_neg hm, ih]

set_option maxHeartbeats 1000000 in
theorem orcDo_ok {callF : Fn → List Value → St → Option (Value × St)} (hcf : CallOk Tryz.prog callF) : OrcOk Tryz.prog (orcDo callF) := by
  intro f args S v S' h E A w hg hev hargs H hA
  unfold orcDo at h
  split at h
  case isFalse => cases h
  rename_i hf
  obtain rfl := Nat.eq_of_beq_eq_true hf
  split at h
  case h_2 => cases h
  rename_i n off first cap
  split at h
  case h_2 => cases h
  rename_i q hfirst hcap
  obtain rfl : first = #[.pointer (some q)] := by apply Array.ext'; simpa using hfirst
  obtain rfl : cap = #[] := by apply Array.ext'; simpa using hcap
  split at h
  case h_2 => cases h
  rename_i c e hgn
  simp only [Option.ite_none_right_eq_some, Bool.and_eq_true, Bool.not_eq_true'] at h
  obtain ⟨⟨hrow, hz, hm⟩, h⟩ := h
  have hz := at_zero hz
  have hm := at_i32 hm
  split at h
  case h_2 => cases h
  rename_i v2 S2 hrun
  split at h
  case h_2 => cases h
  rename_i c2 e2 hgn2
  simp only [Option.ite_none_right_eq_some, Option.some.injEq, Prod.mk.injEq] at h
  obtain ⟨⟨hvoid, hz2, hm2⟩, rfl, rfl⟩ := h
  have hz2 := at_zero hz2
  have hm2 := at_i32 hm2
  obtain rfl := void_eq hvoid
  simp only at hA
  obtain ⟨k0, _, hσ⟩ := cell_of H hgn hrow hz rfl
  obtain ⟨k1, k2, _⟩ := cell_of H hgn hrow hm rfl
  have hAn : A n := (H.blk n _ hgn).1
  -- with the lock taken
  have p1 : Post Tryz.prog E A S.heap S.next w E (setB S.heap n (.cells (c.setIfInBounds (off + 1) (.int .i32 1)) e (0, 0))) S.next (w.setCell ⟨E.β n, off + 1, none⟩ (.int .i32 1)) := Post.setCell H hgn hrow rfl
  have H1 : Holds Tryz.prog E A (setB S.heap n (.cells (c.setIfInBounds (off + 1) (.int .i32 1)) e (0, 0))) (w.setCell ⟨E.β n, off + 1, none⟩ (.int .i32 1)) := p1.holds.mono fun m hm' => hm'.resolve_right (by omega)
  have hq : Sc A (.pointer (some q)) := by
    have := hargs (.func (.func 203) #[.pointer (some q)] #[]) (by simp)
    rw [Sc_func] at this
    exact this.2.1 _ (by simp)
  have hc := hcf (.func 203) [.pointer (some q)] ⟨setB S.heap n (.cells (c.setIfInBounds (off + 1) (.int .i32 1)) e (0, 0)), S.next⟩ (.tuple #[]) S2 hrun E A (w.setCell ⟨E.β n, off + 1, none⟩ (.int .i32 1)) hg hev (by intro x hx; obtain rfl := List.mem_singleton.1 hx; exact hq) H1 hA
  have hc : Calls Tryz.prog 203 #[.pointer (some (E.addr q))] (w.setCell ⟨E.β n, off + 1, none⟩ (.int .i32 1)) fun en w' => ∃ E', en = .returned (ren E' (.tuple #[])) ∧ Post Tryz.prog E A (setB S.heap n (.cells (c.setIfInBounds (off + 1) (.int .i32 1)) e (0, 0))) S.next (w.setCell ⟨E.β n, off + 1, none⟩ (.int .i32 1)) E' S2.heap S2.next w' ∧ Sc (fun m => A m ∨ (S.next ≤ m ∧ m < S2.next)) (.tuple #[]) := by
    have ha1 : ([Value.pointer (some q)].map (ren E)).toArray = #[.pointer (some (E.addr q))] := by
      simp only [List.map_cons, List.map_nil, ren_ptr]
    rw [ha1] at hc
    exact hc
  have hret : ∀ E' : Env, ren E' (.tuple #[]) = .tuple #[] := fun E' => by rw [ren_tuple]; simp
  have hkept : Kept (fun en w' => ∃ E', en = .returned (ren E' (.tuple #[])) ∧ Post Tryz.prog E A (setB S.heap n (.cells (c.setIfInBounds (off + 1) (.int .i32 1)) e (0, 0))) S.next (w.setCell ⟨E.β n, off + 1, none⟩ (.int .i32 1)) E' S2.heap S2.next w' ∧ Sc (fun m => A m ∨ (S.next ≤ m ∧ m < S2.next)) (.tuple #[])) (E.β n) off := by
    rintro en w2 ⟨E', rfl, p, _⟩
    have hβ : E'.β n = E.β n := (p.agree n (hA n hAn)).1
    obtain ⟨a1, a2, _⟩ := cell_of p.holds hgn2 hrow hz2 rfl
    obtain ⟨a3, a4, _⟩ := cell_of p.holds hgn2 hrow hm2 rfl
    rw [hβ] at a1 a2 a3 a4
    exact ⟨by rw [hret], a1, a3, a2, a4⟩
  have := do_first (E.β n) off (E.addr q) _ hkept w k0 k1 k2 hc
  have ha : ([Value.pointer (some ⟨n, off, none⟩), .func (.func 203) #[.pointer (some q)] #[]].map (ren E)).toArray = #[.pointer (some ⟨E.β n, off, none⟩), .func (.func 203) #[.pointer (some (E.addr q))] #[]] := by
    simp only [List.map_cons, List.map_nil, ren_ptr, ren_func, renFn_func]
    simp [Env.addr, hσ, ren_ptr]
  rw [ha]
  refine this.mono ?_
  rintro en w' ⟨rfl, w2, ⟨E', _, p, _⟩, rfl⟩
  refine ⟨E', by rw [hret], ?_, by rw [Sc_tuple]; simp⟩
  have hβ : E'.β n = E.β n := (p.agree n (hA n hAn)).1
  have pq := (p1.trans (q := Post.monoA p)).world (w₁ := w2.drew) rfl rfl rfl rfl
  have Hd : Holds Tryz.prog E' (fun m => A m ∨ (S.next ≤ m ∧ m < S2.next)) S2.heap w2.drew := p.holds.world rfl
  have s1 := Post.setCell (nx := S2.next) (off := off) Hd hgn2 hrow (v := .int .u32 1) rfl
  have H2 := s1.holds.mono (B := fun m => A m ∨ (S.next ≤ m ∧ m < S2.next)) fun m hm' => hm'.resolve_right (by omega)
  have s2 := Post.setCell (nx := S2.next) (off := off + 1) H2 (getB_setB_same hgn2) hrow (v := .int .i32 0) rfl
  have p3 := (pq.trans s1).trans s2
  rw [setB_setB, hβ] at p3
  exact p3

end Go.Proofs.YtionfcmmfbecfaaGreatDoor
