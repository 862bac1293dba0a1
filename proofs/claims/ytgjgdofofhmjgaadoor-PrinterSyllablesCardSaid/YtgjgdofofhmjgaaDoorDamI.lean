/-
  An own evaluator of closed runs of a program, proved sound against the model for every order of draws and every capacity of append. This text is one part of it; the last part's theorem 'closed' says what a run in the kernel proves. Used for the law's closed self-test.
-/
import Derived.Test.YtgjgdofofhmjgaaDoorDamH
namespace Go.Dam

section
variable {P : Program} {E : Env} {A : Nat → Prop} {h h' : List (Nat × Obj)} {nx : Nat} {w w' : World}

theorem repL_get (l : List Value) (hl : 0 < l.length) : ∀ n i, (repL n l)[i]? = if i < n * l.length then l[i % l.length]? else none
  | 0, i => by simp [repL]
  | n + 1, i => by
    simp only [repL]
    by_cases h1 : i < l.length
    · rw [List.getElem?_append_left h1, if_pos (by rw [Nat.add_mul]; omega), Nat.mod_eq_of_lt h1]
    · rw [List.getElem?_append_right (by omega), repL_get l hl n]
      by_cases h2 : i - l.length < n * l.length
      · rw [if_pos h2, if_pos (by rw [Nat.add_mul]; omega)]
        congr 1
        rw [Nat.mod_eq_sub_mod (by omega : i ≥ l.length)]
      · rw [if_neg h2, if_neg (by rw [Nat.add_mul]; omega)]

theorem repL_length (l : List Value) : ∀ n, (repL n l).length = n * l.length
  | 0 => by simp [repL]
  | n + 1 => by simp [repL, repL_length l n, Nat.add_mul, Nat.add_comm]

theorem zeros_eq (z : Array Value) (n : Nat) (hz : 0 < z.size) : (Array.range (n * z.size)).map (fun i => z[i % z.size]!) = (repL n z.toList).toArray := by
  apply Array.ext'
  apply List.ext_getElem?
  intro i
  have hm : i % z.size < z.size := Nat.mod_lt _ hz
  rw [repL_get z.toList (by simpa using hz)]
  simp only [Array.toList_map, Array.toList_range, List.getElem?_map, Array.length_toList]
  by_cases hi : i < n * z.size
  · rw [if_pos hi]
    simp [hi, hm]
  · rw [if_neg hi]
    simp [hi]

theorem foldl_over_get (off : Nat) : ∀ (l : List Value) (k : Nat) (cs : Array Value) (i : Nat), off + k + l.length ≤ cs.size →
    ((l.zipIdx k).foldl (fun cs (x : Value × Nat) => cs.setIfInBounds (off + x.2) x.1) cs)[i]? = if off + k ≤ i ∧ i < off + k + l.length then l[i - (off + k)]? else cs[i]?
  | [], k, cs, i, h => by simp; intro h1 h2; omega
  | v :: l, k, cs, i, h => by
    simp only [List.zipIdx_cons, List.foldl_cons]
    simp only [List.length_cons] at h
    rw [foldl_over_get off l (k + 1) _ i (by simp; omega)]
    by_cases h1 : off + (k + 1) ≤ i ∧ i < off + (k + 1) + l.length
    · rw [if_pos h1, if_pos (by simp only [List.length_cons]; omega), show i - (off + k) = (i - (off + (k + 1))) + 1 by omega]; rfl
    · rw [if_neg h1, Array.getElem?_setIfInBounds]
      by_cases h2 : off + k = i
      · subst h2
        rw [if_pos rfl, if_pos (by omega), if_pos (by simp only [List.length_cons]; omega)]; simp
      · rw [if_neg h2, if_neg (by simp only [List.length_cons]; omega)]

theorem foldl_over_size (off : Nat) : ∀ (l : List (Value × Nat)) (cs : Array Value), (l.foldl (fun cs (x : Value × Nat) => cs.setIfInBounds (off + x.2) x.1) cs).size = cs.size
  | [], _ => rfl
  | _ :: l, cs => by simp only [List.foldl_cons]; rw [foldl_over_size off l]; simp

theorem foldl_over (off : Nat) (c cs : Array Value) (h : off + c.size ≤ cs.size) : c.zipIdx.foldl (fun cs (c, j) => cs.setIfInBounds (off + j) c) cs = (over cs.toList off c.toList).toArray := by
  apply Array.ext'
  apply List.ext_getElem?
  intro i
  have h1 := foldl_over_get off c.toList 0 cs i (by simpa using h)
  rw [over_get cs.toList off c.toList (by simpa using h)]
  rw [← Array.foldl_toList, Array.toList_zipIdx]
  simp only [Nat.add_zero, Array.length_toList] at h1 ⊢
  rw [Array.getElem?_toList, h1]
  by_cases g1 : i < off
  · rw [if_neg (by omega), if_pos g1]; simp
  · rw [if_neg g1]
    by_cases g2 : i < off + c.size
    · rw [if_pos ⟨by omega, g2⟩, if_pos g2]
    · rw [if_neg (by omega), if_neg g2]; simp

theorem fillL_fill (s : Nat) : ∀ (ps : List (Nat × Value)) (c r : List Value), fillL s c ps = some r → Instr.fill (fun i => some (i * s, s)) c.toArray ps = some r.toArray ∧ r.length = c.length
  | [], c, r, h => by simp [fillL] at h; subst h; exact ⟨rfl, rfl⟩
  | (i, v) :: ps, c, r, h => by
    simp only [fillL, Option.ite_none_right_eq_some, Bool.and_eq_true] at h
    obtain ⟨⟨h1, h2⟩, h3⟩ := h
    have h1 : v.cells.size = s := by simpa using h1
    have h2 := Nat.le_of_ble_eq_true h2
    obtain ⟨k1, k2⟩ := fillL_fill s ps _ r h3
    simp only [Instr.fill]
    rw [if_neg (by simp; omega), foldl_over _ _ _ (by simp; omega)]
    refine ⟨by simpa using k1, k2.trans (over_length _ _ _ (by simp; omega))⟩

theorem buildSlice_sound {S S' : St} {tm : List Value} (H : Holds P E A S.heap w) (hev : S.next % 2 = 0) {t : TypeId} {n : Nat} {ps : Array (Nat × Operand)} {v : Value} (hb : abuildSlice P tm S t n ps = some (v, S'))
    (hA : ∀ n, A n → ¬ (S.next ≤ n ∧ n < S'.next)) (hsc : ∀ p ∈ aparts tm ps, Sc A p.2) :
    ∃ E' w', (Instr.buildSlice t n ((aparts tm ps).map (renP E))).run P w = .ok (ren E' v) w' ∧ Post P E A S.heap S.next w E' S'.heap S'.next w' ∧ Sc (fun n => A n ∨ (S.next ≤ n ∧ n < S'.next)) v := by
  unfold abuildSlice at hb
  split at hb
  · rename_i e he
    split at hb
    · rename_i s z hs hz
      simp only [Option.ite_none_right_eq_some, Bool.and_eq_true] at hb
      obtain ⟨⟨⟨⟨h1, h2⟩, h3⟩, h4⟩, hb⟩ := hb
      have h1 : z.cells.size = s := by simpa using h1
      have h2 := Nat.le_of_ble_eq_true h2
      have h3 : 0 < s := Nat.le_of_ble_eq_true h3
      split at hb
      · rename_i cs hf
        simp only [newExact, Option.some.injEq, Prod.mk.injEq] at hb
        obtain ⟨rfl, rfl⟩ := hb
        obtain ⟨f1, f2⟩ := fillL_fill s _ _ _ hf
        have hplain : plainAll (repL n z.cells.toList) = true := by
          have : ∀ n, plainAll (repL n z.cells.toList) = true := by
            intro n
            induction n with
            | zero => rfl
            | succ n ih =>
              have happ : ∀ a b : List Value, plainAll a = true → plainAll b = true → plainAll (a ++ b) = true := by
                intro a b ha hb
                induction a with
                | nil => exact hb
                | cons x a iha => simp [plainAll] at ha ⊢; exact ⟨ha.1, iha ha.2⟩
              exact happ _ _ h4 ih
          exact this n
        have hzr := fill_ren E (fun i => some (i * s, s)) (aparts tm ps).toList (repL n z.cells.toList).toArray
        rw [mapA_plainAll E (by simpa using hplain), f1] at hzr
        have hcsc : ∀ x ∈ cs.toArray, Sc A x := Sc_fill (A := A) _ _ _ _ (fun x hx => plain1_Sc A (plainAll_mem hplain x (by simpa using hx))) (fun p hp => hsc p (by simpa using hp)) f1
        obtain ⟨E', w', n1, n2⟩ := newCells_sound (P := P) H hev hA cs.toArray e hcsc
        refine ⟨E', w', ?_, n2, by rw [Sc_slice]; exact .inr ⟨Nat.le_refl _, by dsimp only; omega⟩⟩
        have hpl : ((aparts tm ps).map (renP E)).toList = (aparts tm ps).toList.map fun x => (x.1, ren E x.2) := by simp [renP]
        have hzz : ∀ w : World, (zeroValue e).run P w = .ok z w := fun w => run_zeroT hz w
        have hbig : ¬ (n * s > 2 ^ 24) := by omega
        rw [ren_slice]
        have hcells : Instr.fill (fun i => some (i * s, s)) ((Array.range (n * s)).map (fun i => (if n * s = 0 then #[] else z.cells)[i % (if n * s = 0 then #[] else z.cells : Array Value).size]!)) ((aparts tm ps).map (renP E)).toList = some (cs.toArray.map (ren E)) := by
          by_cases h0 : n * s = 0
          · have hn0 : n = 0 := by rcases Nat.mul_eq_zero.1 h0 with h | h; exact h; omega
            subst hn0
            rw [hpl]
            have h00 : (Array.range (0 * s)).map (fun i => (if 0 * s = 0 then #[] else z.cells)[i % (if 0 * s = 0 then #[] else z.cells : Array Value).size]!) = #[] := by
              apply Array.ext'; simp
            rw [h00]
            simpa [repL] using hzr
          · rw [if_neg h0, ← h1, zeros_eq z.cells n (by omega), h1, hpl]
            simpa using hzr
        simp only [Instr.buildSlice, Sem.run_bind, run_underlying (elemT_under he), Result.andThen_ok, run_sizeT hs, hbig, if_false, Sem.run_pure, Sem.run_ite, hzz]
        by_cases h0 : n * s = 0
        · rw [if_pos h0] at hcells ⊢
          simp only [Result.andThen_ok, hcells, Sem.run_bind, n1, Sem.run_pure, isRow_even hev, Bool.false_eq_true, if_false]
        · rw [if_neg h0] at hcells ⊢
          simp only [Result.andThen_ok, hcells, Sem.run_bind, n1, Sem.run_pure, isRow_even hev, Bool.false_eq_true, if_false]
      · simp at hb
    · simp at hb
  · simp at hb

end
end Go.Dam
