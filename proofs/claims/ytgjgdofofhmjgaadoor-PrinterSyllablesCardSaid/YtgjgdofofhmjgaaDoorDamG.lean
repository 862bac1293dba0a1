/-
  An own evaluator of closed runs of a program, proved sound against the model for every order of draws and every capacity of append. This text is one part of it; the last part's theorem 'closed' says what a run in the kernel proves. Used for the law's closed self-test.
-/
import Derived.Test.YtgjgdofofhmjgaaDoorDamF
namespace Go.Dam

section
variable {P : Program} {E : Env} {A : Nat → Prop} {h h' : List (Nat × Obj)} {nx : Nat} {w w' : World}

theorem slice_place {b o s l m : Nat} : (if m = l then (⟨b, o, none⟩ : Addr) else (⟨b, o, none⟩ : Addr).add (l * s)) = if m = l then ⟨b, o, none⟩ else ⟨b, o + l * s, none⟩ := by
  rw [addr_add]

theorem slice_sound (H : Holds P E A h w) {t : TypeId} {x v : Value} {lo hi : Option Value} (hb : aslice P h t x lo hi = some v) (hsc : Sc A x) :
    (Instr.sliceAt t (ren E x) (lo.map (ren E)) (hi.map (ren E)) none).run P w = .ok (ren E v) w ∧ Sc A v := by
  unfold aslice at hb
  split at hb
  · rename_i e n off len cap hu
    split at hb
    · simp at hb
    · rename_i s hs
      rw [ren_slice]
      split at hb
      · rename_i hrow
        split at hb
        · simp at hb
        · rename_i h' hh
          split at hb
          · simp at hb
          · rename_i l hl
            split at hb
            · rename_i c e' fz hg
              simp only [Option.ite_none_right_eq_some, Option.some.injEq, Bool.and_eq_true, Bool.or_eq_true] at hb
              obtain ⟨⟨⟨⟨⟨h1, h2⟩, h3⟩, h4⟩, h5⟩, rfl⟩ := hb
              have h1 := Nat.le_of_ble_eq_true h1
              have h2 : off = cap * s := by simpa using h2
              have h3 : 0 < s := Nat.le_of_ble_eq_true h3
              have h5 : e' = e := by simpa using h5
              subst h5
              obtain ⟨_, _, oc, _, hr⟩ := H.blk n _ hg
              simp only [BlkRel, hrow, if_true] at hr
              obtain ⟨cc, fzc, s', _, e2, _, _, e5, _⟩ := hr
              rw [hs] at e2; obtain rfl := Option.some.inj e2
              have hk : cap + h' ≤ E.κ n := by
                have : (cap + h') * s ≤ E.κ n * s := by rw [Nat.add_mul]; omega
                exact Nat.le_of_mul_le_mul_right this h3
              have hr := run_sliceBounds (P := P) (E := E) (isS := true) hh hl (cap := E.κ n - cap) (by omega) w
              rw [ren_slice, Sc_slice]
              refine ⟨?_, by rw [Sc_slice] at hsc; exact hsc⟩
              simp only [Instr.sliceAt, Instr.slice, Sem.run_bind, run_underlying hu, Result.andThen_ok, hrow, if_true, hr, run_sizeT hs, Sem.run_pure, Env.addr, Option.map_some, addr_add]
              have hl0 : l = 0 ∨ l < h' := h4.imp (by simp) (fun h => Nat.le_of_ble_eq_true h)
              congr 2
              · rcases hl0 with rfl | hl0
                · simp
                · rw [if_neg (by omega), Nat.add_assoc]
              · omega
            · simp at hb
      · rename_i hrow
        split at hb
        · simp at hb
        · rename_i h' hh
          split at hb
          · simp at hb
          · rename_i l hl
            simp only [Option.some.injEq] at hb
            subst hb
            have hle : h' ≤ cap ∨ hi = none := by
              rcases bound_some (E := E) hh with ⟨rfl, _⟩ | ⟨_, _, _, _, _, h⟩
              · exact .inr rfl
              · exact .inl h
            have hr : (Instr.sliceBounds true len cap (lo.map (ren E)) (hi.map (ren E)) none).run P w = .ok (l, h', cap) w := by
              rcases hle with hle | rfl
              · exact run_sliceBounds hh hl hle w
              · have : bound none len len = some h' := by simpa [bound] using hh
                unfold Instr.sliceBounds
                rcases bound_some (E := E) hl with ⟨rfl, rfl⟩ | ⟨y, ky, rfl, _, hy, hle'⟩
                · simp [bound] at hh; subst hh
                  simp only [Option.map_none, Sem.run_bind, Sem.run_pure, Result.andThen_ok]
                · simp [bound] at hh; subst hh
                  simp only [Option.map_none, Option.map_some, Sem.run_bind, Sem.run_pure, Result.andThen_ok, hy, Option.isSome_none, Bool.false_eq_true, if_false, run_sliceBound hle']
            rw [ren_slice, Sc_slice]
            have hblk : (if Nat.beq cap l = true then (⟨n, off, none⟩ : Addr) else ⟨n, off + l * s, none⟩).block = n := by split <;> rfl
            rw [hblk, if_neg hrow, if_neg hrow]
            refine ⟨?_, (Sc_slice A _ _ _).1 hsc⟩
            simp only [Instr.sliceAt, Instr.slice, Sem.run_bind, run_underlying hu, Result.andThen_ok, hr, run_sizeT hs, Sem.run_pure, Env.addr, Option.map_some, addr_add]
            congr 2
            by_cases hc : cap = l
            · subst hc; simp
            · simp [hc, Nat.add_assoc]
  · rename_i k e n off hu
    split at hb
    · simp at hb
    · rename_i s hs
      rw [ren_ptr]
      split at hb
      · simp at hb
      · rename_i hrow
        split at hb
        · simp at hb
        · rename_i h' hh
          split at hb
          · simp at hb
          · rename_i l hl
            simp only [Option.some.injEq] at hb
            subst hb
            have hle : h' ≤ k := by
              rcases bound_some (E := E) hh with ⟨_, h⟩ | ⟨_, _, _, _, _, h⟩ <;> omega
            have hr := run_sliceBounds (P := P) (E := E) (isS := false) hh hl hle w
            rw [ren_slice, Sc_slice]
            have hblk : (if Nat.beq k l = true then (⟨n, off, none⟩ : Addr) else ⟨n, off + l * s, none⟩).block = n := by split <;> rfl
            rw [hblk, if_neg hrow]
            refine ⟨?_, (Sc_ptr A _).1 hsc⟩
            simp only [Instr.sliceAt, Sem.run_bind, run_underlying hu, Result.andThen_ok, Instr.sureAddr, hr, run_sizeT hs, Sem.run_pure, Env.addr, addr_add]
            congr 3
            by_cases hc : k = l
            · subst hc; simp
            · simp [hc, Nat.add_assoc]
  · simp at hb

theorem aeql_sound {t : TypeId} {x y : Value} {b : Bool} (hb : aeql P t x y = some b) (w : World) :
    (Op.equal t (ren E x) (ren E y)).run P w = .ok b w := by
  unfold aeql at hb
  show (Op.equalIn (9999 + 1) t (ren E x) (ren E y)).run P w = _
  unfold Op.equalIn
  split at hb
  · rename_i e hu
    simp only [Sem.run_bind, run_underlying hu, Result.andThen_ok]
    split at hb
    · rename_i b'
      simp at hb; subst hb
      cases b' with
      | none => rw [ren_nilptr]; rfl
      | some a => rw [ren_nilptr, ren_ptr]; rfl
    · simp at hb; subst hb
      rw [ren_ptr, ren_nilptr]; rfl
    · rename_i m i n j
      split at hb
      · rename_i s hs
        split at hb
        · simp at hb
        · rename_i h0
          simp only [Option.ite_none_right_eq_some, Option.some.injEq] at hb
          obtain ⟨hmn, rfl⟩ := hb
          have hmn : m = n := by simpa using hmn
          subst hmn
          rw [ren_ptr, ren_ptr]
          have h0 : s ≠ 0 := by simpa using h0
          simp only [Sem.run_bind, run_sizeT hs, Result.andThen_ok, h0, ne_eq, not_false_eq_true, if_true, Env.addr, sameAddr, beq_self_eq_true, Sem.run_pure]
          congr 1
          by_cases hij : i = j
          · subst hij; simp
          · have h1 : ¬ (⟨E.β m, E.σ m + i, none⟩ : Addr) = ⟨E.β m, E.σ m + j, none⟩ := by simp; exact hij
            rw [beq_eq_false_iff_ne.2 h1]
            cases hb : Nat.beq i j with
            | true => exact absurd (Nat.eq_of_beq_eq_true hb) hij
            | false => rfl
      · simp at hb
    · simp at hb
  · rename_i e hu
    simp only [Sem.run_bind, run_underlying hu, Result.andThen_ok]
    split at hb
    · rename_i _ _ b' _ _
      simp at hb; subst hb
      cases b' with
      | none => rw [ren_nilslice, ren_nilslice]; rfl
      | some a => rw [ren_nilslice, ren_slice]; rfl
    · simp at hb; subst hb
      rw [ren_slice, ren_nilslice]; rfl
    · simp at hb
  · rename_i e hu
    simp only [Sem.run_bind, run_underlying hu, Result.andThen_ok]
    split at hb
    · rename_i b'
      simp at hb; subst hb
      cases b' with
      | none => rw [ren_nilmap]; rfl
      | some a => rw [ren_nilmap, ren_map]; rfl
    · simp at hb; subst hb
      rw [ren_nilmap, ren_map]; rfl
    · simp at hb
  · rename_i e hu
    simp only [Sem.run_bind, run_underlying hu, Result.andThen_ok]
    split at hb
    · simp at hb; subst hb
      rw [ren_nilfunc]; rfl
    · simp at hb; subst hb
      rw [ren_nilfunc, ren_func]; rfl
    · simp at hb; subst hb
      rw [ren_nilfunc, ren_func]; rfl
    · simp at hb
  · simp at hb

theorem lenA_sound {x : Value} {n : Nat} (hb : lenA x = some n) (w : World) : (Builtin.lenOf (ren E x)).run P w = .ok n w := by
  cases x with
  | slice a l c =>
    simp [lenA] at hb; subst hb
    cases a with
    | none => rw [ren_nilslice]; rfl
    | some a => rw [ren_slice]; rfl
  | string s => simp [lenA] at hb; subst hb; rw [ren_string]; rfl
  | _ => simp [lenA] at hb

theorem firstA_sound (H : Holds P E A h w) {s n : Nat} {x : Value} {cs : List Value} (hb : firstA h s n x = some cs) :
    (Builtin.firstCells s n (ren E x)).run P w = .ok (cs.map (ren E)).toArray w ∧ ∀ v ∈ cs, Sc A v := by
  unfold firstA at hb
  split at hb
  · simp at hb; subst hb; rw [ren_nilslice]; exact ⟨rfl, by simp⟩
  · rename_i m off len cap
    rw [ren_slice]
    split at hb
    · rename_i h0
      simp at hb; subst hb
      have h0 : n * s = 0 := by simpa using h0
      refine ⟨?_, by simp⟩
      simp only [Builtin.firstCells, h0]; rfl
    · split at hb
      · rename_i c hc
        simp only [Option.ite_none_right_eq_some, Option.some.injEq] at hb
        obtain ⟨hle, rfl⟩ := hb
        obtain ⟨h1, h2⟩ := run_cellsOf H hc (Nat.le_of_ble_eq_true hle)
        exact ⟨by simpa only [Builtin.firstCells, Env.addr] using h1, h2⟩
      · simp at hb
  · rename_i b
    simp only [Option.some.injEq] at hb; subst hb
    rw [ren_string]
    refine ⟨?_, ?_⟩
    · simp only [Builtin.firstCells, Sem.run_pure]
      congr 1
      apply Array.ext'
      rw [List.map_map, show (ren E ∘ fun x : UInt8 => Value.int IntKind.u8 ↑x.toNat) = fun x : UInt8 => Value.int IntKind.u8 ↑x.toNat from funext fun x => ren_int _ _ _]
      simp [ByteArray.data_extract]
    · intro v hv
      obtain ⟨x, _, rfl⟩ := List.mem_map.1 hv
      exact Sc_int _ _ _
  · simp at hb

end
end Go.Dam
