/-
  An own evaluator of closed runs of a program, proved sound against the model for every order of draws and every capacity of append. This text is one part of it; the last part's theorem 'closed' says what a run in the kernel proves. Used for the law's closed self-test.
-/
import Derived.Test.YtgjgdofofhmjgaaDoorDamJ
import Derived.Lib.MakeNoZero
namespace Go.Dam

section
variable {P : Program} {E : Env} {A : Nat → Prop} {h h' : List (Nat × Obj)} {nx : Nat} {w w' : World}

theorem liesAt_off {e : TypeId} (hc : P.cellsOf e = 1) (count off n : Nat) (hn : off + n ≤ count) : liesAt P P.depth e count off e n = true := by
  have hd : P.depth = (2 * (P.types.size + Made.depth) + 1) + 1 := rfl
  rw [hd]
  simp only [liesAt, Bool.or_eq_true]
  left
  rw [hd]
  simp [rowAt, hc, hn, sameLayout, Nat.mod_one]

theorem unsafeString_sound {S S' : St} (H : Holds P E A S.heap w) {args : Array TypeId} {ty : TypeId} {x l v : Value} (hb : aunsafeString P S args x l = some (v, S')) :
    ∃ w', (Builtin.unsafeString_ args ty #[ren E x, ren E l]).run P w = .ok (ren E v) w' ∧ Post P E A S.heap S.next w E S'.heap S'.next w' ∧ Sc A v := by
  unfold aunsafeString at hb
  split at hb
  · rename_i pt it hargs
    obtain rfl : args = #[pt, it] := by apply Array.ext'; simpa using hargs
    split at hb
    · rename_i u hu
      have hmax : IntKind.i64.max = 9223372036854775807 := rfl
      have hz : ∀ (p : Option Addr) (k : IntKind), (Builtin.unsafeString_ #[pt, it] ty #[.pointer p, .int k 0]).run P w = .ok (.string .empty) w := by
        intro p k
        cases p with
        | none => rfl
        | some a => rfl
      have hrun : ∀ (a : Addr) (k : IntKind) (n : Nat) (s : ByteArray), n ≤ 1048576 → n ≠ 0 → (variablesAt a u n).run P w = .ok true w → (loadBytes a .empty n).run P w = .ok s w →
          (Builtin.unsafeString_ #[pt, it] ty #[.pointer (some a), .int k n]).run P w = .ok (.string s) (w.freeze a n) := by
        intro a k n s hn h0 hva hlb
        have h1 : ¬ (n : Int) < 0 := by omega
        have h2 : ¬ (n : Int) > IntKind.i64.max := by rw [hmax]; omega
        have h3 : ¬ (n : Int) = 0 := by omega
        have hp0 : (#[pt, it] : Array TypeId)[0]? = some pt := rfl
        change Sem.run P (asInt (.int k n) >>= ?f) w = _
        simp only [asInt, asIntOf, Sem.run_bind, Sem.run_pure, Result.andThen_ok, h1, h2, h3, if_false, hp0, elemOf, run_underlying hu, Int.toNat_natCast, hva, if_true, hlb, run_freeze]
      split at hb
      · rename_i hl
        simp only [Option.some.injEq, Prod.mk.injEq] at hb
        obtain ⟨rfl, rfl⟩ := hb
        obtain ⟨k, _, hl⟩ := natOf_some (E := E) hl
        refine ⟨w, ?_, Post.refl H, Sc_string _ _⟩
        rw [ren_nilptr, hl, ren_string]; exact hz none k
      · rename_i n off len hl
        obtain ⟨k, _, hl⟩ := natOf_some (E := E) hl
        rw [ren_ptr, hl]
        split at hb
        · rename_i h0
          obtain rfl : len = 0 := by simpa using h0
          simp only [Option.some.injEq, Prod.mk.injEq] at hb
          obtain ⟨rfl, rfl⟩ := hb
          refine ⟨w, ?_, Post.refl H, Sc_string _ _⟩
          rw [ren_string]; exact hz _ k
        · rename_i h0
          have h0 : len ≠ 0 := by simpa using h0
          split at hb
          · rename_i c e hi hg
            simp only [Option.ite_none_right_eq_some, Bool.and_eq_true] at hb
            obtain ⟨⟨⟨⟨hrow, h1⟩, h2⟩, h3⟩, hb⟩ := hb
            have h1 := Nat.le_of_ble_eq_true h1
            have h3 := Nat.le_of_ble_eq_true h3
            obtain rfl : e = u := by simpa using h2
            split at hb
            · rename_i b hbb hs1
              simp only [Option.some.injEq, Prod.mk.injEq] at hb
              obtain ⟨rfl, rfl⟩ := hb
              obtain ⟨hAn, hcsc, oc, hoc, hr⟩ := H.blk n _ hg
              simp only [BlkRel, hrow, if_true] at hr
              obtain ⟨cc, fzc, s', rfl, r2, r3, r4, r5, r6, r7⟩ := hr
              rw [hs1] at r2; obtain rfl := Option.some.inj r2
              have hcl : cellsOf S.heap n = some c.toList := by simp [cellsOf, hg]
              have hco : P.cellsOf e = 1 := by
                unfold sizeT at hs1
                unfold Program.cellsOf
                rw [hs1]; rfl
              have hbl : b.length = len := by
                have := congrArg List.length (bytesOfCells_some hbb)
                simp at this; omega
              have hcell : ∀ j x, b[j]? = some x → w.cell? ((⟨E.β n, E.σ n + off, none⟩ : Addr).add j) = some (.int .u8 x.toNat) := by
                intro j x hj
                have hlt := (List.getElem?_eq_some_iff.1 hj).1
                have hx : ((c.toList.drop off).take len)[j]? = some (.int .u8 x.toNat) := by rw [bytesOfCells_some hbb, List.getElem?_map, hj]; rfl
                rw [List.getElem?_take, if_pos (by omega), List.getElem?_drop] at hx
                have := (H.cellAt hcl hx).1
                rw [addr_add, Nat.add_assoc, this, ren_int]
              have hlb := Lib.run_loadBytes (P := P) w b ⟨E.β n, E.σ n + off, none⟩ .empty hcell
              have hva : (variablesAt ⟨E.β n, E.σ n + off, none⟩ e len).run P w = .ok true w := by
                have hsh : w.shape? (E.β n) = some (e, cc.size) := by simp [World.shape?, hoc]
                simp only [variablesAt, Sem.run_bind, run_program, Result.andThen_ok, run_shape, hsh, Sem.run_pure]
                rw [liesAt_off hco _ _ _ (by rw [hco, Nat.div_one]; omega)]
              obtain ⟨f1, f2, f3⟩ := freeze_heap w ⟨E.β n, E.σ n + off, none⟩ len h0 hoc
              have hos : ∀ (w : World) (a : Addr) (n : Nat), (w.freeze a n).os = w.os ∧ (w.freeze a n).tape = w.tape ∧ (w.freeze a n).output = w.output := by
                intro w a n; unfold World.freeze; split <;> exact ⟨rfl, rfl, rfl⟩
              obtain ⟨o1, o2, o3⟩ := hos w ⟨E.β n, E.σ n + off, none⟩ len
              refine ⟨w.freeze ⟨E.β n, E.σ n + off, none⟩ len, ?_, ?_, Sc_string _ _⟩
              · rw [ren_string]
                rw [hbl] at hlb
                have hbe : (⟨ByteArray.empty.data ++ b.toArray⟩ : ByteArray) = ⟨b.toArray⟩ := by
                  apply ByteArray.ext
                  apply Array.ext'
                  simp [ByteArray.empty, ByteArray.emptyWithCapacity]
                  rfl
                rw [hbe] at hlb
                exact hrun _ k len _ h3 h0 hva hlb
              · refine Post.put (m := n) (b := E.β n) (o' := .cells c e (0, max hi (off + len))) H (Nat.le_refl _) rfl (fun _ _ => ⟨rfl, rfl, rfl⟩) (fun _ _ => rfl) (fun k _ hk => by dsimp only at hk; omega) (.inl hAn) rfl ?_ (fun x hx => Sc_or (hcsc x hx)) ?_ f1 (fun k hk _ => f2 k hk) (by rw [f3]; exact Nat.le_refl _) o1 o2 o3 (.inl ⟨n, _, hg, rfl⟩)
                · intro k x hk
                  rcases getB_setB _ _ _ _ _ hk with ⟨rfl, rfl⟩ | ⟨hne, hgk⟩
                  · exact .inl ⟨rfl, rfl⟩
                  · exact .inr ⟨hne, hgk, fun he => hne (H.inj k n _ _ hgk hg he)⟩
                · simp only [BlkRel, hrow, if_true]
                  refine ⟨cc, _, 1, rfl, hs1, r3, r4, r5, ?_, ?_⟩
                  · intro o ho1 ho2
                    have hr6 := r6 o (by omega) ho2
                    have hr7 := r7 trivial
                    (try dsimp only at hr6 hr7 ⊢)
                    by_cases hq : (fzc.1 == fzc.2) = true
                    · rw [if_pos hq]; simp only; omega
                    · rw [if_neg hq]
                      have hq : fzc.1 ≠ fzc.2 := by simpa using hq
                      simp only
                      rcases hr7 with hr7 | hr7
                      · exact absurd hr7 hq
                      · omega
                  · intro _
                    have hr7 := r7 trivial
                    (try dsimp only at hr7 ⊢)
                    by_cases hq : (fzc.1 == fzc.2) = true
                    · rw [if_pos hq]; simp only; right; omega
                    · rw [if_neg hq]
                      have hq : fzc.1 ≠ fzc.2 := by simpa using hq
                      simp only
                      rcases hr7 with hr7 | hr7
                      · exact absurd hr7 hq
                      · right; omega
            · simp at hb
          · simp at hb
      · simp at hb
    · simp at hb
  · simp at hb

theorem makeNoZero_sound {S S' : St} (H : Holds P E A S.heap w) (hev : S.next % 2 = 0) {t : TypeId} {ps : Array TypeId} {x v : Value} (hb : amakeNoZero P S t x = some (v, S'))
    (hA : ∀ n, A n → ¬ (S.next ≤ n ∧ n < S'.next)) :
    ∃ E' w', (Extern.BytealgMakeNoZero.makeNoZero ps #[t] #[ren E x]).run P w = .ok (ren E' v) w' ∧ Post P E A S.heap S.next w E' S'.heap S'.next w' ∧ Sc (fun n => A n ∨ (S.next ≤ n ∧ n < S'.next)) v := by
  unfold amakeNoZero at hb
  split at hb
  · rename_i m e he
    split at hb
    · rename_i n hn hs1
      simp only [Option.ite_none_right_eq_some] at hb
      obtain ⟨h1, hb⟩ := hb
      have h1 := Nat.le_of_ble_eq_true h1
      simp only [newRowA, Option.some.injEq, Prod.mk.injEq] at hb
      obtain ⟨rfl, rfl⟩ := hb
      obtain ⟨k, hk, _⟩ := natOf_some (E := E) hn
      simp only [Value.int.injEq] at hk
      obtain ⟨rfl, rfl⟩ := hk
      rw [ren_int]
      obtain ⟨cs, hr, hge, _⟩ := Lib.run_makeNoZero (P := P) w ps t e (elemT_under he) n (by omega)
      refine ⟨E.bind (S.next + 1) w.heap.size 0 cs.size, w.drew.drew.alloc (.cells cs e), ?_, ?_, by rw [Sc_slice]; exact .inr ⟨by dsimp only; omega, by dsimp only; omega⟩⟩
      · rw [hr]
        simp [ren_slice, Env.addr, Env.bind, isRow_odd hev]
      · refine Post.new H hA ⟨by omega, by omega⟩ (by intro x hx; simp at hx) ?_ rfl rfl rfl rfl
        simp only [BlkRel, isRow_odd hev, if_true]
        refine ⟨_, (0, 0), 1, rfl, hs1, by simp, by simp [Env.bind], by simp, by simp, by simp⟩
    · simp at hb
  · simp at hb

end
end Go.Dam
