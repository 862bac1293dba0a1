/-
  An own evaluator of closed runs of a program, proved sound against the model for every order of draws and every capacity of append. This text is one part of it; the last part's theorem 'closed' says what a run in the kernel proves. Used for the law's closed self-test.
-/
import Derived.Test.YtgjgdofofhmjgaaDoorDamG
import Derived.Laws.Append
namespace Go.Dam

section
variable {P : Program} {E : Env} {A : Nat → Prop} {h h' : List (Nat × Obj)} {nx : Nat} {w w' : World}

theorem matches_isInt (d : TypeDesc) (hd : isInt d = false) : (match d with | .int _ => true | _ => false) = false := by
  cases d <;> first | rfl | simp [isInt] at hd

/-- The part of an append that makes a new array. -/
theorem append_grow {sT xT e ty : TypeId} {xd : TypeDesc} {ti : TypeInfo} {z x : Value} {base : Option Addr} {len capC n : Nat} {old new : Array Value}
    (hs : P.underlying sT = some (.slice e)) (hx : P.underlying xT = some xd) (hxd : isInt xd = false) (hi : P.info? e = some ti) (hz : ti.zero = some z)
    (hn : ∀ w : World, (Builtin.lenOf x).run P w = .ok n w) (hold : ∀ w' : World, w'.heap = w.heap → (Builtin.firstCells ti.size len (.slice base len capC)).run P w' = .ok old w') (hnew : ∀ w' : World, w'.heap = w.heap → (Builtin.firstCells ti.size n x).run P w' = .ok new w')
    (hneed : ¬ len + n ≤ capC) (hmax : len + n ≤ appendMax) (hbytes : ti.bytes ≤ 65536) :
    ∃ (k : Nat), len + n ≤ k ∧
      (Builtin.append_ #[sT, xT] ty #[.slice base len capC, x]).run P w = .ok (.slice (some ⟨w.heap.size, 0, none⟩) (len + n) k)
        ({ w with drawn := w.drawn + 1 }.alloc (.cells (old ++ new ++ Builtin.zeroCells z.cells (k - (len + n))) e)) := by
  have hle := nextslicecap_le (need := len + n) (old := capC) (by omega)
  have hcap : ¬ Builtin.nextslicecap (len + n) capC * ti.bytes > 2 ^ 48 := by
    have h1 : Builtin.nextslicecap (len + n) capC * ti.bytes ≤ (2 * appendMax) * 65536 := Nat.mul_le_mul (by omega) hbytes
    have h2 : (2 * appendMax) * 65536 ≤ 2 ^ 48 := by decide
    omega
  have hcap' : ¬ 281474976710656 < Builtin.nextslicecap (len + n) capC * ti.bytes := by simpa using hcap
  have hmaxI : ¬ (9223372036854775807 < ((len : Int) + (n : Int))) := by have : appendMax = 1048576 := rfl; omega
  refine ⟨len + n + (w.tape w.drawn (.appendCap (len + n) capC e)) % (2 ^ 63 - (len + n)), by omega, ?_⟩
  have ho := hold w.drew rfl
  have hw := hnew w.drew rfl
  have hm2 : IntKind.i64.max = 9223372036854775807 := by decide
  simp [Builtin.append_, run_underlying hs, run_underlying hx, Go.sizeOf, typeInfo, zeroValue, hi, hz, hn, hneed, hcap', hm2, hmaxI, Question.forced, Question.cut, newRow]
  rw [if_neg (by cases xd <;> simp_all [isInt])]
  rw [ho, Result.andThen_ok, if_pos (by cases xd <;> simp_all [isInt]), hw, Result.andThen_ok]
  simp

/-- An append where there is room: the cells are stored. -/
theorem append_room {sT xT e ty : TypeId} {xd : TypeDesc} {ti : TypeInfo} {x : Value} {a : Addr} {len capC n : Nat} {new : Array Value}
    (hs : P.underlying sT = some (.slice e)) (hx : P.underlying xT = some xd) (hxd : isInt xd = false) (hi : P.info? e = some ti)
    (hn : ∀ w : World, (Builtin.lenOf x).run P w = .ok n w) (hnew : (Builtin.firstCells ti.size n x).run P w = .ok new w)
    (hneed : len + n ≤ capC) (hst : (storeCells (a.add (len * ti.size)) new.toList).run P w = .ok () w') :
    (Builtin.append_ #[sT, xT] ty #[.slice (some a) len capC, x]).run P w = .ok (.slice (some a) (len + n) capC) w' := by
  simp [Builtin.append_, run_underlying hs, run_underlying hx, Go.sizeOf, typeInfo, hi, hn, hneed]
  rw [if_neg (by cases xd <;> simp_all [isInt]), if_pos (by cases xd <;> simp_all [isInt]), hnew, Result.andThen_ok]
  simp [hst]

theorem append_nil0 {sT xT e ty : TypeId} {xd : TypeDesc} {ti : TypeInfo} {x : Value} {base : Option Addr} {len capC : Nat}
    (hs : P.underlying sT = some (.slice e)) (hx : P.underlying xT = some xd) (hxd : isInt xd = false) (hi : P.info? e = some ti)
    (hn : ∀ w : World, (Builtin.lenOf x).run P w = .ok 0 w) (hnew : (Builtin.firstCells ti.size 0 x).run P w = .ok #[] w)
    (hneed : len ≤ capC) :
    (Builtin.append_ #[sT, xT] ty #[.slice base len capC, x]).run P w = .ok (.slice base len capC) w := by
  simp [Builtin.append_, run_underlying hs, run_underlying hx, Go.sizeOf, typeInfo, hi, hn, hneed]
  rw [if_neg (by cases xd <;> simp_all [isInt]), if_pos (by cases xd <;> simp_all [isInt]), hnew, Result.andThen_ok]
  cases base <;> simp [storeCells]

theorem firstA_zero {h : List (Nat × Obj)} {s : Nat} {x : Value} {cs : List Value} (hb : firstA h s 0 x = some cs) : cs = [] := by
  unfold firstA at hb
  split at hb
  · simpa using hb.symm
  · rw [if_pos (by simp)] at hb; simpa using hb.symm
  · simpa using hb.symm
  · simp at hb

theorem Sc_or {B : Nat → Prop} {v : Value} (h : Sc A v) : Sc (fun n => A n ∨ B n) v := Sc_mono (fun _ h => .inl h) v h

/-- A new row: its beginning is known. -/
theorem newRow_rel {m s k e fzh : Nat} {z : Array Value} {c : List Value} {n : Nat} (hm : isRow m = true) (hA : ¬ A m) (hs : sizeT P e = some s) (hz : z.size = s) (hsc : ∀ x ∈ c, Sc A x)
    (hc : c.length = n * s) (hk : n ≤ k) (b : Nat) :
    BlkRel P (E.bind m b 0 k) m (.cells c.toArray e (0, fzh)) (.cells ((c.map (ren E)).toArray ++ Builtin.zeroCells z (k - n)) e) := by
  simp only [BlkRel, hm, if_true]
  have hmul : n * s ≤ k * s := Nat.mul_le_mul_right _ hk
  have hzl : (Builtin.zeroCells z (k - n)).size = k * s - n * s := by simp [Builtin.zeroCells, hz, Nat.sub_mul]
  refine ⟨_, (0, 0), s, rfl, hs, ?_, ?_, ?_, ?_, ?_⟩
  · intro i v hv
    have hv : c[i]? = some v := by simpa using hv
    have hi : i < c.length := (List.getElem?_eq_some_iff.1 hv).1
    simp only [Env.bind, if_true, Nat.zero_add]
    rw [Array.getElem?_append_left (by simpa using hi)]
    have : ((c.map (ren E)).toArray)[i]? = some (ren E v) := by simp [hv]
    rw [this, ← ren_agree (A := A) (E := E) (E' := E.bind m b 0 k) (fun n hn => Env.bind_other E m _ _ _ n (fun e => hA (e ▸ hn))) v (hsc v (List.mem_of_getElem? hv))]
    rfl
  · simp [Env.bind, hzl, hc]; omega
  · simp [Env.bind, hc]; exact hmul
  · simp
  · simp

/-- Behind an append that made a new array. -/
theorem grow_post {e fzh s k n : Nat} {z : Array Value} {c : List Value} {h₀ : List (Nat × Obj)} (H : Holds P E A h w) (hev : nx % 2 = 0) (hA : ∀ n, A n → ¬ (nx ≤ n ∧ n < nx + 2))
    (hs : sizeT P e = some s) (hz : z.size = s) (hsc : ∀ x ∈ c, Sc A x) (hc : c.length = n * s) (hk : n ≤ k) (h0 : ∀ k x, getB h₀ k = some x → getB h k = some x) :
    Post P E A h nx w (E.bind (nx + 1) w.heap.size 0 k) ((nx + 1, .cells c.toArray e (0, fzh)) :: h₀) (nx + 2) ({ w with drawn := w.drawn + 1 }.alloc (.cells ((c.map (ren E)).toArray ++ Builtin.zeroCells z (k - n)) e)) ∧
    ren (E.bind (nx + 1) w.heap.size 0 k) (.slice (some ⟨nx + 1, 0, none⟩) n 0) = .slice (some ⟨w.heap.size, 0, none⟩) n k := by
  refine ⟨Post.drop (h' := (nx + 1, .cells c.toArray e (0, fzh)) :: h) ?_ ?_, ?_⟩
  · refine Post.new H hA ⟨by omega, by omega⟩ (by intro x hx; exact hsc x (by simpa using hx)) (newRow_rel (n := n) (s := s) (z := z) (isRow_odd hev) (fun h => hA _ h ⟨by omega, by omega⟩) hs hz hsc hc hk _) ?_ rfl rfl rfl
    simp [World.alloc]
  · intro j x hj
    by_cases he : nx + 1 = j
    · subst he; simpa [getB] using hj
    · simp only [getB] at hj ⊢
      rw [if_neg (by simpa using he)] at hj ⊢
      exact h0 j x hj
  · rw [ren_slice]
    simp [Env.addr, Env.bind, isRow_odd hev]

theorem appOk_some {ti : TypeInfo} {m : Nat} (h : appOk ti m = true) : ∃ z, ti.zero = some z ∧ z.cells.size = ti.size ∧ 0 < ti.size ∧ m ≤ appendMax ∧ ti.bytes ≤ 65536 := by
  unfold appOk at h
  split at h
  · rename_i z hz
    simp only [Bool.and_eq_true] at h
    obtain ⟨⟨⟨h1, h2⟩, h3⟩, h4⟩ := h
    exact ⟨z, hz, by simpa using h1, Nat.le_of_ble_eq_true h2, Nat.le_of_ble_eq_true h3, Nat.le_of_ble_eq_true h4⟩
  · simp at h

theorem aappend_sound {S S' : St} (H : Holds P E A S.heap w) (hev : S.next % 2 = 0) {args : Array TypeId} {ty : TypeId} {s x v : Value} (hb : aappend P S args s x = some (v, S'))
    (hA : ∀ n, A n → ¬ (S.next ≤ n ∧ n < S'.next)) (hss : Sc A s) :
    ∃ E' w', (Builtin.append_ args ty #[ren E s, ren E x]).run P w = .ok (ren E' v) w' ∧ Post P E A S.heap S.next w E' S'.heap S'.next w' ∧ Sc (fun n => A n ∨ (S.next ≤ n ∧ n < S'.next)) v := by
  unfold aappend at hb
  split at hb
  · rename_i sT xT hargs
    obtain rfl : args = #[sT, xT] := by apply Array.ext'; simpa using hargs
    split at hb
    · rename_i e xd n hs hx hn
      split at hb
      · simp at hb
      · rename_i hxd
        have hxd : isInt xd = false := by simpa using hxd
        have hsu := elemT_under hs
        split at hb
        · rename_i ti base len cap hi
          dsimp only at hb
          split at hb
          · simp at hb
          · rename_i hg
            have hg : appOk ti (len + n) = true := by simpa using hg
            obtain ⟨z, hz, g4, g1, g2, g3⟩ := appOk_some hg
            have hsz : sizeT P e = some ti.size := by simp [sizeT, hi]
            split at hb
            · simp at hb
            · rename_i new hnew
              split at hb
              · simp at hb
              · rename_i hlen
                have hlen : new.length = n * ti.size := by simpa using hlen
                have hnr : ∀ w' : World, w'.heap = w.heap → (Builtin.firstCells ti.size n (ren E x)).run P w' = .ok (new.map (ren E)).toArray w' := fun w' hw => (firstA_sound (H.world hw) hnew).1
                have hnsc := (firstA_sound H hnew).2
                have hnl : ∀ w : World, (Builtin.lenOf (ren E x)).run P w = .ok n w := fun w => lenA_sound hn w
                split at hb
                · -- nil
                  simp only [Option.ite_none_right_eq_some, Bool.and_eq_true] at hb
                  obtain ⟨⟨b1, b2⟩, hb⟩ := hb
                  obtain rfl : len = 0 := by simpa using b1
                  obtain rfl : cap = 0 := by simpa using b2
                  rw [ren_nilslice]
                  split at hb
                  · rename_i h0
                    obtain rfl : n = 0 := by simpa using h0
                    simp only [Option.some.injEq, Prod.mk.injEq] at hb
                    obtain ⟨rfl, rfl⟩ := hb
                    refine ⟨E, w, ?_, Post.refl H, Sc_nilslice _ _ _⟩
                    rw [ren_nilslice]
                    refine append_nil0 hsu hx hxd hi hnl ?_ (Nat.le_refl _)
                    have := firstA_zero hnew
                    subst this
                    exact hnr w rfl
                  · rename_i h0
                    have h0 : n ≠ 0 := by simpa using h0
                    split at hb
                    · rename_i hone
                      simp only [newRowA, Option.some.injEq, Prod.mk.injEq] at hb
                      obtain ⟨rfl, rfl⟩ := hb
                      obtain ⟨k, hk, hrun⟩ := append_grow (P := P) (w := w) (ty := ty) (base := none) (len := 0) (capC := 0) (old := #[]) hsu hx hxd hi hz hnl (fun _ _ => rfl) hnr (by omega) g2 g3
                      obtain ⟨p1, p2⟩ := grow_post (e := e) (fzh := 0) (n := n) H hev hA hsz g4 hnsc hlen (k := k) (by omega) (h₀ := S.heap) (fun _ _ h => h)
                      rw [Array.empty_append, Nat.zero_add] at hrun
                      exact ⟨_, _, by rw [hrun, p2], p1, by rw [Sc_slice]; exact .inr ⟨by dsimp only; omega, by dsimp only; omega⟩⟩
                    · simp at hb
                · rename_i b off
                  rw [ren_slice]
                  have hAb : A b := (Sc_slice A _ _ _).1 hss
                  split at hb
                  · rename_i hrow
                    simp only [hrow, if_true]
                    split at hb
                    · rename_i c e' fz hg
                      split at hb
                      · simp at hb
                      · rename_i hchk
                        simp only [Bool.not_eq_true, Bool.not_eq_false', Bool.and_eq_true] at hchk
                        obtain ⟨⟨q1, q2⟩, q3⟩ := hchk
                        have q1 := Nat.le_of_ble_eq_true q1
                        obtain rfl : e' = e := by simpa using q2
                        have q3 : off = cap * ti.size := by simpa using q3
                        obtain ⟨_, hcsc, oc, hoc, hr⟩ := H.blk b _ hg
                        have hrel := hr
                        simp only [BlkRel, hrow, if_true] at hr
                        obtain ⟨cc, fzc, s', rfl, r2, r3, r4, r5, r6, r7⟩ := hr
                        rw [hsz] at r2; obtain rfl := Option.some.inj r2
                        have hlk : cap + len ≤ E.κ b := by
                          have : (cap + len) * ti.size ≤ E.κ b * ti.size := by rw [Nat.add_mul]; omega
                          exact Nat.le_of_mul_le_mul_right this g1
                        split at hb
                        · rename_i h0
                          obtain rfl : n = 0 := by simpa using h0
                          simp only [Option.some.injEq, Prod.mk.injEq] at hb
                          obtain ⟨rfl, rfl⟩ := hb
                          refine ⟨E, w, ?_, Post.refl H, Sc_or hss⟩
                          rw [ren_slice]
                          simp only [hrow, if_true]
                          refine append_nil0 hsu hx hxd hi hnl ?_ (by omega)
                          have := firstA_zero hnew
                          subst this
                          exact hnr w rfl
                        · rename_i h0
                          split at hb
                          · rename_i hin
                            have hin := Nat.le_of_ble_eq_true hin
                            split at hb
                            · rename_i h' hst
                              simp only [Option.some.injEq, Prod.mk.injEq] at hb
                              obtain ⟨rfl, rfl⟩ := hb
                              obtain ⟨w', hw1, hw2⟩ := astoreCells_sound (P := P) H hst hnsc S.next
                              have hneed : len + n ≤ E.κ b - cap := by
                                have : (cap + (len + n)) * ti.size ≤ E.κ b * ti.size := by rw [Nat.add_mul]; omega
                                have := Nat.le_of_mul_le_mul_right this g1
                                omega
                              refine ⟨E, w', ?_, hw2, ?_⟩
                              · rw [ren_slice]
                                simp only [hrow, if_true]
                                refine append_room hsu hx hxd hi hnl (hnr w rfl) hneed ?_
                                simp only [Env.addr, addr_add]
                                rw [Nat.add_assoc]; simpa using hw1
                              · rw [Sc_slice]; exact .inl hAb
                            · simp at hb
                          · rename_i hin
                            have hin : ¬ off + (len + n) * ti.size ≤ c.size := fun h => hin (Nat.ble_eq_true_of_le h)
                            simp only [Option.ite_none_right_eq_some, Bool.and_eq_true] at hb
                            obtain ⟨⟨⟨hone, hfz⟩, hfz1⟩, hb⟩ := hb
                            have hfz := Nat.le_of_ble_eq_true hfz
                            have hfz1 : fz.1 = 0 := by simpa using hfz1
                            simp only [newRowA, Option.some.injEq, Prod.mk.injEq] at hb
                            obtain ⟨rfl, rfl⟩ := hb
                            have hcl : cellsOf S.heap b = some c.toList := by simp [cellsOf, hg]
                            obtain ⟨k1, k2⟩ := run_cellsOf (P := P) H hcl (off := off) (k := len * ti.size) (by simpa using q1)
                            have hkl : ((c.toList.drop off).take (len * ti.size)).length = len * ti.size := by simp; omega
                            generalize hkeep : (c.toList.drop off).take (len * ti.size) = keep at *
                            have hall : ∀ x ∈ keep ++ new, Sc A x := fun x hx => (List.mem_append.1 hx).elim (k2 x) (hnsc x)
                            have hallen : (keep ++ new).length = (len + n) * ti.size := by simp [hkl, hlen, Nat.add_mul]
                            have hsub : ∀ k x, getB (delB S.heap b) k = some x → getB S.heap k = some x := fun k x hk => (getB_delB _ _ _ _ hk).2
                            by_cases hneed : len + n ≤ E.κ b - cap
                            · -- in place
                              have hfit : off + (len + n) * ti.size ≤ E.κ b * ti.size := by
                                have : (cap + (len + n)) * ti.size ≤ E.κ b * ti.size := Nat.mul_le_mul_right _ (by omega)
                                rw [Nat.add_mul] at this; omega
                              have hmul : (len + n) * ti.size = len * ti.size + n * ti.size := Nat.add_mul _ _ _
                              have hst := run_storeCells_any (P := P) (E.β b) (E.σ b + off + len * ti.size) e' fzc (new.map (ren E)) 0 cc w hoc (fun j hj1 hj2 => by
                                  have := r6 (j - E.σ b) (by omega) (by simp at hj2; omega)
                                  rw [show E.σ b + (j - E.σ b) = j by omega] at this
                                  exact this) (by simp; omega) (fun v hv => by
                                  obtain ⟨x, hx, rfl⟩ := List.mem_map.1 hv
                                  rw [← one_oneCell, one_ren]; exact allOne_mem hone x hx)
                              have hget : ∀ i, (cc.toList.take (E.σ b + off + len * ti.size + 0) ++ new.map (ren E) ++ cc.toList.drop (E.σ b + off + len * ti.size + 0 + (new.map (ren E)).length))[i]? = if i < E.σ b + off + len * ti.size then cc.toList[i]? else if i < E.σ b + off + len * ti.size + new.length then (new.map (ren E))[i - (E.σ b + off + len * ti.size)]? else cc.toList[i]? := by
                                intro i
                                have := seg_get cc.toList (new.map (ren E)) (E.σ b + off + len * ti.size) i (by simp; omega)
                                simpa using this
                              have hncl : (cc.toList.take (E.σ b + off + len * ti.size + 0) ++ new.map (ren E) ++ cc.toList.drop (E.σ b + off + len * ti.size + 0 + (new.map (ren E)).length)).length = cc.size := by simp; omega
                              generalize cc.toList.take (E.σ b + off + len * ti.size + 0) ++ new.map (ren E) ++ cc.toList.drop (E.σ b + off + len * ti.size + 0 + (new.map (ren E)).length) = nc at *
                              have hm1 : ¬ A (S.next + 1) := fun h => hA _ h ⟨by omega, by dsimp only; omega⟩
                              have hagr : Agree A E (E.bind (S.next + 1) (E.β b) (E.σ b + off) (E.κ b - cap)) := fun n hn => Env.bind_other E _ _ _ _ n (fun e => hm1 (e ▸ hn))
                              refine ⟨E.bind (S.next + 1) (E.β b) (E.σ b + off) (E.κ b - cap), w.setRow (E.β b) nc.toArray, ?_, ?_, by rw [Sc_slice]; exact .inr ⟨by dsimp only; omega, by dsimp only; omega⟩⟩
                              · have hr := append_room (ty := ty) hsu hx hxd hi hnl (hnr w rfl) hneed (a := E.addr ⟨b, off, none⟩) (w' := w.setRow (E.β b) nc.toArray) (by
                                  simp only [Env.addr, addr_add]
                                  simpa using hst)
                                rw [hr, ren_slice]
                                simp [Env.addr, Env.bind, isRow_odd hev]
                              · refine Post.put (m := S.next + 1) (b := E.β b) (o' := .cells (keep ++ new).toArray e' (0, fz.2 - off)) (oc' := .cells nc.toArray e' fzc) H (by dsimp only; omega) (by dsimp only; omega) (fun k hk => Env.bind_other E _ _ _ _ k (by dsimp only at hk; omega)) (fun k hk => (Env.bind_other E _ _ _ _ k hk).1) hA
                                  (.inr ⟨by omega, by dsimp only; omega⟩) (by simp [Env.bind]) ?_ (fun x hx => Sc_or (hall x (by simpa using hx))) ?_ (setRow_heap w _ cc _ e' fzc hoc) (fun k hk _ => setRow_other w _ k _ hk) (by simp) rfl rfl rfl (.inl ⟨b, _, hg, rfl⟩)
                                · intro k x hk
                                  simp only [getB] at hk
                                  by_cases he : S.next + 1 = k
                                  · subst he; rw [if_pos (by simp)] at hk; exact .inl ⟨rfl, (Option.some.inj hk).symm⟩
                                  · rw [if_neg (by simpa using he)] at hk
                                    obtain ⟨d1, d2⟩ := getB_delB _ _ _ _ hk
                                    exact .inr ⟨fun e => he e.symm, d2, fun e => d1 (H.inj k b _ _ d2 hg e)⟩
                                · simp only [BlkRel, isRow_odd hev, if_true]
                                  refine ⟨nc.toArray, fzc, ti.size, rfl, hsz, ?_, ?_, ?_, ?_, ?_⟩
                                  · intro i v hv
                                    have hv : (keep ++ new)[i]? = some v := by simpa using hv
                                    have hren : ren (E.bind (S.next + 1) (E.β b) (E.σ b + off) (E.κ b - cap)) v = ren E v := ren_agree hagr v (hall v (List.mem_of_getElem? hv))
                                    rw [hren]
                                    simp only [Env.bind, if_true]
                                    have hg2 := hget (E.σ b + off + i)
                                    by_cases hi1 : i < len * ti.size
                                    · rw [if_pos (by omega)] at hg2
                                      rw [List.getElem?_append_left (by omega), ← hkeep, List.getElem?_take, if_pos hi1, List.getElem?_drop] at hv
                                      have := r3 (off + i) v (by simpa using hv)
                                      rw [← Nat.add_assoc] at this
                                      simp only [Array.getElem?_toList] at hg2
                                      simpa using hg2.trans this
                                    · rw [if_neg (by omega)] at hg2
                                      rw [List.getElem?_append_right (by omega)] at hv
                                      have hi2 := (List.getElem?_eq_some_iff.1 hv).1
                                      rw [if_pos (by omega), List.getElem?_map, show E.σ b + off + i - (E.σ b + off + len * ti.size) = i - keep.length by omega, hv] at hg2
                                      simpa using hg2
                                  · have : (E.κ b - cap) * ti.size = E.κ b * ti.size - cap * ti.size := Nat.sub_mul _ _ _
                                    simp only [Env.bind, if_true, List.size_toArray, hncl]
                                    omega
                                  · have : (E.κ b - cap) * ti.size = E.κ b * ti.size - cap * ti.size := Nat.sub_mul _ _ _
                                    simp only [Env.bind, if_true, List.size_toArray, hallen]
                                    omega
                                  · intro o' ho1 ho2
                                    have : (E.κ b - cap) * ti.size = E.κ b * ti.size - cap * ti.size := Nat.sub_mul _ _ _
                                    simp only [Env.bind, if_true] at ho2 ⊢
                                    have := r6 (off + o') (by omega) (by omega)
                                    rw [← Nat.add_assoc] at this
                                    exact this
                                  · intro _
                                    simp only [Env.bind, if_true]
                                    rcases r7 hfz1 with h | h
                                    · exact .inl h
                                    · exact .inr (by omega)
                            · have hold : ∀ w' : World, w'.heap = w.heap → (Builtin.firstCells ti.size len (.slice (some (E.addr ⟨b, off, none⟩)) len (E.κ b - cap))).run P w' = .ok (keep.map (ren E)).toArray w' := by
                                intro w' hw
                                simp only [Builtin.firstCells, Env.addr]
                                obtain ⟨k1', _⟩ := run_cellsOf (P := P) (H.world hw) hcl (off := off) (k := len * ti.size) (by simpa using q1)
                                rw [hkeep] at k1'
                                exact k1'
                              obtain ⟨k, hk, hrun⟩ := append_grow (P := P) (w := w) (ty := ty) hsu hx hxd hi hz hnl hold hnr hneed g2 g3
                              obtain ⟨p1, p2⟩ := grow_post (e := e') (fzh := fz.2 - off) (n := len + n) H hev hA hsz g4 hall hallen (k := k) hk (h₀ := delB S.heap b) hsub
                              have hcat : (keep.map (ren E)).toArray ++ (new.map (ren E)).toArray = ((keep ++ new).map (ren E)).toArray := by simp
                              rw [hcat] at hrun
                              exact ⟨_, _, hrun.trans (by rw [p2]), p1, by rw [Sc_slice]; exact .inr ⟨by dsimp only; omega, by dsimp only; omega⟩⟩
                    · simp at hb
                  · rename_i hrow
                    simp only [hrow]
                    split at hb
                    · rename_i hin
                      have hin := Nat.le_of_ble_eq_true hin
                      split at hb
                      · rename_i h' hst
                        simp only [Option.some.injEq, Prod.mk.injEq] at hb
                        obtain ⟨rfl, rfl⟩ := hb
                        obtain ⟨w', hw1, hw2⟩ := astoreCells_sound (P := P) H hst hnsc S.next
                        refine ⟨E, w', ?_, hw2, ?_⟩
                        · rw [ren_slice]
                          simp only [hrow]
                          refine append_room hsu hx hxd hi hnl (hnr w rfl) hin ?_
                          simp only [Env.addr, addr_add]
                          rw [Nat.add_assoc]; simpa using hw1
                        · rw [Sc_slice]; exact .inl hAb
                      · simp at hb
                    · rename_i hin
                      have hin : ¬ len + n ≤ cap := fun h => hin (Nat.ble_eq_true_of_le h)
                      split at hb
                      · rename_i old hold
                        simp only [Option.ite_none_right_eq_some, Bool.and_eq_true] at hb
                        obtain ⟨⟨hone, hol⟩, hb⟩ := hb
                        have hol : old.length = len * ti.size := by simpa using hol
                        simp only [newRowA, Option.some.injEq, Prod.mk.injEq] at hb
                        obtain ⟨rfl, rfl⟩ := hb
                        have hosc := (firstA_sound H hold).2
                        have hall : ∀ x ∈ old ++ new, Sc A x := fun x hx => (List.mem_append.1 hx).elim (hosc x) (hnsc x)
                        have hallen : (old ++ new).length = (len + n) * ti.size := by simp [hol, hlen, Nat.add_mul]
                        have hold' : ∀ w' : World, w'.heap = w.heap → (Builtin.firstCells ti.size len (.slice (some (E.addr ⟨b, off, none⟩)) len cap)).run P w' = .ok (old.map (ren E)).toArray w' := by
                          intro w' hw
                          have := (firstA_sound (P := P) (H.world hw) hold).1
                          rw [ren_slice] at this
                          simpa [hrow] using this
                        obtain ⟨k, hk, hrun⟩ := append_grow (P := P) (w := w) (ty := ty) hsu hx hxd hi hz hnl hold' hnr hin g2 g3
                        obtain ⟨p1, p2⟩ := grow_post (e := e) (fzh := 0) (n := len + n) H hev hA hsz g4 hall hallen (k := k) hk (h₀ := S.heap) (fun _ _ h => h)
                        have hcat : (old.map (ren E)).toArray ++ (new.map (ren E)).toArray = ((old ++ new).map (ren E)).toArray := by simp
                        rw [hcat] at hrun
                        exact ⟨_, _, hrun.trans (by rw [p2]), p1, by rw [Sc_slice]; exact .inr ⟨by dsimp only; omega, by dsimp only; omega⟩⟩
                      · simp at hb
                · simp at hb
        · simp at hb
    · simp at hb
  · simp at hb

end
end Go.Dam
