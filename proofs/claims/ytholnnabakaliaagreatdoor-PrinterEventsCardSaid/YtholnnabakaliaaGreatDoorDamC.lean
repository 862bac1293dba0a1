/-
  An own evaluator of closed runs of a program, proved sound against the model for every order of draws and every capacity of append. This text is one part of it; the theorems 'closed', 'evCall_sound' say what a run in the kernel proves. Used for the law's closed self-test and for what it calls on constants.
-/
import Derived.Test.YtholnnabakaliaaGreatDoorDamB
import Derived.Laws.Append
import Derived.Laws.MakeOwn
import Derived.Laws.BytesArg
import Derived.Lib.UnsafeStr
import Derived.Lib.MakeNoZero
namespace Go.Dam

section
variable {P : Program} {E : Env} {A : Nat → Prop} {h h' : List (Nat × Obj)} {nx : Nat} {w w' : World}

theorem matches_isInt (d : TypeDesc) (hd : isInt d = false) : (match d with | .int _ => true | _ => false) = false := by
  cases d <;> first | rfl | simp [isInt] at hd

/-- The part of an append that makes a new array. -/
theorem append_grow {sT xT e ty : TypeId} {xd : TypeDesc} {ti : TypeInfo} {z x : Value} {base : Option Addr} {len capC n : Nat} {old new : Array Value}
    (hs : P.underlying sT = some (.slice e)) (hx : P.underlying xT = some xd) (hxd : isInt xd = false) (hi : P.info? e = some ti) (hz : ti.zero = some z)
    (hn : ∀ w : World, (Builtin.lenOf x).run P w = .ok n w) (hold : ∀ w' : World, w'.heap = w.heap → (Builtin.firstCells ti.size len (.slice base len capC)).run P w' = .ok old w') (hnew : ∀ w' : World, w'.heap = w.heap → (Builtin.firstCells ti.size n x).run P w' = .ok new w')
    (hneed : ¬ len + n ≤ capC) (hmax : len + n ≤ appendMax) (hbytes : ti.bytes ≤ 65536) :
    ∃ (k : Nat), len + n ≤ k ∧
      (Builtin.append_ #[sT, xT] ty #[.slice base len capC, x]).run P w = .ok (.slice (some ⟨w.heap.size, 0, none⟩) (len + n) k)
        ({ w with drawn := w.drawn + 1 }.alloc (.cells (old ++ new ++ Builtin.zeroCells z.cells (k - (len + n))) e)) := by
  have hle := nextslicecap_le (need := len + n) (old := capC) (by omega)
  have hcap : ¬ Builtin.nextslicecap (len + n) capC * ti.bytes > 2 ^ 48 := by
    have h1 : Builtin.nextslicecap (len + n) capC * ti.bytes ≤ (2 * appendMax) * 65536 := Nat.mul_le_mul (by omega) hbytes
    have h2 : (2 * appendMax) * 65536 ≤ 2 ^ 48 := by decide
    omega
  have hcap' : ¬ 281474976710656 < Builtin.nextslicecap (len + n) capC * ti.bytes := by simpa using hcap
  have hmaxI : ¬ (9223372036854775807 < ((len : Int) + (n : Int))) := by have : appendMax = 1048576 := rfl; omega
  refine ⟨len + n + (w.tape w.drawn (.appendCap (len + n) capC e)) % (2 ^ 63 - (len + n)), by omega, ?_⟩
  have ho := hold w.drew rfl
  have hw := hnew w.drew rfl
  have hm2 : IntKind.i64.max = 9223372036854775807 := by decide
  simp [Builtin.append_, run_underlying hs, run_underlying hx, Go.sizeOf, typeInfo, zeroValue, hi, hz, hn, hneed, hcap', hm2, hmaxI, Question.forced, Question.cut, newRow]
  rw [if_neg (by cases xd <;> simp_all [isInt])]
  rw [ho, Result.andThen_ok, if_pos (by cases xd <;> simp_all [isInt]), hw, Result.andThen_ok]
  simp

/-- An append where there is room: the cells are stored. -/
theorem append_room {sT xT e ty : TypeId} {xd : TypeDesc} {ti : TypeInfo} {x : Value} {a : Addr} {len capC n : Nat} {new : Array Value}
    (hs : P.underlying sT = some (.slice e)) (hx : P.underlying xT = some xd) (hxd : isInt xd = false) (hi : P.info? e = some ti)
    (hn : ∀ w : World, (Builtin.lenOf x).run P w = .ok n w) (hnew : (Builtin.firstCells ti.size n x).run P w = .ok new w)
    (hneed : len + n ≤ capC) (hst : (storeCells (a.add (len * ti.size)) new.toList).run P w = .ok () w') :
    (Builtin.append_ #[sT, xT] ty #[.slice (some a) len capC, x]).run P w = .ok (.slice (some a) (len + n) capC) w' := by
  simp [Builtin.append_, run_underlying hs, run_underlying hx, Go.sizeOf, typeInfo, hi, hn, hneed]
  rw [if_neg (by cases xd <;> simp_all [isInt]), if_pos (by cases xd <;> simp_all [isInt]), hnew, Result.andThen_ok]
  simp [hst]

theorem append_nil0 {sT xT e ty : TypeId} {xd : TypeDesc} {ti : TypeInfo} {x : Value} {base : Option Addr} {len capC : Nat}
    (hs : P.underlying sT = some (.slice e)) (hx : P.underlying xT = some xd) (hxd : isInt xd = false) (hi : P.info? e = some ti)
    (hn : ∀ w : World, (Builtin.lenOf x).run P w = .ok 0 w) (hnew : (Builtin.firstCells ti.size 0 x).run P w = .ok #[] w)
    (hneed : len ≤ capC) :
    (Builtin.append_ #[sT, xT] ty #[.slice base len capC, x]).run P w = .ok (.slice base len capC) w := by
  simp [Builtin.append_, run_underlying hs, run_underlying hx, Go.sizeOf, typeInfo, hi, hn, hneed]
  rw [if_neg (by cases xd <;> simp_all [isInt]), if_pos (by cases xd <;> simp_all [isInt]), hnew, Result.andThen_ok]
  cases base <;> simp [storeCells]

theorem firstA_zero {h : List (Nat × Obj)} {s : Nat} {x : Value} {cs : List Value} (hb : firstA h s 0 x = some cs) : cs = [] := by
  unfold firstA at hb
  split at hb
  · simpa using hb.symm
  · rw [if_pos (by simp)] at hb; simpa using hb.symm
  · simpa using hb.symm
  · simp at hb

theorem Sc_or {B : Nat → Prop} {v : Value} (h : Sc A v) : Sc (fun n => A n ∨ B n) v := Sc_mono (fun _ h => .inl h) v h

/-- A new row: its beginning is known. -/
theorem newRow_rel {m s k e fzh : Nat} {z : Array Value} {c : List Value} {n : Nat} (hm : isRow m = true) (hA : ¬ A m) (hs : sizeT P e = some s) (hz : z.size = s) (hsc : ∀ x ∈ c, Sc A x)
    (hc : c.length = n * s) (hk : n ≤ k) (b : Nat) :
    BlkRel P (E.bind m b 0 k) m (.cells c.toArray e (0, fzh)) (.cells ((c.map (ren E)).toArray ++ Builtin.zeroCells z (k - n)) e) := by
  simp only [BlkRel, hm, if_true]
  have hmul : n * s ≤ k * s := Nat.mul_le_mul_right _ hk
  have hzl : (Builtin.zeroCells z (k - n)).size = k * s - n * s := by simp [Builtin.zeroCells, hz, Nat.sub_mul]
  refine ⟨_, (0, 0), s, rfl, hs, ?_, ?_, ?_, ?_, ?_⟩
  · intro i v hv
    have hv : c[i]? = some v := by simpa using hv
    have hi : i < c.length := (List.getElem?_eq_some_iff.1 hv).1
    simp only [Env.bind, if_true, Nat.zero_add]
    rw [Array.getElem?_append_left (by simpa using hi)]
    have : ((c.map (ren E)).toArray)[i]? = some (ren E v) := by simp [hv]
    rw [this, ← ren_agree (A := A) (E := E) (E' := E.bind m b 0 k) (fun n hn => Env.bind_other E m _ _ _ n (fun e => hA (e ▸ hn))) v (hsc v (List.mem_of_getElem? hv))]
    rfl
  · simp [Env.bind, hzl, hc]; omega
  · simp [Env.bind, hc]; exact hmul
  · simp
  · simp

/-- Behind an append that made a new array. -/
theorem grow_post {e fzh s k n : Nat} {z : Array Value} {c : List Value} {h₀ : List (Nat × Obj)} (H : Holds P E A h w) (hev : nx % 2 = 0) (hA : ∀ n, A n → ¬ (nx ≤ n ∧ n < nx + 2))
    (hs : sizeT P e = some s) (hz : z.size = s) (hsc : ∀ x ∈ c, Sc A x) (hc : c.length = n * s) (hk : n ≤ k) (h0 : ∀ k x, getB h₀ k = some x → getB h k = some x) :
    Post P E A h nx w (E.bind (nx + 1) w.heap.size 0 k) ((nx + 1, .cells c.toArray e (0, fzh)) :: h₀) (nx + 2) ({ w with drawn := w.drawn + 1 }.alloc (.cells ((c.map (ren E)).toArray ++ Builtin.zeroCells z (k - n)) e)) ∧
    ren (E.bind (nx + 1) w.heap.size 0 k) (.slice (some ⟨nx + 1, 0, none⟩) n 0) = .slice (some ⟨w.heap.size, 0, none⟩) n k := by
  refine ⟨Post.drop (h' := (nx + 1, .cells c.toArray e (0, fzh)) :: h) ?_ ?_, ?_⟩
  · refine Post.new H hA ⟨by omega, by omega⟩ (by intro x hx; exact hsc x (by simpa using hx)) (newRow_rel (n := n) (s := s) (z := z) (isRow_odd hev) (fun h => hA _ h ⟨by omega, by omega⟩) hs hz hsc hc hk _) ?_ rfl rfl rfl
    simp [World.alloc]
  · intro j x hj
    by_cases he : nx + 1 = j
    · subst he; simpa [getB] using hj
    · simp only [getB] at hj ⊢
      rw [if_neg (by simpa using he)] at hj ⊢
      exact h0 j x hj
  · rw [ren_slice]
    simp [Env.addr, Env.bind, isRow_odd hev]

theorem appOk_some {ti : TypeInfo} {m : Nat} (h : appOk ti m = true) : ∃ z, ti.zero = some z ∧ z.cells.size = ti.size ∧ 0 < ti.size ∧ m ≤ appendMax ∧ ti.bytes ≤ 65536 := by
  unfold appOk at h
  split at h
  · rename_i z hz
    simp only [Bool.and_eq_true] at h
    obtain ⟨⟨⟨h1, h2⟩, h3⟩, h4⟩ := h
    exact ⟨z, hz, by simpa using h1, Nat.le_of_ble_eq_true h2, Nat.le_of_ble_eq_true h3, Nat.le_of_ble_eq_true h4⟩
  · simp at h

theorem aappend_sound {S S' : St} (H : Holds P E A S.heap w) (hev : S.next % 2 = 0) {args : Array TypeId} {ty : TypeId} {s x v : Value} (hb : aappend P S args s x = some (v, S'))
    (hA : ∀ n, A n → ¬ (S.next ≤ n ∧ n < S'.next)) (hss : Sc A s) :
    ∃ E' w', (Builtin.append_ args ty #[ren E s, ren E x]).run P w = .ok (ren E' v) w' ∧ Post P E A S.heap S.next w E' S'.heap S'.next w' ∧ Sc (fun n => A n ∨ (S.next ≤ n ∧ n < S'.next)) v := by
  unfold aappend at hb
  split at hb
  · rename_i sT xT hargs
    obtain rfl : args = #[sT, xT] := by apply Array.ext'; simpa using hargs
    split at hb
    · rename_i e xd n hs hx hn
      split at hb
      · simp at hb
      · rename_i hxd
        have hxd : isInt xd = false := by simpa using hxd
        have hsu := elemT_under hs
        split at hb
        · rename_i ti base len cap hi
          dsimp only at hb
          split at hb
          · simp at hb
          · rename_i hg
            have hg : appOk ti (len + n) = true := by simpa using hg
            obtain ⟨z, hz, g4, g1, g2, g3⟩ := appOk_some hg
            have hsz : sizeT P e = some ti.size := by simp [sizeT, hi]
            split at hb
            · simp at hb
            · rename_i new hnew
              split at hb
              · simp at hb
              · rename_i hlen
                have hlen : new.length = n * ti.size := by simpa using hlen
                have hnr : ∀ w' : World, w'.heap = w.heap → (Builtin.firstCells ti.size n (ren E x)).run P w' = .ok (new.map (ren E)).toArray w' := fun w' hw => (firstA_sound (H.world hw) hnew).1
                have hnsc := (firstA_sound H hnew).2
                have hnl : ∀ w : World, (Builtin.lenOf (ren E x)).run P w = .ok n w := fun w => lenA_sound hn w
                split at hb
                · -- nil
                  simp only [Option.ite_none_right_eq_some, Bool.and_eq_true] at hb
                  obtain ⟨⟨b1, b2⟩, hb⟩ := hb
                  obtain rfl : len = 0 := by simpa using b1
                  obtain rfl : cap = 0 := by simpa using b2
                  rw [ren_nilslice]
                  split at hb
                  · rename_i h0
                    obtain rfl : n = 0 := by simpa using h0
                    simp only [Option.some.injEq, Prod.mk.injEq] at hb
                    obtain ⟨rfl, rfl⟩ := hb
                    refine ⟨E, w, ?_, Post.refl H, Sc_nilslice _ _ _⟩
                    rw [ren_nilslice]
                    refine append_nil0 hsu hx hxd hi hnl ?_ (Nat.le_refl _)
                    have := firstA_zero hnew
                    subst this
                    exact hnr w rfl
                  · rename_i h0
                    have h0 : n ≠ 0 := by simpa using h0
                    split at hb
                    · rename_i hone
                      simp only [newRowA, Option.some.injEq, Prod.mk.injEq] at hb
                      obtain ⟨rfl, rfl⟩ := hb
                      obtain ⟨k, hk, hrun⟩ := append_grow (P := P) (w := w) (ty := ty) (base := none) (len := 0) (capC := 0) (old := #[]) hsu hx hxd hi hz hnl (fun _ _ => rfl) hnr (by omega) g2 g3
                      obtain ⟨p1, p2⟩ := grow_post (e := e) (fzh := 0) (n := n) H hev hA hsz g4 hnsc hlen (k := k) (by omega) (h₀ := S.heap) (fun _ _ h => h)
                      rw [Array.empty_append, Nat.zero_add] at hrun
                      exact ⟨_, _, by rw [hrun, p2], p1, by rw [Sc_slice]; exact .inr ⟨by dsimp only; omega, by dsimp only; omega⟩⟩
                    · simp at hb
                · rename_i b off
                  rw [ren_slice]
                  have hAb : A b := (Sc_slice A _ _ _).1 hss
                  split at hb
                  · rename_i hrow
                    simp only [hrow, if_true]
                    split at hb
                    · rename_i c e' fz hg
                      split at hb
                      · simp at hb
                      · rename_i hchk
                        simp only [Bool.not_eq_true, Bool.not_eq_false', Bool.and_eq_true] at hchk
                        obtain ⟨⟨q1, q2⟩, q3⟩ := hchk
                        have q1 := Nat.le_of_ble_eq_true q1
                        obtain rfl : e' = e := by simpa using q2
                        have q3 : off = cap * ti.size := by simpa using q3
                        obtain ⟨_, hcsc, oc, hoc, hr⟩ := H.blk b _ hg
                        have hrel := hr
                        simp only [BlkRel, hrow, if_true] at hr
                        obtain ⟨cc, fzc, s', rfl, r2, r3, r4, r5, r6, r7⟩ := hr
                        rw [hsz] at r2; obtain rfl := Option.some.inj r2
                        have hlk : cap + len ≤ E.κ b := by
                          have : (cap + len) * ti.size ≤ E.κ b * ti.size := by rw [Nat.add_mul]; omega
                          exact Nat.le_of_mul_le_mul_right this g1
                        split at hb
                        · rename_i h0
                          obtain rfl : n = 0 := by simpa using h0
                          simp only [Option.some.injEq, Prod.mk.injEq] at hb
                          obtain ⟨rfl, rfl⟩ := hb
                          refine ⟨E, w, ?_, Post.refl H, Sc_or hss⟩
                          rw [ren_slice]
                          simp only [hrow, if_true]
                          refine append_nil0 hsu hx hxd hi hnl ?_ (by omega)
                          have := firstA_zero hnew
                          subst this
                          exact hnr w rfl
                        · rename_i h0
                          split at hb
                          · rename_i hin
                            have hin := Nat.le_of_ble_eq_true hin
                            split at hb
                            · rename_i h' hst
                              simp only [Option.some.injEq, Prod.mk.injEq] at hb
                              obtain ⟨rfl, rfl⟩ := hb
                              obtain ⟨w', hw1, hw2⟩ := astoreCells_sound (P := P) H hst hnsc S.next
                              have hneed : len + n ≤ E.κ b - cap := by
                                have : (cap + (len + n)) * ti.size ≤ E.κ b * ti.size := by rw [Nat.add_mul]; omega
                                have := Nat.le_of_mul_le_mul_right this g1
                                omega
                              refine ⟨E, w', ?_, hw2, ?_⟩
                              · rw [ren_slice]
                                simp only [hrow, if_true]
                                refine append_room hsu hx hxd hi hnl (hnr w rfl) hneed ?_
                                simp only [Env.addr, addr_add]
                                rw [Nat.add_assoc]; simpa using hw1
                              · rw [Sc_slice]; exact .inl hAb
                            · simp at hb
                          · rename_i hin
                            have hin : ¬ off + (len + n) * ti.size ≤ c.size := fun h => hin (Nat.ble_eq_true_of_le h)
                            simp only [Option.ite_none_right_eq_some, Bool.and_eq_true] at hb
                            obtain ⟨⟨⟨hone, hfz⟩, hfz1⟩, hb⟩ := hb
                            have hfz := Nat.le_of_ble_eq_true hfz
                            have hfz1 : fz.1 = 0 := by simpa using hfz1
                            simp only [newRowA, Option.some.injEq, Prod.mk.injEq] at hb
                            obtain ⟨rfl, rfl⟩ := hb
                            have hcl : cellsOf S.heap b = some c.toList := by simp [cellsOf, hg]
                            obtain ⟨k1, k2⟩ := run_cellsOf (P := P) H hcl (off := off) (k := len * ti.size) (by simpa using q1)
                            have hkl : ((c.toList.drop off).take (len * ti.size)).length = len * ti.size := by simp; omega
                            generalize hkeep : (c.toList.drop off).take (len * ti.size) = keep at *
                            have hall : ∀ x ∈ keep ++ new, Sc A x := fun x hx => (List.mem_append.1 hx).elim (k2 x) (hnsc x)
                            have hallen : (keep ++ new).length = (len + n) * ti.size := by simp [hkl, hlen, Nat.add_mul]
                            have hsub : ∀ k x, getB (delB S.heap b) k = some x → getB S.heap k = some x := fun k x hk => (getB_delB _ _ _ _ hk).2
                            by_cases hneed : len + n ≤ E.κ b - cap
                            · -- in place
                              have hfit : off + (len + n) * ti.size ≤ E.κ b * ti.size := by
                                have : (cap + (len + n)) * ti.size ≤ E.κ b * ti.size := Nat.mul_le_mul_right _ (by omega)
                                rw [Nat.add_mul] at this; omega
                              have hmul : (len + n) * ti.size = len * ti.size + n * ti.size := Nat.add_mul _ _ _
                              have hst := run_storeCells_any (P := P) (E.β b) (E.σ b + off + len * ti.size) e' fzc (new.map (ren E)) 0 cc w hoc (fun j hj1 hj2 => by
                                  have := r6 (j - E.σ b) (by omega) (by simp at hj2; omega)
                                  rw [show E.σ b + (j - E.σ b) = j by omega] at this
                                  exact this) (by simp; omega) (fun v hv => by
                                  obtain ⟨x, hx, rfl⟩ := List.mem_map.1 hv
                                  rw [← one_oneCell, one_ren]; exact allOne_mem hone x hx)
                              have hget : ∀ i, (cc.toList.take (E.σ b + off + len * ti.size + 0) ++ new.map (ren E) ++ cc.toList.drop (E.σ b + off + len * ti.size + 0 + (new.map (ren E)).length))[i]? = if i < E.σ b + off + len * ti.size then cc.toList[i]? else if i < E.σ b + off + len * ti.size + new.length then (new.map (ren E))[i - (E.σ b + off + len * ti.size)]? else cc.toList[i]? := by
                                intro i
                                have := seg_get cc.toList (new.map (ren E)) (E.σ b + off + len * ti.size) i (by simp; omega)
                                simpa using this
                              have hncl : (cc.toList.take (E.σ b + off + len * ti.size + 0) ++ new.map (ren E) ++ cc.toList.drop (E.σ b + off + len * ti.size + 0 + (new.map (ren E)).length)).length = cc.size := by simp; omega
                              generalize cc.toList.take (E.σ b + off + len * ti.size + 0) ++ new.map (ren E) ++ cc.toList.drop (E.σ b + off + len * ti.size + 0 + (new.map (ren E)).length) = nc at *
                              have hm1 : ¬ A (S.next + 1) := fun h => hA _ h ⟨by omega, by dsimp only; omega⟩
                              have hagr : Agree A E (E.bind (S.next + 1) (E.β b) (E.σ b + off) (E.κ b - cap)) := fun n hn => Env.bind_other E _ _ _ _ n (fun e => hm1 (e ▸ hn))
                              refine ⟨E.bind (S.next + 1) (E.β b) (E.σ b + off) (E.κ b - cap), w.setRow (E.β b) nc.toArray, ?_, ?_, by rw [Sc_slice]; exact .inr ⟨by dsimp only; omega, by dsimp only; omega⟩⟩
                              · have hr := append_room (ty := ty) hsu hx hxd hi hnl (hnr w rfl) hneed (a := E.addr ⟨b, off, none⟩) (w' := w.setRow (E.β b) nc.toArray) (by
                                  simp only [Env.addr, addr_add]
                                  simpa using hst)
                                rw [hr, ren_slice]
                                simp [Env.addr, Env.bind, isRow_odd hev]
                              · refine Post.put (m := S.next + 1) (b := E.β b) (o' := .cells (keep ++ new).toArray e' (0, fz.2 - off)) (oc' := .cells nc.toArray e' fzc) H (by dsimp only; omega) (by dsimp only; omega) (fun k hk => Env.bind_other E _ _ _ _ k (by dsimp only at hk; omega)) (fun k hk => (Env.bind_other E _ _ _ _ k hk).1) hA
                                  (.inr ⟨by omega, by dsimp only; omega⟩) (by simp [Env.bind]) ?_ (fun x hx => Sc_or (hall x (by simpa using hx))) ?_ (setRow_heap w _ cc _ e' fzc hoc) (fun k hk _ => setRow_other w _ k _ hk) (by simp) rfl rfl rfl (.inl ⟨b, _, hg, rfl⟩)
                                · intro k x hk
                                  simp only [getB] at hk
                                  by_cases he : S.next + 1 = k
                                  · subst he; rw [if_pos (by simp)] at hk; exact .inl ⟨rfl, (Option.some.inj hk).symm⟩
                                  · rw [if_neg (by simpa using he)] at hk
                                    obtain ⟨d1, d2⟩ := getB_delB _ _ _ _ hk
                                    exact .inr ⟨fun e => he e.symm, d2, fun e => d1 (H.inj k b _ _ d2 hg e)⟩
                                · simp only [BlkRel, isRow_odd hev, if_true]
                                  refine ⟨nc.toArray, fzc, ti.size, rfl, hsz, ?_, ?_, ?_, ?_, ?_⟩
                                  · intro i v hv
                                    have hv : (keep ++ new)[i]? = some v := by simpa using hv
                                    have hren : ren (E.bind (S.next + 1) (E.β b) (E.σ b + off) (E.κ b - cap)) v = ren E v := ren_agree hagr v (hall v (List.mem_of_getElem? hv))
                                    rw [hren]
                                    simp only [Env.bind, if_true]
                                    have hg2 := hget (E.σ b + off + i)
                                    by_cases hi1 : i < len * ti.size
                                    · rw [if_pos (by omega)] at hg2
                                      rw [List.getElem?_append_left (by omega), ← hkeep, List.getElem?_take, if_pos hi1, List.getElem?_drop] at hv
                                      have := r3 (off + i) v (by simpa using hv)
                                      rw [← Nat.add_assoc] at this
                                      simp only [Array.getElem?_toList] at hg2
                                      simpa using hg2.trans this
                                    · rw [if_neg (by omega)] at hg2
                                      rw [List.getElem?_append_right (by omega)] at hv
                                      have hi2 := (List.getElem?_eq_some_iff.1 hv).1
                                      rw [if_pos (by omega), List.getElem?_map, show E.σ b + off + i - (E.σ b + off + len * ti.size) = i - keep.length by omega, hv] at hg2
                                      simpa using hg2
                                  · have : (E.κ b - cap) * ti.size = E.κ b * ti.size - cap * ti.size := Nat.sub_mul _ _ _
                                    simp only [Env.bind, if_true, List.size_toArray, hncl]
                                    omega
                                  · have : (E.κ b - cap) * ti.size = E.κ b * ti.size - cap * ti.size := Nat.sub_mul _ _ _
                                    simp only [Env.bind, if_true, List.size_toArray, hallen]
                                    omega
                                  · intro o' ho1 ho2
                                    have : (E.κ b - cap) * ti.size = E.κ b * ti.size - cap * ti.size := Nat.sub_mul _ _ _
                                    simp only [Env.bind, if_true] at ho2 ⊢
                                    have := r6 (off + o') (by omega) (by omega)
                                    rw [← Nat.add_assoc] at this
                                    exact this
                                  · intro _
                                    simp only [Env.bind, if_true]
                                    rcases r7 hfz1 with h | h
                                    · exact .inl h
                                    · exact .inr (by omega)
                            · have hold : ∀ w' : World, w'.heap = w.heap → (Builtin.firstCells ti.size len (.slice (some (E.addr ⟨b, off, none⟩)) len (E.κ b - cap))).run P w' = .ok (keep.map (ren E)).toArray w' := by
                                intro w' hw
                                simp only [Builtin.firstCells, Env.addr]
                                obtain ⟨k1', _⟩ := run_cellsOf (P := P) (H.world hw) hcl (off := off) (k := len * ti.size) (by simpa using q1)
                                rw [hkeep] at k1'
                                exact k1'
                              obtain ⟨k, hk, hrun⟩ := append_grow (P := P) (w := w) (ty := ty) hsu hx hxd hi hz hnl hold hnr hneed g2 g3
                              obtain ⟨p1, p2⟩ := grow_post (e := e') (fzh := fz.2 - off) (n := len + n) H hev hA hsz g4 hall hallen (k := k) hk (h₀ := delB S.heap b) hsub
                              have hcat : (keep.map (ren E)).toArray ++ (new.map (ren E)).toArray = ((keep ++ new).map (ren E)).toArray := by simp
                              rw [hcat] at hrun
                              exact ⟨_, _, hrun.trans (by rw [p2]), p1, by rw [Sc_slice]; exact .inr ⟨by dsimp only; omega, by dsimp only; omega⟩⟩
                    · simp at hb
                  · rename_i hrow
                    simp only [hrow]
                    split at hb
                    · rename_i hin
                      have hin := Nat.le_of_ble_eq_true hin
                      split at hb
                      · rename_i h' hst
                        simp only [Option.some.injEq, Prod.mk.injEq] at hb
                        obtain ⟨rfl, rfl⟩ := hb
                        obtain ⟨w', hw1, hw2⟩ := astoreCells_sound (P := P) H hst hnsc S.next
                        refine ⟨E, w', ?_, hw2, ?_⟩
                        · rw [ren_slice]
                          simp only [hrow]
                          refine append_room hsu hx hxd hi hnl (hnr w rfl) hin ?_
                          simp only [Env.addr, addr_add]
                          rw [Nat.add_assoc]; simpa using hw1
                        · rw [Sc_slice]; exact .inl hAb
                      · simp at hb
                    · rename_i hin
                      have hin : ¬ len + n ≤ cap := fun h => hin (Nat.ble_eq_true_of_le h)
                      split at hb
                      · rename_i old hold
                        simp only [Option.ite_none_right_eq_some, Bool.and_eq_true] at hb
                        obtain ⟨⟨hone, hol⟩, hb⟩ := hb
                        have hol : old.length = len * ti.size := by simpa using hol
                        simp only [newRowA, Option.some.injEq, Prod.mk.injEq] at hb
                        obtain ⟨rfl, rfl⟩ := hb
                        have hosc := (firstA_sound H hold).2
                        have hall : ∀ x ∈ old ++ new, Sc A x := fun x hx => (List.mem_append.1 hx).elim (hosc x) (hnsc x)
                        have hallen : (old ++ new).length = (len + n) * ti.size := by simp [hol, hlen, Nat.add_mul]
                        have hold' : ∀ w' : World, w'.heap = w.heap → (Builtin.firstCells ti.size len (.slice (some (E.addr ⟨b, off, none⟩)) len cap)).run P w' = .ok (old.map (ren E)).toArray w' := by
                          intro w' hw
                          have := (firstA_sound (P := P) (H.world hw) hold).1
                          rw [ren_slice] at this
                          simpa [hrow] using this
                        obtain ⟨k, hk, hrun⟩ := append_grow (P := P) (w := w) (ty := ty) hsu hx hxd hi hz hnl hold' hnr hin g2 g3
                        obtain ⟨p1, p2⟩ := grow_post (e := e) (fzh := 0) (n := len + n) H hev hA hsz g4 hall hallen (k := k) hk (h₀ := S.heap) (fun _ _ h => h)
                        have hcat : (old.map (ren E)).toArray ++ (new.map (ren E)).toArray = ((old ++ new).map (ren E)).toArray := by simp
                        rw [hcat] at hrun
                        exact ⟨_, _, hrun.trans (by rw [p2]), p1, by rw [Sc_slice]; exact .inr ⟨by dsimp only; omega, by dsimp only; omega⟩⟩
                      · simp at hb
                · simp at hb
        · simp at hb
    · simp at hb
  · simp at hb

end
end Go.Dam

namespace Go.Dam

section
variable {P : Program} {E : Env} {A : Nat → Prop} {h h' : List (Nat × Obj)} {nx : Nat} {w w' : World}

theorem repL_get (l : List Value) (hl : 0 < l.length) : ∀ n i, (repL n l)[i]? = if i < n * l.length then l[i % l.length]? else none
  | 0, i => by simp [repL]
  | n + 1, i => by
    simp only [repL]
    by_cases h1 : i < l.length
    · rw [List.getElem?_append_left h1, if_pos (by rw [Nat.add_mul]; omega), Nat.mod_eq_of_lt h1]
    · rw [List.getElem?_append_right (by omega), repL_get l hl n]
      by_cases h2 : i - l.length < n * l.length
      · rw [if_pos h2, if_pos (by rw [Nat.add_mul]; omega)]
        congr 1
        rw [Nat.mod_eq_sub_mod (by omega : i ≥ l.length)]
      · rw [if_neg h2, if_neg (by rw [Nat.add_mul]; omega)]

theorem repL_length (l : List Value) : ∀ n, (repL n l).length = n * l.length
  | 0 => by simp [repL]
  | n + 1 => by simp [repL, repL_length l n, Nat.add_mul, Nat.add_comm]

theorem zeros_eq (z : Array Value) (n : Nat) (hz : 0 < z.size) : (Array.range (n * z.size)).map (fun i => z[i % z.size]!) = (repL n z.toList).toArray := by
  apply Array.ext'
  apply List.ext_getElem?
  intro i
  have hm : i % z.size < z.size := Nat.mod_lt _ hz
  rw [repL_get z.toList (by simpa using hz)]
  simp only [Array.toList_map, Array.toList_range, List.getElem?_map, Array.length_toList]
  by_cases hi : i < n * z.size
  · rw [if_pos hi]
    simp [hi, hm]
  · rw [if_neg hi]
    simp [hi]

theorem foldl_over_get (off : Nat) : ∀ (l : List Value) (k : Nat) (cs : Array Value) (i : Nat), off + k + l.length ≤ cs.size →
    ((l.zipIdx k).foldl (fun cs (x : Value × Nat) => cs.setIfInBounds (off + x.2) x.1) cs)[i]? = if off + k ≤ i ∧ i < off + k + l.length then l[i - (off + k)]? else cs[i]?
  | [], k, cs, i, h => by simp; intro h1 h2; omega
  | v :: l, k, cs, i, h => by
    simp only [List.zipIdx_cons, List.foldl_cons]
    simp only [List.length_cons] at h
    rw [foldl_over_get off l (k + 1) _ i (by simp; omega)]
    by_cases h1 : off + (k + 1) ≤ i ∧ i < off + (k + 1) + l.length
    · rw [if_pos h1, if_pos (by simp only [List.length_cons]; omega), show i - (off + k) = (i - (off + (k + 1))) + 1 by omega]; rfl
    · rw [if_neg h1, Array.getElem?_setIfInBounds]
      by_cases h2 : off + k = i
      · subst h2
        rw [if_pos rfl, if_pos (by omega), if_pos (by simp only [List.length_cons]; omega)]; simp
      · rw [if_neg h2, if_neg (by simp only [List.length_cons]; omega)]

theorem foldl_over_size (off : Nat) : ∀ (l : List (Value × Nat)) (cs : Array Value), (l.foldl (fun cs (x : Value × Nat) => cs.setIfInBounds (off + x.2) x.1) cs).size = cs.size
  | [], _ => rfl
  | _ :: l, cs => by simp only [List.foldl_cons]; rw [foldl_over_size off l]; simp

theorem foldl_over (off : Nat) (c cs : Array Value) (h : off + c.size ≤ cs.size) : c.zipIdx.foldl (fun cs (c, j) => cs.setIfInBounds (off + j) c) cs = (over cs.toList off c.toList).toArray := by
  apply Array.ext'
  apply List.ext_getElem?
  intro i
  have h1 := foldl_over_get off c.toList 0 cs i (by simpa using h)
  rw [over_get cs.toList off c.toList (by simpa using h)]
  rw [← Array.foldl_toList, Array.toList_zipIdx]
  simp only [Nat.add_zero, Array.length_toList] at h1 ⊢
  rw [Array.getElem?_toList, h1]
  by_cases g1 : i < off
  · rw [if_neg (by omega), if_pos g1]; simp
  · rw [if_neg g1]
    by_cases g2 : i < off + c.size
    · rw [if_pos ⟨by omega, g2⟩, if_pos g2]
    · rw [if_neg (by omega), if_neg g2]; simp

theorem fillL_fill (s : Nat) : ∀ (ps : List (Nat × Value)) (c r : List Value), fillL s c ps = some r → Instr.fill (fun i => some (i * s, s)) c.toArray ps = some r.toArray ∧ r.length = c.length
  | [], c, r, h => by simp [fillL] at h; subst h; exact ⟨rfl, rfl⟩
  | (i, v) :: ps, c, r, h => by
    simp only [fillL, Option.ite_none_right_eq_some, Bool.and_eq_true] at h
    obtain ⟨⟨h1, h2⟩, h3⟩ := h
    have h1 : v.cells.size = s := by simpa using h1
    have h2 := Nat.le_of_ble_eq_true h2
    obtain ⟨k1, k2⟩ := fillL_fill s ps _ r h3
    simp only [Instr.fill]
    rw [if_neg (by simp; omega), foldl_over _ _ _ (by simp; omega)]
    refine ⟨by simpa using k1, k2.trans (over_length _ _ _ (by simp; omega))⟩

theorem buildSlice_sound {S S' : St} {tm : List Value} (H : Holds P E A S.heap w) (hev : S.next % 2 = 0) {t : TypeId} {n : Nat} {ps : Array (Nat × Operand)} {v : Value} (hb : abuildSlice P tm S t n ps = some (v, S'))
    (hA : ∀ n, A n → ¬ (S.next ≤ n ∧ n < S'.next)) (hsc : ∀ p ∈ aparts tm ps, Sc A p.2) :
    ∃ E' w', (Instr.buildSlice t n ((aparts tm ps).map (renP E))).run P w = .ok (ren E' v) w' ∧ Post P E A S.heap S.next w E' S'.heap S'.next w' ∧ Sc (fun n => A n ∨ (S.next ≤ n ∧ n < S'.next)) v := by
  unfold abuildSlice at hb
  split at hb
  · rename_i e he
    split at hb
    · rename_i s z hs hz
      simp only [Option.ite_none_right_eq_some, Bool.and_eq_true] at hb
      obtain ⟨⟨⟨⟨h1, h2⟩, h3⟩, h4⟩, hb⟩ := hb
      have h1 : z.cells.size = s := by simpa using h1
      have h2 := Nat.le_of_ble_eq_true h2
      have h3 : 0 < s := Nat.le_of_ble_eq_true h3
      split at hb
      · rename_i cs hf
        simp only [newExact, Option.some.injEq, Prod.mk.injEq] at hb
        obtain ⟨rfl, rfl⟩ := hb
        obtain ⟨f1, f2⟩ := fillL_fill s _ _ _ hf
        have hplain : plainAll (repL n z.cells.toList) = true := by
          have : ∀ n, plainAll (repL n z.cells.toList) = true := by
            intro n
            induction n with
            | zero => rfl
            | succ n ih =>
              have happ : ∀ a b : List Value, plainAll a = true → plainAll b = true → plainAll (a ++ b) = true := by
                intro a b ha hb
                induction a with
                | nil => exact hb
                | cons x a iha => simp [plainAll] at ha ⊢; exact ⟨ha.1, iha ha.2⟩
              exact happ _ _ h4 ih
          exact this n
        have hzr := fill_ren E (fun i => some (i * s, s)) (aparts tm ps).toList (repL n z.cells.toList).toArray
        rw [mapA_plainAll E (by simpa using hplain), f1] at hzr
        have hcsc : ∀ x ∈ cs.toArray, Sc A x := Sc_fill (A := A) _ _ _ _ (fun x hx => plain1_Sc A (plainAll_mem hplain x (by simpa using hx))) (fun p hp => hsc p (by simpa using hp)) f1
        obtain ⟨E', w', n1, n2⟩ := newCells_sound (P := P) H hev hA cs.toArray e hcsc
        refine ⟨E', w', ?_, n2, by rw [Sc_slice]; exact .inr ⟨Nat.le_refl _, by dsimp only; omega⟩⟩
        have hpl : ((aparts tm ps).map (renP E)).toList = (aparts tm ps).toList.map fun x => (x.1, ren E x.2) := by simp [renP]
        have hzz : ∀ w : World, (zeroValue e).run P w = .ok z w := fun w => run_zeroT hz w
        have hbig : ¬ (n * s > 2 ^ 24) := by omega
        rw [ren_slice]
        have hcells : Instr.fill (fun i => some (i * s, s)) ((Array.range (n * s)).map (fun i => (if n * s = 0 then #[] else z.cells)[i % (if n * s = 0 then #[] else z.cells : Array Value).size]!)) ((aparts tm ps).map (renP E)).toList = some (cs.toArray.map (ren E)) := by
          by_cases h0 : n * s = 0
          · have hn0 : n = 0 := by rcases Nat.mul_eq_zero.1 h0 with h | h; exact h; omega
            subst hn0
            rw [hpl]
            have h00 : (Array.range (0 * s)).map (fun i => (if 0 * s = 0 then #[] else z.cells)[i % (if 0 * s = 0 then #[] else z.cells : Array Value).size]!) = #[] := by
              apply Array.ext'; simp
            rw [h00]
            simpa [repL] using hzr
          · rw [if_neg h0, ← h1, zeros_eq z.cells n (by omega), h1, hpl]
            simpa using hzr
        simp only [Instr.buildSlice, Sem.run_bind, run_underlying (elemT_under he), Result.andThen_ok, run_sizeT hs, hbig, if_false, Sem.run_pure, Sem.run_ite, hzz]
        by_cases h0 : n * s = 0
        · rw [if_pos h0] at hcells ⊢
          simp only [Result.andThen_ok, hcells, Sem.run_bind, n1, Sem.run_pure, isRow_even hev, Bool.false_eq_true, if_false]
        · rw [if_neg h0] at hcells ⊢
          simp only [Result.andThen_ok, hcells, Sem.run_bind, n1, Sem.run_pure, isRow_even hev, Bool.false_eq_true, if_false]
      · simp at hb
    · simp at hb
  · simp at hb

end
end Go.Dam

namespace Go.Dam

section
variable {P : Program} {E : Env} {A : Nat → Prop} {h h' : List (Nat × Obj)} {nx : Nat} {w w' : World}

theorem makeSlice_sound {S S' : St} (H : Holds P E A S.heap w) (hev : S.next % 2 = 0) {t : TypeId} {l c v : Value} (hb : amakeSlice P S t l c = some (v, S'))
    (hA : ∀ n, A n → ¬ (S.next ≤ n ∧ n < S'.next)) :
    ∃ E' w', (Instr.makeSlice t (ren E l) (ren E c)).run P w = .ok (ren E' v) w' ∧ Post P E A S.heap S.next w E' S'.heap S'.next w' ∧ Sc (fun n => A n ∨ (S.next ≤ n ∧ n < S'.next)) v := by
  unfold amakeSlice at hb
  split at hb
  · rename_i e he
    split at hb
    · rename_i ti l' c' hi hl hc
      split at hb
      · rename_i z hz
        simp only [Option.ite_none_right_eq_some, Bool.and_eq_true] at hb
        obtain ⟨⟨⟨⟨⟨⟨⟨h1, h2⟩, h3⟩, h4⟩, h5⟩, h6⟩, h7⟩, hb⟩ := hb
        have h1 := Nat.le_of_ble_eq_true h1
        have h2 := Nat.le_of_ble_eq_true h2
        have h3 := Nat.le_of_ble_eq_true h3
        have h4 := Nat.le_of_ble_eq_true h4
        have h5 : z.cells.size = ti.size := by simpa using h5
        have h6 : 0 < ti.size := Nat.le_of_ble_eq_true h6
        simp only [newExact, Option.some.injEq, Prod.mk.injEq] at hb
        obtain ⟨rfl, rfl⟩ := hb
        obtain ⟨kl, _, hl⟩ := natOf_some (E := E) hl
        obtain ⟨kc, _, hc⟩ := natOf_some (E := E) hc
        have hbytes : (ti.bytes : Int) * (c' : Int) ≤ 281474976710656 := by
          have : ti.bytes * c' ≤ 65536 * 1048576 := Nat.mul_le_mul h3 h2
          have h : ((ti.bytes * c' : Nat) : Int) ≤ 281474976710656 := by omega
          rwa [Int.natCast_mul] at h
        have hr := run_makeSlice (P := P) w t e ti z (elemT_under he) hi hz kl kc l' c' (by omega) (by omega) (by simpa using h4) hbytes (by omega)
        have hcl : ∀ x ∈ (repL c' z.cells.toList).toArray, plain1 x = true := by
          intro x hx
          have hx : x ∈ repL c' z.cells.toList := by simpa using hx
          have key : ∀ n, x ∈ repL n z.cells.toList → x ∈ z.cells.toList := by
            intro n
            induction n with
            | zero => simp [repL]
            | succ n ih => intro h; rcases List.mem_append.1 h with h | h; exact h; exact ih h
          exact plainAll_mem h7 x (key _ hx)
        obtain ⟨E', w', n1, n2⟩ := newCells_sound (P := P) H hev hA (repL c' z.cells.toList).toArray e (fun x hx => plain1_Sc A (hcl x hx))
        have hmc : madeCells z.cells (c' * ti.size) = (repL c' z.cells.toList).toArray := by
          rw [← h5, ← zeros_eq z.cells c' (by omega)]; rfl
        have hmap : (repL c' z.cells.toList).toArray.map (ren E) = (repL c' z.cells.toList).toArray := by
          have := Array.map_congr_left (xs := (repL c' z.cells.toList).toArray) (f := ren E) (g := id) (fun x hx => plain1_ren E (hcl x hx))
          simpa using this
        rw [hmap] at n1
        simp only [newRow, Sem.run_bind, run_newObj, Result.andThen_ok, Sem.run_pure, Result.ok.injEq] at n1
        obtain ⟨n1, n3⟩ := n1
        refine ⟨E', w', ?_, n2, by rw [Sc_slice]; exact .inr ⟨Nat.le_refl _, by dsimp only; omega⟩⟩
        simp only [Int.toNat_natCast] at hr
        rw [hl, hc, hr, hmc, ren_slice, ← n1]
        simp only [isRow_even hev, Bool.false_eq_true, if_false]
        rw [← n3]; rfl
      · simp at hb
    · simp at hb
  · simp at hb

theorem copy_sound {S S' : St} (H : Holds P E A S.heap w) {args : Array TypeId} {ty : TypeId} {d s v : Value} (hb : acopy P S args d s = some (v, S')) :
    ∃ w', (Builtin.copy_ args ty #[ren E d, ren E s]).run P w = .ok (ren E v) w' ∧ Post P E A S.heap S.next w E S'.heap S'.next w' ∧ Sc A v := by
  unfold acopy at hb
  split at hb
  · rename_i dT rest hargs
    have hd0 : args[0]? = some dT := by
      have : args.toList[0]? = some dT := by rw [hargs]; rfl
      simpa using this
    split at hb
    · rename_i e base dl cap sl he hl
      split at hb
      · simp at hb
      · rename_i s' hs
        dsimp only at hb
        split at hb
        · simp at hb
        · rename_i cs hf
          have hmin : (if Nat.ble sl dl = true then sl else dl) = Nat.min sl dl := by
            by_cases h : sl ≤ dl
            · rw [if_pos (Nat.ble_eq_true_of_le h)]; exact (Nat.min_eq_left h).symm
            · rw [if_neg (by simpa using h)]; exact (Nat.min_eq_right (by omega)).symm
          rw [hmin] at hf hb
          obtain ⟨f1, f2⟩ := firstA_sound H hf
          have hln := lenA_sound (P := P) (E := E) hl
          split at hb
          · simp only [Option.ite_none_right_eq_some, Option.some.injEq, Prod.mk.injEq] at hb
            obtain ⟨h0, rfl, rfl⟩ := hb
            have h0 : Nat.min sl dl = 0 := by simpa using h0
            rw [h0] at f1
            refine ⟨w, ?_, Post.refl H, Sc_int _ _ _⟩
            rw [ren_nilslice, ren_int]
            simp only [Builtin.copy_, hd0, List.getElem?_toArray, List.getElem?_cons_zero, List.getElem?_cons_succ, Sem.run_bind, run_underlying (elemT_under he), Result.andThen_ok, hln, run_sizeT hs, f1, Sem.run_pure, goInt, h0]
            rfl
          · rename_i b off
            split at hb
            · rename_i h' hst
              simp only [Option.some.injEq, Prod.mk.injEq] at hb
              obtain ⟨rfl, rfl⟩ := hb
              obtain ⟨w', g1, g2⟩ := astoreCells_sound (P := P) H hst f2 S.next
              refine ⟨w', ?_, g2, Sc_int _ _ _⟩
              rw [ren_slice, ren_int]
              simp only [Builtin.copy_, hd0, List.getElem?_toArray, List.getElem?_cons_zero, List.getElem?_cons_succ, Sem.run_bind, run_underlying (elemT_under he), Result.andThen_ok, hln, run_sizeT hs, f1, Sem.run_pure, goInt, Env.addr, g1]
            · simp at hb
          · simp at hb
    · simp at hb
  · simp at hb

theorem bytesOfCells_some : ∀ {l : List Value} {b : List UInt8}, bytesOfCells l = some b → l = b.map fun x => .int .u8 x.toNat
  | [], b, h => by simp [bytesOfCells] at h; subst h; rfl
  | v :: r, b, h => by
    unfold bytesOfCells at h
    split at h
    · simp at *
    · rename_i n r' heq
      simp at heq
      obtain ⟨rfl, rfl⟩ := heq
      split at h
      · rename_i l hl
        simp only [Option.ite_none_right_eq_some, Option.some.injEq] at h
        obtain ⟨⟨h0, h1⟩, rfl⟩ := h
        have := bytesOfCells_some hl
        simp only [List.map_cons, ← this]
        congr 2
        have : n.toNat < 256 := by omega
        simp [Nat.toUInt8, UInt8.toNat_ofNat', Nat.mod_eq_of_lt this, Int.toNat_of_nonneg h0]
      · simp at h
    · simp at h

theorem ren_bytes (E : Env) (b : List UInt8) : (b.map fun x => Value.int .u8 x.toNat).map (ren E) = b.map fun x => Value.int .u8 x.toNat := by
  rw [List.map_map]
  exact List.map_congr_left fun x _ => ren_int _ _ _

theorem toString_sound (H : Holds P E A h w) {x v : Value} (hb : atoString h x = some v) :
    (Conv.bytesToString (ren E x)).run P w = .ok (ren E v) w ∧ Sc A v := by
  unfold atoString at hb
  split at hb
  · simp at hb; subst hb; rw [ren_nilslice, ren_string]; exact ⟨rfl, Sc_string _ _⟩
  · rename_i n off len cap
    split at hb
    · rename_i c hc
      split at hb
      · rename_i hle
        split at hb
        · rename_i l hl
          simp only [Option.some.injEq] at hb; subst hb
          rw [ren_slice, ren_string]
          refine ⟨?_, Sc_string _ _⟩
          obtain ⟨g1, _⟩ := run_cellsOf (P := P) H hc (off := off) (k := len) (Nat.le_of_ble_eq_true hle)
          rw [bytesOfCells_some hl, ren_bytes] at g1
          have := run_bytesToString (P := P) w ⟨E.β n, E.σ n + off, none⟩ len (if isRow n = true then E.κ n - cap else cap) (l.map fun x => (x.toNat : Int)) (by rw [g1, List.map_map]; rfl)
          simp only [Env.addr]
          rw [this, foldl_push_bytes]
          congr 2
          apply ByteArray.ext
          simp [ByteArray.empty, ByteArray.emptyWithCapacity]
          show [] ++ _ = l
          rw [List.nil_append]
          conv => rhs; rw [← List.map_id l]
          exact List.map_congr_left fun x _ => by simp
        · simp at hb
      · simp at hb
    · simp at hb
  · simp at hb

theorem freeze_heap (w : World) (a : Addr) (n : Nat) (hn : n ≠ 0) {cc : Array Value} {e : TypeId} {fz : Nat × Nat} (hg : w.heap[a.block]? = some (.cells cc e fz)) :
    (w.freeze a n).heap[a.block]? = some (.cells cc e (if fz.1 == fz.2 then (a.off, a.off + n) else (min fz.1 a.off, max fz.2 (a.off + n)))) ∧ (∀ k, k ≠ a.block → (w.freeze a n).heap[k]? = w.heap[k]?) ∧ (w.freeze a n).heap.size = w.heap.size := by
  obtain ⟨lo, hi⟩ := fz
  unfold World.freeze
  rw [if_neg hn]
  refine ⟨?_, ?_, ?_⟩
  · simp [Array.getElem?_modify, hg]
  · intro k hk
    simp [Array.getElem?_modify, Ne.symm hk]
  · simp

def strRow (s : ByteArray) (k : Nat) : Array Value := (s.data.map fun b : UInt8 => Value.int .u8 b.toNat) ++ Array.replicate (k - s.size) (Value.int .u8 0)

theorem toBytes_sound {S : St} (H : Holds P E A S.heap w) (hev : S.next % 2 = 0) (hA : ∀ n, A n → ¬ (S.next ≤ n ∧ n < S.next + 2)) {e : TypeId} {s : ByteArray} (hs : sizeT P e = some 1) :
    ∃ E' w', (Conv.stringToBytes e s).run P w = .ok (ren E' (atoBytes S e s).1) w' ∧ Post P E A S.heap S.next w E' (atoBytes S e s).2.heap (atoBytes S e s).2.next w' ∧ Sc (fun n => A n ∨ (S.next ≤ n ∧ n < S.next + 2)) (atoBytes S e s).1 := by
  have hk : s.size ≤ s.size + (w.tape w.drawn (.appendCap s.size 0 e)) % (2 ^ 63 - s.size) := by omega
  generalize hkk : s.size + (w.tape w.drawn (.appendCap s.size 0 e)) % (2 ^ 63 - s.size) = k at hk
  have hb : ∀ w' : World, w'.heap = w.heap.push (.cells (strRow s k) e) →
      (markStringish ⟨w.heap.size, 0, none⟩).run P w' = .ok () (w'.freeze ⟨w.heap.size, k, none⟩ 1) := by
    intro w' hw
    have hsz : (strRow s k).size = k := by
      have : s.data.size = s.size := rfl
      simp [strRow]; omega
    have : w'.shape? w.heap.size = some (e, k) := by
      simp only [World.shape?, hw, Array.getElem?_push, if_true]
      rw [hsz]
    simp only [markStringish, Sem.run_bind, run_shape, this, Result.andThen_ok, run_freeze]
  have hrun : (Conv.stringToBytes e s).run P w = .ok (.slice (some ⟨w.heap.size, 0, none⟩) s.size k) (({ w with drawn := w.drawn + 1 }.alloc (.cells (strRow s k) e)).freeze ⟨w.heap.size, k, none⟩ 1) := by
    simp only [Conv.stringToBytes, Sem.run_bind, run_choose, Question.forced, Bool.false_eq_true, if_false, Question.cut, Result.andThen_ok, newRow, run_newObj, Sem.run_pure, hkk]
    rw [hb _ rfl]
    rfl
  have hlt : (({ w with drawn := w.drawn + 1 }.alloc (.cells (strRow s k) e))).heap[w.heap.size]? = some (.cells (strRow s k) e (0, 0)) := by simp [World.alloc]
  obtain ⟨f1, f2, f3⟩ := freeze_heap (({ w with drawn := w.drawn + 1 }.alloc (.cells (strRow s k) e))) ⟨w.heap.size, k, none⟩ 1 (by omega) hlt
  have hm1 : ¬ A (S.next + 1) := fun h => hA _ h ⟨by omega, by omega⟩
  refine ⟨E.bind (S.next + 1) w.heap.size 0 k, ({ w with drawn := w.drawn + 1 }.alloc (.cells (strRow s k) e)).freeze ⟨w.heap.size, k, none⟩ 1, ?_, ?_, ?_⟩
  · rw [hrun]
    simp only [atoBytes, newRowA, ren_slice]
    simp [Env.addr, Env.bind, isRow_odd hev]
  · have hos : ∀ (w : World) (a : Addr) (n : Nat), (w.freeze a n).os = w.os ∧ (w.freeze a n).tape = w.tape ∧ (w.freeze a n).output = w.output := by
      intro w a n; unfold World.freeze; split <;> exact ⟨rfl, rfl, rfl⟩
    obtain ⟨o1, o2, o3⟩ := hos (({ w with drawn := w.drawn + 1 }.alloc (.cells (strRow s k) e))) ⟨w.heap.size, k, none⟩ 1
    simp only [atoBytes, newRowA]
    refine Post.put (m := S.next + 1) (b := w.heap.size) (o' := .cells (s.data.toList.map fun b => Value.int .u8 b.toNat).toArray e (1, 0)) H (by omega) (by omega) (fun k hk => Env.bind_other E _ _ _ _ k (by omega)) (fun k hk => (Env.bind_other E _ _ _ _ k hk).1) hA
      (.inr ⟨by omega, by omega⟩) (by simp [Env.bind]) ?_ ?_ ?_ f1 ?_ ?_ (o1.trans rfl) (o2.trans rfl) (o3.trans rfl) (.inr (Nat.le_refl _))
    · intro j x hj
      simp only [getB] at hj
      by_cases he : S.next + 1 = j
      · subst he; rw [if_pos (by simp)] at hj; exact .inl ⟨rfl, (Option.some.inj hj).symm⟩
      · rw [if_neg (by simpa using he)] at hj
        refine .inr ⟨fun e => he e.symm, hj, ?_⟩
        obtain ⟨_, _, oc', hoc, _⟩ := H.blk j x hj
        intro e'
        rw [e', Array.getElem?_eq_none (Nat.le_refl _)] at hoc
        cases hoc
    · intro x hx
      have hx : x ∈ s.data.toList.map fun b => Value.int .u8 b.toNat := by simpa using hx
      obtain ⟨y, _, rfl⟩ := List.mem_map.1 hx
      exact Sc_int _ _ _
    · have hdl : s.data.size = s.size := rfl
      simp only [BlkRel, isRow_odd hev, if_true]
      unfold strRow
      refine ⟨_, _, 1, rfl, hs, ?_, ?_, ?_, ?_, ?_⟩
      · intro i v hv
        have hi := (Array.getElem?_eq_some_iff.1 hv).1
        simp only [List.size_toArray, List.length_map, Array.length_toList] at hi
        simp only [Env.bind, if_true, Nat.zero_add]
        rw [Array.getElem?_append_left (by simpa using hi)]
        have hv' : (s.data.toList.map fun b => Value.int .u8 b.toNat)[i]? = some v := by simpa using hv
        have hmem := List.mem_of_getElem? hv'
        obtain ⟨y, _, rfl⟩ := List.mem_map.1 hmem
        rw [ren_int]
        simpa using hv
      · simp [Env.bind, hdl]; omega
      · simp [Env.bind, hdl]; omega
      · intro off h1 h2
        simp only [Env.bind, if_true, Nat.mul_one, Nat.zero_add, beq_self_eq_true] at h2 ⊢
        omega
      · simp
    · intro j hj hjl
      rw [f2 j hj]
      simp only [World.alloc, Array.getElem?_push]
      rw [if_neg hj]
    · rw [f3]; simp [World.alloc]
  · simp only [atoBytes, newRowA, Sc_slice]
    exact .inr ⟨by omega, by omega⟩

end
end Go.Dam

namespace Go.Dam

section
variable {P : Program} {E : Env} {A : Nat → Prop} {h h' : List (Nat × Obj)} {nx : Nat} {w w' : World}

theorem liesAt_off {e : TypeId} (hc : P.cellsOf e = 1) (count off n : Nat) (hn : off + n ≤ count) : liesAt P P.depth e count off e n = true := by
  have hd : P.depth = (2 * (P.types.size + Made.depth) + 1) + 1 := rfl
  rw [hd]
  simp only [liesAt, Bool.or_eq_true]
  left
  rw [hd]
  simp [rowAt, hc, hn, sameLayout, Nat.mod_one]

theorem unsafeString_sound {S S' : St} (H : Holds P E A S.heap w) {args : Array TypeId} {ty : TypeId} {x l v : Value} (hb : aunsafeString P S args x l = some (v, S')) :
    ∃ w', (Builtin.unsafeString_ args ty #[ren E x, ren E l]).run P w = .ok (ren E v) w' ∧ Post P E A S.heap S.next w E S'.heap S'.next w' ∧ Sc A v := by
  unfold aunsafeString at hb
  split at hb
  · rename_i pt it hargs
    obtain rfl : args = #[pt, it] := by apply Array.ext'; simpa using hargs
    split at hb
    · rename_i u hu
      have hmax : IntKind.i64.max = 9223372036854775807 := rfl
      have hz : ∀ (p : Option Addr) (k : IntKind), (Builtin.unsafeString_ #[pt, it] ty #[.pointer p, .int k 0]).run P w = .ok (.string .empty) w := by
        intro p k
        cases p with
        | none => rfl
        | some a => rfl
      have hrun : ∀ (a : Addr) (k : IntKind) (n : Nat) (s : ByteArray), n ≤ 1048576 → n ≠ 0 → (variablesAt a u n).run P w = .ok true w → (loadBytes a .empty n).run P w = .ok s w →
          (Builtin.unsafeString_ #[pt, it] ty #[.pointer (some a), .int k n]).run P w = .ok (.string s) (w.freeze a n) := by
        intro a k n s hn h0 hva hlb
        have h1 : ¬ (n : Int) < 0 := by omega
        have h2 : ¬ (n : Int) > IntKind.i64.max := by rw [hmax]; omega
        have h3 : ¬ (n : Int) = 0 := by omega
        have hp0 : (#[pt, it] : Array TypeId)[0]? = some pt := rfl
        change Sem.run P (asInt (.int k n) >>= ?f) w = _
        simp only [asInt, asIntOf, Sem.run_bind, Sem.run_pure, Result.andThen_ok, h1, h2, h3, if_false, hp0, elemOf, run_underlying hu, Int.toNat_natCast, hva, if_true, hlb, run_freeze]
      split at hb
      · rename_i hl
        simp only [Option.some.injEq, Prod.mk.injEq] at hb
        obtain ⟨rfl, rfl⟩ := hb
        obtain ⟨k, _, hl⟩ := natOf_some (E := E) hl
        refine ⟨w, ?_, Post.refl H, Sc_string _ _⟩
        rw [ren_nilptr, hl, ren_string]; exact hz none k
      · rename_i n off len hl
        obtain ⟨k, _, hl⟩ := natOf_some (E := E) hl
        rw [ren_ptr, hl]
        split at hb
        · rename_i h0
          obtain rfl : len = 0 := by simpa using h0
          simp only [Option.some.injEq, Prod.mk.injEq] at hb
          obtain ⟨rfl, rfl⟩ := hb
          refine ⟨w, ?_, Post.refl H, Sc_string _ _⟩
          rw [ren_string]; exact hz _ k
        · rename_i h0
          have h0 : len ≠ 0 := by simpa using h0
          split at hb
          · rename_i c e hi hg
            simp only [Option.ite_none_right_eq_some, Bool.and_eq_true] at hb
            obtain ⟨⟨⟨⟨hrow, h1⟩, h2⟩, h3⟩, hb⟩ := hb
            have h1 := Nat.le_of_ble_eq_true h1
            have h3 := Nat.le_of_ble_eq_true h3
            obtain rfl : e = u := by simpa using h2
            split at hb
            · rename_i b hbb hs1
              simp only [Option.some.injEq, Prod.mk.injEq] at hb
              obtain ⟨rfl, rfl⟩ := hb
              obtain ⟨hAn, hcsc, oc, hoc, hr⟩ := H.blk n _ hg
              simp only [BlkRel, hrow, if_true] at hr
              obtain ⟨cc, fzc, s', rfl, r2, r3, r4, r5, r6, r7⟩ := hr
              rw [hs1] at r2; obtain rfl := Option.some.inj r2
              have hcl : cellsOf S.heap n = some c.toList := by simp [cellsOf, hg]
              have hco : P.cellsOf e = 1 := by
                unfold sizeT at hs1
                unfold Program.cellsOf
                rw [hs1]; rfl
              have hbl : b.length = len := by
                have := congrArg List.length (bytesOfCells_some hbb)
                simp at this; omega
              have hcell : ∀ j x, b[j]? = some x → w.cell? ((⟨E.β n, E.σ n + off, none⟩ : Addr).add j) = some (.int .u8 x.toNat) := by
                intro j x hj
                have hlt := (List.getElem?_eq_some_iff.1 hj).1
                have hx : ((c.toList.drop off).take len)[j]? = some (.int .u8 x.toNat) := by rw [bytesOfCells_some hbb, List.getElem?_map, hj]; rfl
                rw [List.getElem?_take, if_pos (by omega), List.getElem?_drop] at hx
                have := (H.cellAt hcl hx).1
                rw [addr_add, Nat.add_assoc, this, ren_int]
              have hlb := Lib.run_loadBytes (P := P) w b ⟨E.β n, E.σ n + off, none⟩ .empty hcell
              have hva : (variablesAt ⟨E.β n, E.σ n + off, none⟩ e len).run P w = .ok true w := by
                have hsh : w.shape? (E.β n) = some (e, cc.size) := by simp [World.shape?, hoc]
                simp only [variablesAt, Sem.run_bind, run_program, Result.andThen_ok, run_shape, hsh, Sem.run_pure]
                rw [liesAt_off hco _ _ _ (by rw [hco, Nat.div_one]; omega)]
              obtain ⟨f1, f2, f3⟩ := freeze_heap w ⟨E.β n, E.σ n + off, none⟩ len h0 hoc
              have hos : ∀ (w : World) (a : Addr) (n : Nat), (w.freeze a n).os = w.os ∧ (w.freeze a n).tape = w.tape ∧ (w.freeze a n).output = w.output := by
                intro w a n; unfold World.freeze; split <;> exact ⟨rfl, rfl, rfl⟩
              obtain ⟨o1, o2, o3⟩ := hos w ⟨E.β n, E.σ n + off, none⟩ len
              refine ⟨w.freeze ⟨E.β n, E.σ n + off, none⟩ len, ?_, ?_, Sc_string _ _⟩
              · rw [ren_string]
                rw [hbl] at hlb
                have hbe : (⟨ByteArray.empty.data ++ b.toArray⟩ : ByteArray) = ⟨b.toArray⟩ := by
                  apply ByteArray.ext
                  apply Array.ext'
                  simp [ByteArray.empty, ByteArray.emptyWithCapacity]
                  rfl
                rw [hbe] at hlb
                exact hrun _ k len _ h3 h0 hva hlb
              · refine Post.put (m := n) (b := E.β n) (o' := .cells c e (0, max hi (off + len))) H (Nat.le_refl _) rfl (fun _ _ => ⟨rfl, rfl, rfl⟩) (fun _ _ => rfl) (fun k _ hk => by dsimp only at hk; omega) (.inl hAn) rfl ?_ (fun x hx => Sc_or (hcsc x hx)) ?_ f1 (fun k hk _ => f2 k hk) (by rw [f3]; exact Nat.le_refl _) o1 o2 o3 (.inl ⟨n, _, hg, rfl⟩)
                · intro k x hk
                  rcases getB_setB _ _ _ _ _ hk with ⟨rfl, rfl⟩ | ⟨hne, hgk⟩
                  · exact .inl ⟨rfl, rfl⟩
                  · exact .inr ⟨hne, hgk, fun he => hne (H.inj k n _ _ hgk hg he)⟩
                · simp only [BlkRel, hrow, if_true]
                  refine ⟨cc, _, 1, rfl, hs1, r3, r4, r5, ?_, ?_⟩
                  · intro o ho1 ho2
                    have hr6 := r6 o (by omega) ho2
                    have hr7 := r7 trivial
                    (try dsimp only at hr6 hr7 ⊢)
                    by_cases hq : (fzc.1 == fzc.2) = true
                    · rw [if_pos hq]; simp only; omega
                    · rw [if_neg hq]
                      have hq : fzc.1 ≠ fzc.2 := by simpa using hq
                      simp only
                      rcases hr7 with hr7 | hr7
                      · exact absurd hr7 hq
                      · omega
                  · intro _
                    have hr7 := r7 trivial
                    (try dsimp only at hr7 ⊢)
                    by_cases hq : (fzc.1 == fzc.2) = true
                    · rw [if_pos hq]; simp only; right; omega
                    · rw [if_neg hq]
                      have hq : fzc.1 ≠ fzc.2 := by simpa using hq
                      simp only
                      rcases hr7 with hr7 | hr7
                      · exact absurd hr7 hq
                      · right; omega
            · simp at hb
          · simp at hb
      · simp at hb
    · simp at hb
  · simp at hb

theorem makeNoZero_sound {S S' : St} (H : Holds P E A S.heap w) (hev : S.next % 2 = 0) {t : TypeId} {ps : Array TypeId} {x v : Value} (hb : amakeNoZero P S t x = some (v, S'))
    (hA : ∀ n, A n → ¬ (S.next ≤ n ∧ n < S'.next)) :
    ∃ E' w', (Extern.BytealgMakeNoZero.makeNoZero ps #[t] #[ren E x]).run P w = .ok (ren E' v) w' ∧ Post P E A S.heap S.next w E' S'.heap S'.next w' ∧ Sc (fun n => A n ∨ (S.next ≤ n ∧ n < S'.next)) v := by
  unfold amakeNoZero at hb
  split at hb
  · rename_i m e he
    split at hb
    · rename_i n hn hs1
      simp only [Option.ite_none_right_eq_some] at hb
      obtain ⟨h1, hb⟩ := hb
      have h1 := Nat.le_of_ble_eq_true h1
      simp only [newRowA, Option.some.injEq, Prod.mk.injEq] at hb
      obtain ⟨rfl, rfl⟩ := hb
      obtain ⟨k, hk, _⟩ := natOf_some (E := E) hn
      simp only [Value.int.injEq] at hk
      obtain ⟨rfl, rfl⟩ := hk
      rw [ren_int]
      obtain ⟨cs, hr, hge, _⟩ := Lib.run_makeNoZero (P := P) w ps t e (elemT_under he) n (by omega)
      refine ⟨E.bind (S.next + 1) w.heap.size 0 cs.size, w.drew.drew.alloc (.cells cs e), ?_, ?_, by rw [Sc_slice]; exact .inr ⟨by dsimp only; omega, by dsimp only; omega⟩⟩
      · rw [hr]
        simp [ren_slice, Env.addr, Env.bind, isRow_odd hev]
      · refine Post.new H hA ⟨by omega, by omega⟩ (by intro x hx; simp at hx) ?_ rfl rfl rfl rfl
        simp only [BlkRel, isRow_odd hev, if_true]
        refine ⟨_, (0, 0), 1, rfl, hs1, by simp, by simp [Env.bind], by simp, by simp, by simp⟩
    · simp at hb
  · simp at hb

end
end Go.Dam
