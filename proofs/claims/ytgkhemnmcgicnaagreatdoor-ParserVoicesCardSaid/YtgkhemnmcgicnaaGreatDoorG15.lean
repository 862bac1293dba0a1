/- An own evaluator of closed runs of a program, proved sound against the model: one part of it. -/
import Derived.Test.YtgkhemnmcgicnaaGreatDoorG14
import Derived.Laws.Append
namespace Go.Dam
section
variable {P : Program} {E : bV} {A : Nat -> Prop} {h h' : List (Nat × Obj)} {nx : Nat} {w w' : World}
theorem sG {sT xT e ty : TypeId} {xd : TypeDesc} {ti : TypeInfo} {z x : Value} {base : Option Addr} {len capC n : Nat} {old new : Array Value}
  (hs : P.underlying sT = some (.slice e)) (hx : P.underlying xT = some xd) (hxd : rV xd = false) (hi : P.info? e = some ti) (hz : ti.zero = some z)
  (hn : ∀ w : World, (Builtin.lenOf x).run P w = .ok n w) (hold : ∀ w' : World, w'.heap = w.heap -> (Builtin.firstCells ti.size len (.slice base len capC)).run P w' = .ok old w') (hnew : ∀ w' : World, w'.heap = w.heap -> (Builtin.firstCells ti.size n x).run P w' = .ok new w')
  (hneed : ¬ len + n <= capC) (hmax : len + n <= mW) (hbytes : ti.bytes <= 65536) :
  ∃ (k : Nat), len + n <= k /\
   (Builtin.append_ #[sT, xT] ty #[.slice base len capC, x]).run P w = .ok (.slice (some ⟨w.heap.size, 0, none⟩) (len + n) k)
    ({ w with drawn := w.drawn + 1 }.alloc (.cells (old ++ new ++ Builtin.zeroCells z.cells (k - (len + n))) e)) := by
 have hle := nextslicecap_le (need := len + n) (old := capC) (by omega)
 have hcap : ¬ Builtin.nextslicecap (len + n) capC * ti.bytes > 2 ^ 48 := by
  have h1 : Builtin.nextslicecap (len + n) capC * ti.bytes <= (2 * mW) * 65536 := Nat.mul_le_mul (by omega) hbytes
  have h2 : (2 * mW) * 65536 <= 2 ^ 48 := by decide
  omega
 have hcap' : ¬ 281474976710656 < Builtin.nextslicecap (len + n) capC * ti.bytes := by simpa using hcap
 have hmaxI : ¬ (9223372036854775807 < ((len : Int) + (n : Int))) := by have : mW = 1048576 := rfl; omega
 refine ⟨len + n + (w.tape w.drawn (.appendCap (len + n) capC e)) % (2 ^ 63 - (len + n)), by omega, ?_⟩
 have ho := hold w.drew rfl
 have hw := hnew w.drew rfl
 have hm2 : IntKind.i64.max = 9223372036854775807 := by decide
 simp [Builtin.append_, run_underlying hs, run_underlying hx, Go.sizeOf, typeInfo, zeroValue, hi, hz, hn, hneed, hcap', hm2, hmaxI, Question.forced, Question.cut, newRow]
 rw [if_neg (by cases xd <;> simp_all [rV])]
 rw [ho, Result.andThen_ok, if_pos (by cases xd <;> simp_all [rV]), hw, Result.andThen_ok]
 simp
theorem sH {sT xT e ty : TypeId} {xd : TypeDesc} {ti : TypeInfo} {x : Value} {a : Addr} {len capC n : Nat} {new : Array Value}
  (hs : P.underlying sT = some (.slice e)) (hx : P.underlying xT = some xd) (hxd : rV xd = false) (hi : P.info? e = some ti)
  (hn : ∀ w : World, (Builtin.lenOf x).run P w = .ok n w) (hnew : (Builtin.firstCells ti.size n x).run P w = .ok new w)
  (hneed : len + n <= capC) (hst : (storeCells (a.add (len * ti.size)) new.toList).run P w = .ok () w') :
  (Builtin.append_ #[sT, xT] ty #[.slice (some a) len capC, x]).run P w = .ok (.slice (some a) (len + n) capC) w' := by
 simp [Builtin.append_, run_underlying hs, run_underlying hx, Go.sizeOf, typeInfo, hi, hn, hneed]
 rw [if_neg (by cases xd <;> simp_all [rV]), if_pos (by cases xd <;> simp_all [rV]), hnew, Result.andThen_ok]
 simp [hst]
theorem zJ {sT xT e ty : TypeId} {xd : TypeDesc} {ti : TypeInfo} {x : Value} {base : Option Addr} {len capC : Nat}
  (hs : P.underlying sT = some (.slice e)) (hx : P.underlying xT = some xd) (hxd : rV xd = false) (hi : P.info? e = some ti)
  (hn : ∀ w : World, (Builtin.lenOf x).run P w = .ok 0 w) (hnew : (Builtin.firstCells ti.size 0 x).run P w = .ok #[] w)
  (hneed : len <= capC) :
  (Builtin.append_ #[sT, xT] ty #[.slice base len capC, x]).run P w = .ok (.slice base len capC) w := by
 simp [Builtin.append_, run_underlying hs, run_underlying hx, Go.sizeOf, typeInfo, hi, hn, hneed]
 rw [if_neg (by cases xd <;> simp_all [rV]), if_pos (by cases xd <;> simp_all [rV]), hnew, Result.andThen_ok]
 cases base <;> simp [storeCells]
theorem zK {h : List (Nat × Obj)} {s : Nat} {x : Value} {cs : List Value} (hb : uX h s 0 x = some cs) : cs = [] := by
 unfold uX at hb
 split at hb
 ·simpa using hb.symm
 ·rw [if_pos (by simp)] at hb; simpa using hb.symm
 ·simpa using hb.symm
 ·simp at hb
theorem kX {B : Nat -> Prop} {v : Value} (h : Sc A v) : Sc (fun n => A n \/ B n) v := gB (fun _ h => .inl h) v h
theorem MZ {m s k e fzh : Nat} {z : Array Value} {c : List Value} {n : Nat} (hm : iC m = true) (hA : ¬ A m) (hs : fC P e = some s) (hz : z.size = s) (hsc : ∀ x ∈ c, Sc A x)
  (hc : c.length = n * s) (hk : n <= k) (b : Nat) :
  cK P (E.bind m b 0 k) m (.cells c.toArray e (0, fzh)) (.cells ((c.map (aK E)).toArray ++ Builtin.zeroCells z (k - n)) e) := by
 simp only [cK, hm, if_true]
 have hmul : n * s <= k * s := Nat.mul_le_mul_right _ hk
 have hzl : (Builtin.zeroCells z (k - n)).size = k * s - n * s := by simp [Builtin.zeroCells, hz, Nat.sub_mul]
 refine ⟨_, (0, 0), s, rfl, hs, ?_, ?_, ?_, ?_, ?_⟩
 ·intro i v hv
  have hv : c[i]? = some v := by simpa using hv
  have hi : i < c.length := (yi.1 hv).1
  simp only [bV.bind, if_true, yym]
  rw [Array.getElem?_append_left (by simpa using hi)]
  have : ((c.map (aK E)).toArray)[i]? = some (aK E v) := by simp [hv]
  rw [this, <- eQ (A := A) (E := E) (E' := E.bind m b 0 k) (fun n hn => bV.bind_other E m _ _ _ n (fun e => hA (e ▸ hn))) v (hsc v (yyd hv))]
  rfl
 ·simp [bV.bind, hzl, hc]; omega
 ·simp [bV.bind, hc]; exact hmul
 ·simp
 ·simp
theorem yF {e fzh s k n : Nat} {z : Array Value} {c : List Value} {h₀ : List (Nat × Obj)} (H : aV P E A h w) (hev : nx % 2 = 0) (hA : ∀ n, A n -> ¬ (nx <= n /\ n < nx + 2))
  (hs : fC P e = some s) (hz : z.size = s) (hsc : ∀ x ∈ c, Sc A x) (hc : c.length = n * s) (hk : n <= k) (h0 : ∀ k x, aL h₀ k = some x -> aL h k = some x) :
  aX P E A h nx w (E.bind (nx + 1) w.heap.size 0 k) ((nx + 1, .cells c.toArray e (0, fzh)) :: h₀) (nx + 2) ({ w with drawn := w.drawn + 1 }.alloc (.cells ((c.map (aK E)).toArray ++ Builtin.zeroCells z (k - n)) e)) /\
  aK (E.bind (nx + 1) w.heap.size 0 k) (.slice (some ⟨nx + 1, 0, none⟩) n 0) = .slice (some ⟨w.heap.size, 0, none⟩) n k := by
 refine ⟨aX.drop (h' := (nx + 1, .cells c.toArray e (0, fzh)) :: h) ?_ ?_, ?_⟩
 ·refine aX.new H hA ⟨by omega, by omega⟩ (by intro x hx; exact hsc x (by simpa using hx)) (MZ (n := n) (s := s) (z := z) (kC hev) (fun h => hA _ h ⟨by omega, by omega⟩) hs hz hsc hc hk _) ?_ rfl rfl rfl
  simp [World.alloc]
 ·intro j x hj
  by_cases he : nx + 1 = j
  ·subst he; simpa [aL] using hj
  ·simp only [aL] at hj |-
   rw [if_neg (by simpa using he)] at hj |-
   exact h0 j x hj
 ·rw [bL]
  simp [bV.addr, bV.bind, kC hev]
theorem M0 {ti : TypeInfo} {m : Nat} (h : PY ti m = true) : ∃ z, ti.zero = some z /\ z.cells.size = ti.size /\ 0 < ti.size /\ m <= mW /\ ti.bytes <= 65536 := by
 unfold PY at h
 split at h
 ·rename_i z hz
  simp only [yd] at h
  obtain ⟨⟨⟨h1, h2⟩, h3⟩, h4⟩ := h
  exact ⟨z, hz, by simpa using h1, ye h2, ye h3, ye h4⟩
 ·simp at h
theorem DZ {S S' : St} (H : aV P E A S.heap w) (hev : S.next % 2 = 0) {args : Array TypeId} {ty : TypeId} {s x v : Value} (hb : F8 P S args s x = some (v, S'))
  (hA : ∀ n, A n -> ¬ (S.next <= n /\ n < S'.next)) (hss : Sc A s) :
  ∃ E' w', (Builtin.append_ args ty #[aK E s, aK E x]).run P w = .ok (aK E' v) w' /\ aX P E A S.heap S.next w E' S'.heap S'.next w' /\ Sc (fun n => A n \/ (S.next <= n /\ n < S'.next)) v := by
 unfold F8 at hb
 split at hb
 ·rename_i sT xT hargs
  obtain rfl : args = #[sT, xT] := by apply yl; simpa using hargs
  split at hb
  ·rename_i e xd n hs hx hn
   split at hb
   ·simp at hb
   ·rename_i hxd
    have hxd : rV xd = false := by simpa using hxd
    have hsu := kB hs
    split at hb
    ·rename_i ti base len cap hi
     dsimp only at hb
     split at hb
     ·simp at hb
     ·rename_i hg
      have hg : PY ti (len + n) = true := by simpa using hg
      obtain ⟨z, hz, g4, g1, g2, g3⟩ := M0 hg
      have hsz : fC P e = some ti.size := by simp [fC, hi]
      split at hb
      ·simp at hb
      ·rename_i new hnew
       split at hb
       ·simp at hb
       ·rename_i hlen
        have hlen : new.length = n * ti.size := by simpa using hlen
        have hnr : ∀ w' : World, w'.heap = w.heap -> (Builtin.firstCells ti.size n (aK E x)).run P w' = .ok (new.map (aK E)).toArray w' := fun w' hw => (kL (H.world hw) hnew).1
        have hnsc := (kL H hnew).2
        have hnl : ∀ w : World, (Builtin.lenOf (aK E x)).run P w = .ok n w := fun w => B2 hn w
        split at hb
        ·
         simp only [yb, yd] at hb
         obtain ⟨⟨b1, b2⟩, hb⟩ := hb
         obtain rfl : len = 0 := by simpa using b1
         obtain rfl : cap = 0 := by simpa using b2
         rw [bY]
         split at hb
         ·rename_i h0
          obtain rfl : n = 0 := by simpa using h0
          simp only [ya, yc] at hb
          obtain ⟨rfl, rfl⟩ := hb
          refine ⟨E, w, ?_, aX.refl H, sD _ _ _⟩
          rw [bY]
          refine zJ hsu hx hxd hi hnl ?_ (yh _)
          have := zK hnew
          subst this
          exact hnr w rfl
         ·rename_i h0
          have h0 : n ≠ 0 := by simpa using h0
          split at hb
          ·rename_i hone
           simp only [jJ, ya, yc] at hb
           obtain ⟨rfl, rfl⟩ := hb
           obtain ⟨k, hk, hrun⟩ := sG (P := P) (w := w) (ty := ty) (base := none) (len := 0) (capC := 0) (old := #[]) hsu hx hxd hi hz hnl (fun _ _ => rfl) hnr (by omega) g2 g3
           obtain ⟨p1, p2⟩ := yF (e := e) (fzh := 0) (n := n) H hev hA hsz g4 hnsc hlen (k := k) (by omega) (h₀ := S.heap) (fun _ _ h => h)
           rw [Array.empty_append, yym] at hrun
           exact ⟨_, _, by rw [hrun, p2], p1, by rw [dJ]; exact .inr ⟨by dsimp only; omega, by dsimp only; omega⟩⟩
          ·simp at hb
        ·rename_i b off
         rw [bL]
         have hAb : A b := (dJ A _ _ _).1 hss
         split at hb
         ·rename_i hrow
          simp only [hrow, if_true]
          split at hb
          ·rename_i c e' fz hg
           split at hb
           ·simp at hb
           ·rename_i hchk
            simp only [Bool.not_eq_true, Bool.not_eq_false', yd] at hchk
            obtain ⟨⟨q1, q2⟩, q3⟩ := hchk
            have q1 := ye q1
            obtain rfl : e' = e := by simpa using q2
            have q3 : off = cap * ti.size := by simpa using q3
            obtain ⟨_, hcsc, oc, hoc, hr⟩ := H.blk b _ hg
            have hrel := hr
            simp only [cK, hrow, if_true] at hr
            obtain ⟨cc, fzc, s', rfl, r2, r3, r4, r5, r6, r7⟩ := hr
            rw [hsz] at r2; obtain rfl := yg r2
            have hlk : cap + len <= E.κ b := by
             have : (cap + len) * ti.size <= E.κ b * ti.size := by rw [Nat.add_mul]; omega
             exact Nat.le_of_mul_le_mul_right this g1
            split at hb
            ·rename_i h0
             obtain rfl : n = 0 := by simpa using h0
             simp only [ya, yc] at hb
             obtain ⟨rfl, rfl⟩ := hb
             refine ⟨E, w, ?_, aX.refl H, kX hss⟩
             rw [bL]
             simp only [hrow, if_true]
             refine zJ hsu hx hxd hi hnl ?_ (by omega)
             have := zK hnew
             subst this
             exact hnr w rfl
            ·rename_i h0
             split at hb
             ·rename_i hin
              have hin := ye hin
              split at hb
              ·rename_i h' hst
               simp only [ya, yc] at hb
               obtain ⟨rfl, rfl⟩ := hb
               obtain ⟨w', hw1, hw2⟩ := gW (P := P) H hst hnsc S.next
               have hneed : len + n <= E.κ b - cap := by
                have : (cap + (len + n)) * ti.size <= E.κ b * ti.size := by rw [Nat.add_mul]; omega
                have := Nat.le_of_mul_le_mul_right this g1
                omega
               refine ⟨E, w', ?_, hw2, ?_⟩
               ·rw [bL]
                simp only [hrow, if_true]
                refine sH hsu hx hxd hi hnl (hnr w rfl) hneed ?_
                simp only [bV.addr, gR]
                rw [yx]; simpa using hw1
               ·rw [dJ]; exact .inl hAb
              ·simp at hb
             ·rename_i hin
              have hin : ¬ off + (len + n) * ti.size <= c.size := fun h => hin (Nat.ble_eq_true_of_le h)
              simp only [yb, yd] at hb
              obtain ⟨⟨⟨hone, hfz⟩, hfz1⟩, hb⟩ := hb
              have hfz := ye hfz
              have hfz1 : fz.1 = 0 := by simpa using hfz1
              simp only [jJ, ya, yc] at hb
              obtain ⟨rfl, rfl⟩ := hb
              have hcl : cellsOf S.heap b = some c.toList := by simp [cellsOf, hg]
              obtain ⟨k1, k2⟩ := l8 (P := P) H hcl (off := off) (k := len * ti.size) (by simpa using q1)
              have hkl : ((c.toList.drop off).take (len * ti.size)).length = len * ti.size := by simp; omega
              generalize hkeep : (c.toList.drop off).take (len * ti.size) = keep at *
              have hall : ∀ x ∈ keep ++ new, Sc A x := fun x hx => (yy.1 hx).elim (k2 x) (hnsc x)
              have hallen : (keep ++ new).length = (len + n) * ti.size := by simp [hkl, hlen, Nat.add_mul]
              have hsub : ∀ k x, aL (DV S.heap b) k = some x -> aL S.heap k = some x := fun k x hk => (tT _ _ _ _ hk).2
              by_cases hneed : len + n <= E.κ b - cap
              ·
               have hfit : off + (len + n) * ti.size <= E.κ b * ti.size := by
                have : (cap + (len + n)) * ti.size <= E.κ b * ti.size := Nat.mul_le_mul_right _ (by omega)
                rw [Nat.add_mul] at this; omega
               have hmul : (len + n) * ti.size = len * ti.size + n * ti.size := Nat.add_mul _ _ _
               have hst := jX (P := P) (E.β b) (E.σ b + off + len * ti.size) e' fzc (new.map (aK E)) 0 cc w hoc (fun j hj1 hj2 => by
                 have := r6 (j - E.σ b) (by omega) (by simp at hj2; omega)
                 rw [show E.σ b + (j - E.σ b) = j by omega] at this
                 exact this) (by simp; omega) (fun v hv => by
                 obtain ⟨x, hx, rfl⟩ := yw.1 hv
                 rw [<- zH, P4]; exact BY hone x hx)
               have hget : ∀ i, (cc.toList.take (E.σ b + off + len * ti.size + 0) ++ new.map (aK E) ++ cc.toList.drop (E.σ b + off + len * ti.size + 0 + (new.map (aK E)).length))[i]? = if i < E.σ b + off + len * ti.size then cc.toList[i]? else if i < E.σ b + off + len * ti.size + new.length then (new.map (aK E))[i - (E.σ b + off + len * ti.size)]? else cc.toList[i]? := by
                intro i
                have := P5 cc.toList (new.map (aK E)) (E.σ b + off + len * ti.size) i (by simp; omega)
                simpa using this
               have hncl : (cc.toList.take (E.σ b + off + len * ti.size + 0) ++ new.map (aK E) ++ cc.toList.drop (E.σ b + off + len * ti.size + 0 + (new.map (aK E)).length)).length = cc.size := by simp; omega
               generalize cc.toList.take (E.σ b + off + len * ti.size + 0) ++ new.map (aK E) ++ cc.toList.drop (E.σ b + off + len * ti.size + 0 + (new.map (aK E)).length) = nc at *
               have hm1 : ¬ A (S.next + 1) := fun h => hA _ h ⟨by omega, by dsimp only; omega⟩
               have hagr : l7 A E (E.bind (S.next + 1) (E.β b) (E.σ b + off) (E.κ b - cap)) := fun n hn => bV.bind_other E _ _ _ _ n (fun e => hm1 (e ▸ hn))
               refine ⟨E.bind (S.next + 1) (E.β b) (E.σ b + off) (E.κ b - cap), w.setRow (E.β b) nc.toArray, ?_, ?_, by rw [dJ]; exact .inr ⟨by dsimp only; omega, by dsimp only; omega⟩⟩
               ·have hr := sH (ty := ty) hsu hx hxd hi hnl (hnr w rfl) hneed (a := E.addr ⟨b, off, none⟩) (w' := w.setRow (E.β b) nc.toArray) (by
                 simp only [bV.addr, gR]
                 simpa using hst)
                rw [hr, bL]
                simp [bV.addr, bV.bind, kC hev]
               ·refine aX.put (m := S.next + 1) (b := E.β b) (o' := .cells (keep ++ new).toArray e' (0, fz.2 - off)) (oc' := .cells nc.toArray e' fzc) H (by dsimp only; omega) (by dsimp only; omega) (fun k hk => bV.bind_other E _ _ _ _ k (by dsimp only at hk; omega)) (fun k hk => (bV.bind_other E _ _ _ _ k hk).1) hA
                 (.inr ⟨by omega, by dsimp only; omega⟩) (by simp [bV.bind]) ?_ (fun x hx => kX (hall x (by simpa using hx))) ?_ (setRow_heap w _ cc _ e' fzc hoc) (fun k hk _ => setRow_other w _ k _ hk) (by simp) rfl rfl rfl (.inl ⟨b, _, hg, rfl⟩)
                ·intro k x hk
                 simp only [aL] at hk
                 by_cases he : S.next + 1 = k
                 ·subst he; rw [if_pos (by simp)] at hk; exact .inl ⟨rfl, (yg hk).symm⟩
                 ·rw [if_neg (by simpa using he)] at hk
                  obtain ⟨d1, d2⟩ := tT _ _ _ _ hk
                  exact .inr ⟨fun e => he e.symm, d2, fun e => d1 (H.inj k b _ _ d2 hg e)⟩
                ·simp only [cK, kC hev, if_true]
                 refine ⟨nc.toArray, fzc, ti.size, rfl, hsz, ?_, ?_, ?_, ?_, ?_⟩
                 ·intro i v hv
                  have hv : (keep ++ new)[i]? = some v := by simpa using hv
                  have hren : aK (E.bind (S.next + 1) (E.β b) (E.σ b + off) (E.κ b - cap)) v = aK E v := eQ hagr v (hall v (yyd hv))
                  rw [hren]
                  simp only [bV.bind, if_true]
                  have hg2 := hget (E.σ b + off + i)
                  by_cases hi1 : i < len * ti.size
                  ·rw [if_pos (by omega)] at hg2
                   rw [yyf (by omega), <- hkeep, List.getElem?_take, if_pos hi1, List.getElem?_drop] at hv
                   have := r3 (off + i) v (by simpa using hv)
                   rw [<- yx] at this
                   simp only [Array.getElem?_toList] at hg2
                   simpa using hg2.trans this
                  ·rw [if_neg (by omega)] at hg2
                   rw [yyc (by omega)] at hv
                   have hi2 := (yi.1 hv).1
                   rw [if_pos (by omega), yyl, show E.σ b + off + i - (E.σ b + off + len * ti.size) = i - keep.length by omega, hv] at hg2
                   simpa using hg2
                 ·have : (E.κ b - cap) * ti.size = E.κ b * ti.size - cap * ti.size := Nat.sub_mul _ _ _
                  simp only [bV.bind, if_true, List.size_toArray, hncl]
                  omega
                 ·have : (E.κ b - cap) * ti.size = E.κ b * ti.size - cap * ti.size := Nat.sub_mul _ _ _
                  simp only [bV.bind, if_true, List.size_toArray, hallen]
                  omega
                 ·intro o' ho1 ho2
                  have : (E.κ b - cap) * ti.size = E.κ b * ti.size - cap * ti.size := Nat.sub_mul _ _ _
                  simp only [bV.bind, if_true] at ho2 |-
                  have := r6 (off + o') (by omega) (by omega)
                  rw [<- yx] at this
                  exact this
                 ·intro _
                  simp only [bV.bind, if_true]
                  rcases r7 hfz1 with h | h
                  ·exact .inl h
                  ·exact .inr (by omega)
              ·have hold : ∀ w' : World, w'.heap = w.heap -> (Builtin.firstCells ti.size len (.slice (some (E.addr ⟨b, off, none⟩)) len (E.κ b - cap))).run P w' = .ok (keep.map (aK E)).toArray w' := by
                intro w' hw
                simp only [Builtin.firstCells, bV.addr]
                obtain ⟨k1', _⟩ := l8 (P := P) (H.world hw) hcl (off := off) (k := len * ti.size) (by simpa using q1)
                rw [hkeep] at k1'
                exact k1'
               obtain ⟨k, hk, hrun⟩ := sG (P := P) (w := w) (ty := ty) hsu hx hxd hi hz hnl hold hnr hneed g2 g3
               obtain ⟨p1, p2⟩ := yF (e := e') (fzh := fz.2 - off) (n := len + n) H hev hA hsz g4 hall hallen (k := k) hk (h₀ := DV S.heap b) hsub
               have hcat : (keep.map (aK E)).toArray ++ (new.map (aK E)).toArray = ((keep ++ new).map (aK E)).toArray := by simp
               rw [hcat] at hrun
               exact ⟨_, _, hrun.trans (by rw [p2]), p1, by rw [dJ]; exact .inr ⟨by dsimp only; omega, by dsimp only; omega⟩⟩
          ·simp at hb
         ·rename_i hrow
          simp only [hrow]
          split at hb
          ·rename_i hin
           have hin := ye hin
           split at hb
           ·rename_i h' hst
            simp only [ya, yc] at hb
            obtain ⟨rfl, rfl⟩ := hb
            obtain ⟨w', hw1, hw2⟩ := gW (P := P) H hst hnsc S.next
            refine ⟨E, w', ?_, hw2, ?_⟩
            ·rw [bL]
             simp only [hrow]
             refine sH hsu hx hxd hi hnl (hnr w rfl) hin ?_
             simp only [bV.addr, gR]
             rw [yx]; simpa using hw1
            ·rw [dJ]; exact .inl hAb
           ·simp at hb
          ·rename_i hin
           have hin : ¬ len + n <= cap := fun h => hin (Nat.ble_eq_true_of_le h)
           split at hb
           ·rename_i old hold
            simp only [yb, yd] at hb
            obtain ⟨⟨hone, hol⟩, hb⟩ := hb
            have hol : old.length = len * ti.size := by simpa using hol
            simp only [jJ, ya, yc] at hb
            obtain ⟨rfl, rfl⟩ := hb
            have hosc := (kL H hold).2
            have hall : ∀ x ∈ old ++ new, Sc A x := fun x hx => (yy.1 hx).elim (hosc x) (hnsc x)
            have hallen : (old ++ new).length = (len + n) * ti.size := by simp [hol, hlen, Nat.add_mul]
            have hold' : ∀ w' : World, w'.heap = w.heap -> (Builtin.firstCells ti.size len (.slice (some (E.addr ⟨b, off, none⟩)) len cap)).run P w' = .ok (old.map (aK E)).toArray w' := by
             intro w' hw
             have := (kL (P := P) (H.world hw) hold).1
             rw [bL] at this
             simpa [hrow] using this
            obtain ⟨k, hk, hrun⟩ := sG (P := P) (w := w) (ty := ty) hsu hx hxd hi hz hnl hold' hnr hin g2 g3
            obtain ⟨p1, p2⟩ := yF (e := e) (fzh := 0) (n := len + n) H hev hA hsz g4 hall hallen (k := k) hk (h₀ := S.heap) (fun _ _ h => h)
            have hcat : (old.map (aK E)).toArray ++ (new.map (aK E)).toArray = ((old ++ new).map (aK E)).toArray := by simp
            rw [hcat] at hrun
            exact ⟨_, _, hrun.trans (by rw [p2]), p1, by rw [dJ]; exact .inr ⟨by dsimp only; omega, by dsimp only; omega⟩⟩
           ·simp at hb
        ·simp at hb
    ·simp at hb
  ·simp at hb
 ·simp at hb
end
section
variable {P : Program} {E : bV} {A : Nat -> Prop} {h h' : List (Nat × Obj)} {nx : Nat} {w w' : World}
theorem J9 (l : List Value) (hl : 0 < l.length) : ∀ n i, (pG n l)[i]? = if i < n * l.length then l[i % l.length]? else none
 | 0, i => by simp [pG]
 | n + 1, i => by
  simp only [pG]
  by_cases h1 : i < l.length
  ·rw [yyf h1, if_pos (by rw [Nat.add_mul]; omega), Nat.mod_eq_of_lt h1]
  ·rw [yyc (by omega), J9 l hl n]
   by_cases h2 : i - l.length < n * l.length
   ·rw [if_pos h2, if_pos (by rw [Nat.add_mul]; omega)]
    congr 1
    rw [Nat.mod_eq_sub_mod (by omega : i ≥ l.length)]
   ·rw [if_neg h2, if_neg (by rw [Nat.add_mul]; omega)]
theorem KA (z : Array Value) (n : Nat) (hz : 0 < z.size) : (Array.range (n * z.size)).map (fun i => z[i % z.size]!) = (pG n z.toList).toArray := by
 apply yl
 apply List.ext_getElem?
 intro i
 have hm : i % z.size < z.size := Nat.mod_lt _ hz
 rw [J9 z.toList (by simpa using hz)]
 simp only [yyj, Array.toList_range, yyl, Array.length_toList]
 by_cases hi : i < n * z.size
 ·rw [if_pos hi]
  simp [hi, hm]
 ·rw [if_neg hi]
  simp [hi]
theorem sJ (off : Nat) : ∀ (l : List Value) (k : Nat) (cs : Array Value) (i : Nat), off + k + l.length <= cs.size ->
  ((l.zipIdx k).foldl (fun cs (x : Value × Nat) => cs.setIfInBounds (off + x.2) x.1) cs)[i]? = if off + k <= i /\ i < off + k + l.length then l[i - (off + k)]? else cs[i]?
 | [], k, cs, i, h => by simp; intro h1 h2; omega
 | v :: l, k, cs, i, h => by
  simp only [List.zipIdx_cons, List.foldl_cons]
  simp only [List.length_cons] at h
  rw [sJ off l (k + 1) _ i (by simp; omega)]
  by_cases h1 : off + (k + 1) <= i /\ i < off + (k + 1) + l.length
  ·rw [if_pos h1, if_pos (by simp only [List.length_cons]; omega), show i - (off + k) = (i - (off + (k + 1))) + 1 by omega]; rfl
  ·rw [if_neg h1, Array.getElem?_setIfInBounds]
   by_cases h2 : off + k = i
   ·subst h2
    rw [if_pos rfl, if_pos (by omega), if_pos (by simp only [List.length_cons]; omega)]; simp
   ·rw [if_neg h2, if_neg (by simp only [List.length_cons]; omega)]
theorem M1 (off : Nat) (c cs : Array Value) (h : off + c.size <= cs.size) : c.zipIdx.foldl (fun cs (c, j) => cs.setIfInBounds (off + j) c) cs = (mP cs.toList off c.toList).toArray := by
 apply yl
 apply List.ext_getElem?
 intro i
 have h1 := sJ off c.toList 0 cs i (by simpa using h)
 rw [wG cs.toList off c.toList (by simpa using h)]
 rw [<- Array.foldl_toList, Array.toList_zipIdx]
 simp only [Nat.add_zero, Array.length_toList] at h1 |-
 rw [Array.getElem?_toList, h1]
 by_cases g1 : i < off
 ·rw [if_neg (by omega), if_pos g1]; simp
 ·rw [if_neg g1]
  by_cases g2 : i < off + c.size
  ·rw [if_pos ⟨by omega, g2⟩, if_pos g2]
  ·rw [if_neg (by omega), if_neg g2]; simp
theorem B3 (s : Nat) : ∀ (ps : List (Nat × Value)) (c r : List Value), JV s c ps = some r -> Instr.fill (fun i => some (i * s, s)) c.toArray ps = some r.toArray /\ r.length = c.length
 | [], c, r, h => by simp [JV] at h; subst h; exact ⟨rfl, rfl⟩
 | (i, v) :: ps, c, r, h => by
  simp only [JV, yb, yd] at h
  obtain ⟨⟨h1, h2⟩, h3⟩ := h
  have h1 : v.cells.size = s := by simpa using h1
  have h2 := ye h2
  obtain ⟨k1, k2⟩ := B3 s ps _ r h3
  simp only [Instr.fill]
  rw [if_neg (by simp; omega), M1 _ _ _ (by simp; omega)]
  refine ⟨by simpa using k1, k2.trans (zG _ _ _ (by simp; omega))⟩
theorem yG {S S' : St} {tm : List Value} (H : aV P E A S.heap w) (hev : S.next % 2 = 0) {t : TypeId} {n : Nat} {ps : Array (Nat × Operand)} {v : Value} (hb : j9 P tm S t n ps = some (v, S'))
  (hA : ∀ n, A n -> ¬ (S.next <= n /\ n < S'.next)) (hsc : ∀ p ∈ jV tm ps, Sc A p.2) :
  ∃ E' w', (Instr.buildSlice t n ((jV tm ps).map (DX E))).run P w = .ok (aK E' v) w' /\ aX P E A S.heap S.next w E' S'.heap S'.next w' /\ Sc (fun n => A n \/ (S.next <= n /\ n < S'.next)) v := by
 unfold j9 at hb
 split at hb
 ·rename_i e he
  split at hb
  ·rename_i s z hs hz
   simp only [yb, yd] at hb
   obtain ⟨⟨⟨⟨h1, h2⟩, h3⟩, h4⟩, hb⟩ := hb
   have h1 : z.cells.size = s := by simpa using h1
   have h2 := ye h2
   have h3 : 0 < s := ye h3
   split at hb
   ·rename_i cs hf
    simp only [d9, ya, yc] at hb
    obtain ⟨rfl, rfl⟩ := hb
    obtain ⟨f1, f2⟩ := B3 s _ _ _ hf
    have hplain : dQ (pG n z.cells.toList) = true := by
     have : ∀ n, dQ (pG n z.cells.toList) = true := by
      intro n
      induction n with
      | zero => rfl
      | succ n ih =>
       have happ : ∀ a b : List Value, dQ a = true -> dQ b = true -> dQ (a ++ b) = true := by
        intro a b ha hb
        induction a with
        | nil => exact hb
        | cons x a iha => simp [dQ] at ha |-; exact ⟨ha.1, iha ha.2⟩
       exact happ _ _ h4 ih
     exact this n
    have hzr := BZ E (fun i => some (i * s, s)) (jV tm ps).toList (pG n z.cells.toList).toArray
    rw [oY E (by simpa using hplain), f1] at hzr
    have hcsc : ∀ x ∈ cs.toArray, Sc A x := GR (A := A) _ _ _ _ (fun x hx => mX A (eL hplain x (by simpa using hx))) (fun p hp => hsc p (by simpa using hp)) f1
    obtain ⟨E', w', n1, n2⟩ := kK (P := P) H hev hA cs.toArray e hcsc
    refine ⟨E', w', ?_, n2, by rw [dJ]; exact .inr ⟨yh _, by dsimp only; omega⟩⟩
    have hpl : ((jV tm ps).map (DX E)).toList = (jV tm ps).toList.map fun x => (x.1, aK E x.2) := by simp [DX]
    have hzz : ∀ w : World, (zeroValue e).run P w = .ok z w := fun w => yD hz w
    have hbig : ¬ (n * s > 2 ^ 24) := by omega
    rw [bL]
    have hcells : Instr.fill (fun i => some (i * s, s)) ((Array.range (n * s)).map (fun i => (if n * s = 0 then #[] else z.cells)[i % (if n * s = 0 then #[] else z.cells : Array Value).size]!)) ((jV tm ps).map (DX E)).toList = some (cs.toArray.map (aK E)) := by
     by_cases h0 : n * s = 0
     ·have hn0 : n = 0 := by rcases Nat.mul_eq_zero.1 h0 with h | h; exact h; omega
      subst hn0
      rw [hpl]
      have h00 : (Array.range (0 * s)).map (fun i => (if 0 * s = 0 then #[] else z.cells)[i % (if 0 * s = 0 then #[] else z.cells : Array Value).size]!) = #[] := by
       apply yl; simp
      rw [h00]
      simpa [pG] using hzr
     ·rw [if_neg h0, <- h1, KA z.cells n (by omega), h1, hpl]
      simpa using hzr
    simp only [Instr.buildSlice, Sem.run_bind, run_underlying (kB he), Result.andThen_ok, eR hs, hbig, if_false, Sem.run_pure, Sem.run_ite, hzz]
    by_cases h0 : n * s = 0
    ·rw [if_pos h0] at hcells |-
     simp only [Result.andThen_ok, hcells, Sem.run_bind, n1, Sem.run_pure, qD hev, ym, if_false]
    ·rw [if_neg h0] at hcells |-
     simp only [Result.andThen_ok, hcells, Sem.run_bind, n1, Sem.run_pure, qD hev, ym, if_false]
   ·simp at hb
  ·simp at hb
 ·simp at hb
end
end Go.Dam
