/- An own evaluator of closed runs of a program, proved sound against the model: one part of it. -/
import Derived.Test.YtgkhemnmcgicnaaGreatDoorG15
import Derived.Laws.MakeOwn
import Derived.Laws.BytesArg
import Derived.Lib.UnsafeStr
import Derived.Lib.MakeNoZero
namespace Go.Dam
section
variable {P : Program} {E : bV} {A : Nat -> Prop} {h h' : List (Nat × Obj)} {nx : Nat} {w w' : World}
theorem AX {S S' : St} (H : aV P E A S.heap w) (hev : S.next % 2 = 0) {t : TypeId} {l c v : Value} (hb : uY P S t l c = some (v, S'))
  (hA : ∀ n, A n -> ¬ (S.next <= n /\ n < S'.next)) :
  ∃ E' w', (Instr.makeSlice t (aK E l) (aK E c)).run P w = .ok (aK E' v) w' /\ aX P E A S.heap S.next w E' S'.heap S'.next w' /\ Sc (fun n => A n \/ (S.next <= n /\ n < S'.next)) v := by
 unfold uY at hb
 split at hb
 ·rename_i e he
  split at hb
  ·rename_i ti l' c' hi hl hc
   split at hb
   ·rename_i z hz
    simp only [yb, yd] at hb
    obtain ⟨⟨⟨⟨⟨⟨⟨h1, h2⟩, h3⟩, h4⟩, h5⟩, h6⟩, h7⟩, hb⟩ := hb
    have h1 := ye h1
    have h2 := ye h2
    have h3 := ye h3
    have h4 := ye h4
    have h5 : z.cells.size = ti.size := by simpa using h5
    have h6 : 0 < ti.size := ye h6
    simp only [d9, ya, yc] at hb
    obtain ⟨rfl, rfl⟩ := hb
    obtain ⟨kl, _, hl⟩ := iJ (E := E) hl
    obtain ⟨kc, _, hc⟩ := iJ (E := E) hc
    have hbytes : (ti.bytes : Int) * (c' : Int) <= 281474976710656 := by
     have : ti.bytes * c' <= 65536 * 1048576 := Nat.mul_le_mul h3 h2
     have h : ((ti.bytes * c' : Nat) : Int) <= 281474976710656 := by omega
     rwa [Int.natCast_mul] at h
    have hr := run_makeSlice (P := P) w t e ti z (kB he) hi hz kl kc l' c' (by omega) (by omega) (by simpa using h4) hbytes (by omega)
    have hcl : ∀ x ∈ (pG c' z.cells.toList).toArray, fV x = true := by
     intro x hx
     have hx : x ∈ pG c' z.cells.toList := by simpa using hx
     have key : ∀ n, x ∈ pG n z.cells.toList -> x ∈ z.cells.toList := by
      intro n
      induction n with
      | zero => simp [pG]
      | succ n ih => intro h; rcases yy.1 h with h | h; exact h; exact ih h
     exact eL h7 x (key _ hx)
    obtain ⟨E', w', n1, n2⟩ := kK (P := P) H hev hA (pG c' z.cells.toList).toArray e (fun x hx => mX A (hcl x hx))
    have hmc : madeCells z.cells (c' * ti.size) = (pG c' z.cells.toList).toArray := by
     rw [<- h5, <- KA z.cells c' (by omega)]; rfl
    have hmap : (pG c' z.cells.toList).toArray.map (aK E) = (pG c' z.cells.toList).toArray := by
     have := yn (xs := (pG c' z.cells.toList).toArray) (f := aK E) (g := id) (fun x hx => qB E (hcl x hx))
     simpa using this
    rw [hmap] at n1
    simp only [newRow, Sem.run_bind, run_newObj, Result.andThen_ok, Sem.run_pure, Result.ok.injEq] at n1
    obtain ⟨n1, n3⟩ := n1
    refine ⟨E', w', ?_, n2, by rw [dJ]; exact .inr ⟨yh _, by dsimp only; omega⟩⟩
    simp only [Int.toNat_natCast] at hr
    rw [hl, hc, hr, hmc, bL, <- n1]
    simp only [qD hev, ym, if_false]
    rw [<- n3]; rfl
   ·simp at hb
  ·simp at hb
 ·simp at hb
theorem M2 {S S' : St} (H : aV P E A S.heap w) {args : Array TypeId} {ty : TypeId} {d s v : Value} (hb : PZ P S args d s = some (v, S')) :
  ∃ w', (Builtin.copy_ args ty #[aK E d, aK E s]).run P w = .ok (aK E v) w' /\ aX P E A S.heap S.next w E S'.heap S'.next w' /\ Sc A v := by
 unfold PZ at hb
 split at hb
 ·rename_i dT rest hargs
  have hd0 : args[0]? = some dT := by
   have : args.toList[0]? = some dT := by rw [hargs]; rfl
   simpa using this
  split at hb
  ·rename_i e base dl cap sl he hl
   split at hb
   ·simp at hb
   ·rename_i s' hs
    dsimp only at hb
    split at hb
    ·simp at hb
    ·rename_i cs hf
     have hmin : (if Nat.ble sl dl = true then sl else dl) = Nat.min sl dl := by
      by_cases h : sl <= dl
      ·rw [if_pos (Nat.ble_eq_true_of_le h)]; exact (Nat.min_eq_left h).symm
      ·rw [if_neg (by simpa using h)]; exact (Nat.min_eq_right (by omega)).symm
     rw [hmin] at hf hb
     obtain ⟨f1, f2⟩ := kL H hf
     have hln := B2 (P := P) (E := E) hl
     split at hb
     ·simp only [yb, ya, yc] at hb
      obtain ⟨h0, rfl, rfl⟩ := hb
      have h0 : Nat.min sl dl = 0 := by simpa using h0
      rw [h0] at f1
      refine ⟨w, ?_, aX.refl H, nC _ _ _⟩
      rw [bY, eV]
      simp only [Builtin.copy_, hd0, List.getElem?_toArray, List.getElem?_cons_zero, List.getElem?_cons_succ, Sem.run_bind, run_underlying (kB he), Result.andThen_ok, hln, eR hs, f1, Sem.run_pure, goInt, h0]
      rfl
     ·rename_i b off
      split at hb
      ·rename_i h' hst
       simp only [ya, yc] at hb
       obtain ⟨rfl, rfl⟩ := hb
       obtain ⟨w', g1, g2⟩ := gW (P := P) H hst f2 S.next
       refine ⟨w', ?_, g2, nC _ _ _⟩
       rw [bL, eV]
       simp only [Builtin.copy_, hd0, List.getElem?_toArray, List.getElem?_cons_zero, List.getElem?_cons_succ, Sem.run_bind, run_underlying (kB he), Result.andThen_ok, hln, eR hs, f1, Sem.run_pure, goInt, bV.addr, g1]
      ·simp at hb
     ·simp at hb
  ·simp at hb
 ·simp at hb
theorem gX : ∀ {l : List Value} {b : List UInt8}, iU l = some b -> l = b.map fun x => .int .u8 x.toNat
 | [], b, h => by simp [iU] at h; subst h; rfl
 | v :: r, b, h => by
  unfold iU at h
  split at h
  ·simp at *
  ·rename_i n r' heq
   simp at heq
   obtain ⟨rfl, rfl⟩ := heq
   split at h
   ·rename_i l hl
    simp only [yb, ya] at h
    obtain ⟨⟨h0, h1⟩, rfl⟩ := h
    have := gX hl
    simp only [yyn, <- this]
    congr 2
    have : n.toNat < 256 := by omega
    simp [Nat.toUInt8, UInt8.toNat_ofNat', Nat.mod_eq_of_lt this, Int.toNat_of_nonneg h0]
   ·simp at h
  ·simp at h
theorem Q8 (E : bV) (b : List UInt8) : (b.map fun x => Value.int .u8 x.toNat).map (aK E) = b.map fun x => Value.int .u8 x.toNat := by
 rw [List.map_map]
 exact yp fun x _ => eV _ _ _
theorem B4 (H : aV P E A h w) {x v : Value} (hb : tP h x = some v) :
  (Conv.bytesToString (aK E x)).run P w = .ok (aK E v) w /\ Sc A v := by
 unfold tP at hb
 split at hb
 ·simp at hb; subst hb; rw [bY, dV]; exact ⟨rfl, k7 _ _⟩
 ·rename_i n off len cap
  split at hb
  ·rename_i c hc
   split at hb
   ·rename_i hle
    split at hb
    ·rename_i l hl
     simp only [ya] at hb; subst hb
     rw [bL, dV]
     refine ⟨?_, k7 _ _⟩
     obtain ⟨g1, _⟩ := l8 (P := P) H hc (off := off) (k := len) (ye hle)
     rw [gX hl, Q8] at g1
     have := run_bytesToString (P := P) w ⟨E.β n, E.σ n + off, none⟩ len (if iC n = true then E.κ n - cap else cap) (l.map fun x => (x.toNat : Int)) (by rw [g1, List.map_map]; rfl)
     simp only [bV.addr]
     rw [this, foldl_push_bytes]
     congr 2
     apply ByteArray.ext
     simp [ByteArray.empty, ByteArray.emptyWithCapacity]
     show [] ++ _ = l
     rw [List.nil_append]
     conv => rhs; rw [<- List.map_id l]
     exact yp fun x _ => by simp
    ·simp at hb
   ·simp at hb
  ·simp at hb
 ·simp at hb
theorem zL (w : World) (a : Addr) (n : Nat) (hn : n ≠ 0) {cc : Array Value} {e : TypeId} {fz : Nat × Nat} (hg : w.heap[a.block]? = some (.cells cc e fz)) :
  (w.freeze a n).heap[a.block]? = some (.cells cc e (if fz.1 == fz.2 then (a.off, a.off + n) else (min fz.1 a.off, max fz.2 (a.off + n)))) /\ (∀ k, k ≠ a.block -> (w.freeze a n).heap[k]? = w.heap[k]?) /\ (w.freeze a n).heap.size = w.heap.size := by
 obtain ⟨lo, hi⟩ := fz
 unfold World.freeze
 rw [if_neg hn]
 refine ⟨?_, ?_, ?_⟩
 ·simp [Array.getElem?_modify, hg]
 ·intro k hk
  simp [Array.getElem?_modify, Ne.symm hk]
 ·simp
def oZ (s : ByteArray) (k : Nat) : Array Value := (s.data.map fun b : UInt8 => Value.int .u8 b.toNat) ++ Array.replicate (k - s.size) (Value.int .u8 0)
theorem D1 {S : St} (H : aV P E A S.heap w) (hev : S.next % 2 = 0) (hA : ∀ n, A n -> ¬ (S.next <= n /\ n < S.next + 2)) {e : TypeId} {s : ByteArray} (hs : fC P e = some 1) :
  ∃ E' w', (Conv.stringToBytes e s).run P w = .ok (aK E' (jD S e s).1) w' /\ aX P E A S.heap S.next w E' (jD S e s).2.heap (jD S e s).2.next w' /\ Sc (fun n => A n \/ (S.next <= n /\ n < S.next + 2)) (jD S e s).1 := by
 have hk : s.size <= s.size + (w.tape w.drawn (.appendCap s.size 0 e)) % (2 ^ 63 - s.size) := by omega
 generalize hkk : s.size + (w.tape w.drawn (.appendCap s.size 0 e)) % (2 ^ 63 - s.size) = k at hk
 have hb : ∀ w' : World, w'.heap = w.heap.push (.cells (oZ s k) e) ->
   (markStringish ⟨w.heap.size, 0, none⟩).run P w' = .ok () (w'.freeze ⟨w.heap.size, k, none⟩ 1) := by
  intro w' hw
  have hsz : (oZ s k).size = k := by
   have : s.data.size = s.size := rfl
   simp [oZ]; omega
  have : w'.shape? w.heap.size = some (e, k) := by
   simp only [World.shape?, hw, Array.getElem?_push, if_true]
   rw [hsz]
  simp only [markStringish, Sem.run_bind, run_shape, this, Result.andThen_ok, run_freeze]
 have hrun : (Conv.stringToBytes e s).run P w = .ok (.slice (some ⟨w.heap.size, 0, none⟩) s.size k) (({ w with drawn := w.drawn + 1 }.alloc (.cells (oZ s k) e)).freeze ⟨w.heap.size, k, none⟩ 1) := by
  simp only [Conv.stringToBytes, Sem.run_bind, run_choose, Question.forced, ym, if_false, Question.cut, Result.andThen_ok, newRow, run_newObj, Sem.run_pure, hkk]
  rw [hb _ rfl]
  rfl
 have hlt : (({ w with drawn := w.drawn + 1 }.alloc (.cells (oZ s k) e))).heap[w.heap.size]? = some (.cells (oZ s k) e (0, 0)) := by simp [World.alloc]
 obtain ⟨f1, f2, f3⟩ := zL (({ w with drawn := w.drawn + 1 }.alloc (.cells (oZ s k) e))) ⟨w.heap.size, k, none⟩ 1 (by omega) hlt
 have hm1 : ¬ A (S.next + 1) := fun h => hA _ h ⟨by omega, by omega⟩
 refine ⟨E.bind (S.next + 1) w.heap.size 0 k, ({ w with drawn := w.drawn + 1 }.alloc (.cells (oZ s k) e)).freeze ⟨w.heap.size, k, none⟩ 1, ?_, ?_, ?_⟩
 ·rw [hrun]
  simp only [jD, jJ, bL]
  simp [bV.addr, bV.bind, kC hev]
 ·have hos : ∀ (w : World) (a : Addr) (n : Nat), (w.freeze a n).os = w.os /\ (w.freeze a n).tape = w.tape /\ (w.freeze a n).output = w.output := by
   intro w a n; unfold World.freeze; split <;> exact ⟨rfl, rfl, rfl⟩
  obtain ⟨o1, o2, o3⟩ := hos (({ w with drawn := w.drawn + 1 }.alloc (.cells (oZ s k) e))) ⟨w.heap.size, k, none⟩ 1
  simp only [jD, jJ]
  refine aX.put (m := S.next + 1) (b := w.heap.size) (o' := .cells (s.data.toList.map fun b => Value.int .u8 b.toNat).toArray e (1, 0)) H (by omega) (by omega) (fun k hk => bV.bind_other E _ _ _ _ k (by omega)) (fun k hk => (bV.bind_other E _ _ _ _ k hk).1) hA
   (.inr ⟨by omega, by omega⟩) (by simp [bV.bind]) ?_ ?_ ?_ f1 ?_ ?_ (o1.trans rfl) (o2.trans rfl) (o3.trans rfl) (.inr (yh _))
  ·intro j x hj
   simp only [aL] at hj
   by_cases he : S.next + 1 = j
   ·subst he; rw [if_pos (by simp)] at hj; exact .inl ⟨rfl, (yg hj).symm⟩
   ·rw [if_neg (by simpa using he)] at hj
    refine .inr ⟨fun e => he e.symm, hj, ?_⟩
    obtain ⟨_, _, oc', hoc, _⟩ := H.blk j x hj
    intro e'
    rw [e', yye (yh _)] at hoc
    cases hoc
  ·intro x hx
   have hx : x ∈ s.data.toList.map fun b => Value.int .u8 b.toNat := by simpa using hx
   obtain ⟨y, _, rfl⟩ := yw.1 hx
   exact nC _ _ _
  ·have hdl : s.data.size = s.size := rfl
   simp only [cK, kC hev, if_true]
   unfold oZ
   refine ⟨_, _, 1, rfl, hs, ?_, ?_, ?_, ?_, ?_⟩
   ·intro i v hv
    have hi := (yz.1 hv).1
    simp only [List.size_toArray, List.length_map, Array.length_toList] at hi
    simp only [bV.bind, if_true, yym]
    rw [Array.getElem?_append_left (by simpa using hi)]
    have hv' : (s.data.toList.map fun b => Value.int .u8 b.toNat)[i]? = some v := by simpa using hv
    have hmem := yyd hv'
    obtain ⟨y, _, rfl⟩ := yw.1 hmem
    rw [eV]
    simpa using hv
   ·simp [bV.bind, hdl]; omega
   ·simp [bV.bind, hdl]; omega
   ·intro off h1 h2
    simp only [bV.bind, if_true, Nat.mul_one, yym, beq_self_eq_true] at h2 |-
    omega
   ·simp
  ·intro j hj hjl
   rw [f2 j hj]
   simp only [World.alloc, Array.getElem?_push]
   rw [if_neg hj]
  ·rw [f3]; simp [World.alloc]
 ·simp only [jD, jJ, dJ]
  exact .inr ⟨by omega, by omega⟩
end
section
variable {P : Program} {E : bV} {A : Nat -> Prop} {h h' : List (Nat × Obj)} {nx : Nat} {w w' : World}
theorem M3 {e : TypeId} (hc : P.cellsOf e = 1) (count off n : Nat) (hn : off + n <= count) : liesAt P P.depth e count off e n = true := by
 have hd : P.depth = (2 * (P.types.size + Made.depth) + 1) + 1 := rfl
 rw [hd]
 simp only [liesAt, yu]
 left
 rw [hd]
 simp [rowAt, hc, hn, sameLayout, Nat.mod_one]
theorem vB {S S' : St} (H : aV P E A S.heap w) {args : Array TypeId} {ty : TypeId} {x l v : Value} (hb : oW P S args x l = some (v, S')) :
  ∃ w', (Builtin.unsafeString_ args ty #[aK E x, aK E l]).run P w = .ok (aK E v) w' /\ aX P E A S.heap S.next w E S'.heap S'.next w' /\ Sc A v := by
 unfold oW at hb
 split at hb
 ·rename_i pt it hargs
  obtain rfl : args = #[pt, it] := by apply yl; simpa using hargs
  split at hb
  ·rename_i u hu
   have hmax : IntKind.i64.max = 9223372036854775807 := rfl
   have hz : ∀ (p : Option Addr) (k : IntKind), (Builtin.unsafeString_ #[pt, it] ty #[.pointer p, .int k 0]).run P w = .ok (.string .empty) w := by
    intro p k
    cases p with
    | none => rfl
    | some a => rfl
   have hrun : ∀ (a : Addr) (k : IntKind) (n : Nat) (s : ByteArray), n <= 1048576 -> n ≠ 0 -> (variablesAt a u n).run P w = .ok true w -> (loadBytes a .empty n).run P w = .ok s w ->
     (Builtin.unsafeString_ #[pt, it] ty #[.pointer (some a), .int k n]).run P w = .ok (.string s) (w.freeze a n) := by
    intro a k n s hn h0 hva hlb
    have h1 : ¬ (n : Int) < 0 := by omega
    have h2 : ¬ (n : Int) > IntKind.i64.max := by rw [hmax]; omega
    have h3 : ¬ (n : Int) = 0 := by omega
    have hp0 : (#[pt, it] : Array TypeId)[0]? = some pt := rfl
    change Sem.run P (asInt (.int k n) >>= ?f) w = _
    simp only [asInt, asIntOf, Sem.run_bind, Sem.run_pure, Result.andThen_ok, h1, h2, h3, if_false, hp0, elemOf, run_underlying hu, Int.toNat_natCast, hva, if_true, hlb, run_freeze]
   split at hb
   ·rename_i hl
    simp only [ya, yc] at hb
    obtain ⟨rfl, rfl⟩ := hb
    obtain ⟨k, _, hl⟩ := iJ (E := E) hl
    refine ⟨w, ?_, aX.refl H, k7 _ _⟩
    rw [fD, hl, dV]; exact hz none k
   ·rename_i n off len hl
    obtain ⟨k, _, hl⟩ := iJ (E := E) hl
    rw [cF, hl]
    split at hb
    ·rename_i h0
     obtain rfl : len = 0 := by simpa using h0
     simp only [ya, yc] at hb
     obtain ⟨rfl, rfl⟩ := hb
     refine ⟨w, ?_, aX.refl H, k7 _ _⟩
     rw [dV]; exact hz _ k
    ·rename_i h0
     have h0 : len ≠ 0 := by simpa using h0
     split at hb
     ·rename_i c e hi hg
      simp only [yb, yd] at hb
      obtain ⟨⟨⟨⟨hrow, h1⟩, h2⟩, h3⟩, hb⟩ := hb
      have h1 := ye h1
      have h3 := ye h3
      obtain rfl : e = u := by simpa using h2
      split at hb
      ·rename_i b hbb hs1
       simp only [ya, yc] at hb
       obtain ⟨rfl, rfl⟩ := hb
       obtain ⟨hAn, hcsc, oc, hoc, hr⟩ := H.blk n _ hg
       simp only [cK, hrow, if_true] at hr
       obtain ⟨cc, fzc, s', rfl, r2, r3, r4, r5, r6, r7⟩ := hr
       rw [hs1] at r2; obtain rfl := yg r2
       have hcl : cellsOf S.heap n = some c.toList := by simp [cellsOf, hg]
       have hco : P.cellsOf e = 1 := by
        unfold fC at hs1
        unfold Program.cellsOf
        rw [hs1]; rfl
       have hbl : b.length = len := by
        have := congrArg List.length (gX hbb)
        simp at this; omega
       have hcell : ∀ j x, b[j]? = some x -> w.cell? ((⟨E.β n, E.σ n + off, none⟩ : Addr).add j) = some (.int .u8 x.toNat) := by
        intro j x hj
        have hlt := (yi.1 hj).1
        have hx : ((c.toList.drop off).take len)[j]? = some (.int .u8 x.toNat) := by rw [gX hbb, yyl, hj]; rfl
        rw [List.getElem?_take, if_pos (by omega), List.getElem?_drop] at hx
        have := (H.cellAt hcl hx).1
        rw [gR, yx, this, eV]
       have hlb := Lib.run_loadBytes (P := P) w b ⟨E.β n, E.σ n + off, none⟩ .empty hcell
       have hva : (variablesAt ⟨E.β n, E.σ n + off, none⟩ e len).run P w = .ok true w := by
        have hsh : w.shape? (E.β n) = some (e, cc.size) := by simp [World.shape?, hoc]
        simp only [variablesAt, Sem.run_bind, run_program, Result.andThen_ok, run_shape, hsh, Sem.run_pure]
        rw [M3 hco _ _ _ (by rw [hco, Nat.div_one]; omega)]
       obtain ⟨f1, f2, f3⟩ := zL w ⟨E.β n, E.σ n + off, none⟩ len h0 hoc
       have hos : ∀ (w : World) (a : Addr) (n : Nat), (w.freeze a n).os = w.os /\ (w.freeze a n).tape = w.tape /\ (w.freeze a n).output = w.output := by
        intro w a n; unfold World.freeze; split <;> exact ⟨rfl, rfl, rfl⟩
       obtain ⟨o1, o2, o3⟩ := hos w ⟨E.β n, E.σ n + off, none⟩ len
       refine ⟨w.freeze ⟨E.β n, E.σ n + off, none⟩ len, ?_, ?_, k7 _ _⟩
       ·rw [dV]
        rw [hbl] at hlb
        have hbe : (⟨ByteArray.empty.data ++ b.toArray⟩ : ByteArray) = ⟨b.toArray⟩ := by
         apply ByteArray.ext
         apply yl
         simp [ByteArray.empty, ByteArray.emptyWithCapacity]
         rfl
        rw [hbe] at hlb
        exact hrun _ k len _ h3 h0 hva hlb
       ·refine aX.put (m := n) (b := E.β n) (o' := .cells c e (0, max hi (off + len))) H (yh _) rfl (fun _ _ => ⟨rfl, rfl, rfl⟩) (fun _ _ => rfl) (fun k _ hk => by dsimp only at hk; omega) (.inl hAn) rfl ?_ (fun x hx => kX (hcsc x hx)) ?_ f1 (fun k hk _ => f2 k hk) (by rw [f3]; exact yh _) o1 o2 o3 (.inl ⟨n, _, hg, rfl⟩)
        ·intro k x hk
         rcases pH _ _ _ _ _ hk with ⟨rfl, rfl⟩ | ⟨hne, hgk⟩
         ·exact .inl ⟨rfl, rfl⟩
         ·exact .inr ⟨hne, hgk, fun he => hne (H.inj k n _ _ hgk hg he)⟩
        ·simp only [cK, hrow, if_true]
         refine ⟨cc, _, 1, rfl, hs1, r3, r4, r5, ?_, ?_⟩
         ·intro o ho1 ho2
          have hr6 := r6 o (by omega) ho2
          have hr7 := r7 trivial
          (try dsimp only at hr6 hr7 |-)
          by_cases hq : (fzc.1 == fzc.2) = true
          ·rw [if_pos hq]; simp only; omega
          ·rw [if_neg hq]
           have hq : fzc.1 ≠ fzc.2 := by simpa using hq
           simp only
           rcases hr7 with hr7 | hr7
           ·exact absurd hr7 hq
           ·omega
         ·intro _
          have hr7 := r7 trivial
          (try dsimp only at hr7 |-)
          by_cases hq : (fzc.1 == fzc.2) = true
          ·rw [if_pos hq]; simp only; right; omega
          ·rw [if_neg hq]
           have hq : fzc.1 ≠ fzc.2 := by simpa using hq
           simp only
           rcases hr7 with hr7 | hr7
           ·exact absurd hr7 hq
           ·right; omega
      ·simp at hb
     ·simp at hb
   ·simp at hb
  ·simp at hb
 ·simp at hb
theorem yH {S S' : St} (H : aV P E A S.heap w) (hev : S.next % 2 = 0) {t : TypeId} {ps : Array TypeId} {x v : Value} (hb : rX P S t x = some (v, S'))
  (hA : ∀ n, A n -> ¬ (S.next <= n /\ n < S'.next)) :
  ∃ E' w', (Extern.BytealgMakeNoZero.makeNoZero ps #[t] #[aK E x]).run P w = .ok (aK E' v) w' /\ aX P E A S.heap S.next w E' S'.heap S'.next w' /\ Sc (fun n => A n \/ (S.next <= n /\ n < S'.next)) v := by
 unfold rX at hb
 split at hb
 ·rename_i m e he
  split at hb
  ·rename_i n hn hs1
   simp only [yb] at hb
   obtain ⟨h1, hb⟩ := hb
   have h1 := ye h1
   simp only [jJ, ya, yc] at hb
   obtain ⟨rfl, rfl⟩ := hb
   obtain ⟨k, hk, _⟩ := iJ (E := E) hn
   simp only [Value.int.injEq] at hk
   obtain ⟨rfl, rfl⟩ := hk
   rw [eV]
   obtain ⟨cs, hr, hge, _⟩ := Lib.run_makeNoZero (P := P) w ps t e (kB he) n (by omega)
   refine ⟨E.bind (S.next + 1) w.heap.size 0 cs.size, w.drew.drew.alloc (.cells cs e), ?_, ?_, by rw [dJ]; exact .inr ⟨by dsimp only; omega, by dsimp only; omega⟩⟩
   ·rw [hr]
    simp [bL, bV.addr, bV.bind, kC hev]
   ·refine aX.new H hA ⟨by omega, by omega⟩ (by intro x hx; simp at hx) ?_ rfl rfl rfl rfl
    simp only [cK, kC hev, if_true]
    refine ⟨_, (0, 0), 1, rfl, hs1, by simp, by simp [bV.bind], by simp, by simp, by simp⟩
  ·simp at hb
 ·simp at hb
end
end Go.Dam
