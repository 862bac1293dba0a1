/- An own evaluator of closed runs of a program, proved sound against the model: one part of it. -/
import Derived.Test.YtgkhemnmcgicnaaGreatDoorG14
import Derived.Lib.MakeNoZero
import Derived.KernelRfl
import Derived.TacticsIn
import Derived.OrdersIn
import Derived.RangeFuncSeq
namespace Go.Dam
section
variable {P : Program} {E : Env} {A : Nat -> Prop} {h h' : List (Nat × Obj)} {nx : Nat} {w w' : World}
theorem liesAt_off {e : TypeId} (hc : P.cellsOf e = 1) (count off n : Nat) (hn : off + n <= count) : liesAt P P.depth e count off e n = true := by
 have hd : P.depth = (2 * (P.types.size + Made.depth) + 1) + 1 := rfl
 rw [hd]
 simp only [liesAt, Bool.or_eq_true]
 left
 rw [hd]
 simp [rowAt, hc, hn, sameLayout, Nat.mod_one]
theorem unsafeString_sound {S S' : St} (H : Holds P E A S.heap w) {args : Array TypeId} {ty : TypeId} {x l v : Value} (hb : aunsafeString P S args x l = some (v, S')) :
  ∃ w', (Builtin.unsafeString_ args ty #[ren E x, ren E l]).run P w = .ok (ren E v) w' /\ Post P E A S.heap S.next w E S'.heap S'.next w' /\ Sc A v := by
 unfold aunsafeString at hb
 split at hb
 ·rename_i pt it hargs
  obtain rfl : args = #[pt, it] := by apply Array.ext'; simpa using hargs
  split at hb
  ·rename_i u hu
   have hmax : IntKind.i64.max = 9223372036854775807 := rfl
   have hz : ∀ (p : Option Addr) (k : IntKind), (Builtin.unsafeString_ #[pt, it] ty #[.pointer p, .int k 0]).run P w = .ok (.string .empty) w := by
    intro p k
    cases p with
    | none => rfl
    | some a => rfl
   have hrun : ∀ (a : Addr) (k : IntKind) (n : Nat) (s : ByteArray), n <= 1048576 -> n ≠ 0 -> (variablesAt a u n).run P w = .ok true w -> (loadBytes a .empty n).run P w = .ok s w ->
     (Builtin.unsafeString_ #[pt, it] ty #[.pointer (some a), .int k n]).run P w = .ok (.string s) (w.freeze a n) := by
    intro a k n s hn h0 hva hlb
    have h1 : ¬ (n : Int) < 0 := by omega
    have h2 : ¬ (n : Int) > IntKind.i64.max := by rw [hmax]; omega
    have h3 : ¬ (n : Int) = 0 := by omega
    have hp0 : (#[pt, it] : Array TypeId)[0]? = some pt := rfl
    change Sem.run P (asInt (.int k n) >>= ?f) w = _
    simp only [asInt, asIntOf, Sem.run_bind, Sem.run_pure, Result.andThen_ok, h1, h2, h3, if_false, hp0, elemOf, run_underlying hu, Int.toNat_natCast, hva, if_true, hlb, run_freeze]
   split at hb
   ·rename_i hl
    simp only [Option.some.injEq, Prod.mk.injEq] at hb
    obtain ⟨rfl, rfl⟩ := hb
    obtain ⟨k, _, hl⟩ := natOf_some (E := E) hl
    refine ⟨w, ?_, Post.refl H, Sc_string _ _⟩
    rw [ren_nilptr, hl, ren_string]; exact hz none k
   ·rename_i n off len hl
    obtain ⟨k, _, hl⟩ := natOf_some (E := E) hl
    rw [ren_ptr, hl]
    split at hb
    ·rename_i h0
     obtain rfl : len = 0 := by simpa using h0
     simp only [Option.some.injEq, Prod.mk.injEq] at hb
     obtain ⟨rfl, rfl⟩ := hb
     refine ⟨w, ?_, Post.refl H, Sc_string _ _⟩
     rw [ren_string]; exact hz _ k
    ·rename_i h0
     have h0 : len ≠ 0 := by simpa using h0
     split at hb
     ·rename_i c e hi hg
      simp only [Option.ite_none_right_eq_some, Bool.and_eq_true] at hb
      obtain ⟨⟨⟨⟨hrow, h1⟩, h2⟩, h3⟩, hb⟩ := hb
      have h1 := Nat.le_of_ble_eq_true h1
      have h3 := Nat.le_of_ble_eq_true h3
      obtain rfl : e = u := by simpa using h2
      split at hb
      ·rename_i b hbb hs1
       simp only [Option.some.injEq, Prod.mk.injEq] at hb
       obtain ⟨rfl, rfl⟩ := hb
       obtain ⟨hAn, hcsc, oc, hoc, hr⟩ := H.blk n _ hg
       simp only [BlkRel, hrow, if_true] at hr
       obtain ⟨cc, fzc, s', rfl, r2, r3, r4, r5, r6, r7⟩ := hr
       rw [hs1] at r2; obtain rfl := Option.some.inj r2
       have hcl : cellsOf S.heap n = some c.toList := by simp [cellsOf, hg]
       have hco : P.cellsOf e = 1 := by
        unfold sizeT at hs1
        unfold Program.cellsOf
        rw [hs1]; rfl
       have hbl : b.length = len := by
        have := congrArg List.length (bytesOfCells_some hbb)
        simp at this; omega
       have hcell : ∀ j x, b[j]? = some x -> w.cell? ((⟨E.β n, E.σ n + off, none⟩ : Addr).add j) = some (.int .u8 x.toNat) := by
        intro j x hj
        have hlt := (List.getElem?_eq_some_iff.1 hj).1
        have hx : ((c.toList.drop off).take len)[j]? = some (.int .u8 x.toNat) := by rw [bytesOfCells_some hbb, List.getElem?_map, hj]; rfl
        rw [List.getElem?_take, if_pos (by omega), List.getElem?_drop] at hx
        have := (H.cellAt hcl hx).1
        rw [addr_add, Nat.add_assoc, this, ren_int]
       have hlb := Lib.run_loadBytes (P := P) w b ⟨E.β n, E.σ n + off, none⟩ .empty hcell
       have hva : (variablesAt ⟨E.β n, E.σ n + off, none⟩ e len).run P w = .ok true w := by
        have hsh : w.shape? (E.β n) = some (e, cc.size) := by simp [World.shape?, hoc]
        simp only [variablesAt, Sem.run_bind, run_program, Result.andThen_ok, run_shape, hsh, Sem.run_pure]
        rw [liesAt_off hco _ _ _ (by rw [hco, Nat.div_one]; omega)]
       obtain ⟨f1, f2, f3⟩ := freeze_heap w ⟨E.β n, E.σ n + off, none⟩ len h0 hoc
       have hos : ∀ (w : World) (a : Addr) (n : Nat), (w.freeze a n).os = w.os /\ (w.freeze a n).tape = w.tape /\ (w.freeze a n).output = w.output := by
        intro w a n; unfold World.freeze; split <;> exact ⟨rfl, rfl, rfl⟩
       obtain ⟨o1, o2, o3⟩ := hos w ⟨E.β n, E.σ n + off, none⟩ len
       refine ⟨w.freeze ⟨E.β n, E.σ n + off, none⟩ len, ?_, ?_, Sc_string _ _⟩
       ·rw [ren_string]
        rw [hbl] at hlb
        have hbe : (⟨ByteArray.empty.data ++ b.toArray⟩ : ByteArray) = ⟨b.toArray⟩ := by
         apply ByteArray.ext
         apply Array.ext'
         simp [ByteArray.empty, ByteArray.emptyWithCapacity]
         rfl
        rw [hbe] at hlb
        exact hrun _ k len _ h3 h0 hva hlb
       ·refine Post.put (m := n) (b := E.β n) (o' := .cells c e (0, max hi (off + len))) H (Nat.le_refl _) rfl (fun _ _ => ⟨rfl, rfl, rfl⟩) (fun _ _ => rfl) (fun k _ hk => by dsimp only at hk; omega) (.inl hAn) rfl ?_ (fun x hx => Sc_or (hcsc x hx)) ?_ f1 (fun k hk _ => f2 k hk) (by rw [f3]; exact Nat.le_refl _) o1 o2 o3 (.inl ⟨n, _, hg, rfl⟩)
        ·intro k x hk
         rcases getB_setB _ _ _ _ _ hk with ⟨rfl, rfl⟩ | ⟨hne, hgk⟩
         ·exact .inl ⟨rfl, rfl⟩
         ·exact .inr ⟨hne, hgk, fun he => hne (H.inj k n _ _ hgk hg he)⟩
        ·simp only [BlkRel, hrow, if_true]
         refine ⟨cc, _, 1, rfl, hs1, r3, r4, r5, ?_, ?_⟩
         ·intro o ho1 ho2
          have hr6 := r6 o (by omega) ho2
          have hr7 := r7 trivial
          (try dsimp only at hr6 hr7 ⊢)
          by_cases hq : (fzc.1 == fzc.2) = true
          ·rw [if_pos hq]; simp only; omega
          ·rw [if_neg hq]
           have hq : fzc.1 ≠ fzc.2 := by simpa using hq
           simp only
           rcases hr7 with hr7 | hr7
           ·exact absurd hr7 hq
           ·omega
         ·intro _
          have hr7 := r7 trivial
          (try dsimp only at hr7 ⊢)
          by_cases hq : (fzc.1 == fzc.2) = true
          ·rw [if_pos hq]; simp only; right; omega
          ·rw [if_neg hq]
           have hq : fzc.1 ≠ fzc.2 := by simpa using hq
           simp only
           rcases hr7 with hr7 | hr7
           ·exact absurd hr7 hq
           ·right; omega
      ·simp at hb
     ·simp at hb
   ·simp at hb
  ·simp at hb
 ·simp at hb
theorem makeNoZero_sound {S S' : St} (H : Holds P E A S.heap w) (hev : S.next % 2 = 0) {t : TypeId} {ps : Array TypeId} {x v : Value} (hb : amakeNoZero P S t x = some (v, S'))
  (hA : ∀ n, A n -> ¬ (S.next <= n /\ n < S'.next)) :
  ∃ E' w', (Extern.BytealgMakeNoZero.makeNoZero ps #[t] #[ren E x]).run P w = .ok (ren E' v) w' /\ Post P E A S.heap S.next w E' S'.heap S'.next w' /\ Sc (fun n => A n \/ (S.next <= n /\ n < S'.next)) v := by
 unfold amakeNoZero at hb
 split at hb
 ·rename_i m e he
  split at hb
  ·rename_i n hn hs1
   simp only [Option.ite_none_right_eq_some] at hb
   obtain ⟨h1, hb⟩ := hb
   have h1 := Nat.le_of_ble_eq_true h1
   simp only [newRowA, Option.some.injEq, Prod.mk.injEq] at hb
   obtain ⟨rfl, rfl⟩ := hb
   obtain ⟨k, hk, _⟩ := natOf_some (E := E) hn
   simp only [Value.int.injEq] at hk
   obtain ⟨rfl, rfl⟩ := hk
   rw [ren_int]
   obtain ⟨cs, hr, hge, _⟩ := Lib.run_makeNoZero (P := P) w ps t e (elemT_under he) n (by omega)
   refine ⟨E.bind (S.next + 1) w.heap.size 0 cs.size, w.drew.drew.alloc (.cells cs e), ?_, ?_, by rw [Sc_slice]; exact .inr ⟨by dsimp only; omega, by dsimp only; omega⟩⟩
   ·rw [hr]
    simp [ren_slice, Env.addr, Env.bind, isRow_odd hev]
   ·refine Post.new H hA ⟨by omega, by omega⟩ (by intro x hx; simp at hx) ?_ rfl rfl rfl rfl
    simp only [BlkRel, isRow_odd hev, if_true]
    refine ⟨_, (0, 0), 1, rfl, hs1, by simp, by simp [Env.bind], by simp, by simp, by simp⟩
  ·simp at hb
 ·simp at hb
end
section
variable {P : Program} {E : Env} {A : Nat -> Prop} {h h' : List (Nat × Obj)} {nx : Nat} {w w' : World}
theorem Holds.mapAny (H : Holds P E A h w) {n : Nat} {es : Array MapEntry} {clock : Nat} (hg : getB h n = some (.map es clock)) :
  ∃ (esl : Array MapEntry) (c' : Nat), SameKV esl es /\ (loose es clock = false -> esl = es /\ c' = clock) /\ w.heap[E.β n]? = some (.map (esl.map (renEntry E)) c') /\ (∀ x ∈ esl, Sc A x.key /\ Sc A x.val) /\ A n := by
 obtain ⟨ha, hs, oc, hoc, hr⟩ := H.blk n _ hg
 simp only [BlkRel] at hr
 split at hr
 ·rename_i hl
  obtain ⟨esl, c', k1, _, rfl⟩ := hr
  exact ⟨esl, c', k1, (fun h => by rw [hl] at h; cases h), hoc, k1.all (p := fun k v => Sc A k /\ Sc A v) hs, ha⟩
 ·subst hr
  exact ⟨es, clock, List.Perm.refl _, fun _ => ⟨rfl, rfl⟩, hoc, hs, ha⟩
theorem Holds.mapAt (H : Holds P E A h w) {n : Nat} {es : Array MapEntry} {clock : Nat} (hg : getB h n = some (.map es clock)) (hl : loose es clock = false) :
  w.heap[E.β n]? = some (.map (es.map (renEntry E)) clock) /\ (∀ x ∈ es, Sc A x.key /\ Sc A x.val) /\ A n := by
 obtain ⟨esl, c', _, h1, h2, h3, h4⟩ := H.mapAny hg
 obtain ⟨rfl, rfl⟩ := h1 hl
 exact ⟨h2, h3, h4⟩
theorem ba_beq (s t : ByteArray) : (s == t) = true ↔ s = t := by
 cases s with
 | mk a =>
  cases t with
  | mk b =>
   constructor
   ·intro h
    have : (a == b) = true := h
    rw [eq_of_beq this]
   ·intro h
    have : a = b := by injection h
    subst this
    show (a == a) = true
    exact beq_self_eq_true a
def strFind (s : ByteArray) : List MapEntry -> Option Value
 | [] => none
 | e :: r => (match e.key with
  | .string t => if s == t then some e.val else strFind s r
  | _ => strFind s r)
def allStr (l : List MapEntry) : Prop := ∀ e ∈ l, ∃ t, e.key = .string t
theorem findNow_str (s : ByteArray) : ∀ {l : List MapEntry} {j : Nat}, allStr l -> ∃ r, Instr.findNow .string (.string s) l j = some r /\ r.map (·.2) = strFind s l
 | [], j, _ => ⟨none, rfl, rfl⟩
 | e :: r, j, h => by
  obtain ⟨t, ht⟩ := h e (by simp)
  simp only [Instr.findNow, strFind, ht, Instr.sameNow]
  cases hst : s == t with
  | true => exact ⟨some (j, e.val), rfl, by simp⟩
  | false =>
   obtain ⟨r', h1, h2⟩ := findNow_str s (l := r) (j := j + 1) fun e' he' => h e' (List.mem_cons_of_mem _ he')
   exact ⟨r', h1, by simpa using h2⟩
theorem notStr_spec {s : ByteArray} : ∀ {l : List MapEntry}, notStr s l = true -> ∀ e ∈ l, ∃ t, e.key = .string t /\ s ≠ t
 | [], _, e, he => by cases he
 | a :: r, h, e, he => by
  simp only [notStr, Bool.and_eq_true] at h
  rcases List.mem_cons.1 he with rfl | he
  ·have := h.1
   split at this
   ·rename_i t ht
    refine ⟨t, ht, fun e => ?_⟩
    have h2 := (ba_beq s t).2 e
    rw [h2] at this; cases this
   ·cases this
  ·exact notStr_spec h.2 e he
theorem strDistinct_str : ∀ {l : List MapEntry}, strDistinct l = true -> allStr l
 | [], _, e, he => by cases he
 | a :: r, h, e, he => by
  simp only [strDistinct, Bool.and_eq_true] at h
  rcases List.mem_cons.1 he with rfl | he
  ·have := h.1
   split at this
   ·rename_i t ht; exact ⟨t, ht⟩
   ·cases this
  ·exact strDistinct_str h.2 e he
theorem strDistinct_one : ∀ {l : List MapEntry}, strDistinct l = true -> ∀ e ∈ l, ∀ e' ∈ l, e.key = e'.key -> (e.key, e.val) = (e'.key, e'.val)
 | [], _, e, he => by cases he
 | a :: r, h, e, he => by
  intro e' he' hk
  simp only [strDistinct, Bool.and_eq_true] at h
  have ha := h.1
  split at ha
  case h_2 => cases ha
  rename_i s hs
  have cross : ∀ y ∈ r, a.key ≠ y.key := by
   intro y hy hky
   obtain ⟨t, ht, hne⟩ := notStr_spec ha y hy
   rw [hs, ht] at hky
   exact hne (by injection hky)
  rcases List.mem_cons.1 he with h1 | h1 <;> rcases List.mem_cons.1 he' with h2 | h2
  ·rw [h1, h2]
  ·exact absurd (by rw [<- h1]; exact hk) (cross e' h2)
  ·exact absurd (by rw [<- h2]; exact hk.symm) (cross e h1)
  ·exact strDistinct_one h.2 e h1 e' h2 hk
theorem strFind_some {s : ByteArray} {v : Value} : ∀ {l : List MapEntry}, strFind s l = some v -> ∃ e ∈ l, e.key = .string s /\ e.val = v
 | [], h => by cases h
 | a :: r, h => by
  simp only [strFind] at h
  split at h
  ·rename_i t ht
   split at h
   ·rename_i hst
    rw [(ba_beq s t).1 hst]
    exact ⟨a, by simp, ht, Option.some.inj h⟩
   ·obtain ⟨e, h1, h2⟩ := strFind_some h
    exact ⟨e, List.mem_cons_of_mem _ h1, h2⟩
  ·obtain ⟨e, h1, h2⟩ := strFind_some h
   exact ⟨e, List.mem_cons_of_mem _ h1, h2⟩
theorem strFind_none {s : ByteArray} : ∀ {l : List MapEntry}, strFind s l = none -> ∀ e ∈ l, e.key ≠ .string s
 | [], _, e, he => by cases he
 | a :: r, h, e, he => by
  simp only [strFind] at h
  split at h
  ·rename_i t ht
   split at h
   ·cases h
   ·rename_i hst
    rcases List.mem_cons.1 he with rfl | he
    ·rw [ht]; intro hx; injection hx with hx; exact hst ((ba_beq s t).2 hx.symm)
    ·exact strFind_none h e he
  ·rename_i hno
   rcases List.mem_cons.1 he with rfl | he
   ·exact hno s
   ·exact strFind_none h e he
theorem SameKV.mem {es es' : Array MapEntry} (h : SameKV es es') {e : MapEntry} (he : e ∈ es.toList) : ∃ e' ∈ es'.toList, e'.key = e.key /\ e'.val = e.val := by
 have h1 : (e.key, e.val) ∈ es.toList.map fun x => (x.key, x.val) := List.mem_map.2 ⟨e, he, rfl⟩
 obtain ⟨y, hy, e1⟩ := List.mem_map.1 (h.mem_iff.1 h1)
 simp only [Prod.mk.injEq] at e1
 exact ⟨y, hy, e1⟩
theorem SameKV.symm {es es' : Array MapEntry} (h : SameKV es es') : SameKV es' es := List.Perm.symm h
theorem strFind_same {s : ByteArray} {es es' : Array MapEntry} (h : SameKV es es') (hd : strDistinct es'.toList = true) : strFind s es.toList = strFind s es'.toList := by
 cases h1 : strFind s es.toList with
 | none =>
  cases h2 : strFind s es'.toList with
  | none => rfl
  | some v =>
   obtain ⟨e, he, hk, _⟩ := strFind_some h2
   obtain ⟨e', he', hk', _⟩ := h.symm.mem he
   exact absurd (hk'.trans hk) (strFind_none h1 e' he')
 | some v =>
  obtain ⟨e, he, hk, hv⟩ := strFind_some h1
  obtain ⟨e', he', hk', hv'⟩ := h.mem he
  cases h2 : strFind s es'.toList with
  | none => exact absurd (hk'.trans hk) (strFind_none h2 e' he')
  | some v2 =>
   obtain ⟨e2, he2, hk2, hv2⟩ := strFind_some h2
   have := strDistinct_one hd e' he' e2 he2 (by rw [hk', hk, hk2])
   simp only [Prod.mk.injEq] at this
   rw [<- hv, <- hv', this.2, hv2]
theorem allStr_same {es es' : Array MapEntry} (h : SameKV es es') (hd : allStr es'.toList) : allStr es.toList := by
 intro e he
 obtain ⟨e', he', hk, _⟩ := h.mem he
 obtain ⟨t, ht⟩ := hd e' he'
 exact ⟨t, by rw [<- hk, ht]⟩
theorem checkKey_str {k : TypeId} (hk : P.underlying k = some .string) (b : Bool) (s : ByteArray) : purely P (Instr.checkKey b 10000 k (.string s)) = some () := by
 unfold Instr.checkKey
 rw [purely_bind, purely_underlying, hk]
 rfl
theorem findKey_str {k : TypeId} (hk : P.underlying k = some .string) (s : ByteArray) {l : List MapEntry} (h : allStr l) : ∃ r, purely P (Instr.findKey k (.string s) l) = some r /\ r.map (·.2) = strFind s l := by
 obtain ⟨r, h1, h2⟩ := findNow_str s (j := 0) h
 refine ⟨r, ?_, h2⟩
 unfold Instr.findKey
 rw [purely_bind, purely_underlying, hk]
 simp only [Option.bind_some, h1]
 rfl
theorem afind_same {k : TypeId} {i : Value} {es esl : Array MapEntry} {clock : Nat} (h : SameKV esl es) (hx : loose es clock = false -> esl = es) (ho : askOk P k i es clock = true) {r : Option (Nat × Value)} (hf : afind P k i es = some r) :
  ∃ r', purely P (Instr.checkKey esl.isEmpty 10000 k i) = some () /\ purely P (Instr.findKey k i esl.toList) = some r' /\ r'.map (·.2) = r.map (·.2) := by
 unfold askOk at ho
 simp only [Bool.or_eq_true, Bool.and_eq_true, Bool.not_eq_true'] at ho
 rcases ho with ho | ⟨⟨h1, h2⟩, h3⟩
 ·obtain rfl := hx ho
  unfold afind at hf
  rw [purely_bind] at hf
  cases hc : purely P (Instr.checkKey esl.isEmpty 10000 k i) with
  | none => simp [hc] at hf
  | some u => simp only [hc, Option.bind_some] at hf; exact ⟨r, rfl, hf, rfl⟩
 ·unfold isStrT at h1
  split at h1
  case h_2 => cases h1
  rename_i hk
  unfold isStrV at h2
  split at h2
  case h_2 => cases h2
  rename_i s
  have hd := strDistinct_str h3
  obtain ⟨r1, q1, q2⟩ := findKey_str (P := P) hk s hd
  obtain ⟨r2, q3, q4⟩ := findKey_str (P := P) hk s (allStr_same h hd)
  unfold afind at hf
  rw [purely_bind, checkKey_str hk, Option.bind_some, q1] at hf
  obtain rfl := Option.some.inj hf
  exact ⟨r2, checkKey_str hk _ _, q3, by rw [q4, q2, strFind_same h h3]⟩
theorem keysPlain_of : ∀ {l : List MapEntry}, (∀ e ∈ l, plain2 e.key = true) -> keysPlain l = true
 | [], _ => rfl
 | a :: r, h => by
  simp only [keysPlain, Bool.and_eq_true]
  exact ⟨h a (by simp), keysPlain_of fun e he => h e (List.mem_cons_of_mem _ he)⟩
theorem keysPlain_same {es esl : Array MapEntry} (h : SameKV esl es) (hk : ∀ e ∈ es.toList, plain2 e.key = true) : keysPlain esl.toList = true :=
 keysPlain_of fun e he => by
  obtain ⟨e', he', k, _⟩ := h.mem he
  rw [<- k]; exact hk e' he'
theorem run_getObj_map {r : Nat} {es : Array MapEntry} {clock : Nat} (hg : w.heap[r]? = some (.map es clock)) : (getObj r).run P w = .ok (.map es clock) w := by
 simp [getObj, Sem.run, hg]
theorem run_setObj_map {r : Nat} {es es' : Array MapEntry} {clock clock' : Nat} (hg : w.heap[r]? = some (.map es clock)) : (setObj r (.map es' clock')).run P w = .ok () { w with heap := w.heap.setIfInBounds r (.map es' clock') } := by
 simp [setObj, Sem.run, hg]
theorem keysPlain_mem : ∀ {l : List MapEntry}, keysPlain l = true -> ∀ e ∈ l, plain2 e.key = true
 | [], _ => by simp
 | a :: r, h => by
  simp [keysPlain] at h
  intro e he
  rcases List.mem_cons.1 he with rfl | he
  ·exact h.1
  ·exact keysPlain_mem h.2 e he
theorem findNow_ren (E : Env) (kind : TypeDesc) (k : Value) : ∀ (l : List MapEntry) (i : Nat), keysPlain l = true ->
  Instr.findNow kind k (l.map (renEntry E)) i = (Instr.findNow kind k l i).map (fun o => o.map fun x => (x.1, ren E x.2))
 | [], i, _ => rfl
 | e :: l, i, h => by
  simp [keysPlain] at h
  simp only [List.map_cons, Instr.findNow, renEntry, plain2_ren E h.1]
  cases hs : Instr.sameNow kind k e.key with
  | none => rfl
  | some b => cases b with
   | true => rfl
   | false => exact findNow_ren E kind k l (i + 1) h.2
theorem findAsking_ren (E : Env) (kt : TypeId) (k : Value) : ∀ (l : List MapEntry) (i : Nat), keysPlain l = true ->
  purely P (Instr.findAsking kt k (l.map (renEntry E)) i) = (purely P (Instr.findAsking kt k l i)).map (fun o => o.map fun x => (x.1, ren E x.2))
 | [], i, _ => rfl
 | e :: l, i, h => by
  simp [keysPlain] at h
  simp only [List.map_cons, Instr.findAsking, renEntry, plain2_ren E h.1, purely_bind]
  cases hq : purely P (Op.equal kt k e.key) with
  | none => rfl
  | some b =>
   simp only [Option.bind_some, purely_ite]
   cases b with
   | true => rfl
   | false => exact findAsking_ren E kt k l (i + 1) h.2
theorem findKey_ren (E : Env) (kt : TypeId) (k : Value) (l : List MapEntry) (h : keysPlain l = true) :
  purely P (Instr.findKey kt k (l.map (renEntry E))) = (purely P (Instr.findKey kt k l)).map (fun o => o.map fun x => (x.1, ren E x.2)) := by
 unfold Instr.findKey
 simp only [purely_bind, purely_underlying]
 cases P.underlying kt with
 | none => rfl
 | some d =>
  simp only [Option.bind_some, findNow_ren E d k l 0 h]
  cases hf : Instr.findNow d k l 0 with
  | none => exact findAsking_ren E kt k l 0 h
  | some r => rfl
theorem findNow_mem (kind : TypeDesc) (k : Value) : ∀ (l : List MapEntry) (i j : Nat) (v : Value), Instr.findNow kind k l i = some (some (j, v)) -> ∃ e ∈ l, e.val = v
 | [], i, j, v, h => by simp [Instr.findNow] at h
 | e :: l, i, j, v, h => by
  simp only [Instr.findNow] at h
  split at h
  ·simp at h; exact ⟨e, List.mem_cons_self .., h.2⟩
  ·obtain ⟨e', h1, h2⟩ := findNow_mem kind k l (i + 1) j v h; exact ⟨e', List.mem_cons_of_mem _ h1, h2⟩
  ·simp at h
theorem findAsking_mem (kt : TypeId) (k : Value) : ∀ (l : List MapEntry) (i j : Nat) (v : Value), purely P (Instr.findAsking kt k l i) = some (some (j, v)) -> ∃ e ∈ l, e.val = v
 | [], i, j, v, h => by simp [Instr.findAsking, purely_pure] at h
 | e :: l, i, j, v, h => by
  simp only [Instr.findAsking, purely_bind] at h
  cases hq : purely P (Op.equal kt k e.key) with
  | none => simp [hq] at h
  | some b =>
   simp only [hq, Option.bind_some, purely_ite] at h
   cases b with
   | true => simp [purely_pure] at h; exact ⟨e, List.mem_cons_self .., h.2⟩
   | false => obtain ⟨e', h1, h2⟩ := findAsking_mem kt k l (i + 1) j v (by simpa using h); exact ⟨e', List.mem_cons_of_mem _ h1, h2⟩
theorem findKey_mem (kt : TypeId) (k : Value) (l : List MapEntry) (j : Nat) (v : Value) (h : purely P (Instr.findKey kt k l) = some (some (j, v))) : ∃ e ∈ l, e.val = v := by
 unfold Instr.findKey at h
 simp only [purely_bind, purely_underlying] at h
 cases hu : P.underlying kt with
 | none => simp [hu] at h
 | some d =>
  simp only [hu, Option.bind_some] at h
  cases hf : Instr.findNow d k l 0 with
  | none => rw [hf] at h; exact findAsking_mem kt k l 0 j v h
  | some r => rw [hf] at h; simp [purely_pure] at h; subst h; exact findNow_mem d k l 0 j v hf
theorem lookup_sound (H : Holds P E A h w) {t : TypeId} {x i v : Value} {ok : Bool} (hb : alookup P h t x i ok = some v) :
  (Instr.lookup t (ren E x) (ren E i) ok).run P w = .ok (ren E v) w /\ Sc A v := by
 unfold alookup at hb
 split at hb
 ·rename_i k e hu
  split at hb
  ·rename_i hpi
   rw [plain2_ren E hpi]
   have hzr : ∀ z, zeroT P e = some z -> plain2 z = true -> ∀ w : World, (zeroValue e).run P w = .ok (ren E z) w := by
    intro z hz hp w; rw [plain2_ren E hp]; exact run_zeroT hz w
   have hfin : ∀ (y : Value) (b : Bool), Sc A y -> ren E (if ok = true then .tuple #[y, .bool b] else y) = (if ok = true then .tuple #[ren E y, .bool b] else ren E y) /\ Sc A (if ok = true then .tuple #[y, .bool b] else y) := by
    intro y b hy
    cases ok with
    | true =>
     simp only [if_true]
     rw [ren_tuple, Sc_tuple]
     refine ⟨by simp [ren_bool], ?_⟩
     intro x hx
     simp at hx
     rcases hx with rfl | rfl
     ·exact hy
     ·exact Sc_bool _ _
    | false => exact ⟨rfl, hy⟩
   split at hb
   ·split at hb
    ·rename_i z hz
     simp only [Option.ite_none_right_eq_some] at hb
     obtain ⟨hp, hb⟩ := hb
     split at hb
     ·rename_i u hck
      simp only [Option.some.injEq] at hb; subst hb
      obtain ⟨f1, f2⟩ := hfin z false (plain2_Sc A hp)
      refine ⟨?_, f2⟩
      rw [f1, ren_nilmap]
      have hfk : purely P (Instr.findKey k i []) = purely P (Instr.findKey k i []) := rfl
      simp only [Instr.lookup, Sem.run_bind, run_underlying hu, Result.andThen_ok, Sem.run_pure]
      rw [show (#[] : Array MapEntry).isEmpty = true from rfl, run_purely hck]
      have hk0 : (Instr.findKey k i ([] : List MapEntry)).run P w = .ok none w := by
       unfold Instr.findKey
       have hk := hck
       unfold Instr.checkKey at hk
       rw [purely_bind, purely_underlying] at hk
       cases hku : P.underlying k with
       | none => simp [hku] at hk
       | some d => simp only [Sem.run_bind, run_underlying hku, Result.andThen_ok, Instr.findNow, Sem.run_pure]
      simp only [Result.andThen_ok, hk0, Sem.run_bind, hzr z hz hp, Sem.run_pure]
     ·simp at hb
    ·simp at hb
   ·rename_i n
    rw [ren_map]
    split at hb
    ·rename_i es clock hg
     obtain ⟨esl, c', k1, k2, m1, m2, _⟩ := H.mapAny hg
     simp only [Option.ite_none_left_eq_some, Option.ite_none_right_eq_some, Bool.not_eq_false] at hb
     obtain ⟨hask, hkp, hb⟩ := hb
     have hkl := keysPlain_same k1 (keysPlain_mem hkp)
     have hfr := findKey_ren (P := P) E k i esl.toList hkl
     have hlist : (esl.map (renEntry E)).toList = esl.toList.map (renEntry E) := by simp
     have hemp : (esl.map (renEntry E)).isEmpty = esl.isEmpty := by simp [Array.isEmpty]
     split at hb
     ·rename_i j y hf
      obtain ⟨r', c1, c2, c3⟩ := afind_same k1 (fun hl => (k2 hl).1) hask hf
      obtain ⟨j', rfl⟩ : ∃ j', r' = some (j', y) := by
       cases r' with
       | none => simp at c3
       | some x => obtain ⟨j', y'⟩ := x; simp at c3; subst c3; exact ⟨j', rfl⟩
      simp only [Option.some.injEq] at hb; subst hb
      obtain ⟨e', he1, he2⟩ := findKey_mem (P := P) _ _ _ _ _ c2
      have hy : Sc A y := by rw [<- he2]; exact (m2 e' (by simpa using he1)).2
      obtain ⟨f1, f2⟩ := hfin y true hy
      refine ⟨?_, f2⟩
      rw [f1]
      rw [c2] at hfr
      simp only [Instr.lookup, Sem.run_bind, run_underlying hu, Result.andThen_ok, run_getObj_map m1, Sem.run_pure, hemp, run_purely c1, hlist, run_purely hfr, Option.map_some]
     ·rename_i hf
      obtain ⟨r', c1, c2, c3⟩ := afind_same k1 (fun hl => (k2 hl).1) hask hf
      obtain rfl : r' = none := by
       cases r' with
       | none => rfl
       | some x => simp at c3
      split at hb
      ·rename_i z hz
       simp only [Option.ite_none_right_eq_some, Option.some.injEq] at hb
       obtain ⟨hp, rfl⟩ := hb
       obtain ⟨f1, f2⟩ := hfin z false (plain2_Sc A hp)
       refine ⟨?_, f2⟩
       rw [f1]
       rw [c2] at hfr
       simp only [Instr.lookup, Sem.run_bind, run_underlying hu, Result.andThen_ok, run_getObj_map m1, Sem.run_pure, hemp, run_purely c1, hlist, run_purely hfr, Option.map_none, hzr z hz hp]
      ·simp at hb
     ·simp at hb
    ·simp at hb
   ·simp at hb
  ·simp at hb
 ·simp at hb
theorem modL_modify (k v : Value) : ∀ (l : List MapEntry) (j : Nat), modL l j k v = l.modify j fun e => { e with key := k, val := v }
 | [], j => by cases j <;> rfl
 | e :: r, 0 => by simp [modL, List.modify]
 | e :: r, n + 1 => by simp [modL, modL_modify k v r n]
theorem keyAt_get : ∀ (l : List MapEntry) (j : Nat), (((l[j]?).map (·.key)).getD undef) = keyAt l j
 | [], j => by cases j <;> rfl
 | e :: r, 0 => rfl
 | e :: r, n + 1 => by simpa [keyAt] using keyAt_get r n
theorem blt_false' (a b : Nat) : Nat.blt a b = false ↔ b <= a := by
 rw [<- Bool.not_eq_true]
 constructor
 ·intro h
  exact Nat.le_of_not_lt fun hlt => h (Nat.ble_eq_true_of_le hlt)
 ·intro h hlt
  have := Nat.le_of_ble_eq_true hlt
  omega
theorem modL_length : ∀ (l : List MapEntry) (j : Nat) (k v : Value), (modL l j k v).length = l.length
 | [], j, _, _ => by cases j <;> rfl
 | e :: r, 0, _, _ => rfl
 | e :: r, n + 1, k, v => by simp [modL, modL_length r n k v]
theorem mapUpdate_sound {S S' : St} (H : Holds P E A S.heap w) {t : TypeId} {m i v : Value} (hb : amapUpdate P S t m i v = some S') (hsc : Sc A v) :
  ∃ w', (Instr.mapUpdate t (ren E m) (ren E i) (ren E v)).run P w = .ok () w' /\ Post P E A S.heap S.next w E S'.heap S'.next w' := by
 unfold amapUpdate at hb
 split at hb
 ·rename_i k e hu
  split at hb
  ·rename_i hpi
   rw [plain2_ren E hpi]
   split at hb
   ·rename_i n
    rw [ren_map]
    split at hb
    ·rename_i es clock hg
     simp only [Option.ite_none_left_eq_some, Option.ite_none_right_eq_some, Bool.not_eq_true] at hb
     obtain ⟨hloose, hkp, hb⟩ := hb
     obtain ⟨m1, m2, mA⟩ := H.mapAt hg hloose
     have hsz := (blt_false' clock es.size).1 hloose
     have hfr := findKey_ren (P := P) E k i es.toList hkp
     have hck : ∀ r, purely P (do Instr.checkKey false 10000 k i; Instr.findKey k i es.toList) = some r -> purely P (Instr.checkKey false 10000 k i) = some () /\ purely P (Instr.findKey k i es.toList) = some r := by
      intro r hr
      rw [purely_bind] at hr
      cases hc : purely P (Instr.checkKey false 10000 k i) with
      | none => simp [hc] at hr
      | some u => simp only [hc, Option.bind_some] at hr; exact ⟨rfl, hr⟩
     have hlist : (es.map (renEntry E)).toList = es.toList.map (renEntry E) := by simp
     have hlt : E.β n < w.heap.size := (Array.getElem?_eq_some_iff.1 m1).1
     have hpost : ∀ (es' : Array MapEntry) (clock' : Nat), (∀ x ∈ es', Sc A x.key /\ Sc A x.val) -> loose es' clock' = false ->
       Post P E A S.heap S.next w E (setB S.heap n (.map es' clock')) S.next { w with heap := w.heap.setIfInBounds (E.β n) (.map (es'.map (renEntry E)) clock') } := by
      intro es' clock' hes hl'
      refine Post.put (m := n) (b := E.β n) (o' := .map es' clock') (oc' := .map (es'.map (renEntry E)) clock') H (Nat.le_refl _) rfl (fun _ _ => ⟨rfl, rfl, rfl⟩) (fun _ _ => rfl) (fun k _ hk => by omega) (.inl mA) rfl ?_
       (fun x hx => ⟨Sc_or (hes x hx).1, Sc_or (hes x hx).2⟩) (by simp only [BlkRel, hl']; simp) ?_ ?_ (by simp) rfl rfl rfl (.inl ⟨n, _, hg, rfl⟩)
      ·intro k x hk
       rcases getB_setB _ _ _ _ _ hk with ⟨rfl, rfl⟩ | ⟨hne, hgk⟩
       ·exact .inl ⟨rfl, rfl⟩
       ·exact .inr ⟨hne, hgk, fun he => hne (H.inj k n _ _ hgk hg he)⟩
      ·simp [hlt]
      ·intro j hj _
       simp [Ne.symm hj]
     split at hb
     ·rename_i j y hf
      obtain ⟨c1, c2⟩ := hck _ hf
      simp only [Option.ite_none_right_eq_some, Option.some.injEq, Bool.and_eq_true] at hb
      obtain ⟨⟨hsame, hjlt⟩, rfl⟩ := hb
      have hjlt : j < es.size := Nat.le_of_ble_eq_true hjlt
      have hes' : ∀ x ∈ (modL es.toList j i v).toArray, Sc A x.key /\ Sc A x.val := by
       intro x hx
       have hx : x ∈ modL es.toList j i v := by simpa using hx
       have key : ∀ (l : List MapEntry) (j : Nat), x ∈ modL l j i v -> x ∈ l \/ (Sc A x.key /\ Sc A x.val) := by
        intro l
        induction l with
        | nil => intro j h; cases j <;> simp [modL] at h
        | cons a r ih =>
         intro j h
         cases j with
         | zero =>
          simp only [modL, List.mem_cons] at h
          rcases h with rfl | h
          ·exact .inr ⟨plain2_Sc A hpi, hsc⟩
          ·exact .inl (List.mem_cons_of_mem _ h)
         | succ j =>
          simp only [modL, List.mem_cons] at h
          rcases h with rfl | h
          ·exact .inl (List.mem_cons_self ..)
          ·exact (ih j h).imp (List.mem_cons_of_mem _) id
       rcases key _ _ hx with h | h
       ·exact m2 x (by simpa using h)
       ·exact h
      refine ⟨_, ?_, hpost _ clock hes' ((blt_false' _ _).2 (by simp [modL_length]; exact hsz))⟩
      rw [c2] at hfr
      have hold : keyAt es.toList j = (((es.map (renEntry E))[j]?).map (·.key)).getD i := by
       have hj : ∃ e', es.toList[j]? = some e' := ⟨es[j], by simp [hjlt]⟩
       obtain ⟨e', he'⟩ := hj
       rw [<- keyAt_get, he']
       have hpk := keysPlain_mem hkp e' (List.mem_of_getElem? he')
       have : es[j]? = some e' := by simpa using he'
       simp [this, renEntry, plain2_ren E hpk]
      simp only [Instr.mapUpdate, Sem.run_bind, run_underlying hu, Result.andThen_ok, run_getObj_map m1, run_purely c1, hlist, run_purely hfr, Option.map_some]
      rw [<- hold]
      simp only [Instr.keyThatStays, hsame, if_true, Sem.run_pure, Result.andThen_ok, run_setObj_map m1]
      congr 3
      apply congrArg (fun x => Obj.map x clock)
      apply Array.ext'
      apply List.ext_getElem?
      intro q
      simp only [Array.toList_map, List.getElem?_map, modL_modify]
      rw [Array.getElem?_toList, Array.getElem?_modify, List.getElem?_modify]
      by_cases hq : j = q
      ·subst hq
       simp
       cases es[j]? with
       | none => rfl
       | some x => simp [renEntry, plain2_ren E hpi]
      ·simp [hq]
     ·rename_i hf
      obtain ⟨c1, c2⟩ := hck _ hf
      simp only [Option.some.injEq] at hb
      subst hb
      refine ⟨_, ?_, hpost (es.push { key := i, val := v, born := clock }) (clock + 1) ?_ ((blt_false' _ _).2 (by simp; exact hsz))⟩
      ·rw [c2] at hfr
       simp only [Instr.mapUpdate, Sem.run_bind, run_underlying hu, Result.andThen_ok, run_getObj_map m1, run_purely c1, hlist, run_purely hfr, Option.map_none, run_setObj_map m1]
       simp [Array.map_push, renEntry, plain2_ren E hpi]
      ·intro x hx
       rcases Array.mem_push.1 hx with hx | rfl
       ·exact m2 x hx
       ·exact ⟨plain2_Sc A hpi, hsc⟩
     ·simp at hb
    ·simp at hb
   ·simp at hb
  ·simp at hb
 ·simp at hb
theorem run_getObj_any {r : Nat} {o : Obj} (hg : w.heap[r]? = some o) (hc : ∀ c e f, o ≠ .cells c e f) : (getObj r).run P w = .ok o w := by
 cases o <;> first | (simp only [getObj, Sem.run, hg]; done) | exact absurd rfl (hc _ _ _)
theorem run_setObj_any {r : Nat} {o o' : Obj} (hg : w.heap[r]? = some o) (hc : ∀ c e f, o ≠ .cells c e f) : (setObj r o').run P w = .ok () { w with heap := w.heap.setIfInBounds r o' } := by
 cases o <;> first | (simp only [setObj, Sem.run, hg]; done) | exact absurd rfl (hc _ _ _)
theorem Post.turnAt {n : Nat} {o o' oc' : Obj} (H : Holds P E A h w) (hg : getB h n = some o) (hA : ∀ k, A k -> ¬ (nx <= k /\ k < nx)) (hsc : ScObj A o') (hr : BlkRel P E n o' oc') :
  Post P E A h nx w E (setB h n o') nx { w with heap := w.heap.setIfInBounds (E.β n) oc' } := by
 obtain ⟨ha, _, oc, hoc, _⟩ := H.blk n o hg
 have hlt : E.β n < w.heap.size := (Array.getElem?_eq_some_iff.1 hoc).1
 refine Post.put (m := n) (b := E.β n) (o' := o') (oc' := oc') H (Nat.le_refl _) rfl (fun _ _ => ⟨rfl, rfl, rfl⟩) (fun _ _ => rfl) hA (.inl ha) rfl ?_ (ScObj_mono (fun _ hn => Or.inl hn) o' hsc) hr (by simp [hlt]) ?_ (by simp) rfl rfl rfl (.inl ⟨n, _, hg, rfl⟩)
 ·intro k x hk
  rcases getB_setB _ _ _ _ _ hk with ⟨rfl, rfl⟩ | ⟨hne, hgk⟩
  ·exact .inl ⟨rfl, rfl⟩
  ·exact .inr ⟨hne, hgk, fun he => hne (H.inj k n _ _ hgk hg he)⟩
 ·intro j hj _
  simp [Ne.symm hj]
theorem left_ren (E : Env) (es : Array MapEntry) (seen : Array Nat) : (es.map (renEntry E)).filter (fun e => !seen.contains e.born) = ((leftA es.toList seen.toList).map (renEntry E)).toArray := by
 apply Array.ext'
 simp only [Array.toList_filter, Array.toList_map, leftA, List.filter_map]
 congr 1
 apply List.filter_congr
 intro x _
 simp [renEntry, Function.comp]
theorem leftA_mem {es : List MapEntry} {seen : List Nat} {l : List MapEntry} (hl : leftA es seen = l) : ∀ e ∈ l, e ∈ es := by
 intro e he
 subst hl
 exact (List.mem_filter.1 he).1
theorem range_sound {S S' : St} (H : Holds P E A S.heap w) {t : TypeId} {x v : Value} (hb : arange P S t x = some (v, S')) (hA : ∀ n, A n -> ¬ (S.next <= n /\ n < S'.next)) :
  ∃ E' w', (Instr.range t (ren E x)).run P w = .ok (ren E' v) w' /\ Post P E A S.heap S.next w E' S'.heap S'.next w' /\ Sc (fun n => A n \/ (S.next <= n /\ n < S'.next)) v := by
 have fin : ∀ (o oc : Obj), ScObj A o -> (∀ E' : Env, Agree A E E' -> E'.σ S.next = 0 -> BlkRel P E' S.next o oc) -> (newExact S o) = (S.next, S') -> v = .pointer (some ⟨S.next, 0, none⟩) ->
   (Instr.range t (ren E x)).run P w = .ok (.pointer (some ⟨w.heap.size, 0, none⟩)) (w.alloc oc) ->
   ∃ E' w', (Instr.range t (ren E x)).run P w = .ok (ren E' v) w' /\ Post P E A S.heap S.next w E' S'.heap S'.next w' /\ Sc (fun n => A n \/ (S.next <= n /\ n < S'.next)) v := by
  intro o oc hs hrel hn hv hrun
  simp only [newExact, Prod.mk.injEq, true_and] at hn
  subst hn hv
  have hag : Agree A E (E.bind S.next w.heap.size 0 0) := by
   intro n hn
   have : n ≠ S.next := by rintro rfl; exact hA _ hn ⟨Nat.le_refl _, by simp⟩
   simp [Env.bind, this]
  refine ⟨E.bind S.next w.heap.size 0 0, w.alloc oc, ?_, ?_, by rw [Sc_ptr]; exact .inr ⟨Nat.le_refl _, by simp⟩⟩
  ·rw [hrun, ren_ptr]; simp [Env.addr, Env.bind]
  ·exact Post.new H hA ⟨Nat.le_refl _, by omega⟩ hs (hrel _ hag (by simp [Env.bind])) rfl rfl rfl rfl
 unfold arange at hb
 split at hb
 ·rename_i s hu
  simp only [newExact, Option.some.injEq, Prod.mk.injEq] at hb
  obtain ⟨rfl, rfl⟩ := hb
  refine fin (.stringIter s 0) (.stringIter s 0) trivial (fun _ _ h0 => ⟨h0, rfl⟩) rfl rfl ?_
  rw [ren_string]
  simp [Instr.range, run_underlying hu]
 ·rename_i hu
  simp only [newExact, Option.some.injEq, Prod.mk.injEq] at hb
  obtain ⟨rfl, rfl⟩ := hb
  refine fin (.mapIter none 0 #[] 0) (.mapIter none 0 #[] 0) (by intro n hn; cases hn) (fun _ _ h0 => ⟨h0, rfl⟩) rfl rfl ?_
  rw [ren_nilmap]
  simp [Instr.range, run_underlying hu]
 ·rename_i n hu
  split at hb
  ·rename_i es clock hg
   simp only [newExact, Option.ite_none_left_eq_some, Option.some.injEq, Prod.mk.injEq, Bool.not_eq_true] at hb
   obtain ⟨hloose, rfl, rfl⟩ := hb
   obtain ⟨m1, _, mA⟩ := H.mapAt hg hloose
   refine fin (.mapIter (some n) clock #[] clock) (.mapIter (some (E.β n)) clock #[] clock) (by intro k hk; obtain rfl := Option.some.inj hk; exact mA) (fun E' hag h0 => ⟨h0, by simp [(hag n mA).1]⟩) rfl rfl ?_
   rw [ren_map]
   simp [Instr.range, run_underlying hu, run_getObj_any m1 (by simp)]
  ·simp at hb
 ·simp at hb
theorem next_sound {S S' : St} (H : Holds P E A S.heap w) {it v : Value} {b : Bool} {ty : TypeId} (hb : anext S it b = some (v, S')) (hA : ∀ k, A k -> ¬ (S.next <= k /\ k < S.next)) :
  ∃ w', (Instr.next (ren E it) b ty).run P w = .ok (ren E v) w' /\ Post P E A S.heap S.next w E S'.heap S'.next w' /\ Sc A v := by
 have over : ren E (.tuple #[.bool false]) = .tuple #[.bool false] /\ Sc A (.tuple #[.bool false]) := by
  refine ⟨by rw [ren_tuple]; simp [ren_bool], by rw [Sc_tuple]; intro x hx; simp at hx; subst hx; exact Sc_bool _ _⟩
 unfold anext at hb
 split at hb
 case h_2 => simp at hb
 rename_i r
 split at hb
 ·
  rename_i s pos hg
  obtain ⟨_, _, oc, hoc, hr⟩ := H.blk r _ hg
  obtain ⟨h0, rfl⟩ := hr
  have hp : ren E (.pointer (some ⟨r, 0, none⟩)) = .pointer (some ⟨E.β r, 0, none⟩) := by rw [ren_ptr]; simp [Env.addr, h0]
  rw [hp]
  split at hb
  ·rename_i hlt
   have hlt : pos < s.size := Nat.le_of_ble_eq_true hlt
   simp only [Option.some.injEq, Prod.mk.injEq] at hb
   obtain ⟨rfl, rfl⟩ := hb
   refine ⟨_, ?_, Post.turnAt H hg hA trivial ⟨h0, rfl⟩, ?_⟩
   ·rw [ren_tuple]
    simp [Instr.next, run_getObj_any hoc (by simp), run_setObj_any hoc (by simp), hlt, ren_bool, goInt, ren_int]
   ·rw [Sc_tuple]; intro x hx; simp [goInt] at hx
    rcases hx with rfl | rfl | rfl
    ·exact Sc_bool _ _
    ·exact Sc_int _ _ _
    ·exact Sc_int _ _ _
  ·rename_i hlt
   have hlt : ¬ pos < s.size := fun h => hlt (Nat.ble_eq_true_of_le h)
   simp only [Option.some.injEq, Prod.mk.injEq] at hb
   obtain ⟨rfl, rfl⟩ := hb
   refine ⟨w, ?_, Post.refl H, over.2⟩
   rw [over.1]
   simp [Instr.next, run_getObj_any hoc (by simp), hlt]
 ·
  rename_i x1 x2 x3 hg
  obtain ⟨_, _, oc, hoc, hr⟩ := H.blk r _ hg
  obtain ⟨h0, rfl⟩ := hr
  have hp : ren E (.pointer (some ⟨r, 0, none⟩)) = .pointer (some ⟨E.β r, 0, none⟩) := by rw [ren_ptr]; simp [Env.addr, h0]
  simp only [Option.some.injEq, Prod.mk.injEq] at hb
  obtain ⟨rfl, rfl⟩ := hb
  refine ⟨w, ?_, Post.refl H, over.2⟩
  rw [hp, over.1]
  simp [Instr.next, run_getObj_any hoc (by simp)]
 ·
  rename_i m since seen last hg
  obtain ⟨_, hsc, oc, hoc, hr⟩ := H.blk r _ hg
  obtain ⟨h0, rfl⟩ := hr
  have hp : ren E (.pointer (some ⟨r, 0, none⟩)) = .pointer (some ⟨E.β r, 0, none⟩) := by rw [ren_ptr]; simp [Env.addr, h0]
  rw [hp]
  split at hb
  case h_2 => simp at hb
  rename_i es clock hgm
  split at hb
  ·simp at hb
  rename_i hloose
  obtain ⟨m1, m2, mA⟩ := H.mapAt hgm (by simpa using hloose)
  split at hb
  ·simp at hb
  rename_i hcond
  have hcond' : (!seen.isEmpty && !(es.map (renEntry E)).isEmpty && (es.map (renEntry E)).all (fun e => decide (e.born ≥ last))) = false := by
   have he : (es.map (renEntry E)).isEmpty = es.isEmpty := by simp [Array.isEmpty]
   have ha : (es.map (renEntry E)).all (fun e => decide (e.born ≥ last)) = es.all (fun e => decide (e.born ≥ last)) := by
    rw [Array.all_map]; rfl
   rw [he, ha]
   simpa using hcond
  have hl := left_ren E es seen
  split at hb
  ·rename_i hl0
   simp only [Option.some.injEq, Prod.mk.injEq] at hb
   obtain ⟨rfl, rfl⟩ := hb
   rw [hl0] at hl
   refine ⟨w, ?_, Post.refl H, over.2⟩
   rw [over.1]
   simp only [Option.map_some] at hoc
   simp only [Instr.next, Sem.run_bind, run_getObj_any hoc (by simp), run_getObj_any m1 (by simp), Result.andThen_ok, hcond', hl]
   simp [choose, Sem.run, Question.forced]
  ·rename_i e hl1
   simp only [Option.ite_none_right_eq_some, Option.some.injEq, Prod.mk.injEq] at hb
   obtain ⟨hlt, rfl, rfl⟩ := hb
   have hlt : e.born < since := Nat.le_of_ble_eq_true hlt
   have he : e ∈ es := by simpa using leftA_mem hl1 e (by simp)
   rw [hl1] at hl
   simp only [Option.map_some] at hoc
   refine ⟨_, ?_, Post.turnAt (o' := .mapIter (some m) since (seen.push e.born) clock) H hg hA hsc ⟨h0, rfl⟩, ?_⟩
   ·rw [ren_tuple]
    simp only [Instr.next, Sem.run_bind, run_getObj_any hoc (by simp), run_getObj_any m1 (by simp), Result.andThen_ok, hcond', hl]
    simp [choose, Sem.run, Question.forced, renEntry, hlt, ren_bool]
    rw [run_setObj_any hoc (by simp)]
    rfl
   ·rw [Sc_tuple]; intro x hx; simp at hx
    rcases hx with rfl | rfl | rfl
    ·exact Sc_bool _ _
    ·exact (m2 e he).1
    ·exact (m2 e he).2
  ·simp at hb
 ·simp at hb
theorem findBorn_ren (E : Env) (b : Nat) : ∀ (l : List MapEntry), (l.map (renEntry E)).find? (fun x => x.born == b) = (findBorn b l).map (renEntry E)
 | [] => rfl
 | e :: r => by
  simp only [List.map_cons, List.find?_cons, findBorn, renEntry]
  by_cases h : e.born = b
  ·simp [h, renEntry]
  ·have : (e.born == b) = false := by simpa using h
   rw [this]
   simp only [Nat.beq_eq, h, if_false]
   exact findBorn_ren E b r
theorem findBorn_mem {b : Nat} : ∀ {l : List MapEntry} {e : MapEntry}, findBorn b l = some e -> e ∈ l
 | [], _, h => by simp [findBorn] at h
 | a :: r, e, h => by
  simp only [findBorn] at h
  split at h
  ·rw [Option.some.inj h]; simp
  ·exact List.mem_cons_of_mem _ (findBorn_mem h)
theorem lastL_get : ∀ (l : List Nat), lastL l = l.getLast?
 | [] => rfl
 | [x] => rfl
 | x :: y :: r => by
  show lastL (y :: r) = _
  rw [lastL_get (y :: r)]; simp
theorem entry_sound {S : St} (H : Holds P E A S.heap w) {it v : Value} (hb : aentry S it = some v) :
  (Instr.entry (ren E it)).run P w = .ok (ren E v) w /\ Sc A v := by
 unfold aentry at hb
 split at hb
 case h_2 => simp at hb
 rename_i r
 split at hb
 case h_2 => simp at hb
 rename_i m since seen last hg
 obtain ⟨_, hsc, oc, hoc, hr⟩ := H.blk r _ hg
 obtain ⟨h0, rfl⟩ := hr
 have hp : ren E (.pointer (some ⟨r, 0, none⟩)) = .pointer (some ⟨E.β r, 0, none⟩) := by rw [ren_ptr]; simp [Env.addr, h0]
 rw [hp]
 split at hb
 case h_2 => simp at hb
 rename_i es clock b hgm hlast
 simp only [Option.ite_none_right_eq_some, Bool.and_eq_true, Bool.not_eq_true'] at hb
 obtain ⟨⟨hc, hloose⟩, hb⟩ := hb
 obtain ⟨m1, m2, mA⟩ := H.mapAt hgm hloose
 have hc := Nat.eq_of_beq_eq_true hc
 split at hb
 case h_2 => simp at hb
 rename_i e he
 simp only [Option.some.injEq] at hb
 subst hb
 simp only [Option.map_some] at hoc
 have hback : seen.back? = some b := by rw [<- Array.getLast?_toList, <- lastL_get, hlast]
 have hfind : (es.map (renEntry E)).find? (fun x => x.born == b) = some (renEntry E e) := by
  rw [<- Array.find?_toList, Array.toList_map, findBorn_ren, he]; rfl
 have hmem : e ∈ es := by simpa using findBorn_mem he
 refine ⟨?_, ?_⟩
 ·rw [ren_tuple]
  simp [Instr.entry, run_getObj_any hoc (by simp), run_getObj_any m1 (by simp), hback, hc, hfind, renEntry]
 ·rw [Sc_tuple]; intro x hx; simp at hx
  rcases hx with rfl | rfl
  ·exact (m2 e hmem).1
  ·exact (m2 e hmem).2
end
def Glb (P : Program) (E : Env) (A : Nat -> Prop) : Prop := ∀ g, g < P.globals.size -> E.β (2 * g) = g /\ E.σ (2 * g) = 0 /\ A (2 * g)
structure Tm (E : Env) (A : Nat -> Prop) (tm : List Value) (a : Act) : Prop where
 tmps : a.tmps = (tm.map (ren E)).toArray
 sc : ∀ x ∈ tm, Sc A x
def rd (r : Option Nat) : Fence := { Fence.wide with round := r }
theorem rd_depth (r : Option Nat) : (rd r).depth.isSome = true -> 1 <= 0 := fun h => by simp [rd, Fence.wide] at h
theorem calls_rd {r : Option Nat} {P : Program} {f : FuncId} {args : Array Value} {w : World} {R : Ending -> World -> Prop} (h : Calls P f args w R) : CallsIn (rd r) 0 P f args w R :=
 (callsIn_wide (n := 0)).2 h
theorem round_rd {r : Option Nat} {P : Program} {l : Nat} {f : FuncId} {tmps : Array Value} {assign body : Code} {w : World} {R : Ending -> World -> Prop} (h : RoundIn Fence.wide 0 P l f tmps assign body w R) : RoundIn (rd r) 0 P l f tmps assign body w R := h
def FnDoes (P : Program) (E : Env) (F : Fn) (args : Array Value) (w : World) (R : Ending -> World -> Prop) : Prop :=
 match F with
 | .func g => Calls P g args w R
 | .yield l => YieldAt Fence.wide 0 P (E.β l) args w R
 | _ => False
def CallOk (P : Program) (callF : Fn -> List Value -> St -> Option (Value × St)) : Prop :=
 ∀ f args S v S', callF f args S = some (v, S') -> ∀ (E : Env) (A : Nat -> Prop) (w : World), Glb P E A -> S.next % 2 = 0 -> (∀ x ∈ args, Sc A x) -> Holds P E A S.heap w ->
  (∀ n, A n -> ¬ (S.next <= n /\ n < S'.next)) ->
  FnDoes P E f (args.map (ren E)).toArray w fun e w' => ∃ E', e = .returned (ren E' v) /\ Post P E A S.heap S.next w E' S'.heap S'.next w' /\ Sc (fun n => A n \/ (S.next <= n /\ n < S'.next)) v
section
variable {P : Program} {E : Env} {A : Nat -> Prop} {tm : List Value} {a : Act} {w : World}
theorem nth_get : ∀ (l : List Value) (n : Nat), nth l n = l[n]?.getD undef
 | [], _ => rfl
 | _ :: _, 0 => rfl
 | _ :: r, n + 1 => by simpa [nth] using nth_get r n
theorem eval_ok (ht : Tm E A tm a) (hg : Glb P E A) {x : Operand} (hx : okOpd P x = true) : a.eval x = ren E (aeval tm x) /\ Sc A (aeval tm x) := by
 cases x with
 | tmp t =>
  simp only [Act.eval, aeval, nth_get, ht.tmps]
  cases hv : tm[t]? with
  | none => simp [hv, ren_undef, Sc_undef]
  | some v => simp [hv]; exact ht.sc v (List.mem_of_getElem? hv)
 | const v => exact ⟨(plain_ren E hx).symm, plain_Sc A hx⟩
 | global g =>
  obtain ⟨h1, h2, h3⟩ := hg g (Nat.le_of_ble_eq_true hx)
  simp only [Act.eval, aeval, ren_ptr, Sc_ptr, Env.addr, h1, h2]
  exact ⟨trivial, h3⟩
 | func f =>
  simp only [Act.eval, aeval, ren_func, Sc_func]
  exact ⟨by simp, by simp, by simp⟩
theorem upon_start {o : Oper} {r : Option Nat} {K : Act -> World -> Prop} {Q : Exit -> Act -> World -> Prop} (hd : ∀ c, o.op ≠ .defer c) (h : o.uponIn (rd r) 0 P a K Q ((execOp a.eval o).run P w)) : o.wpIn (rd r) 0 P a w K Q :=
 ⟨fun _ _ => trivial, by rw [Oper.semAt_eq _ _ _ hd]; exact h⟩
theorem upon_value {o : Oper} {r : Option Nat} {K : Act -> World -> Prop} {Q : Exit -> Act -> World -> Prop} {v : Value} {w' : World} (hd : ∀ c, o.op ≠ .defer c) (hr : (execOp a.eval o).run P w = .ok (.value v) w') (hK : K (a.put o.dst v) w') : o.wpIn (rd r) 0 P a w K Q :=
 upon_start hd (by rw [hr]; exact hK)
theorem upon_skip {o : Oper} {r : Option Nat} {K : Act -> World -> Prop} {Q : Exit -> Act -> World -> Prop} {w' : World} (hd : ∀ c, o.op ≠ .defer c) (hr : (execOp a.eval o).run P w = .ok .skip w') (hK : K (a.put o.dst undef) w') : o.wpIn (rd r) 0 P a w K Q :=
 upon_start hd (by rw [hr]; exact hK)
def OpRes (P : Program) (E : Env) (A : Nat -> Prop) (o : Oper) (a : Act) (h : List (Nat × Obj)) (nx : Nat) (w : World) (v : Value) (h' : List (Nat × Obj)) (nx' : Nat) : Prop :=
 (∀ c, o.op ≠ .defer c) -> ∀ (r : Option Nat) (K : Act -> World -> Prop) (Q : Exit -> Act -> World -> Prop),
  (∀ E' w', Post P E A h nx w E' h' nx' w' -> Sc (fun n => A n \/ (nx <= n /\ n < nx')) v -> K (a.put o.dst (ren E' v)) w') -> o.wpIn (rd r) 0 P a w K Q
theorem OpRes.value {o : Oper} {h h' : List (Nat × Obj)} {nx nx' : Nat} {v : Value} {E' : Env} {w' : World} (hr : (execOp a.eval o).run P w = .ok (.value (ren E' v)) w') (hp : Post P E A h nx w E' h' nx' w') (hs : Sc (fun n => A n \/ (nx <= n /\ n < nx')) v) : OpRes P E A o a h nx w v h' nx' :=
 fun hd _ _ _ hK => upon_value hd hr (hK E' w' hp hs)
theorem OpRes.still {o : Oper} {h : List (Nat × Obj)} {nx : Nat} {v : Value} (H : Holds P E A h w) (hr : (execOp a.eval o).run P w = .ok (.value (ren E v)) w) (hs : Sc A v) : OpRes P E A o a h nx w v h nx :=
 OpRes.value hr (Post.refl H) (Sc_or hs)
theorem OpRes.skip {o : Oper} {h h' : List (Nat × Obj)} {nx nx' : Nat} {E' : Env} {w' : World} (hr : (execOp a.eval o).run P w = .ok .skip w') (hp : Post P E A h nx w E' h' nx' w') : OpRes P E A o a h nx w undef h' nx' :=
 fun hd _ _ _ hK => upon_skip hd hr (by have := hK E' w' hp (Sc_undef _); rw [ren_undef] at this; exact this)
theorem run_apure {o : Oper} {v : Value} (hops : ∀ x ∈ o.op.operands, a.eval x = aeval tm x) (hsel : ∀ cs b, o.op ≠ .select cs b) (hb : apure P tm o = some v) (w : World) :
  (execOp a.eval o).run P w = .ok (.value v) w /\ plain v = true := by
 unfold apure at hb
 split at hb
 ·rename_i v' hp
  simp only [Option.ite_none_right_eq_some, Option.some.injEq] at hb
  obtain ⟨h1, rfl⟩ := hb
  rw [execOp_congr o hsel hops]
  exact ⟨run_purely hp w, h1⟩
 ·simp at hb
theorem OpRes.pure {o : Oper} {h : List (Nat × Obj)} {nx : Nat} {v : Value} (H : Holds P E A h w) (hops : ∀ x ∈ o.op.operands, a.eval x = ren E (aeval tm x)) (hpl : ∀ x ∈ o.op.operands, plain (aeval tm x) = true)
  (hsel : ∀ cs b, o.op ≠ .select cs b) (hb : apure P tm o = some v) : OpRes P E A o a h nx w v h nx := by
 obtain ⟨h1, h2⟩ := run_apure (P := P) (a := a) (tm := tm) (fun x hx => by rw [hops x hx, plain_ren E (hpl x hx)]) hsel hb w
 exact OpRes.still H (by rw [h1, plain_ren E h2]) (plain_Sc A h2)
theorem aparts_eq {ps : Array (Nat × Operand)} (hops : ∀ p ∈ ps, a.eval p.2 = ren E (aeval tm p.2)) : (ps.map fun (i, x) => (i, a.eval x)) = (aparts tm ps).map (renP E) := by
 apply Array.ext'
 simp only [aparts, Array.toList_map, List.map_map]
 refine List.map_congr_left fun p hp => ?_
 obtain ⟨i, x⟩ := p
 simp only [Function.comp_apply, renP]
 rw [hops (i, x) (by simpa using hp)]
theorem aparts_sc {ps : Array (Nat × Operand)} (hsc : ∀ p ∈ ps, Sc A (aeval tm p.2)) : ∀ p ∈ aparts tm ps, Sc A p.2 := by
 intro p hp
 simp only [aparts, List.mem_toArray, List.mem_map] at hp
 obtain ⟨q, hq, rfl⟩ := hp
 exact hsc q (by simpa using hq)
theorem args_eq {xs : Array Operand} (hops : ∀ x ∈ xs, a.eval x = ren E (aeval tm x)) : xs.map a.eval = ((xs.toList.map (aeval tm)).map (ren E)).toArray := by
 apply Array.ext'
 simp only [Array.toList_map, List.map_map]
 exact List.map_congr_left fun x hx => hops x (by simpa using hx)
theorem resolve_builtin {c : Call} {b : Builtin} {t : TypeId} (hc : c.callee = .builtin b) (hops : ∀ x ∈ c.args, a.eval x = ren E (aeval tm x)) :
  resolve a.eval c t = pure { target := .builtin b c.argTypes t (c.args.map fun | .const _ => true | _ => false), args := ((c.args.toList.map (aeval tm)).map (ren E)).toArray } := by
 unfold resolve
 rw [args_eq hops, hc]
 rfl
theorem resolve_yield {c : Call} {f : Operand} {t : TypeId} {l : Nat} (hc : c.callee = .value f) (hf : a.eval f = .func (.yield l) #[] #[]) (hops : ∀ x ∈ c.args, a.eval x = ren E (aeval tm x)) :
  resolve a.eval c t = pure { target := .fn (.yield l) #[], args := ((c.args.toList.map (aeval tm)).map (ren E)).toArray } := by
 unfold resolve
 rw [args_eq hops, hc]
 simp [hf, Deferred.ofValue]
theorem resolve_value {c : Call} {f : Operand} {t : TypeId} {g : FuncId} {first captured : Array Value} (hc : c.callee = .value f) (hf : a.eval f = .func (.func g) first captured) (hops : ∀ x ∈ c.args, a.eval x = ren E (aeval tm x)) :
  resolve a.eval c t = pure { target := .fn (.func g) captured, args := first ++ ((c.args.toList.map (aeval tm)).map (ren E)).toArray } := by
 unfold resolve
 rw [args_eq hops, hc]
 simp only [hf, Deferred.ofValue]
def okName (fn : Func) : Bool := !(fn.name == "runtime.NumGoroutine")
theorem run_callFunc_body {g : FuncId} {fn : Func} {args : Array Value} (hg : P.funcs[g]? = some fn) (hb : fn.body.isSome = true) (hn : okName fn = true) (w : World) :
  (callFunc g args).run P w = .ok (.enter g args) w := by
 have hb' : fn.body.isNone = false := by cases h : fn.body <;> simp_all
 have hn' : (fn.name == "runtime.NumGoroutine") = false := by simpa [okName] using hn
 simp only [callFunc, Sem.run_bind, run_program, Result.andThen_ok, hg, hn', hb', Bool.false_eq_true, if_false, Sem.run_pure]
theorem lookup_none {α : Type} {l : List (String × α)} {k : String} (h : (l.lookup k).isNone = true) : l.lookup k = none := by simpa using h
theorem noEscape_next : Extern.allNextRows.lookup "internal/abi.NoEscape" = none := lookup_none (by kernel_rfl)
theorem empty_next : Extern.allNextRows.lookup "" = none := lookup_none (by kernel_rfl)
theorem noEscape_generic : Extern.allGenericRows.lookup "internal/abi.NoEscape" = none := lookup_none (by kernel_rfl)
theorem noEscape_typed : Extern.allTypedRows.lookup "internal/abi.NoEscape" = none := lookup_none (by kernel_rfl)
theorem noEscape_row : Extern.allRows.lookup "internal/abi.NoEscape" = some Extern.AbiNoEscape.same := by kernel_rfl
theorem makeNoZero_next : Extern.allNextRows.lookup "internal/bytealg.MakeNoZero" = none := lookup_none (by kernel_rfl)
theorem makeNoZero_generic : Extern.allGenericRows.lookup "internal/bytealg.MakeNoZero" = none := lookup_none (by kernel_rfl)
theorem makeNoZero_typed : Extern.allTypedRows.lookup "internal/bytealg.MakeNoZero" = some Extern.BytealgMakeNoZero.makeNoZero := by kernel_rfl
theorem run_callFunc_noEscape {g : FuncId} {fn : Func} {x : Value} (hg : P.funcs[g]? = some fn) (hb : fn.body = none) (hn : fn.name = "internal/abi.NoEscape") (ho : fn.origin = "") (w : World) :
  (callFunc g #[x]).run P w = .ok (.value x) w := by
 have h1 : Extern.findNext fn = none := by simp [Extern.findNext, hn, ho, noEscape_next, empty_next]
 have h2 : Extern.find fn = some Extern.AbiNoEscape.same := by simp [Extern.find, hn, noEscape_generic, noEscape_typed, noEscape_row]
 have hn' : (fn.name == "runtime.NumGoroutine") = false := by rw [hn]; decide
 simp only [callFunc, Sem.run_bind, run_program, Result.andThen_ok, hg, hn', Bool.false_eq_true, if_false, hb, Option.isNone_none, if_true, run_mark, h1, h2, Sem.run_pure]
 rfl
theorem run_callFunc_makeNoZero {g : FuncId} {fn : Func} {x v : Value} {w w' : World} (hg : P.funcs[g]? = some fn) (hb : fn.body = none) (hn : fn.name = "internal/bytealg.MakeNoZero") (ho : fn.origin = "")
  (hr : (Extern.BytealgMakeNoZero.makeNoZero fn.params fn.resultTypes #[x]).run P w = .ok v w') :
  (callFunc g #[x]).run P w = .ok (.value v) w' := by
 have h1 : Extern.findNext fn = none := by simp [Extern.findNext, hn, ho, makeNoZero_next, empty_next]
 have h2 : Extern.find fn = some (Extern.BytealgMakeNoZero.makeNoZero fn.params fn.resultTypes) := by simp [Extern.find, hn, makeNoZero_generic, makeNoZero_typed]
 have hn' : (fn.name == "runtime.NumGoroutine") = false := by rw [hn]; decide
 simp only [callFunc, Sem.run_bind, run_program, Result.andThen_ok, hg, hn', Bool.false_eq_true, if_false, hb, Option.isNone_none, if_true, run_mark, h1, h2, Sem.run_pure, hr]
end
section
variable {P : Program} {E : Env} {A : Nat -> Prop} {tm : List Value} {a : Act} {w : World}
theorem call_sound {callF : Fn -> List Value -> St -> Option (Value × St)} (hcf : CallOk P callF) {o : Oper} {g : FuncId} {args : List Value} {S S' : St} {v : Value} (hg : Glb P E A) (hev : S.next % 2 = 0) (H : Holds P E A S.heap w)
  (hsc : ∀ x ∈ args, Sc A x) (hA : ∀ n, A n -> ¬ (S.next <= n /\ n < S'.next)) (hb : callF (.func g) args S = some (v, S')) (hr : (execOp a.eval o).run P w = .ok (.enter g (args.map (ren E)).toArray) w) :
  OpRes P E A o a S.heap S.next w v S'.heap S'.next := by
 intro hd r K Q hK
 refine upon_start hd ?_
 rw [hr]
 refine ⟨rd_depth r, (calls_rd (hcf (.func g) args S v S' hb E A w hg hev hsc H hA)).mono ?_⟩
 rintro e w' ⟨E', rfl, h1, h2⟩
 exact hK E' w' h1 h2
theorem yield_sound {callF : Fn -> List Value -> St -> Option (Value × St)} (hcf : CallOk P callF) {o : Oper} {l : Nat} {args : List Value} {S S' : St} {v : Value} (hg : Glb P E A) (hev : S.next % 2 = 0) (H : Holds P E A S.heap w)
  (hsc : ∀ x ∈ args, Sc A x) (hA : ∀ n, A n -> ¬ (S.next <= n /\ n < S'.next)) (hb : callF (.yield l) args S = some (v, S')) (hr : execOp a.eval o = Instr.yield (E.β l) (args.map (ren E)).toArray) :
  OpRes P E A o a S.heap S.next w v S'.heap S'.next := by
 intro hd r K Q hK
 refine upon_start hd ?_
 obtain ⟨fn, tmps, assign, body, hy, hR⟩ := hcf (.yield l) args S v S' hb E A w hg hev hsc H hA
 rw [hr, hy]
 refine ⟨rd_depth r, (round_rd hR).mono ?_⟩
 rintro e w' ⟨E', rfl, h1, h2⟩
 exact hK E' w' h1 h2
theorem execOp_value {o : Oper} {s : Sem Value} {v : Value} {w' : World} (he : execOp a.eval o = (do pure (.value (<- s)))) (hr : s.run P w = .ok v w') : (execOp a.eval o).run P w = .ok (.value v) w' := by
 rw [he]; simp [hr]
theorem execOp_skip {o : Oper} {s : Sem Unit} {w' : World} (he : execOp a.eval o = (do s; pure .skip)) (hr : s.run P w = .ok () w') : (execOp a.eval o).run P w = .ok .skip w' := by
 rw [he]; simp [hr]
theorem eqGuard_ptr {op : BinOp} {t : TypeId} {x y : Operand} {u v : Value} (hu : ∀ cs, u ≠ .agg cs) (hn : u ≠ .nilIface) (w : World) : (eqGuard op t x y u v).run P w = .ok () w := by
 unfold eqGuard
 cases u <;> first | exact absurd rfl hn | exact absurd rfl (hu _) | (split <;> rfl)
theorem aeql_shape {t : TypeId} {x y : Value} {b : Bool} (h : aeql P t x y = some b) : (∀ cs, ren E x ≠ .agg cs) /\ ren E x ≠ .nilIface /\
  binOp .eql t (ren E x) (ren E y) = (do pure (.bool (<- Op.equal t (ren E x) (ren E y)))) /\ binOp .neq t (ren E x) (ren E y) = (do pure (.bool (!(<- Op.equal t (ren E x) (ren E y))))) := by
 unfold aeql at h
 have key : ∀ (u v : Value), ((∃ p, u = .pointer p) \/ (∃ p l c, u = .slice p l c) \/ (∃ p, u = .map p) \/ u = .nilFunc \/ (∃ f a b, u = .func f a b) \/ (∃ t v, u = .iface t v)) ->
   (∀ cs, u ≠ .agg cs) /\ u ≠ .nilIface /\ binOp .eql t u v = (do pure (.bool (<- Op.equal t u v))) /\ binOp .neq t u v = (do pure (.bool (!(<- Op.equal t u v)))) := by
  intro u v hu
  rcases hu with ⟨p, rfl⟩ | ⟨p, l, c, rfl⟩ | ⟨p, rfl⟩ | rfl | ⟨f, a, b, rfl⟩ | ⟨t, v, rfl⟩
  all_goals exact ⟨by simp, by simp, by simp [binOp], by simp [binOp]⟩
 split at h
 ·split at h <;> first | (simp at h; done) | skip
  all_goals exact key _ _ (.inl (by first | exact ⟨_, ren_nilptr E⟩ | exact ⟨_, ren_ptr E _⟩))
 ·split at h <;> first | (simp at h; done) | skip
  all_goals exact key _ _ (.inr (.inl (by first | exact ⟨_, _, _, ren_nilslice E _ _⟩ | exact ⟨_, _, _, ren_slice E _ _ _⟩)))
 ·split at h <;> first | (simp at h; done) | skip
  all_goals exact key _ _ (.inr (.inr (.inl (by first | exact ⟨_, ren_nilmap E⟩ | exact ⟨_, ren_map E _⟩))))
 ·split at h <;> first | (simp at h; done) | skip
  all_goals exact key _ _ (.inr (.inr (.inr (by first | exact .inl (ren_nilfunc E) | exact .inr (.inl ⟨_, _, _, ren_func E _ _ _⟩)))))
 ·split at h <;> first | (simp at h; done) | skip
  all_goals exact key _ _ (.inr (.inr (.inr (.inr (.inr ⟨_, _, ren_iface E _ _⟩)))))
 ·simp at h
theorem Sc_func_append {first captured : Array Value} {xs : List Value} {fn : Fn} (h1 : Sc A (.func fn first captured)) (h2 : ∀ x ∈ xs, Sc A x) : ∀ x ∈ first.toList ++ xs ++ captured.toList, Sc A x := by
 rw [Sc_func] at h1
 intro x hx
 rcases List.mem_append.1 hx with hx | hx
 ·rcases List.mem_append.1 hx with hx | hx
  ·exact h1.2.1 x (by simpa using hx)
  ·exact h2 x hx
 ·exact h1.2.2 x (by simpa using hx)
theorem plainOperands_mem : ∀ {l : List Operand}, plainOperands tm l = true -> ∀ x ∈ l, plain (aeval tm x) = true
 | [], _ => by simp
 | y :: r, h => by
  simp [plainOperands] at h
  intro x hx
  rcases List.mem_cons.1 hx with rfl | hx
  ·exact h.1
  ·exact plainOperands_mem h.2 x hx
end
end Go.Dam
