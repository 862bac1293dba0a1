/-
  An own evaluator of closed runs of a program, proved sound against the model for every order of draws and every capacity of append. This text is one part of it; the last part's theorem 'closed' says what a run in the kernel proves. Used for the law's closed self-test.
-/
import Derived.Test.YtgjgdofofhmjgaaDoorDamI
import Derived.Laws.MakeOwn
import Derived.Laws.BytesArg
import Derived.Lib.UnsafeStr
namespace Go.Dam

section
variable {P : Program} {E : Env} {A : Nat → Prop} {h h' : List (Nat × Obj)} {nx : Nat} {w w' : World}

theorem makeSlice_sound {S S' : St} (H : Holds P E A S.heap w) (hev : S.next % 2 = 0) {t : TypeId} {l c v : Value} (hb : amakeSlice P S t l c = some (v, S'))
    (hA : ∀ n, A n → ¬ (S.next ≤ n ∧ n < S'.next)) :
    ∃ E' w', (Instr.makeSlice t (ren E l) (ren E c)).run P w = .ok (ren E' v) w' ∧ Post P E A S.heap S.next w E' S'.heap S'.next w' ∧ Sc (fun n => A n ∨ (S.next ≤ n ∧ n < S'.next)) v := by
  unfold amakeSlice at hb
  split at hb
  · rename_i e he
    split at hb
    · rename_i ti l' c' hi hl hc
      split at hb
      · rename_i z hz
        simp only [Option.ite_none_right_eq_some, Bool.and_eq_true] at hb
        obtain ⟨⟨⟨⟨⟨⟨⟨h1, h2⟩, h3⟩, h4⟩, h5⟩, h6⟩, h7⟩, hb⟩ := hb
        have h1 := Nat.le_of_ble_eq_true h1
        have h2 := Nat.le_of_ble_eq_true h2
        have h3 := Nat.le_of_ble_eq_true h3
        have h4 := Nat.le_of_ble_eq_true h4
        have h5 : z.cells.size = ti.size := by simpa using h5
        have h6 : 0 < ti.size := Nat.le_of_ble_eq_true h6
        simp only [newExact, Option.some.injEq, Prod.mk.injEq] at hb
        obtain ⟨rfl, rfl⟩ := hb
        obtain ⟨kl, _, hl⟩ := natOf_some (E := E) hl
        obtain ⟨kc, _, hc⟩ := natOf_some (E := E) hc
        have hbytes : (ti.bytes : Int) * (c' : Int) ≤ 281474976710656 := by
          have : ti.bytes * c' ≤ 65536 * 1048576 := Nat.mul_le_mul h3 h2
          have h : ((ti.bytes * c' : Nat) : Int) ≤ 281474976710656 := by omega
          rwa [Int.natCast_mul] at h
        have hr := run_makeSlice (P := P) w t e ti z (elemT_under he) hi hz kl kc l' c' (by omega) (by omega) (by simpa using h4) hbytes (by omega)
        have hcl : ∀ x ∈ (repL c' z.cells.toList).toArray, plain1 x = true := by
          intro x hx
          have hx : x ∈ repL c' z.cells.toList := by simpa using hx
          have key : ∀ n, x ∈ repL n z.cells.toList → x ∈ z.cells.toList := by
            intro n
            induction n with
            | zero => simp [repL]
            | succ n ih => intro h; rcases List.mem_append.1 h with h | h; exact h; exact ih h
          exact plainAll_mem h7 x (key _ hx)
        obtain ⟨E', w', n1, n2⟩ := newCells_sound (P := P) H hev hA (repL c' z.cells.toList).toArray e (fun x hx => plain1_Sc A (hcl x hx))
        have hmc : madeCells z.cells (c' * ti.size) = (repL c' z.cells.toList).toArray := by
          rw [← h5, ← zeros_eq z.cells c' (by omega)]; rfl
        have hmap : (repL c' z.cells.toList).toArray.map (ren E) = (repL c' z.cells.toList).toArray := by
          have := Array.map_congr_left (xs := (repL c' z.cells.toList).toArray) (f := ren E) (g := id) (fun x hx => plain1_ren E (hcl x hx))
          simpa using this
        rw [hmap] at n1
        simp only [newRow, Sem.run_bind, run_newObj, Result.andThen_ok, Sem.run_pure, Result.ok.injEq] at n1
        obtain ⟨n1, n3⟩ := n1
        refine ⟨E', w', ?_, n2, by rw [Sc_slice]; exact .inr ⟨Nat.le_refl _, by dsimp only; omega⟩⟩
        simp only [Int.toNat_natCast] at hr
        rw [hl, hc, hr, hmc, ren_slice, ← n1]
        simp only [isRow_even hev, Bool.false_eq_true, if_false]
        rw [← n3]; rfl
      · simp at hb
    · simp at hb
  · simp at hb

theorem copy_sound {S S' : St} (H : Holds P E A S.heap w) {args : Array TypeId} {ty : TypeId} {d s v : Value} (hb : acopy P S args d s = some (v, S')) :
    ∃ w', (Builtin.copy_ args ty #[ren E d, ren E s]).run P w = .ok (ren E v) w' ∧ Post P E A S.heap S.next w E S'.heap S'.next w' ∧ Sc A v := by
  unfold acopy at hb
  split at hb
  · rename_i dT rest hargs
    have hd0 : args[0]? = some dT := by
      have : args.toList[0]? = some dT := by rw [hargs]; rfl
      simpa using this
    split at hb
    · rename_i e base dl cap sl he hl
      split at hb
      · simp at hb
      · rename_i s' hs
        dsimp only at hb
        split at hb
        · simp at hb
        · rename_i cs hf
          have hmin : (if Nat.ble sl dl = true then sl else dl) = Nat.min sl dl := by
            by_cases h : sl ≤ dl
            · rw [if_pos (Nat.ble_eq_true_of_le h)]; exact (Nat.min_eq_left h).symm
            · rw [if_neg (by simpa using h)]; exact (Nat.min_eq_right (by omega)).symm
          rw [hmin] at hf hb
          obtain ⟨f1, f2⟩ := firstA_sound H hf
          have hln := lenA_sound (P := P) (E := E) hl
          split at hb
          · simp only [Option.ite_none_right_eq_some, Option.some.injEq, Prod.mk.injEq] at hb
            obtain ⟨h0, rfl, rfl⟩ := hb
            have h0 : Nat.min sl dl = 0 := by simpa using h0
            rw [h0] at f1
            refine ⟨w, ?_, Post.refl H, Sc_int _ _ _⟩
            rw [ren_nilslice, ren_int]
            simp only [Builtin.copy_, hd0, List.getElem?_toArray, List.getElem?_cons_zero, List.getElem?_cons_succ, Sem.run_bind, run_underlying (elemT_under he), Result.andThen_ok, hln, run_sizeT hs, f1, Sem.run_pure, goInt, h0]
            rfl
          · rename_i b off
            split at hb
            · rename_i h' hst
              simp only [Option.some.injEq, Prod.mk.injEq] at hb
              obtain ⟨rfl, rfl⟩ := hb
              obtain ⟨w', g1, g2⟩ := astoreCells_sound (P := P) H hst f2 S.next
              refine ⟨w', ?_, g2, Sc_int _ _ _⟩
              rw [ren_slice, ren_int]
              simp only [Builtin.copy_, hd0, List.getElem?_toArray, List.getElem?_cons_zero, List.getElem?_cons_succ, Sem.run_bind, run_underlying (elemT_under he), Result.andThen_ok, hln, run_sizeT hs, f1, Sem.run_pure, goInt, Env.addr, g1]
            · simp at hb
          · simp at hb
    · simp at hb
  · simp at hb

theorem bytesOfCells_some : ∀ {l : List Value} {b : List UInt8}, bytesOfCells l = some b → l = b.map fun x => .int .u8 x.toNat
  | [], b, h => by simp [bytesOfCells] at h; subst h; rfl
  | v :: r, b, h => by
    unfold bytesOfCells at h
    split at h
    · simp at *
    · rename_i n r' heq
      simp at heq
      obtain ⟨rfl, rfl⟩ := heq
      split at h
      · rename_i l hl
        simp only [Option.ite_none_right_eq_some, Option.some.injEq] at h
        obtain ⟨⟨h0, h1⟩, rfl⟩ := h
        have := bytesOfCells_some hl
        simp only [List.map_cons, ← this]
        congr 2
        have : n.toNat < 256 := by omega
        simp [Nat.toUInt8, UInt8.toNat_ofNat', Nat.mod_eq_of_lt this, Int.toNat_of_nonneg h0]
      · simp at h
    · simp at h

theorem ren_bytes (E : Env) (b : List UInt8) : (b.map fun x => Value.int .u8 x.toNat).map (ren E) = b.map fun x => Value.int .u8 x.toNat := by
  rw [List.map_map]
  exact List.map_congr_left fun x _ => ren_int _ _ _

theorem toString_sound (H : Holds P E A h w) {x v : Value} (hb : atoString h x = some v) :
    (Conv.bytesToString (ren E x)).run P w = .ok (ren E v) w ∧ Sc A v := by
  unfold atoString at hb
  split at hb
  · simp at hb; subst hb; rw [ren_nilslice, ren_string]; exact ⟨rfl, Sc_string _ _⟩
  · rename_i n off len cap
    split at hb
    · rename_i c hc
      split at hb
      · rename_i hle
        split at hb
        · rename_i l hl
          simp only [Option.some.injEq] at hb; subst hb
          rw [ren_slice, ren_string]
          refine ⟨?_, Sc_string _ _⟩
          obtain ⟨g1, _⟩ := run_cellsOf (P := P) H hc (off := off) (k := len) (Nat.le_of_ble_eq_true hle)
          rw [bytesOfCells_some hl, ren_bytes] at g1
          have := run_bytesToString (P := P) w ⟨E.β n, E.σ n + off, none⟩ len (if isRow n = true then E.κ n - cap else cap) (l.map fun x => (x.toNat : Int)) (by rw [g1, List.map_map]; rfl)
          simp only [Env.addr]
          rw [this, foldl_push_bytes]
          congr 2
          apply ByteArray.ext
          simp [ByteArray.empty, ByteArray.emptyWithCapacity]
          show [] ++ _ = l
          rw [List.nil_append]
          conv => rhs; rw [← List.map_id l]
          exact List.map_congr_left fun x _ => by simp
        · simp at hb
      · simp at hb
    · simp at hb
  · simp at hb

theorem freeze_heap (w : World) (a : Addr) (n : Nat) (hn : n ≠ 0) {cc : Array Value} {e : TypeId} {fz : Nat × Nat} (hg : w.heap[a.block]? = some (.cells cc e fz)) :
    (w.freeze a n).heap[a.block]? = some (.cells cc e (if fz.1 == fz.2 then (a.off, a.off + n) else (min fz.1 a.off, max fz.2 (a.off + n)))) ∧ (∀ k, k ≠ a.block → (w.freeze a n).heap[k]? = w.heap[k]?) ∧ (w.freeze a n).heap.size = w.heap.size := by
  obtain ⟨lo, hi⟩ := fz
  unfold World.freeze
  rw [if_neg hn]
  refine ⟨?_, ?_, ?_⟩
  · simp [Array.getElem?_modify, hg]
  · intro k hk
    simp [Array.getElem?_modify, Ne.symm hk]
  · simp

def strRow (s : ByteArray) (k : Nat) : Array Value := (s.data.map fun b : UInt8 => Value.int .u8 b.toNat) ++ Array.replicate (k - s.size) (Value.int .u8 0)

theorem toBytes_sound {S : St} (H : Holds P E A S.heap w) (hev : S.next % 2 = 0) (hA : ∀ n, A n → ¬ (S.next ≤ n ∧ n < S.next + 2)) {e : TypeId} {s : ByteArray} (hs : sizeT P e = some 1) :
    ∃ E' w', (Conv.stringToBytes e s).run P w = .ok (ren E' (atoBytes S e s).1) w' ∧ Post P E A S.heap S.next w E' (atoBytes S e s).2.heap (atoBytes S e s).2.next w' ∧ Sc (fun n => A n ∨ (S.next ≤ n ∧ n < S.next + 2)) (atoBytes S e s).1 := by
  have hk : s.size ≤ s.size + (w.tape w.drawn (.appendCap s.size 0 e)) % (2 ^ 63 - s.size) := by omega
  generalize hkk : s.size + (w.tape w.drawn (.appendCap s.size 0 e)) % (2 ^ 63 - s.size) = k at hk
  have hb : ∀ w' : World, w'.heap = w.heap.push (.cells (strRow s k) e) →
      (markStringish ⟨w.heap.size, 0, none⟩).run P w' = .ok () (w'.freeze ⟨w.heap.size, k, none⟩ 1) := by
    intro w' hw
    have hsz : (strRow s k).size = k := by
      have : s.data.size = s.size := rfl
      simp [strRow]; omega
    have : w'.shape? w.heap.size = some (e, k) := by
      simp only [World.shape?, hw, Array.getElem?_push, if_true]
      rw [hsz]
    simp only [markStringish, Sem.run_bind, run_shape, this, Result.andThen_ok, run_freeze]
  have hrun : (Conv.stringToBytes e s).run P w = .ok (.slice (some ⟨w.heap.size, 0, none⟩) s.size k) (({ w with drawn := w.drawn + 1 }.alloc (.cells (strRow s k) e)).freeze ⟨w.heap.size, k, none⟩ 1) := by
    simp only [Conv.stringToBytes, Sem.run_bind, run_choose, Question.forced, Bool.false_eq_true, if_false, Question.cut, Result.andThen_ok, newRow, run_newObj, Sem.run_pure, hkk]
    rw [hb _ rfl]
    rfl
  have hlt : (({ w with drawn := w.drawn + 1 }.alloc (.cells (strRow s k) e))).heap[w.heap.size]? = some (.cells (strRow s k) e (0, 0)) := by simp [World.alloc]
  obtain ⟨f1, f2, f3⟩ := freeze_heap (({ w with drawn := w.drawn + 1 }.alloc (.cells (strRow s k) e))) ⟨w.heap.size, k, none⟩ 1 (by omega) hlt
  have hm1 : ¬ A (S.next + 1) := fun h => hA _ h ⟨by omega, by omega⟩
  refine ⟨E.bind (S.next + 1) w.heap.size 0 k, ({ w with drawn := w.drawn + 1 }.alloc (.cells (strRow s k) e)).freeze ⟨w.heap.size, k, none⟩ 1, ?_, ?_, ?_⟩
  · rw [hrun]
    simp only [atoBytes, newRowA, ren_slice]
    simp [Env.addr, Env.bind, isRow_odd hev]
  · have hos : ∀ (w : World) (a : Addr) (n : Nat), (w.freeze a n).os = w.os ∧ (w.freeze a n).tape = w.tape ∧ (w.freeze a n).output = w.output := by
      intro w a n; unfold World.freeze; split <;> exact ⟨rfl, rfl, rfl⟩
    obtain ⟨o1, o2, o3⟩ := hos (({ w with drawn := w.drawn + 1 }.alloc (.cells (strRow s k) e))) ⟨w.heap.size, k, none⟩ 1
    simp only [atoBytes, newRowA]
    refine Post.put (m := S.next + 1) (b := w.heap.size) (o' := .cells (s.data.toList.map fun b => Value.int .u8 b.toNat).toArray e (1, 0)) H (by omega) (by omega) (fun k hk => Env.bind_other E _ _ _ _ k (by omega)) (fun k hk => (Env.bind_other E _ _ _ _ k hk).1) hA
      (.inr ⟨by omega, by omega⟩) (by simp [Env.bind]) ?_ ?_ ?_ f1 ?_ ?_ (o1.trans rfl) (o2.trans rfl) (o3.trans rfl) (.inr (Nat.le_refl _))
    · intro j x hj
      simp only [getB] at hj
      by_cases he : S.next + 1 = j
      · subst he; rw [if_pos (by simp)] at hj; exact .inl ⟨rfl, (Option.some.inj hj).symm⟩
      · rw [if_neg (by simpa using he)] at hj
        refine .inr ⟨fun e => he e.symm, hj, ?_⟩
        obtain ⟨_, _, oc', hoc, _⟩ := H.blk j x hj
        intro e'
        rw [e', Array.getElem?_eq_none (Nat.le_refl _)] at hoc
        cases hoc
    · intro x hx
      have hx : x ∈ s.data.toList.map fun b => Value.int .u8 b.toNat := by simpa using hx
      obtain ⟨y, _, rfl⟩ := List.mem_map.1 hx
      exact Sc_int _ _ _
    · have hdl : s.data.size = s.size := rfl
      simp only [BlkRel, isRow_odd hev, if_true]
      unfold strRow
      refine ⟨_, _, 1, rfl, hs, ?_, ?_, ?_, ?_, ?_⟩
      · intro i v hv
        have hi := (Array.getElem?_eq_some_iff.1 hv).1
        simp only [List.size_toArray, List.length_map, Array.length_toList] at hi
        simp only [Env.bind, if_true, Nat.zero_add]
        rw [Array.getElem?_append_left (by simpa using hi)]
        have hv' : (s.data.toList.map fun b => Value.int .u8 b.toNat)[i]? = some v := by simpa using hv
        have hmem := List.mem_of_getElem? hv'
        obtain ⟨y, _, rfl⟩ := List.mem_map.1 hmem
        rw [ren_int]
        simpa using hv
      · simp [Env.bind, hdl]; omega
      · simp [Env.bind, hdl]; omega
      · intro off h1 h2
        simp only [Env.bind, if_true, Nat.mul_one, Nat.zero_add, beq_self_eq_true] at h2 ⊢
        omega
      · simp
    · intro j hj hjl
      rw [f2 j hj]
      simp only [World.alloc, Array.getElem?_push]
      rw [if_neg hj]
    · rw [f3]; simp [World.alloc]
  · simp only [atoBytes, newRowA, Sc_slice]
    exact .inr ⟨by omega, by omega⟩

end
end Go.Dam
