/-
  A part of the proof that the law ParserSheets (chapter 19) returns true for every sheet: walks of the program's functions, and runs of them in the kernel by the own evaluator.
-/
import Derived.Test.YtjnkppneilmpbaaGreatDoorPrd
import Derived.Test.YtjnkppneilmpbaaGreatDoorLxd
import Derived.Deep.RegionHeld3
import Derived.Deep.Cut
import Derived.Deep.CutRange
import Derived.Deep.QuietTactic
namespace Go.Proofs.YtjnkppneilmpbaaGreatDoor
open Go.RowKit

/-- A sheet lies in memory: its rows of notes, its keys. -/
structure ShIs (w : World) (l : List (List UInt8 × UInt8)) (mo ko : Option Addr) : Prop where
  rows : ∀ (i : Nat) (m : List UInt8 × UInt8), l[i]? = some m → ∃ p ao c, mo = some p ∧ w.cell? (p.add i) = some (.slice ao m.1.length c) ∧ ∀ (k : Nat) (y : UInt8), m.1[k]? = some y → ∃ q, ao = some q ∧ w.cell? (q.add k) = some (.int .u8 (y.toNat : Nat))
  keys : ∀ (i : Nat) (m : List UInt8 × UInt8), l[i]? = some m → ∃ p, ko = some p ∧ w.cell? (p.add i) = some (.int .u8 (m.2.toNat : Nat))
theorem ShIs.step {w w' : World} {l : List (List UInt8 × UInt8)} {mo ko : Option Addr} (h : ShIs w l mo ko) (b : Below w.heap.size w w') : ShIs w' l mo ko := by
  refine ⟨fun i m hi => ?_, fun i m hi => ?_⟩
  · obtain ⟨p, ao, c, e, hc, hk⟩ := h.rows i m hi
    refine ⟨p, ao, c, e, (b.cell (World.block_lt_of_cell? w _ hc)).trans hc, fun k y hy => ?_⟩
    obtain ⟨q, e2, hq⟩ := hk k y hy
    exact ⟨q, e2, (b.cell (World.block_lt_of_cell? w _ hq)).trans hq⟩
  · obtain ⟨p, e, hc⟩ := h.keys i m hi
    exact ⟨p, e, (b.cell (World.block_lt_of_cell? w _ hc)).trans hc⟩

/-- What stands while the text is put together. -/
structure TxAt (X Ib Nb n : Nat) (ids : Bool) (T : ByteArray) (mv kv : Value) (w0 w : World) : Prop where
  hX : w.heap[X]? = some (.cells #[.string T, mv, kv] 25 (0, 0))
  id : IdCtx Nb Ib n ids w
  below : Below w0.heap.size w0 w
  lN : w0.heap.size ≤ Nb
  nX : X ≠ Nb
section
variable {X Ib Nb n : Nat} {ids : Bool} {T : ByteArray} {mv kv : Value} {w0 w w' : World}
theorem TxAt.step (p : TxAt X Ib Nb n ids T mv kv w0 w) (b : Below w.heap.size w w') : TxAt X Ib Nb n ids T mv kv w0 w' :=
  ⟨(b.block X (Array.getElem?_eq_some_iff.1 p.hX).1).trans p.hX, p.id.step b, p.below.trans (b.mono p.below.size), p.lN, p.nX⟩
theorem TxAt.next (p : TxAt X Ib Nb n ids T mv kv w0 w) {n' : Nat} (h : IdCtx Nb Ib n' ids w') (a : Away [Nb] w w') : TxAt X Ib Nb n' ids T mv kv w0 w' :=
  ⟨a.heap p.hX (by simpa using p.nX), h, ⟨a.os.trans p.below.os, a.tape.trans p.below.tape, a.output.trans p.below.output, Nat.le_trans p.below.size a.size, fun k hk => (a.block k (Nat.lt_of_lt_of_le hk p.below.size) (by have := p.lN; simp; omega)).trans (p.below.block k hk)⟩, p.lN, p.nX⟩
theorem TxAt.c1 (p : TxAt X Ib Nb n ids T mv kv w0 w) : w.cell? ⟨X, 1, none⟩ = some mv := by rw [Lib.cell_of_heap p.hX]; rfl
theorem TxAt.c2 (p : TxAt X Ib Nb n ids T mv kv w0 w) : w.cell? ⟨X, 2, none⟩ = some kv := by rw [Lib.cell_of_heap p.hX]; rfl
end

theorem alloc_at' (w : World) (o : Obj) {n : Nat} (h : n = w.heap.size) : (w.alloc o).heap[n]? = some o := by subst h; exact heap_alloc_new w o
theorem drop_cons {α : Type} {l : List α} {i : Nat} {a : α} (h : l[i]? = some a) : l.drop i = a :: l.drop (i + 1) := by
  obtain ⟨hi, rfl⟩ := List.getElem?_eq_some_iff.1 h
  exact List.drop_eq_getElem_cons hi
theorem drop_end {α : Type} {l : List α} {i : Nat} (h : l.length ≤ i) : l.drop i = [] := List.drop_eq_nil_iff.2 h

/-- What is left of the measures, behind i of them: n objects, the key p. -/
def MRem (ids : Bool) (full : List UInt8) (l : List (List UInt8 × UInt8)) (i n : Nat) (p : UInt8) (pre : List UInt8) : Prop :=
  pre ++ measuresL ids n p (l.drop i) = full ∧ (i = 0 → p = 0) ∧ (∀ m, 0 < i → l[i - 1]? = some m → p = m.2) ∧ n + objs (l.drop i) ≤ 400
/-- What is left of the notes, behind k of them. -/
def NRem (ids : Bool) (full row : List UInt8) (k n : Nat) (pre post : List UInt8) : Prop := pre ++ (notesL ids n (row.drop k) ++ post) = full ∧ n + (row.length - k) ≤ 400
theorem pre_len {pre post full : List UInt8} (h : pre ++ post = full) : pre.length ≤ full.length := by
  have := congrArg List.length h
  rw [List.length_append] at this
  omega
def stepD (b : Nat) : UInt8 := match b with
  | 0 => 67 | 1 => 68 | 2 => 69 | 3 => 70 | 4 => 71 | 5 => 65 | _ => 66
theorem stepC_d (y : UInt8) : stepC y = stepD (y.toNat / 2 % 7) := rfl

set_option maxHeartbeats 32000000 in
set_option maxRecDepth 1000000 in
theorem text_walk (ids : Bool) (T : ByteArray) (mo ko : Option Addr) (mc kc : Nat) (l : List (List UInt8 × UInt8)) (w : World) (hT : T.size ≤ 40) (hl : l.length ≤ 5) (h6 : ∀ m ∈ l, m.1.length ≤ 6) (h : ShIs w l mo ko) :
    Calls Tryz.prog 7 #[.agg #[.string T, .slice mo l.length mc, .slice ko l.length kc], .bool ids] w fun r w' => Below w.heap.size w w' ∧ r = .returned (.string (mk (textL ids T.data.toList l))) := by
  have hTl : T.data.toList.length ≤ 40 := by rw [size_list]; exact hT
  have hfull := textL_len ids T.data.toList l hTl hl h6
  have ho : objs l ≤ 35 := Nat.le_trans (objs_le l 6 h6) (by omega)
  have hb0 := (((Below.refl w.heap.size w).alloc (Nat.le_refl _) (.cells #[.string T, .slice mo l.length mc, .slice ko l.length kc] 25)).alloc (by simp) (.cells #[.bool ids] 4)).alloc (by simp; omega) (.cells #[.int .i64 0] 3)
  have p0 : TxAt w.heap.size (w.heap.size + 1) (w.heap.size + 1 + 1) 0 ids T (.slice mo l.length mc) (.slice ko l.length kc) w (((w.alloc (.cells #[.string T, .slice mo l.length mc, .slice ko l.length kc] 25)).alloc (.cells #[.bool ids] 4)).alloc (.cells #[.int .i64 0] 3)) := by
    refine ⟨?_, ⟨alloc_at' _ _ (by simp), ?_⟩, hb0, by omega, by omega⟩
    · exact (Lib.alloc_old _ _ _ (by simp; omega)).trans ((Lib.alloc_old _ _ _ (by simp)).trans (heap_alloc_new w _))
    · exact (Lib.alloc_old _ _ _ (by simp)).trans (alloc_at' _ _ (by simp))
  have hq := fun w => quote_says T w (by omega)
  have hql := quoteL_len T.data.toList
  clear hb0
  go_enter Tryz.func7, Tryz.ntmps7
  go_wp2_with (go_at_call 15; refine (hq _).mono ?_)
  intro r w1; first | (intro he b1; subst he) | rintro ⟨rfl, b1⟩
  have p1 := p0.step b1
  clear p0 b1 hq
  generalize w.heap.size + 1 + 1 = Nb at p1 ⊢
  generalize w.heap.size + 1 = Ib at p1 ⊢
  have hTq : TxtIs (mk (quoteL T.data.toList)) (quoteL T.data.toList) := rfl
  generalize mk (quoteL T.data.toList) = tq at hTq ⊢
  have hsq := hTq.size
  have hz1 : TxtIs (⟨#[115, 99, 111, 114, 101, 32]⟩ ++ tq) (scoreT ++ quoteL T.data.toList) := TxtIs.join (l := scoreT) rfl hTq
  have hs1 := hz1.size
  rw [List.length_append, show scoreT.length = 6 from rfl] at hs1
  have g1 := fun ww => add_run ⟨#[115, 99, 111, 114, 101, 32]⟩ tq (by decide) (by omega) ww
  have g2 := fun ww => add_run (⟨#[115, 99, 111, 114, 101, 32]⟩ ++ tq) ⟨#[32, 112, 97, 114, 116, 32]⟩ (by omega) (by decide) ww
  have hz2 : TxtIs (⟨#[115, 99, 111, 114, 101, 32]⟩ ++ tq ++ ⟨#[32, 112, 97, 114, 116, 32]⟩) (scoreT ++ quoteL T.data.toList ++ partT) := hz1.add (m := partT)
  have hs2 := hz2.size
  rw [List.length_append, List.length_append, show scoreT.length = 6 from rfl, show partT.length = 6 from rfl] at hs2
  have xi := id_walk p1.id (by omega)
  go_wp2_with (go_at_call 13; refine xi.mono ?_)
  rintro r w2 ⟨⟨zi, rfl, hzi⟩, hid, a2⟩
  have p2 := p1.next hid a2
  clear p1 hid a2 xi g1 g2 hz1 hs1 hTq hsq
  generalize (⟨#[115, 99, 111, 114, 101, 32]⟩ ++ tq ++ ⟨#[32, 112, 97, 114, 116, 32]⟩ : ByteArray) = z2 at hz2 hs2 ⊢
  have hsi := hzi.size
  have hli := idL_len ids (0 + 1) (by omega)
  have hz3 := hz2.join hzi
  have hs3 : (z2 ++ zi).size = z2.size + zi.size := ByteArray.size_append
  have g3 := fun ww => add_run z2 zi (by omega) (by omega) ww
  have g4 := fun ww => add_run (z2 ++ zi) ⟨#[34, 34, 32, 115, 116, 97, 102, 102, 32]⟩ (by omega) (by decide) ww
  have hz4 : TxtIs (z2 ++ zi ++ ⟨#[34, 34, 32, 115, 116, 97, 102, 102, 32]⟩) (scoreT ++ quoteL T.data.toList ++ partT ++ idL ids (0 + 1) ++ staffT) := hz3.add (m := staffT)
  have hs4 : (z2 ++ zi ++ ⟨#[34, 34, 32, 115, 116, 97, 102, 102, 32]⟩ : ByteArray).size = (z2 ++ zi).size + 9 := ByteArray.size_append
  have xi := id_walk p2.id (by omega)
  go_wp2_with (go_at_call 13; refine xi.mono ?_)
  rintro r w3 ⟨⟨zj, rfl, hzj⟩, hid, a3⟩
  have p3 := p2.next hid a3
  clear p2 hid a3 xi g3 g4 hz2 hz3 hzi
  generalize (z2 ++ zi ++ ⟨#[34, 34, 32, 115, 116, 97, 102, 102, 32]⟩ : ByteArray) = z4 at hz4 hs4 ⊢
  have hsj := hzj.size
  have hlj := idL_len ids (0 + 1 + 1) (by omega)
  have hz5 := hz4.join hzj
  have hs5 : (z4 ++ zj).size = z4.size + zj.size := ByteArray.size_append
  have g5 := fun ww => add_run z4 zj (by omega) (by omega) ww
  have g6 := fun ww => add_run (z4 ++ zj) ⟨#[116, 114, 101, 98, 108, 101, 10]⟩ (by omega) (by decide) ww
  have hz6 : TxtIs (z4 ++ zj ++ ⟨#[116, 114, 101, 98, 108, 101, 10]⟩) (headL ids T.data.toList) := hz5.add (m := trebleT)
  go_wp2
  generalize (z4 ++ zj ++ ⟨#[116, 114, 101, 98, 108, 101, 10]⟩ : ByteArray) = z6 at hz6 ⊢
  have hrem : MRem ids (textL ids T.data.toList l) l 0 2 0 (headL ids T.data.toList) := ⟨rfl, fun _ => rfl, fun m h => absurd h (by omega), by rw [List.drop_zero]; omega⟩
  generalize hF : textL ids T.data.toList l = full at hrem hfull
  generalize headL ids T.data.toList = pre0 at hz6 hrem
  clear g5 g6 hz4 hz5 hzj hs2 hs3 hs4 hs5 hsi hli hsj hlj hql
  go_loopg [9, 10] (l.length + 1) (fun g v9 v10 wr => ∃ (i n : Nat) (p : UInt8) (z : ByteArray) (pre : List UInt8), i ≤ l.length ∧ g = l.length + 1 - i ∧ v9 = .string z ∧ TxtIs z pre ∧ v10 = .int .i64 (i : Nat) ∧ MRem ids full l i n p pre ∧ TxAt w.heap.size Ib Nb n ids T (.slice mo l.length mc) (.slice ko l.length kc) w wr)
  case atStart => exact ⟨0, 2, 0, z6, pre0, Nat.zero_le _, rfl, rfl, hz6, rfl, hrem, p3⟩
  case round =>
    clear hz6 hrem p3
    obtain ⟨i, n, p, z, pre, hi, hg, rfl, hz, rfl, hrem, p4⟩ := hrel
    have c1 := p4.c1
    have i0 : (0 : Int) ≤ (i : Int) := by omega
    have mi : IntKind.i64.wrap ((i : Int) + 1) = (i : Int) + 1 := IntWalk.i64_in _ (by omega)
    have hpre := pre_len hrem.1
    have hzs := hz.size
    by_cases hlt : i < l.length
    · have hlt' : (i : Int) < (l.length : Int) := by omega
      obtain ⟨m, hm⟩ : ∃ m, l[i]? = some m := ⟨_, List.getElem?_eq_getElem hlt⟩
      have hdrop := drop_cons hm
      obtain ⟨hr1, hr2, hr3, hr4⟩ := hrem
      rw [hdrop] at hr1 hr4
      simp only [measuresL, objs] at hr1 hr4
      have hm6 : m.1.length ≤ 6 := h6 m (List.mem_of_getElem? hm)
      have hL1 : (pre ++ measT ++ idL ids (n + 1) ++ keyL p m.2 ++ [123] ++ notesL ids (n + 1) m.1 ++ [32, 125, 10]).length ≤ full.length := pre_len (post := measuresL ids (n + 1 + m.1.length) m.2 (l.drop (i + 1))) (by rw [← hr1]; simp only [List.append_assoc])
      simp only [List.length_append, show measT.length = 8 from rfl, List.length_cons, List.length_nil] at hL1
      have g1 := fun ww => add_run z ⟨#[109, 101, 97, 115, 117, 114, 101, 32]⟩ (by omega) (by decide) ww
      have hz1 : TxtIs (z ++ ⟨#[109, 101, 97, 115, 117, 114, 101, 32]⟩) (pre ++ measT) := hz.add (m := measT)
      have hs1 := hz1.size
      rw [List.length_append, show measT.length = 8 from rfl] at hs1
      have xi := id_walk p4.id (by omega)
      go_wp2_with (go_at_call 13; refine xi.mono ?_)
      rintro r w5 ⟨⟨zi, rfl, hzi⟩, hid, a5⟩
      have p5 := p4.next hid a5
      clear p4 hid a5 xi g1 hz c1
      generalize (z ++ ⟨#[109, 101, 97, 115, 117, 114, 101, 32]⟩ : ByteArray) = z1 at hz1 hs1 ⊢
      have hsi := hzi.size
      have g2 := fun ww => add_run z1 zi (by omega) (by omega) ww
      have hz2 := hz1.join hzi
      have hs2 : (z1 ++ zi).size = z1.size + zi.size := ByteArray.size_append
      go_upto_region 9 with fail
      generalize (z1 ++ zi : ByteArray) = z2 at hz2 hs2 ⊢
      clear g2 hz1
      have hsh := h.step p5.below
      obtain ⟨pk, rfl, hkc⟩ := hsh.keys i m hm
      have e2 := p5.c2
      go_cut [70] from 43 to 124 (fun s70 wc => s70 = .bool (decide (m.2 ≠ p)) ∧ ∃ nq, wc = w5.drewN nq)
      case first =>
        by_cases h0 : i = 0
        · subst h0
          obtain rfl := hr2 rfl
          have hkc0 : w5.cell? pk = some (.int .u8 (m.2.toNat : Nat)) := by simpa [Addr.add] using hkc
          by_cases hkp : m.2 = 0
          · have hv : (m.2.toNat : Int) = 0 := by rw [hkp]; rfl
            go_quiet (fail)
            all_goals go_wp2
            all_goals go_meet
            all_goals exact ⟨by rw [decide_eq_false (fun hh => hh hkp)], nq, rfl⟩
          · have hv : ¬ (m.2.toNat : Int) = 0 := fun e => hkp (UInt8.toNat_inj.1 (by show m.2.toNat = 0; omega))
            have hbn : ((m.2.toNat : Int) != 0) = true := by simpa using hv
            go_quiet (fail)
            all_goals go_wp2
            all_goals go_meet
            all_goals exact ⟨by rw [decide_eq_true hkp], nq, rfl⟩
        · have hlt1 : i - 1 < l.length := by omega
          obtain ⟨m', hm'⟩ : ∃ m', l[i - 1]? = some m' := ⟨_, List.getElem?_eq_getElem hlt1⟩
          obtain rfl := hr3 m' (by omega) hm'
          obtain ⟨pk', e', hkc'⟩ := hsh.keys (i - 1) m' hm'
          injection e' with e'
          subst e'
          have ip : (0 : Int) < (i : Int) := by omega
          have ipn : 0 < i := by omega
          have ms : IntKind.i64.wrap ((i : Int) - 1) = ((i - 1 : Nat) : Int) := by rw [show ((i - 1 : Nat) : Int) = (i : Int) - 1 by omega]; exact IntWalk.i64_in _ (by omega)
          have j0 : (0 : Int) ≤ ((i - 1 : Nat) : Int) := by omega
          have j1 : ((i - 1 : Nat) : Int) < (l.length : Int) := by omega
          have inz : ¬ (i : Int) = 0 := by omega
          clear hm' hr3
          by_cases hkp : m.2 = m'.2
          · rw [← hkp] at hkc'
            have hbn : ((m.2.toNat : Int) != (m.2.toNat : Int)) = false := by simp
            go_quiet (fail)
            all_goals go_wp2
            all_goals go_meet
            all_goals exact ⟨by rw [decide_eq_false (fun hh => hh hkp)], nq, rfl⟩
          · have hv : ¬ (m.2.toNat : Int) = (m'.2.toNat : Int) := fun e => hkp (UInt8.toNat_inj.1 (by omega))
            have hbn : ((m.2.toNat : Int) != (m'.2.toNat : Int)) = true := by simpa using hv
            go_quiet (fail)
            all_goals go_wp2
            all_goals go_meet
            all_goals exact ⟨by rw [decide_eq_true hkp], nq, rfl⟩
      case rest =>
        obtain ⟨rfl, nq, rfl⟩ := hcut
        have p6 := p5.step (w' := w5.drewN nq) ⟨rfl, rfl, rfl, Nat.le_refl _, fun _ _ => rfl⟩
        have hsh6 := hsh.step (w' := w5.drewN nq) ⟨rfl, rfl, rfl, Nat.le_refl _, fun _ _ => rfl⟩
        have e2' := p6.c2
        have hkc6 := (hsh6.keys i m hm)
        obtain ⟨pk', e', hkc6⟩ := hkc6
        injection e' with e'
        subst e'
        clear p5 hsh hkc e2
        generalize w5.drewN nq = w6 at p6 hsh6 e2' hkc6 ⊢
        go_upto_if 70 with fail
        go_cut [9] from 31 to 124 (fun v9 wc => ∃ z, v9 = .string z ∧ TxtIs z (pre ++ measT ++ idL ids (n + 1) ++ keyL p m.2) ∧ TxAt w.heap.size Ib Nb (n + 1) ids T (.slice mo l.length mc) (.slice (some pk) l.length kc) w wc)
        case first =>
          by_cases hkp : m.2 = p
          · have hk0 : keyL p m.2 = [] := by rw [keyL, if_pos hkp]
            rw [decide_eq_false (fun hh => hh hkp)]
            clear hkp
            go_wp2
            go_meet
            case rel => exact ⟨z2, rfl, by rw [hk0, List.append_nil]; exact hz2, p6⟩
          · have hk1 : keyL p m.2 = [107, 101, 121, 32] ++ Lib.decDigits m.2.toNat ++ [32] := by rw [keyL, if_neg hkp]
            have hlt8 := m.2.toNat_lt
            rw [decide_eq_true hkp]
            clear hkp
            have mk1 : IntKind.i64.wrap (m.2.toNat : Int) = (m.2.toNat : Int) := IntWalk.i64_in _ (by omega)
            have hd := digits_walk m.2.toNat (by omega)
            have hdl := decS_le m.2.toNat (by omega)
            have g1 := fun ww => add_run z2 ⟨#[107, 101, 121, 32]⟩ (by omega) (by decide) ww
            have hs3 : (z2 ++ ⟨#[107, 101, 121, 32]⟩ : ByteArray).size = z2.size + 4 := ByteArray.size_append
            have g2 := fun ww => add_run (z2 ++ ⟨#[107, 101, 121, 32]⟩) (decS m.2.toNat) (by omega) (by omega) ww
            have hs4 : (z2 ++ ⟨#[107, 101, 121, 32]⟩ ++ decS m.2.toNat : ByteArray).size = (z2 ++ ⟨#[107, 101, 121, 32]⟩ : ByteArray).size + (decS m.2.toNat).size := ByteArray.size_append
            have g3 := fun ww => add_run (z2 ++ ⟨#[107, 101, 121, 32]⟩ ++ decS m.2.toNat) ⟨#[32]⟩ (by omega) (by decide) ww
            have hz3 : TxtIs (z2 ++ ⟨#[107, 101, 121, 32]⟩ ++ decS m.2.toNat ++ ⟨#[32]⟩) (pre ++ measT ++ idL ids (n + 1) ++ [107, 101, 121, 32] ++ Lib.decDigits m.2.toNat ++ [32]) :=
              ((hz2.add (m := [107, 101, 121, 32])).join (m := Lib.decDigits m.2.toNat) rfl).add (m := [32])
            go_wp2_with (go_at_call 14; refine (hd _).mono ?_)
            intro r w7; first | (intro he b7; subst he) | rintro ⟨rfl, b7⟩
            go_wp2
            go_meet
            case rel => exact ⟨_, rfl, by rw [hk1]; simpa only [List.append_assoc] using hz3, p6.step b7⟩
        case rest =>
          obtain ⟨z3, rfl, hz3, p7⟩ := hcut
          clear p6 hsh6 e2' hkc6 hz2 hs2 hs1 hsi hzi
          have hz3s := hz3.size
          simp only [List.length_append, show measT.length = 8 from rfl] at hz3s
          have g1 := fun ww => add_run z3 ⟨#[123]⟩ (by omega) (by decide) ww
          have hz4 : TxtIs (z3 ++ ⟨#[123]⟩) (pre ++ measT ++ idL ids (n + 1) ++ keyL p m.2 ++ [123]) := hz3.add (m := [123])
          have hn0 : NRem ids full m.1 0 (n + 1) (pre ++ measT ++ idL ids (n + 1) ++ keyL p m.2 ++ [123]) ([32, 125, 10] ++ measuresL ids (n + 1 + m.1.length) m.2 (l.drop (i + 1))) :=
            ⟨by rw [List.drop_zero, ← hr1]; simp only [List.append_assoc], by omega⟩
          go_wp2
          generalize (z3 ++ ⟨#[123]⟩ : ByteArray) = z4 at hz4 ⊢
          generalize pre ++ measT ++ idL ids (n + 1) ++ keyL p m.2 ++ [123] = pre4 at hz4 hn0
          clear g1 hz3 hz3s hpre hzs
          go_loopg [9, 11] (m.1.length + 1) (fun g v9 v11 wq => ∃ (k : Nat) (z : ByteArray) (pre' : List UInt8), k ≤ m.1.length ∧ g = m.1.length + 1 - k ∧ v9 = .string z ∧ TxtIs z pre' ∧ v11 = .int .i64 (k : Nat) ∧
            NRem ids full m.1 k (n + 1 + k) pre' ([32, 125, 10] ++ measuresL ids (n + 1 + m.1.length) m.2 (l.drop (i + 1))) ∧ TxAt w.heap.size Ib Nb (n + 1 + k) ids T (.slice mo l.length mc) (.slice (some pk) l.length kc) w wq)
          case atStart => exact ⟨0, z4, pre4, Nat.zero_le _, rfl, rfl, hz4, rfl, hn0, p7⟩
          case round =>
            clear hz4 hn0 p7
            obtain ⟨k, z, pre', hk, hgk, rfl, hz, rfl, ⟨hn1, hn2⟩, p8⟩ := hrel
            have hsh := h.step p8.below
            obtain ⟨pm, ao, ac, rfl, hrow, hnotes⟩ := hsh.rows i m hm
            have c1 := p8.c1
            have k0 : (0 : Int) ≤ (k : Int) := by omega
            have hpre := pre_len hn1
            have hzs := hz.size
            by_cases hkl : k < m.1.length
            · have hkl' : (k : Int) < (m.1.length : Int) := by omega
              obtain ⟨y, hy⟩ : ∃ y, m.1[k]? = some y := ⟨_, List.getElem?_eq_getElem hkl⟩
              obtain ⟨qa, rfl, hyc⟩ := hnotes k y hy
              have hdk := drop_cons hy
              rw [hdk] at hn1
              simp only [notesL] at hn1
              have hL2 : (pre' ++ [32] ++ idL ids (n + 1 + k + 1) ++ noteL y).length ≤ full.length := pre_len (post := notesL ids (n + 1 + k + 1) (m.1.drop (k + 1)) ++ ([32, 125, 10] ++ measuresL ids (n + 1 + m.1.length) m.2 (l.drop (i + 1)))) (by rw [← hn1]; simp only [List.append_assoc])
              have hnr : NRem ids full m.1 (k + 1) (n + 1 + (k + 1)) (pre' ++ [32] ++ idL ids (n + 1 + k + 1) ++ noteL y) ([32, 125, 10] ++ measuresL ids (n + 1 + m.1.length) m.2 (l.drop (i + 1))) :=
                ⟨by rw [show n + 1 + (k + 1) = n + 1 + k + 1 by omega, ← hn1]; simp only [List.append_assoc], by omega⟩
              clear hn1 hy hdk hm hr3 hdrop
              simp only [List.length_append, List.length_cons, List.length_nil] at hL2
              have mk1 : IntKind.i64.wrap ((k : Int) + 1) = (k : Int) + 1 := IntWalk.i64_in _ (by omega)
              have g1 := fun ww => add_run z ⟨#[32]⟩ (by omega) (by decide) ww
              have hz5 : TxtIs (z ++ ⟨#[32]⟩) (pre' ++ [32]) := hz.add (m := [32])
              have hs5 : (z ++ ⟨#[32]⟩ : ByteArray).size = z.size + 1 := ByteArray.size_append
              have xi := id_walk p8.id (by omega)
              go_wp2_with (go_at_call 13; refine xi.mono ?_)
              rintro r w9 ⟨⟨zi, rfl, hzi⟩, hid, a9⟩
              have p9 := p8.next hid a9
              clear p8 hid a9 xi g1 hz hsh hrow hnotes hyc c1
              generalize (z ++ ⟨#[32]⟩ : ByteArray) = z5 at hz5 hs5 ⊢
              have hsi := hzi.size
              have g2 := fun ww => add_run z5 zi (by omega) (by omega) ww
              have hz6 := hz5.join hzi
              have hs6 : (z5 ++ zi).size = z5.size + zi.size := ByteArray.size_append
              go_upto_region 17 with fail
              generalize (z5 ++ zi : ByteArray) = z6 at hz6 hs6 ⊢
              clear g2 hz5
              have hy8 := y.toNat_lt
              have y0 : (0 : Int) ≤ (y.toNat : Int) := by omega
              by_cases hev : y.toNat % 2 = 0
              · have hr0 : (y.toNat : Int).tmod 2 = 0 := by rw [Int.tmod_eq_emod_of_nonneg y0]; omega
                obtain ⟨hh, hhe⟩ : ∃ hh, y.toNat / 2 = hh := ⟨_, rfl⟩
                obtain ⟨b, hb⟩ : ∃ b, hh % 7 = b := ⟨_, rfl⟩
                have hq : (y.toNat : Int).tdiv 2 = (hh : Int) := by rw [Int.tdiv_eq_ediv_of_nonneg y0]; omega
                have hwq : IntKind.u8.wrap (hh : Int) = hh := IntWalk.u8_in _ (by omega)
                have hr7 : (hh : Int).tmod 7 = (b : Int) := by rw [Int.tmod_eq_emod_of_nonneg (by omega)]; omega
                have hnl : noteL y = [stepD b, 52, 58, 52] := by rw [noteL, if_pos hev, stepC_d, hhe, hb]
                rw [hnl] at hnr
                clear hnl hev
                have hb7 : b < 7 := by omega
                clear hb hhe
                rcases (by omega : b = 0 ∨ b = 1 ∨ b = 2 ∨ b = 3 ∨ b = 4 ∨ b = 5 ∨ b = 6) with rfl | rfl | rfl | rfl | rfl | rfl | rfl
                · have hec : TxtIs ((⟨#[67, 68, 69, 70, 71, 65, 66]⟩ : ByteArray).extract 0 1) [67] := by rfl
                  have hz7 : TxtIs (z6 ++ (⟨#[67, 68, 69, 70, 71, 65, 66]⟩ : ByteArray).extract 0 1 ++ ⟨#[52, 58, 52]⟩) (pre' ++ [32] ++ idL ids (n + 1 + k + 1) ++ [67, 52, 58, 52]) := by
                    have := (hz6.join hec).add (m := [52, 58, 52])
                    rw [List.append_assoc] at this
                    exact this
                  go_wp2
                  go_roundg (m.1.length + 1 - (k + 1))
                  case measure => omega
                  case rel => exact ⟨k + 1, _, _, by omega, rfl, rfl, hz7, by simp, hnr, p9⟩
                · have hec : TxtIs ((⟨#[67, 68, 69, 70, 71, 65, 66]⟩ : ByteArray).extract 1 2) [68] := by rfl
                  have hz7 : TxtIs (z6 ++ (⟨#[67, 68, 69, 70, 71, 65, 66]⟩ : ByteArray).extract 1 2 ++ ⟨#[52, 58, 52]⟩) (pre' ++ [32] ++ idL ids (n + 1 + k + 1) ++ [68, 52, 58, 52]) := by
                    have := (hz6.join hec).add (m := [52, 58, 52])
                    rw [List.append_assoc] at this
                    exact this
                  go_wp2
                  go_roundg (m.1.length + 1 - (k + 1))
                  case measure => omega
                  case rel => exact ⟨k + 1, _, _, by omega, rfl, rfl, hz7, by simp, hnr, p9⟩
                · have hec : TxtIs ((⟨#[67, 68, 69, 70, 71, 65, 66]⟩ : ByteArray).extract 2 3) [69] := by rfl
                  have hz7 : TxtIs (z6 ++ (⟨#[67, 68, 69, 70, 71, 65, 66]⟩ : ByteArray).extract 2 3 ++ ⟨#[52, 58, 52]⟩) (pre' ++ [32] ++ idL ids (n + 1 + k + 1) ++ [69, 52, 58, 52]) := by
                    have := (hz6.join hec).add (m := [52, 58, 52])
                    rw [List.append_assoc] at this
                    exact this
                  go_wp2
                  go_roundg (m.1.length + 1 - (k + 1))
                  case measure => omega
                  case rel => exact ⟨k + 1, _, _, by omega, rfl, rfl, hz7, by simp, hnr, p9⟩
                · have hec : TxtIs ((⟨#[67, 68, 69, 70, 71, 65, 66]⟩ : ByteArray).extract 3 4) [70] := by rfl
                  have hz7 : TxtIs (z6 ++ (⟨#[67, 68, 69, 70, 71, 65, 66]⟩ : ByteArray).extract 3 4 ++ ⟨#[52, 58, 52]⟩) (pre' ++ [32] ++ idL ids (n + 1 + k + 1) ++ [70, 52, 58, 52]) := by
                    have := (hz6.join hec).add (m := [52, 58, 52])
                    rw [List.append_assoc] at this
                    exact this
                  go_wp2
                  go_roundg (m.1.length + 1 - (k + 1))
                  case measure => omega
                  case rel => exact ⟨k + 1, _, _, by omega, rfl, rfl, hz7, by simp, hnr, p9⟩
                · have hec : TxtIs ((⟨#[67, 68, 69, 70, 71, 65, 66]⟩ : ByteArray).extract 4 5) [71] := by rfl
                  have hz7 : TxtIs (z6 ++ (⟨#[67, 68, 69, 70, 71, 65, 66]⟩ : ByteArray).extract 4 5 ++ ⟨#[52, 58, 52]⟩) (pre' ++ [32] ++ idL ids (n + 1 + k + 1) ++ [71, 52, 58, 52]) := by
                    have := (hz6.join hec).add (m := [52, 58, 52])
                    rw [List.append_assoc] at this
                    exact this
                  go_wp2
                  go_roundg (m.1.length + 1 - (k + 1))
                  case measure => omega
                  case rel => exact ⟨k + 1, _, _, by omega, rfl, rfl, hz7, by simp, hnr, p9⟩
                · have hec : TxtIs ((⟨#[67, 68, 69, 70, 71, 65, 66]⟩ : ByteArray).extract 5 6) [65] := by rfl
                  have hz7 : TxtIs (z6 ++ (⟨#[67, 68, 69, 70, 71, 65, 66]⟩ : ByteArray).extract 5 6 ++ ⟨#[52, 58, 52]⟩) (pre' ++ [32] ++ idL ids (n + 1 + k + 1) ++ [65, 52, 58, 52]) := by
                    have := (hz6.join hec).add (m := [52, 58, 52])
                    rw [List.append_assoc] at this
                    exact this
                  go_wp2
                  go_roundg (m.1.length + 1 - (k + 1))
                  case measure => omega
                  case rel => exact ⟨k + 1, _, _, by omega, rfl, rfl, hz7, by simp, hnr, p9⟩
                · have hec : TxtIs ((⟨#[67, 68, 69, 70, 71, 65, 66]⟩ : ByteArray).extract 6 7) [66] := by rfl
                  have hz7 : TxtIs (z6 ++ (⟨#[67, 68, 69, 70, 71, 65, 66]⟩ : ByteArray).extract 6 7 ++ ⟨#[52, 58, 52]⟩) (pre' ++ [32] ++ idL ids (n + 1 + k + 1) ++ [66, 52, 58, 52]) := by
                    have := (hz6.join hec).add (m := [52, 58, 52])
                    rw [List.append_assoc] at this
                    exact this
                  go_wp2
                  go_roundg (m.1.length + 1 - (k + 1))
                  case measure => omega
                  case rel => exact ⟨k + 1, _, _, by omega, rfl, rfl, hz7, by simp, hnr, p9⟩
              · have hr1 : (y.toNat : Int).tmod 2 = 1 := by rw [Int.tmod_eq_emod_of_nonneg y0]; omega
                have hw1 : IntKind.u8.wrap 1 = 1 := IntWalk.u8_in _ (by omega)
                have hnl : noteL y = [114, 58, 52] := by rw [noteL, if_neg hev]
                rw [hnl] at hnr
                have g3 := fun ww => add_run z6 ⟨#[114, 58, 52]⟩ (by omega) (by decide) ww
                have hz7 : TxtIs (z6 ++ ⟨#[114, 58, 52]⟩) (pre' ++ [32] ++ idL ids (n + 1 + k + 1) ++ [114, 58, 52]) := hz6.add (m := [114, 58, 52])
                clear hnl hev
                go_wp2
                go_roundg (m.1.length + 1 - (k + 1))
                case measure => omega
                case rel => exact ⟨k + 1, _, _, by omega, rfl, rfl, hz7, by simp, hnr, p9⟩
            · have hkl' : ¬ (k : Int) < (m.1.length : Int) := by omega
              obtain rfl : k = m.1.length := by omega
              rw [drop_end (Nat.le_refl _)] at hn1
              simp only [notesL, List.nil_append] at hn1
              have g1 := fun ww => add_run z ⟨#[32, 125, 10]⟩ (by omega) (by decide) ww
              have hz5 : TxtIs (z ++ ⟨#[32, 125, 10]⟩) (pre' ++ [32, 125, 10]) := hz.add (m := [32, 125, 10])
              have hrem' : MRem ids full l (i + 1) (n + 1 + m.1.length) m.2 (pre' ++ [32, 125, 10]) := by
                refine ⟨by rw [← hn1]; simp only [List.append_assoc], fun h0 => absurd h0 (by omega), fun m' _ h' => ?_, by omega⟩
                rw [show i + 1 - 1 = i by omega, hm] at h'
                injection h' with h'
                rw [h']
              clear hm hr3 hn1 hdrop
              go_wp2
              go_roundg (l.length + 1 - (i + 1))
              case measure => omega
              case rel => exact ⟨i + 1, _, m.2, _, _, by omega, rfl, rfl, hz5, by simp, hrem', p8⟩
    · have hlt' : ¬ (i : Int) < (l.length : Int) := by omega
      have hzf : z = mk full := by
        have h1 := hrem.1
        rw [drop_end (by omega)] at h1
        have h2 : pre = full := by simpa [measuresL] using h1
        rw [← h2]
        exact hz
      have hbel := p4.below
      clear hz hrem p4 h
      subst hzf
      go_wp2
      go_ret
      exact ⟨hbel, rfl⟩
end Go.Proofs.YtjnkppneilmpbaaGreatDoor
