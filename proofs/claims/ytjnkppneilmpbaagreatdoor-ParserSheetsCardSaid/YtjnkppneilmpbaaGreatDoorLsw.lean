/-
  A part of the proof that the law ParserSheets (chapter 19) returns true for every sheet: walks of the program's functions, and runs of them in the kernel by the own evaluator.
-/
import Derived.Test.YtjnkppneilmpbaaGreatDoorTks
import Derived.Test.YtjnkppneilmpbaaGreatDoorScw
import Derived.Deep.CutRange
import Derived.Deep.RegionHeld
namespace Go.Proofs.YtjnkppneilmpbaaGreatDoor
open Go.RowKit

/-- How score ends: the score of the sheet. -/
def LsEnd (T : ByteArray) (l : List (List UInt8 × UInt8)) (w : World) (r : Ending) (w' : World) : Prop := Below w.heap.size w w' ∧ ∃ v, r = .returned v ∧ ScoreIs w' T (l.map conv) v

theorem take_more {l : List (List UInt8 × UInt8)} {i : Nat} {m : List UInt8 × UInt8} (h : l[i]? = some m) : (l.take (i + 1)).map conv = (l.take i).map conv ++ [(m.1.map nOf, (m.2.toNat : Int))] := by
  obtain ⟨hi, rfl⟩ := List.getElem?_eq_some_iff.1 h
  rw [List.take_succ_eq_append_getElem hi, List.map_append]
  rfl

def TotIs (l : List (List UInt8 × UInt8)) (i n : Nat) : Prop := n = total 2 ((l.take i).map conv)
def MoreIs (l : List (List UInt8 × UInt8)) (i : Nat) (m : List UInt8 × UInt8) : Prop := (l.take (i + 1)).map conv = (l.take i).map conv ++ [(m.1.map nOf, (m.2.toNat : Int))]
theorem grown_below' {B : Nat} {w w1 w2 : World} {row : Option Nat} (h : Below B w w1) (hB : B ≤ w1.heap.size) (hg : w1.grownBy w2 row) (hr : ∀ k, row = some k → B ≤ k) : Below B w w2 :=
  ⟨hg.os.trans h.os, hg.tape.trans h.tape, hg.output.trans h.output, Nat.le_trans h.size hg.size, fun k hk => (hg.block k (Nat.lt_of_lt_of_le hk hB) (fun e => by
    have := hr k e.symm
    omega)).trans (h.block k hk)⟩
theorem shut {p : Prop} (h : p) : Shut p := h
def QIs (q : Int) (n k : Nat) : Prop := q = (n : Int) + 2 + k
def HsIs (row : List UInt8) (k : Nat) (hs : List (Option (UInt8 × Nat))) : Prop := hs.map (·.map (·.1)) = (row.take k).map nOf
theorem stepOf_C (y : UInt8) : stepOf (stepC y) = ((y.toNat / 2 % 7 : Nat) : Int) := by
  have h7 : y.toNat / 2 % 7 < 7 := Nat.mod_lt _ (by decide)
  rw [stepC_d]
  generalize y.toNat / 2 % 7 = b at h7
  rcases (by omega : b = 0 ∨ b = 1 ∨ b = 2 ∨ b = 3 ∨ b = 4 ∨ b = 5 ∨ b = 6) with rfl | rfl | rfl | rfl | rfl | rfl | rfl <;> decide
theorem ev_slice (q : Int) (e : Option Nat) : Tryz.prog.builtSlice 67 1 [(0, .agg (evVals q e).toArray)] = some (evVals q e).toArray := by
  cases e with
  | none => kernel_rfl
  | some H => kernel_rfl
theorem ev_form (q : Int) (e : Option Nat) : (evVals q e).toArray.size = 13 ∧ (evVals q e).toArray.all (·.oneCell') = true := by
  cases e <;> exact ⟨rfl, by simp [evVals, Value.oneCell']⟩
theorem Tryz.szq67' : (Tryz.prog.info? 67).map (·.size) = some 13 := by kernel_rfl
theorem objs_take : ∀ (l : List (List UInt8 × UInt8)) (i : Nat), objs (l.take i) ≤ objs l
  | [], _ => by simp
  | _ :: _, 0 => Nat.zero_le _
  | m :: l, i + 1 => by
    have := objs_take l i
    simp only [List.take_succ_cons, objs]
    omega

set_option maxHeartbeats 32000000 in
set_option maxRecDepth 1000000 in
theorem lscore_walk (T : ByteArray) (mo ko : Option Addr) (mc kc : Nat) (l : List (List UInt8 × UInt8)) (w : World) (hl : l.length ≤ 5) (h6 : ∀ m ∈ l, m.1.length ≤ 6) (h : ShIs w l mo ko) :
    Calls Tryz.prog 5 #[.agg #[.string T, .slice mo l.length mc, .slice ko l.length kc]] w (LsEnd T l w) := by
  have ho : objs l ≤ 35 := Nat.le_trans (objs_le l 6 h6) (by omega)
  obtain ⟨im, hm0, hy0, hy1, hy2⟩ := info_parts Tryz.infoMeas
  obtain ⟨ie, he0, hx0, hx1, hx2⟩ := info_parts Tryz.infoEvent
  go_enter Tryz.func5, Tryz.ntmps5
  go_wp2
  have P0 : ScAt (w.heap.size + 1) (w.heap.size + 1 + 1 + 1 + 1) w.heap.size w.heap.size T (.slice (some ⟨w.heap.size + 1 + 1 + 1, 0, none⟩) 1 1) (.slice none 0 0) (.slice none 0 0) 1 [.int .i64 0, .int .i64 1, .string ByteArray.empty, .int .i64 0, .int .i64 0, .slice (some ⟨w.heap.size + 1 + 1, 0, none⟩) 1 1] [] 0 [] (.slice (some ⟨w.heap.size + 1 + 1, 0, none⟩) 1 1) 1 [.int .i64 0, .int .i64 2, .int .i64 1] w
      (((((w.alloc (.cells #[.string T, .slice mo l.length mc, .slice ko l.length kc] 25)).alloc (.cells #[.string ⟨#[]⟩, .bool false, .slice none 0 0, .slice none 0 0, .slice none 0 0, .slice none 0 0] 32)).alloc (.cells #[.int .i64 0, .int .i64 2, .int .i64 1] 44)).alloc
        (.cells #[.int .i64 0, .int .i64 1, .string ⟨#[]⟩, .int .i64 0, .int .i64 0, .slice (some ⟨w.heap.size + 1 + 1, 0, none⟩) 1 1] 49)).alloc (.cells #[.string T, .bool false, .slice (some ⟨w.heap.size + 1 + 1 + 1, 0, none⟩) 1 1, .slice none 0 0, .slice none 0 0, .slice none 0 0] 32)) := by
    have hst := (World.ownsRow_lit ((w.alloc (.cells #[.string T, .slice mo l.length mc, .slice ko l.length kc] 25)).alloc (.cells #[.string ⟨#[]⟩, .bool false, .slice none 0 0, .slice none 0 0, .slice none 0 0, .slice none 0 0] 32)) (base := w.heap.size) (e := 44) (size := 3) #[.int .i64 0, .int .i64 2, .int .i64 1] 1 (by simp; omega) (by decide) rfl)
    have hpt := (World.ownsRow_lit (((w.alloc (.cells #[.string T, .slice mo l.length mc, .slice ko l.length kc] 25)).alloc (.cells #[.string ⟨#[]⟩, .bool false, .slice none 0 0, .slice none 0 0, .slice none 0 0, .slice none 0 0] 32)).alloc (.cells #[.int .i64 0, .int .i64 2, .int .i64 1] 44)) (base := w.heap.size) (e := 49) (size := 6) #[.int .i64 0, .int .i64 1, .string ByteArray.empty, .int .i64 0, .int .i64 0, .slice (some ⟨w.heap.size + 1 + 1, 0, none⟩) 1 1] 1 (by simp; omega) (by decide) rfl)
    simp only [World.size_alloc] at hst hpt
    exact ⟨alloc_at' _ _ (by simp), alloc_keep _ (alloc_keep _ (alloc_keep _ (alloc_at' _ _ (by simp)))), hpt.alloc _, (hst.alloc _).alloc _, ⟨[], World.ownsRow_nil _ _ _ _, trivial⟩, World.ownsRow_nil _ _ _ _,
      ((((Away.of_below ((Below.refl w.heap.size w).alloc (Nat.le_refl _) _)).alloc _).alloc _).alloc _).alloc _, by omega, by omega, by simp; omega, by simp⟩
  have hX0 : (((((w.alloc (.cells #[.string T, .slice mo l.length mc, .slice ko l.length kc] 25)).alloc (.cells #[.string ⟨#[]⟩, .bool false, .slice none 0 0, .slice none 0 0, .slice none 0 0, .slice none 0 0] 32)).alloc (.cells #[.int .i64 0, .int .i64 2, .int .i64 1] 44)).alloc
        (.cells #[.int .i64 0, .int .i64 1, .string ⟨#[]⟩, .int .i64 0, .int .i64 0, .slice (some ⟨w.heap.size + 1 + 1, 0, none⟩) 1 1] 49)).alloc (.cells #[.string T, .bool false, .slice (some ⟨w.heap.size + 1 + 1 + 1, 0, none⟩) 1 1, .slice none 0 0, .slice none 0 0, .slice none 0 0] 32)).heap[w.heap.size]? = some (.cells #[.string T, .slice mo l.length mc, .slice ko l.length kc] 25 (0, 0)) :=
    alloc_keep _ (alloc_keep _ (alloc_keep _ (alloc_keep _ (heap_alloc_new w _))))
  have hb0 : Below w.heap.size w (((((w.alloc (.cells #[.string T, .slice mo l.length mc, .slice ko l.length kc] 25)).alloc (.cells #[.string ⟨#[]⟩, .bool false, .slice none 0 0, .slice none 0 0, .slice none 0 0, .slice none 0 0] 32)).alloc (.cells #[.int .i64 0, .int .i64 2, .int .i64 1] 44)).alloc
        (.cells #[.int .i64 0, .int .i64 1, .string ⟨#[]⟩, .int .i64 0, .int .i64 0, .slice (some ⟨w.heap.size + 1 + 1, 0, none⟩) 1 1] 49)).alloc (.cells #[.string T, .bool false, .slice (some ⟨w.heap.size + 1 + 1 + 1, 0, none⟩) 1 1, .slice none 0 0, .slice none 0 0, .slice none 0 0] 32)) :=
    (((((Below.refl w.heap.size w).alloc (Nat.le_refl _) _).alloc (by simp) _).alloc (by simp; omega) _).alloc (by simp; omega) _).alloc (by simp; omega) _
  generalize (((((w.alloc (.cells #[.string T, .slice mo l.length mc, .slice ko l.length kc] 25)).alloc (.cells #[.string ⟨#[]⟩, .bool false, .slice none 0 0, .slice none 0 0, .slice none 0 0, .slice none 0 0] 32)).alloc (.cells #[.int .i64 0, .int .i64 2, .int .i64 1] 44)).alloc
        (.cells #[.int .i64 0, .int .i64 1, .string ⟨#[]⟩, .int .i64 0, .int .i64 0, .slice (some ⟨w.heap.size + 1 + 1, 0, none⟩) 1 1] 49)).alloc (.cells #[.string T, .bool false, .slice (some ⟨w.heap.size + 1 + 1 + 1, 0, none⟩) 1 1, .slice none 0 0, .slice none 0 0, .slice none 0 0] 32)) = ws at P0 hX0 hb0 ⊢
  generalize hSe : w.heap.size + 1 + 1 + 1 + 1 = S at P0 ⊢
  generalize w.heap.size + 1 + 1 + 1 = pb at P0 ⊢
  generalize w.heap.size + 1 + 1 = sb at P0 ⊢
  generalize hRe : w.heap.size + 1 = R at P0 ⊢
  go_loopg [4, 5] (l.length + 1) (fun g v4 v5 wr => ∃ (i n : Nat) (mv : Value), i ≤ l.length ∧ g = l.length + 1 - i ∧ v4 = .int .i64 ((n + 1 : Nat) : Int) ∧ TotIs l i n ∧ v5 = .int .i64 (i : Nat) ∧
    ScAt R S w.heap.size w.heap.size T (.slice (some ⟨pb, 0, none⟩) 1 1) mv (.slice none 0 0) 1 [.int .i64 0, .int .i64 1, .string ByteArray.empty, .int .i64 0, .int .i64 0, .slice (some ⟨sb, 0, none⟩) 1 1] ((l.take i).map conv) 0 [] (.slice (some ⟨sb, 0, none⟩) 1 1) 1 [.int .i64 0, .int .i64 2, .int .i64 1] w wr ∧
    wr.heap[w.heap.size]? = some (.cells #[.string T, .slice mo l.length mc, .slice ko l.length kc] 25 (0, 0)) ∧ Below w.heap.size w wr)
  case atStart => exact ⟨0, 2, _, Nat.zero_le _, rfl, rfl, rfl, rfl, P0, hX0, hb0⟩
  case round =>
    clear P0 hX0 hb0
    obtain ⟨i, n, mv, hi, hg, rfl, hn, rfl, P1, hX1, hb1⟩ := hrel
    have hnb : n ≤ 37 := by
      have h1 := hn
      unfold TotIs at h1
      rw [total_conv] at h1
      have := objs_take l i
      omega
    have i0 : (0 : Int) ≤ (i : Int) := by omega
    have mi : IntKind.i64.wrap ((i : Int) + 1) = (i : Int) + 1 := IntWalk.i64_in _ (by omega)
    have x1 : wr.cell? ⟨w.heap.size, 1, none⟩ = some (.slice mo l.length mc) := by rw [Lib.cell_of_heap hX1]; rfl
    have x2 : wr.cell? ⟨w.heap.size, 2, none⟩ = some (.slice ko l.length kc) := by rw [Lib.cell_of_heap hX1]; rfl
    by_cases hlt : i < l.length
    · have hlt' : (i : Int) < (l.length : Int) := by omega
      obtain ⟨m, hm⟩ : ∃ m, l[i]? = some m := ⟨_, List.getElem?_eq_getElem hlt⟩
      have hm6 : m.1.length ≤ 6 := h6 m (List.mem_of_getElem? hm)
      have hmore : MoreIs l i m := take_more hm
      obtain ⟨pm, ao, ac, rfl, hrow0, hnotes0⟩ := h.rows i m hm
      obtain ⟨pk, rfl, hkc0⟩ := h.keys i m hm
      have hkc := (hb1.cell (World.block_lt_of_cell? w _ hkc0)).trans hkc0
      clear hm
      have hk8 := m.2.toNat_lt
      have hbuilt := built_meas ((n : Int) + 1) (m.2.toNat : Int)
      have hz1 : (Tryz.prog.info? 56).map (·.size) = some (measArr ((n : Int) + 1) (m.2.toNat : Int) (.slice none 0 0)).size := Tryz.szq56
      have hzs : zMeasArr.size = (measArr ((n : Int) + 1) (m.2.toNat : Int) (.slice none 0 0)).size := rfl
      have hone := (meas_form ((n : Int) + 1) (m.2.toNat : Int) (.slice none 0 0) rfl).2
      have hcast : ((n + 1 : Nat) : Int) = (n : Int) + 1 := by omega
      have mk8 : IntKind.i64.wrap (m.2.toNat : Int) = (m.2.toNat : Int) := IntWalk.i64_in _ (by omega)
      have mn : IntKind.i64.wrap ((n : Int) + 1 + 1) = (n : Int) + 1 + 1 := IntWalk.i64_in _ (by omega)
      rw [hcast]
      clear hcast hkc0
      generalize hm1 : measArr ((n : Int) + 1) (m.2.toNat : Int) (.slice none 0 0) = m1 at hbuilt hz1 hzs hone
      go_wp2_with (first
        | (refine wpList_build_l rfl 56 _ rfl (l := [(0, .agg #[.int .i64 0, .int .i64 ((n : Int) + 1)]), (1, .agg metArr), (3, .int .i64 (m.2.toNat : Int))]) (by simp [Act.eval, metArr]) hbuilt ?_)
        | (refine wpList_store_new (w := wr) rfl 56 _ _ rfl m1 _ _ rfl rfl rfl hz1 hzs hone ?_))
      clear hbuilt hz1 hzs hone mn mk8
      have hV0 : VC (wr.heap.size + 1) w.heap.size w.heap.size (.slice none 0 0) (n + 1) [] (wr.alloc (.cells m1 56)) ((wr.alloc (.cells m1 56)).alloc zVoice) :=
        ⟨alloc_at' _ _ (by simp), World.ownsRow_nil _ _ _ _, fun c Hh hm => absurd hm List.not_mem_nil, Away.of_below ((Below.refl _ _).alloc (Nat.le_refl _) _), by simp, by have := hb1.size; simp; omega, (fun k hk => by simp [Value.ownBlock] at hk), fun c Hh hm => absurd hm List.not_mem_nil⟩
      have hM0 : ((wr.alloc (.cells m1 56)).alloc zVoice).heap[wr.heap.size]? = some (.cells m1 56 (0, 0)) := alloc_keep _ (heap_alloc_new wr _)
      have hB0 : Below wr.heap.size wr ((wr.alloc (.cells m1 56)).alloc zVoice) := ((Below.refl _ wr).alloc (Nat.le_refl _) _).alloc (by simp) _
      have hV1 : Below w.heap.size w wr := hb1
      have lH := (Array.getElem?_eq_some_iff.1 hX1).1
      have hwb : (wr.alloc (.cells m1 56)).heap.size = wr.heap.size + 1 := by simp
      generalize hwbe : wr.alloc (.cells m1 56) = wb at hV0 hM0 hB0 hwb ⊢
      have hMb : wb.heap[wr.heap.size]? = some (.cells m1 56 (0, 0)) := by rw [← hwbe]; exact heap_alloc_new wr _
      unfold zVoice at hV0 hM0 hB0
      have hX1' := hX1
      clear hkc hX1 hV1
      generalize wr = wo at P1 hX1' hb1 x1 x2 hV0 hM0 hB0 hwb hMb hwbe lH ⊢
      have S1 := shut (And.intro P1 (And.intro hmore (And.intro hn (And.intro hm1 (And.intro hX1' hMb)))))
      clear P1 hmore hn hm1 hX1' hMb x2 hwbe
      go_loopg [4, 8] (m.1.length + 1) (fun g v4 v8 wq => ∃ (k : Nat) (q : Int) (ev : Value) (hs : List (Option (UInt8 × Nat))), k ≤ m.1.length ∧ g = m.1.length + 1 - k ∧ v4 = .int .i64 q ∧ QIs q n k ∧ v8 = .int .i64 (k : Nat) ∧ hs.length = k ∧ HsIs m.1 k hs ∧
        VC (wo.heap.size + 1) w.heap.size w.heap.size ev (n + 1) hs wb wq ∧ wq.heap[wo.heap.size]? = some (.cells m1 56 (0, 0)) ∧ Below wo.heap.size wo wq)
      case atStart => exact ⟨0, _, _, [], Nat.zero_le _, rfl, rfl, (by unfold QIs; omega), rfl, rfl, rfl, hV0, hM0, hB0⟩
      case round =>
        clear hV0 hM0 hB0
        obtain ⟨k, q, ev, hs, hk, hgk, rfl, hq, rfl, hhl, hhs, hV, hM, hB⟩ := hrel
        have k0 : (0 : Int) ≤ (k : Int) := by omega
        have mk1 : IntKind.i64.wrap ((k : Int) + 1) = (k : Int) + 1 := IntWalk.i64_in _ (by omega)
        have mq : IntKind.i64.wrap (q + 1) = q + 1 := IntWalk.i64_in _ (by unfold QIs at hq; omega)
        have x1q := (hB.cell (World.block_lt_of_cell? wo _ x1)).trans x1
        have bel := hb1.trans (hB.mono hb1.size)
        have hrow := (bel.cell (World.block_lt_of_cell? w _ hrow0)).trans hrow0
        by_cases hkl : k < m.1.length
        · have hkl' : (k : Int) < (m.1.length : Int) := by omega
          obtain ⟨y, hy⟩ : ∃ y, m.1[k]? = some y := ⟨_, List.getElem?_eq_getElem hkl⟩
          obtain ⟨qa, rfl, hyc0⟩ := hnotes0 k y hy
          have hyc := (bel.cell (World.block_lt_of_cell? w _ hyc0)).trans hyc0
          have hhs' : ∀ e : Option (UInt8 × Nat), e.map (·.1) = nOf y → HsIs m.1 (k + 1) (hs ++ [e]) := fun e he => by
            unfold HsIs at *
            obtain ⟨hi', rfl⟩ := List.getElem?_eq_some_iff.1 hy
            rw [List.take_succ_eq_append_getElem hi', List.map_append, List.map_append, hhs]
            simp [he]
          clear hy hyc0
          have hy8 := y.toNat_lt
          have y0 : (0 : Int) ≤ (y.toNat : Int) := by omega
          have mr : IntKind.u8.wrap ((y.toNat : Int).tmod 2) = (y.toNat : Int).tmod 2 := IntWalk.u8_in _ (by rw [Int.tmod_eq_emod_of_nonneg y0]; omega)
          go_upto_region 13 with fail
          have bz := (Below.refl _ wr).alloc (Nat.le_refl _) (.cells #[.int .i64 0, .int .i64 q, .int .i64 2, .int .i64 2, .int .i64 0, .slice none 0 0, .slice none 0 0, .int .i64 0, .int .i64 0, .int .i64 0, .slice none 0 0, .int .i64 0, .int .i64 0] 67)
          have hE : (wr.alloc (.cells #[.int .i64 0, .int .i64 q, .int .i64 2, .int .i64 2, .int .i64 0, .slice none 0 0, .slice none 0 0, .int .i64 0, .int .i64 0, .int .i64 0, .slice none 0 0, .int .i64 0, .int .i64 0] 67)).heap[wr.heap.size]? = some (.cells (evVals q none).toArray 67 (0, 0)) := heap_alloc_new wr _
          have x1r := (bz.cell (World.block_lt_of_cell? wr _ x1q)).trans x1q
          have hrowr := (bz.cell (World.block_lt_of_cell? wr _ hrow)).trans hrow
          have hycr := (bz.cell (World.block_lt_of_cell? wr _ hyc)).trans hyc
          have c2r : (wr.alloc (.cells #[.int .i64 0, .int .i64 q, .int .i64 2, .int .i64 2, .int .i64 0, .slice none 0 0, .slice none 0 0, .int .i64 0, .int .i64 0, .int .i64 0, .slice none 0 0, .int .i64 0, .int .i64 0] 67)).cell? ⟨wr.heap.size, 2, none⟩ = some (.int .i64 2) := by rw [Lib.cell_of_heap hE]; rfl
          have c5r : (wr.alloc (.cells #[.int .i64 0, .int .i64 q, .int .i64 2, .int .i64 2, .int .i64 0, .slice none 0 0, .slice none 0 0, .int .i64 0, .int .i64 0, .int .i64 0, .slice none 0 0, .int .i64 0, .int .i64 0] 67)).cell? ⟨wr.heap.size, 5, none⟩ = some (.slice none 0 0) := by rw [Lib.cell_of_heap hE]; rfl
          have f2r := Lib.frozen_of_heap hE 2
          have f5r := Lib.frozen_of_heap hE 5
          have hEs : (wr.alloc (.cells #[.int .i64 0, .int .i64 q, .int .i64 2, .int .i64 2, .int .i64 0, .slice none 0 0, .slice none 0 0, .int .i64 0, .int .i64 0, .int .i64 0, .slice none 0 0, .int .i64 0, .int .i64 0] 67)).heap.size = wr.heap.size + 1 := by simp
          generalize wr.alloc (.cells #[.int .i64 0, .int .i64 q, .int .i64 2, .int .i64 2, .int .i64 0, .slice none 0 0, .slice none 0 0, .int .i64 0, .int .i64 0, .int .i64 0, .slice none 0 0, .int .i64 0, .int .i64 0] 67) = w1 at bz hE x1r hrowr hycr c2r c5r f2r f5r hEs ⊢
          clear x1q hrow hyc
          go_upto_if 64 with fail
          generalize hEb : wr.heap.size = Eb at bz hE c2r c5r f2r f5r hEs ⊢
          go_cut [] from 40 to 81 (fun wc => ∃ e : Option (UInt8 × Nat), e.map (·.1) = nOf y ∧ wc.heap[Eb]? = some (.cells (evVals q (e.map (·.2))).toArray 67 (0, 0)) ∧ (∀ (c : UInt8) (Hh : Nat), e = some (c, Hh) → wc.heap[Hh]? = some (headObj c) ∧ Eb < Hh) ∧ Away [Eb] w1 wc)
          case first =>
            clear hV hM hB hhs hhs' hq bel S1 hb1 hwb
            by_cases hev : y.toNat % 2 = 0
            · have hr0 : (y.toNat : Int).tmod 2 = 0 := by rw [Int.tmod_eq_emod_of_nonneg y0]; omega
              have hno : nOf y = some (stepC y) := by rw [nOf, if_pos hev]
              obtain ⟨hh, hhe⟩ : ∃ hh, y.toNat / 2 = hh := ⟨_, rfl⟩
              obtain ⟨b, hbe⟩ : ∃ b, hh % 7 = b := ⟨_, rfl⟩
              have e1 : (y.toNat : Int) % 2 = 0 := by omega
              have e2 : (y.toNat : Int) / 2 = (hh : Int) := by omega
              have e3 : (hh : Int) % 7 = (b : Int) := by omega
              have hq2 : (y.toNat : Int).tdiv 2 = (hh : Int) := by rw [Int.tdiv_eq_ediv_of_nonneg y0]; omega
              have hwq : IntKind.u8.wrap (hh : Int) = hh := IntWalk.u8_in _ (by omega)
              have hr7 : (hh : Int).tmod 7 = (b : Int) := by rw [Int.tmod_eq_emod_of_nonneg (by omega)]; omega
              have hwb8 : IntKind.u8.wrap (b : Int) = b := IntWalk.u8_in _ (by omega)
              have hwb64 : IntKind.i64.wrap (b : Int) = b := IntWalk.i64_in _ (by omega)
              have hst : stepOf (stepC y) = (b : Int) := by rw [stepOf_C, hhe, hbe]
              have aw1 := (Away.of_below (bs := [Eb]) (Below.refl w1.heap.size w1)).setCell (p := ⟨Eb, 2, none⟩) (.inl (by simp)) (.int .i64 1)
              have hE1 := Lib.heap_setCell_same (i := 2) hE (.int .i64 1)
              have hsz1 : ((w1.setCell ⟨Eb, 2, none⟩ (.int .i64 1)).setCell ⟨Eb, 5, none⟩ (.slice (some ⟨Eb + 1, 0, none⟩) 1 1)).heap.size = Eb + 1 := by simp [World.setCell, hEs]
              have aw2 := (aw1.setCell (p := ⟨Eb, 5, none⟩) (.inl (by simp)) (.slice (some ⟨Eb + 1, 0, none⟩) 1 1)).alloc (.cells #[.int .i64 b, .int .i64 0, .int .i64 4, .bool false, .int .i64 0] 71)
              have hE2 := alloc_keep (.cells #[.int .i64 b, .int .i64 0, .int .i64 4, .bool false, .int .i64 0] 71) (Lib.heap_setCell_same (i := 5) hE1 (.slice (some ⟨Eb + 1, 0, none⟩) 1 1))
              have hH2 := alloc_at' ((w1.setCell ⟨Eb, 2, none⟩ (.int .i64 1)).setCell ⟨Eb, 5, none⟩ (.slice (some ⟨Eb + 1, 0, none⟩) 1 1)) (.cells #[.int .i64 b, .int .i64 0, .int .i64 4, .bool false, .int .i64 0] 71) hsz1.symm
              have c5s : ((w1.setCell ⟨Eb, 2, none⟩ (.int .i64 1)).alloc (.cells #[.int .i64 b, .int .i64 0, .int .i64 4, .bool false, .int .i64 0] 71)).cell? ⟨Eb, 5, none⟩ = some (.slice none 0 0) := by rw [Lib.cell_of_heap (alloc_keep (.cells #[.int .i64 b, .int .i64 0, .int .i64 4, .bool false, .int .i64 0] 71) hE1)]; rfl
              have f5s := Lib.frozen_of_heap (alloc_keep (.cells #[.int .i64 b, .int .i64 0, .int .i64 4, .bool false, .int .i64 0] 71) hE1) 5
              have S2 := shut (And.intro hE2 (And.intro hH2 (And.intro aw2 (And.intro hst hno))))
              clear hev hhe hbe hst hno hE1 hE2 hH2 aw1 aw2 hE hsz1
              go_wp2
              go_meet
              case rel =>
               obtain ⟨hE2, hH2, aw2, hst, hno⟩ := S2.out
               exact ⟨some (stepC y, Eb + 1), by rw [hno]; rfl, hE2, fun c Hh e => by
                injection e with e
                injection e with e1 e2
                subst e1 e2
                exact ⟨by unfold headObj; rw [hst]; exact hH2, by omega⟩, aw2⟩
            · have hr1 : (y.toNat : Int).tmod 2 = 1 := by rw [Int.tmod_eq_emod_of_nonneg y0]; omega
              have hno : nOf y = none := by rw [nOf, if_neg hev]
              have e1 : (y.toNat : Int) % 2 = 1 := by omega
              clear hev
              go_wp2
              go_meet
              case rel => exact ⟨none, by rw [hno]; rfl, hE, (fun c Hh e => by cases e), Away.of_below (Below.refl w1.heap.size w1)⟩
          case rest =>
            obtain ⟨e, heo, hEr, hHd, awE⟩ := hcut
            have b2 : Below Eb wr wc := ⟨awE.os.trans bz.os, awE.tape.trans bz.tape, awE.output.trans bz.output, Nat.le_trans bz.size awE.size, fun j hj => (awE.block j (by omega) (by simp; omega)).trans (bz.block j hj)⟩
            have b2' : Below wr.heap.size wr wc := by rw [hEb]; exact b2
            have hVc := hV.step b2'
            have hMc := (b2'.block wo.heap.size (Array.getElem?_eq_some_iff.1 hM).1).trans hM
            have hBc := hB.trans (b2'.mono hB.size)
            have hsz0 := hV.aw.size
            have hszc := awE.size
            have lHo := lH
            have hform := ev_form q (e.map (·.2))
            have hbs := ev_slice q (e.map (·.2))
            have hrowe : evRow (n + 1) (hs ++ [e]) = evRow (n + 1) hs ++ (evVals q (e.map (·.2))).toArray.toList := by
              rw [evRow_more]
              have hqe : (((n + 1 + hs.length : Nat) : Int) + 1) = q := by unfold QIs at hq; omega
              rw [hqe]
            have hh6 : hs.length ≤ 6 := by omega
            have S3 := shut (And.intro hhs' (And.intro hq (And.intro heo (And.intro hMc (And.intro hBc hhl)))))
            clear hhl hhs' hq hhs heo hMc hBc hV hM hB bz awE b2 b2' hE x1r hrowr hycr c2r c5r f2r f5r bel
            generalize (evVals q (e.map (·.2))).toArray = er at hEr hform hbs hrowe
            have hz67 : (Tryz.prog.info? 67).map (·.size) = some er.size := by rw [hform.1]; exact Tryz.szq67'
            obtain ⟨vo, vc, rfl⟩ := hVc.evIs
            have c0 := hVc.c0
            have f0 := Lib.frozen_of_heap hVc.hV 0
            have lV := hVc.lt
            have nV := World.new_ne wc _ c0
            have evs := hVc.evs
            have szb := hVc.aw.size
            clear nV
            go_wp2_with (first
              | (refine wpList_load_row rfl 67 _ rfl Eb rfl 67 er (0, 0) _ hEr Tryz.underlying67 rfl hz67 ?_)
              | (refine wpList_slice_l rfl 57 67 1 _ rfl wc.heap.size rfl Tryz.underlying57 er (l := [(0, .agg er)]) (by simp [Act.eval, Act.put]) hbs ?_)
              | (at_builtin; refine wpList_append_lies _ rfl _ _ 57 rfl wb.heap.size 67 ie _ 13 152 Tryz.underlying57 he0 hx0 hx1 hx2 rfl (by omega) (.slice vo hs.length vc) hs.length (evRow (n + 1) hs) rfl (evs.alloc _) ⟨wc.heap.size, 0, none⟩ 1 1 er.toList rfl (by rw [Array.length_toList, hform.1]) (World.news_of_block (heap_alloc_new _ _)) (by intro u hu; exact Array.all_eq_true'.1 hform.2 u (by simpa using hu)) (by omega) (by unfold maxLen; omega) (by omega) (by simp; omega) (wc.heap.size + 1) (by simp) ?_; intro gg cap w9 hown1 hgrow hat hgl; rw [← hrowe] at hown1; obtain ⟨hV10, hV9⟩ := (hVc.step ((Below.refl _ wc).alloc (Nat.le_refl _) (.cells er 67))).push' (by simp; omega) (by simp; omega) (e := e) (fun c Hh he => ⟨alloc_keep _ (hHd c Hh he).1, by have := (hHd c Hh he).2; omega, by have := (hHd c Hh he).2; simp; omega⟩) hgrow hown1 (alloc_hat hat); have d0 := Lib.cell_of_heap hV9 0; have g0 := Lib.frozen_of_heap hV9 0; simp only [List.getElem?_toArray, List.getElem?_cons_zero] at d0))
            obtain ⟨hhs', hq, heo, hMc, hBc, hhl⟩ := S3.out
            have hown := evs
            have hM10 := (Below.heap_setCell w9 ⟨wo.heap.size + 1, 0, none⟩ (.slice (some ⟨gg, 0, none⟩) (hs.length + 1) cap) wo.heap.size (by show wo.heap.size ≠ wo.heap.size + 1; omega)).trans ((hgrow.block wo.heap.size (by simp; omega) (fun e' => by have := (evs.lt _ e'.symm).1; omega)).trans (alloc_keep _ hMc))
            have hB10 := (grown_below' (hBc.alloc hBc.size (.cells er 67)) (by have := hBc.size; simp; omega) hgrow (fun j hj => by have := (evs.lt _ hj).1; omega)).setCell (p := ⟨wo.heap.size + 1, 0, none⟩) (by show wo.heap.size ≤ wo.heap.size + 1; omega) (.slice (some ⟨gg, 0, none⟩) (hs.length + 1) cap)
            go_roundg (m.1.length + 1 - (k + 1))
            case measure => omega
            case rel => exact ⟨k + 1, q + 1, _, hs ++ [e], by omega, rfl, rfl, (by unfold QIs at *; omega), by simp, by rw [List.length_append, hhl]; rfl, hhs' e heo, hV10, hM10, hB10⟩
        · have hkl' : ¬ (k : Int) < (m.1.length : Int) := by omega
          obtain rfl : k = m.1.length := by omega
          have hhs2 : hs.map (·.map (·.1)) = m.1.map nOf := by
            unfold HsIs at hhs
            rw [hhs, List.take_of_length_le (Nat.le_refl _)]
          have hh6 : hs.length ≤ 6 := by omega
          obtain ⟨vo, vc, rfl⟩ := hV.evIs
          have S3 := shut (And.intro hq (And.intro hhs2 (And.intro hM (And.intro hB (And.intro hhl hb1)))))
          have szb := hV.aw.size
          have hlo := lH
          clear hq hhs hhs2 hM hB bel hhl hb1 hgk
          go_upto_region 20 with fail
          clear hrow
          have bz := (Below.refl _ wr).alloc (Nat.le_refl _) (.cells #[.slice none 0 0, .slice none 0 0] 75)
          have hC := heap_alloc_new wr (.cells #[.slice none 0 0, .slice none 0 0] 75)
          have hV1 := hV.step bz
          have hCs : (wr.alloc (.cells #[.slice none 0 0, .slice none 0 0] 75)).heap.size = wr.heap.size + 1 := by simp
          generalize wr.alloc (.cells #[.slice none 0 0, .slice none 0 0] 75) = w1 at bz hC hV1 hCs ⊢
          have c0 := hV1.c0
          have c1 : w1.cell? ⟨wo.heap.size + 1, 1, none⟩ = some (.slice none 0 0) := by rw [Lib.cell_of_heap hV1.hV]; rfl
          have e0 : w1.cell? ⟨wr.heap.size, 0, none⟩ = some (.slice none 0 0) := by rw [Lib.cell_of_heap hC]; rfl
          have e1 : w1.cell? ⟨wr.heap.size, 1, none⟩ = some (.slice none 0 0) := by rw [Lib.cell_of_heap hC]; rfl
          have g1 := Lib.frozen_of_heap hC 1
          clear hV
          go_upto_if 86 with fail
          generalize hCb : wr.heap.size = Cb at bz hC e0 e1 g1 hCs ⊢
          go_cut [] from 28 to 98 (fun wc => ∃ va vn vc, wc.heap[Cb]? = some (.cells #[.slice none 0 0, .slice va vn vc] 75 (0, 0)) ∧ CellIs wc (n + 1) (hs.map (·.map (·.1))) (.slice va vn vc) ∧ Away [Cb] w1 wc)
          case first =>
            clear S1 S3 x1q
            cases hs with
            | nil =>
              have hz : ¬ (0 : Int) < ((([] : List (Option (UInt8 × Nat))).length : Nat) : Int) := by simp
              go_wp2
              go_meet
              case rel => exact ⟨_, _, _, hC, .inl ⟨rfl, rfl⟩, Away.of_below (Below.refl w1.heap.size w1)⟩
            | cons e0h hst =>
              have hz : (0 : Int) < (((e0h :: hst).length : Nat) : Int) := by simp
              have aw2 := ((Away.of_below (bs := [Cb]) (Below.refl w1.heap.size w1)).setCell (p := ⟨Cb, 1, none⟩) (.inl (by simp)) (.slice (some ⟨Cb + 1, 0, none⟩) 1 1)).alloc (.cells #[.slice vo (e0h :: hst).length vc, .slice none 0 0] 60)
              have hC2 := alloc_keep (.cells #[.slice vo (e0h :: hst).length vc, .slice none 0 0] 60) (Lib.heap_setCell_same (i := 1) hC (.slice (some ⟨Cb + 1, 0, none⟩) 1 1))
              have sm : Same [60, 67, 71] w1 (w1.setCell ⟨Cb, 1, none⟩ (.slice (some ⟨Cb + 1, 0, none⟩) 1 1)) := Same.of_set hC (by decide)
              have sz2 : (w1.setCell ⟨Cb, 1, none⟩ (.slice (some ⟨Cb + 1, 0, none⟩) 1 1)).heap.size = w1.heap.size := by simp [World.setCell]
              have hcell : CellIs ((w1.setCell ⟨Cb, 1, none⟩ (.slice (some ⟨Cb + 1, 0, none⟩) 1 1)).alloc (.cells #[.slice vo (e0h :: hst).length vc, .slice none 0 0] 60)) (n + 1) ((e0h :: hst).map (·.map (·.1))) (.slice (some ⟨Cb + 1, 0, none⟩) 1 1) := by
                have hlit := World.ownsRow_lit (w1.setCell ⟨Cb, 1, none⟩ (.slice (some ⟨Cb + 1, 0, none⟩) 1 1)) (base := 0) (e := 60) (size := 2) #[.slice vo (e0h :: hst).length vc, .slice none 0 0] 1 (Nat.zero_le _) (by decide) rfl
                rw [sz2, hCs] at hlit
                exact .inr ⟨by simp, _, e0h :: hst, rfl, hlit, (sm.own (by simp) (hV1.evs.mono (base' := 0) (Nat.zero_le _))).alloc _, fun c Hh hm => alloc_keep _ (sm _ _ _ _ (by simp) (hV1.heads c Hh hm).1)⟩
              have S4 := shut (And.intro hC2 (And.intro hcell aw2))
              clear hC2 hcell aw2 sm sz2 hV1 hC
              go_wp2
              go_meet
              case rel =>
                obtain ⟨h1, h2, h3⟩ := S4.out
                exact ⟨_, _, _, h1, h2, h3⟩
          case rest =>
            obtain ⟨va, vn, vc2, hCr, hcell, awC⟩ := hcut
            obtain ⟨hq, hhs2, hM, hB, hhl, hb1⟩ := S3.out
            obtain ⟨P1, hmore, hn, hm1, hX1', hMb⟩ := S1.out
            have b2 : Below Cb wr wc := ⟨awC.os.trans bz.os, awC.tape.trans bz.tape, awC.output.trans bz.output, Nat.le_trans bz.size awC.size, fun j hj => (awC.block j (by omega) (by simp; omega)).trans (bz.block j hj)⟩
            have b2' : Below wr.heap.size wr wc := by rw [hCb]; exact b2
            have hBc := hB.trans (b2'.mono hB.size)
            have hMc : wc.heap[wo.heap.size]? = some (.cells (measArr ((n : Int) + 1) (m.2.toNat : Int) (.slice none 0 0)) 56 (0, 0)) := by rw [hm1]; exact (b2'.block wo.heap.size (Array.getElem?_eq_some_iff.1 hM).1).trans hM
            have P2 := P1.step hBc
            have hne := P1.mne (Nat.le_refl _)
            have hwo : w.heap.size ≤ wo.heap.size := P1.aw.size
            have e0' : wc.cell? ⟨Cb, 0, none⟩ = some (.slice none 0 0) := by rw [Lib.cell_of_heap hCr]; rfl
            have e1' : wc.cell? ⟨Cb, 1, none⟩ = some (.slice va vn vc2) := by rw [Lib.cell_of_heap hCr]; rfl
            have m21 : wc.cell? ⟨wo.heap.size, 21, none⟩ = some (.slice none 0 0) := measArr_at hMc 21 rfl
            have f21 := Lib.frozen_of_heap hMc 21
            have lMc := (Array.getElem?_eq_some_iff.1 hMc).1
            have hM2 : ((wc.setCell ⟨wo.heap.size, 21, none⟩ (.slice (some ⟨wc.heap.size, 0, none⟩) 1 1)).alloc (.cells #[.slice none 0 0, .slice va vn vc2] 75)).heap[wo.heap.size]? = some (.cells (measArr ((n : Int) + 1) (m.2.toNat : Int) (.slice (some ⟨wc.heap.size, 0, none⟩) 1 1)) 56 (0, 0)) :=
              alloc_keep _ (Lib.heap_setCell_same (i := 21) hMc _)
            have P3 := (P2.setBc hMc hne hwo 21 (.slice (some ⟨wc.heap.size, 0, none⟩) 1 1)).step ((Below.refl _ _).alloc (Nat.le_refl _) (.cells #[.slice none 0 0, .slice va vn vc2] 75))
            have sm : Same [60, 67, 71] wc (wc.setCell ⟨wo.heap.size, 21, none⟩ (.slice (some ⟨wc.heap.size, 0, none⟩) 1 1)) := Same.of_set hMc (by decide)
            have sz2 : (wc.setCell ⟨wo.heap.size, 21, none⟩ (.slice (some ⟨wc.heap.size, 0, none⟩) 1 1)).heap.size = wc.heap.size := by simp [World.setCell]
            have hMeas : MeasIs ((wc.setCell ⟨wo.heap.size, 21, none⟩ (.slice (some ⟨wc.heap.size, 0, none⟩) 1 1)).alloc (.cells #[.slice none 0 0, .slice va vn vc2] 75)) n (m.1.map nOf) (m.2.toNat : Int) (measArr ((n : Int) + 1) (m.2.toNat : Int) (.slice (some ⟨wc.heap.size, 0, none⟩) 1 1)) := by
              have hlit := World.ownsRow_lit (wc.setCell ⟨wo.heap.size, 21, none⟩ (.slice (some ⟨wc.heap.size, 0, none⟩) 1 1)) (base := 0) (e := 75) (size := 2) #[.slice none 0 0, .slice va vn vc2] 1 (Nat.zero_le _) (by decide) rfl
              rw [sz2] at hlit
              rw [hhs2] at hcell
              exact ⟨_, _, rfl, hlit, (hcell.same sm).same (Same.of_below ((Below.refl _ _).alloc (Nat.le_refl _) _))⟩
            have hX2 := alloc_keep (.cells #[.slice none 0 0, .slice va vn vc2] 75) ((Below.heap_setCell wc ⟨wo.heap.size, 21, none⟩ (.slice (some ⟨wc.heap.size, 0, none⟩) 1 1) w.heap.size (by show w.heap.size ≠ wo.heap.size; omega)).trans ((hBc.block w.heap.size lH).trans hX1'))
            have S5 := shut (And.intro hq (And.intro hmore (And.intro hn hhl)))
            clear sm sz2 P2 P1 hMc hcell hCr hq hmore hn hhl hhs2 hM hB hBc b2 b2' hm1 hX1' hMb hb1 awC bz hC hV1 S1 S3 hne e0 e1 c0 c1 g1
            go_upto_region 23 with fail
            generalize (wc.setCell ⟨wo.heap.size, 21, none⟩ (.slice (some ⟨wc.heap.size, 0, none⟩) 1 1)).alloc (.cells #[.slice none 0 0, .slice va vn vc2] 75) = w2 at hM2 P3 hMeas hX2 ⊢
            have hform := hMeas.form
            have hbs : Tryz.prog.builtSlice 56 1 [(0, .agg (measArr ((n : Int) + 1) (m.2.toNat : Int) (.slice (some ⟨wc.heap.size, 0, none⟩) 1 1)))] = some (measArr ((n : Int) + 1) (m.2.toNat : Int) (.slice (some ⟨wc.heap.size, 0, none⟩) 1 1)) := meas_slice _ _ _ _ _
            generalize measArr ((n : Int) + 1) (m.2.toNat : Int) (.slice (some ⟨wc.heap.size, 0, none⟩) 1 1) = mm at hM2 hMeas hform hbs
            have hzm : (Tryz.prog.info? 56).map (·.size) = some mm.size := by rw [hform.1]; exact Tryz.szq56
            obtain ⟨rs, hown, hms⟩ := P3.ms
            obtain ⟨mo, mc2, rfl⟩ := own_is hown
            have d3 := P3.c3
            have g3 := P3.f 3
            have lS := P3.ltX
            have nS := World.new_ne w2 _ d3
            have sz3 := P3.aw.size
            have hli : ((l.take i).map conv).length ≤ 5 := by simp; omega
            have hms' := hms
            clear e0' e1' m21 f21 nS
            generalize hla : (l.take i).map conv = la at P3 hli hown hms d3
            have hMe : MeasIs w2 (total 2 la) (m.1.map nOf) (m.2.toNat : Int) mm := by
              have hn1 := S5.out.2.2.1
              unfold TotIs at hn1
              rw [← hla, ← hn1]
              exact hMeas
            have S6 := shut hla
            clear hla hms'
            go_wp2_with (first
              | (refine wpList_load_row rfl 56 _ rfl wo.heap.size rfl 56 mm (0, 0) _ hM2 Tryz.underlying56 rfl hzm ?_)
              | (refine wpList_slice_l rfl 28 56 1 _ rfl w2.heap.size rfl Tryz.underlying28 mm (l := [(0, .agg mm)]) (by simp [Act.eval, Act.put]) hbs ?_)
              | (at_builtin; refine wpList_append_lies _ rfl _ _ 28 rfl w.heap.size 56 im _ 22 216 Tryz.underlying28 hm0 hy0 hy1 hy2 rfl (by omega) (.slice mo la.length mc2) la.length (rs.flatMap (·.toList)) rfl (hown.alloc _) ⟨w2.heap.size, 0, none⟩ 1 1 mm.toList rfl (by rw [Array.length_toList, hform.1]) (World.news_of_block (heap_alloc_new _ _)) (by intro u hu; exact Array.all_eq_true'.1 hform.2 u (by simpa using hu)) (by omega) (by unfold maxLen; omega) (by omega) (by simp; omega) (w2.heap.size + 1) (by simp) ?_; intro gg cap w12 hown1 hgrow hat hgl; obtain ⟨P4, hX4⟩ := P3.addMeas' hms hMe hgrow hown hown1; have d4 := Lib.cell_of_heap hX4 3; have g4 := Lib.frozen_of_heap hX4 3; simp only [List.getElem?_toArray, List.getElem?_cons_succ, List.getElem?_cons_zero] at d4))
            obtain ⟨hq, hmore, hn, hhl⟩ := S5.out
            obtain rfl := S6.out
            have ltS : w.heap.size < S := Nat.lt_of_le_of_lt P4.lR P4.lX
            have hX4' : (w12.setCell ⟨S, 3, none⟩ (.slice (some ⟨gg, 0, none⟩) (((l.take i).map conv).length + 1) cap)).heap[w.heap.size]? = some (.cells #[.string T, .slice (some pm) l.length mc, .slice (some pk) l.length kc] 25 (0, 0)) :=
              (Below.heap_setCell _ _ _ _ (Nat.ne_of_lt ltS)).trans ((hgrow.block w.heap.size (by simp; omega) (fun e' => own_ne hown hX2 (by intro cs fr hc; injection hc with _ h2 _; exact absurd h2 (by decide)) e'.symm)).trans (alloc_keep _ hX2))
            go_roundg (l.length + 1 - (i + 1))
            case measure => omega
            case rel =>
              have hP := P4
              have hTo : TotIs l (i + 1) (n + 1 + m.1.length) := by
                unfold TotIs
                rw [hmore, total_more, ← hn]
                simp
              rw [← hmore] at hP
              exact ⟨i + 1, n + 1 + m.1.length, _, by omega, rfl, congrArg _ (by unfold QIs at hq; omega), hTo, rfl, hP, hX4', P4.below⟩
    · have hlt' : ¬ (i : Int) < (l.length : Int) := by omega
      obtain rfl : i = l.length := by omega
      have hT : total 2 (l.map conv) = n := by
        have h1 := hn
        unfold TotIs at h1
        rw [List.take_of_length_le (Nat.le_refl _)] at h1
        exact h1.symm
      rw [List.take_of_length_le (Nat.le_refl _)] at P1
      have hcast : ((n + 1 : Nat) : Int) = (n : Int) + 1 := by omega
      have mn : IntKind.i64.wrap ((n : Int) + 1 - 1) = (n : Int) := by
        rw [IntWalk.i64_in _ (by omega)]; omega
      have mn' : IntKind.i64.wrap (n : Int) = (n : Int) := IntWalk.i64_in _ (by omega)
      have mn2 : (n : Int) + 1 - 1 = (n : Int) := by omega
      obtain ⟨rs, hown, hms⟩ := P1.ms
      obtain ⟨mo2, mc2, rfl⟩ := own_is hown
      have d5 := P1.c5
      have g5 := P1.f 5
      have lS := P1.ltX
      have nS := World.new_ne wr _ d5
      have ltS : w.heap.size < S := Nat.lt_of_le_of_lt P1.lR P1.lX
      have sz2 : (wr.setCell ⟨S, 5, none⟩ (.slice (some ⟨wr.heap.size, 0, none⟩) 1 1)).heap.size = wr.heap.size := by simp [World.setCell]
      have hlit := World.ownsRow_lit (wr.setCell ⟨S, 5, none⟩ (.slice (some ⟨wr.heap.size, 0, none⟩) 1 1)) (base := 0) (e := 42) (size := 2) #[.int .i64 0, .int .i64 (n : Nat)] 1 (Nat.zero_le _) (by decide) rfl
      rw [sz2] at hlit
      have s1 : Same [42, 44, 49, 56, 60, 67, 71, 75] wr (wr.setCell ⟨S, 5, none⟩ (.slice (some ⟨wr.heap.size, 0, none⟩) 1 1)) := Same.of_set P1.hX (by decide)
      have s2 : Same [42, 44, 49, 56, 60, 67, 71, 75] wr ((wr.setCell ⟨S, 5, none⟩ (.slice (some ⟨wr.heap.size, 0, none⟩) 1 1)).alloc (.cells #[.int .i64 0, .int .i64 (n : Nat)] 42)) := s1.trans (Same.of_below ((Below.refl _ _).alloc (Nat.le_refl _) _))
      have hS5 : ((wr.setCell ⟨S, 5, none⟩ (.slice (some ⟨wr.heap.size, 0, none⟩) 1 1)).alloc (.cells #[.int .i64 0, .int .i64 (n : Nat)] 42)).heap[S]? = some (.cells #[.string T, .bool false, .slice (some ⟨pb, 0, none⟩) 1 1, .slice mo2 (l.map conv).length mc2, .slice none 0 0, .slice (some ⟨wr.heap.size, 0, none⟩) 1 1] 32 (0, 0)) :=
        alloc_keep _ (by rw [Lib.heap_setCell_same P1.hX]; rfl)
      have hR5 : ((wr.setCell ⟨S, 5, none⟩ (.slice (some ⟨wr.heap.size, 0, none⟩) 1 1)).alloc (.cells #[.int .i64 0, .int .i64 (n : Nat)] 42)).heap[R]? = some zScore :=
        alloc_keep _ ((Below.heap_setCell _ _ _ _ (Nat.ne_of_lt P1.lX)).trans P1.hR)
      have b5 := (P1.below.setCell (p := ⟨S, 5, none⟩) (Nat.le_of_lt ltS) (.slice (some ⟨wr.heap.size, 0, none⟩) 1 1)).alloc (by rw [sz2]; exact hb1.size) (.cells #[.int .i64 0, .int .i64 (n : Nat)] 42)
      have hfin : ∀ w5, (wr.setCell ⟨S, 5, none⟩ (.slice (some ⟨wr.heap.size, 0, none⟩) 1 1)).alloc (.cells #[.int .i64 0, .int .i64 (n : Nat)] 42) = w5 →
          ScoreIs (w5.setRow R #[.string T, .bool false, .slice (some ⟨pb, 0, none⟩) 1 1, .slice mo2 (l.map conv).length mc2, .slice none 0 0, .slice (some ⟨wr.heap.size, 0, none⟩) 1 1]) T (l.map conv) (.agg #[.string T, .bool false, .slice (some ⟨pb, 0, none⟩) 1 1, .slice mo2 (l.map conv).length mc2, .slice none 0 0, .slice (some ⟨wr.heap.size, 0, none⟩) 1 1]) ∧
          Below w.heap.size w (w5.setRow R #[.string T, .bool false, .slice (some ⟨pb, 0, none⟩) 1 1, .slice mo2 (l.map conv).length mc2, .slice none 0 0, .slice (some ⟨wr.heap.size, 0, none⟩) 1 1]) := by
        rintro w5 rfl
        have s3 : Same [42, 44, 49, 56, 60, 67, 71, 75] ((wr.setCell ⟨S, 5, none⟩ (.slice (some ⟨wr.heap.size, 0, none⟩) 1 1)).alloc (.cells #[.int .i64 0, .int .i64 (n : Nat)] 42)) _ := Same.of_setRow hR5 (by decide) #[.string T, .bool false, .slice (some ⟨pb, 0, none⟩) 1 1, .slice mo2 (l.map conv).length mc2, .slice none 0 0, .slice (some ⟨wr.heap.size, 0, none⟩) 1 1]
        have sm := s2.trans s3
        exact ⟨⟨_, _, _, _, rs, rfl, (sm.own (by simp) P1.parts).mono (Nat.zero_le _), (sm.own (by simp) P1.staves).mono (Nat.zero_le _), (sm.own (by simp) hown).mono (Nat.zero_le _), hms.same (sm.less (by simp)), by rw [hT]; exact s3.own (by simp) hlit⟩,
          ((Away.of_below (bs := []) b5).setRow P1.lR #[.string T, .bool false, .slice (some ⟨pb, 0, none⟩) 1 1, .slice mo2 (l.map conv).length mc2, .slice none 0 0, .slice (some ⟨wr.heap.size, 0, none⟩) 1 1]).below⟩
      have S7 := shut hfin
      rw [hcast]
      clear hcast hfin s1 s2 b5 hlit sz2 hms hown P1 hT hn hb1 hX1 hg
      have hone : (#[.string T, .bool false, .slice (some ⟨pb, 0, none⟩) 1 1, .slice mo2 (l.map conv).length mc2, .slice none 0 0, .slice (some ⟨wr.heap.size, 0, none⟩) 1 1] : Array Value).all (·.oneCell') = true := by simp [Value.oneCell']
      have hr6 : (#[.string T, .bool false, .slice (some ⟨pb, 0, none⟩) 1 1, .slice mo2 (l.map conv).length mc2, .slice none 0 0, .slice (some ⟨wr.heap.size, 0, none⟩) 1 1] : Array Value).size = 6 := rfl
      generalize hrow : (#[.string T, .bool false, .slice (some ⟨pb, 0, none⟩) 1 1, .slice mo2 (l.map conv).length mc2, .slice none 0 0, .slice (some ⟨wr.heap.size, 0, none⟩) 1 1] : Array Value) = row at hS5 hone hr6 S7
      have hz6 : (Tryz.prog.info? 32).map (·.size) = some row.size := by rw [hr6]; exact Tryz.sizeScore
      have hsz6 : (#[.string ByteArray.empty, .bool false, .slice none 0 0, .slice none 0 0, .slice none 0 0, .slice none 0 0] : Array Value).size = row.size := by rw [hr6]; rfl
      have hRf := setRow_heap _ R _ row 32 (0, 0) hR5
      clear hrow
      go_wp2_with (first
        | (refine wpList_load_row rfl 32 _ rfl S rfl 32 row (0, 0) _ hS5 Tryz.underlying32 rfl hz6 ?_)
        | (refine wpList_store_row rfl 32 _ _ rfl R row rfl rfl 32 _ hR5 hz6 hsz6 hone ?_))
      refine bodyPost_ret (results_cell_row rfl _ _ R 32 row (0, 0) _ rfl hRf Tryz.underlying32 rfl hz6) rfl ?_
      obtain ⟨h1, h2⟩ := S7.out _ rfl
      exact ⟨h2, _, rfl, h1⟩
end Go.Proofs.YtjnkppneilmpbaaGreatDoor
