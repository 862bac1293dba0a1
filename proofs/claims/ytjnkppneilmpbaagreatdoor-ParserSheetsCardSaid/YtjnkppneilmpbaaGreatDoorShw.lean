/-
  A part of the proof that the law ParserSheets (chapter 19) returns true for every sheet: walks of the program's functions, and runs of them in the kernel by the own evaluator.
-/
import Derived.Test.YtjnkppneilmpbaaGreatDoorSho
import Derived.Test.YtjnkppneilmpbaaGreatDoorOpt
import Derived.Deep.RegionHeldLaw
namespace Go.Proofs.YtjnkppneilmpbaaGreatDoor
open Go.RowKit

/-- How short ends: with a sheet. -/
def ShortEnd (wa w : World) (r : Ending) (w' : World) : Prop := Below w.heap.size w w' ∧ ∃ (T : ByteArray) (l : List (List UInt8 × UInt8)) (mo' ko' : Option Addr) (mc' kc' : Nat), r = .returned (.agg #[.string T, .slice mo' l.length mc', .slice ko' l.length kc']) ∧
  T.size ≤ 40 ∧ l.length ≤ 5 ∧ (∀ m ∈ l, m.1.length ≤ 6 ∧ m.2.toNat ≤ 7) ∧ ∀ w2, Below wa.heap.size wa w2 → Same [5, 23] w' w2 → ShIs w2 l mo' ko'

set_option maxHeartbeats 32000000 in
set_option maxRecDepth 1000000 in
theorem short_walk (T0 : ByteArray) (mo ko : Option Addr) (mc kc : Nat) (xs : List (List UInt8)) (ks : List UInt8) (wa w : World) (hwa : Below wa.heap.size wa w) (hx : RsIs wa mo xs) (hk : SlIs wa ko ks) :
    Calls Tryz.prog 4 #[.agg #[.string T0, .slice mo xs.length mc, .slice ko ks.length kc]] w (ShortEnd wa w) := by
  have hTs : (T0.extract 0 (min (T0.size : Int) 40).toNat).size ≤ 40 := by rw [ByteArray.size_extract]; omega
  go_enter Tryz.func4, Tryz.ntmps4
  go_wp2
  generalize (T0.extract 0 (min (T0.size : Int) 40).toNat) = T at hTs ⊢
  have hb0 := (((Below.refl w.heap.size w).alloc (Nat.le_refl _) (.cells #[.string T0, .slice mo xs.length mc, .slice ko ks.length kc] 25)).alloc (by simp) (.cells #[.string ByteArray.empty, .slice none 0 0, .slice none 0 0] 25)).alloc (by simp; omega) (.cells #[.string T, .slice none 0 0, .slice none 0 0] 25)
  have p0 : SoAt w.heap.size (w.heap.size + 1) (w.heap.size + 1 + 1) T (.slice none 0 0) (.slice none 0 0) [] [] 0 0 #[.string T0, .slice mo xs.length mc, .slice ko ks.length kc] w (((w.alloc (.cells #[.string T0, .slice mo xs.length mc, .slice ko ks.length kc] 25)).alloc (.cells #[.string ByteArray.empty, .slice none 0 0, .slice none 0 0] 25)).alloc (.cells #[.string T, .slice none 0 0, .slice none 0 0] 25)) :=
    ⟨(Lib.alloc_old _ _ _ (by simp; omega)).trans ((Lib.alloc_old _ _ _ (by simp)).trans (heap_alloc_new w _)), (Lib.alloc_old _ _ _ (by simp)).trans (alloc_at' _ _ (by simp)), alloc_at' _ _ (by simp), World.ownsRow_nil _ _ _ _, World.ownsRow_nil _ _ _ _, hb0, by omega, by omega, by omega, by omega⟩
  clear hb0
  obtain ⟨i1, hi1, hy0, hy1, hy2⟩ := info_parts Tryz.infoSl
  obtain ⟨i2, hi2, hz0, hz1, hz2⟩ := info_parts Tryz.infoU8
  generalize w.heap.size + 1 + 1 = Yb at p0 ⊢
  generalize w.heap.size + 1 = Rb at p0 ⊢
  go_loopg [4] 6 (fun g v4 wr => ∃ (mv kv : Value) (svs : List Value) (ls : List (List UInt8)) (kl : List UInt8), ls.length ≤ xs.length ∧ ls.length ≤ 5 ∧ g = 6 - ls.length ∧ v4 = .int .i64 (ls.length : Nat) ∧ kl.length = ls.length ∧ (∀ r ∈ ls, r.length ≤ 6) ∧ (∀ y ∈ kl, y.toNat ≤ 7) ∧
    SvIs wa svs ls ∧ SoAt w.heap.size Rb Yb T mv kv svs (u8s kl) ls.length kl.length #[.string T0, .slice mo xs.length mc, .slice ko ks.length kc] w wr)
  case atStart => exact ⟨_, _, [], [], [], Nat.zero_le _, by simp, rfl, rfl, rfl, by simp, by simp, ⟨rfl, fun j r h => by simp at h⟩, p0⟩
  case round =>
    clear p0
    obtain ⟨mv, kv, svs, ls, kl, hle, h5, hg, rfl, hkl, hr6, hk7, hsv, p1⟩ := hrel
    have cX1 := p1.cX 1 (u := .slice mo xs.length mc) rfl
    have cX2 := p1.cX 2 (u := .slice ko ks.length kc) rfl
    obtain ⟨i, hie⟩ : ∃ i, ls.length = i := ⟨_, rfl⟩
    rw [hie] at hle h5 hg hkl p1 ⊢
    rw [hkl] at p1
    have i0 : (0 : Int) ≤ (i : Int) := by omega
    have mi : IntKind.i64.wrap ((i : Int) + 1) = (i : Int) + 1 := IntWalk.i64_in _ (by omega)
    by_cases hlt : i < xs.length ∧ i < 5
    · have hlt1 : (i : Int) < (xs.length : Int) := by omega
      have hlt2 : (i : Int) < 5 := by omega
      obtain ⟨r, hr⟩ : ∃ r, xs[i]? = some r := ⟨_, List.getElem?_eq_getElem hlt.1⟩
      obtain ⟨pa, ao, c, rfl, hcellA, hcap, hsl0⟩ := hx i r hr
      have hcell0 := (hwa.cell (World.block_lt_of_cell? wa _ hcellA)).trans hcellA
      clear hcellA
      have lC0 := World.block_lt_of_cell? w _ hcell0
      have hcell := (p1.below.cell lC0).trans hcell0
      have lYb := p1.lY
      have n1 : Yb ≠ (pa.add i).block := by omega
      clear hr hcell0
      obtain ⟨vo, vc, rfl⟩ := own_isS p1.rows
      obtain ⟨r6, ao6, c6, hsl6, hsl6s, hmin, h6⟩ : ∃ (r6 : List UInt8) (ao6 : Option Addr) (c6 : Nat), (∀ w' : World, (Instr.sliceAt 23 (.slice ao r.length c) none (some (.int .i64 (r6.length : Nat))) none).run Tryz.prog w' = .ok (.slice ao6 r6.length c6) w') ∧ SlIs wa ao6 r6 ∧ min (r.length : Int) 6 = (r6.length : Nat) ∧ r6.length ≤ 6 := by
        obtain ⟨ao6, c6, hsl6, hsl6s⟩ := slice6 hcap hsl0
        exact ⟨r.take 6, ao6, c6, hsl6, hsl6s, by rw [List.length_take]; omega, by rw [List.length_take]; omega⟩
      have rows1 := p1.rows
      have p1d := p1.step (Below.refl _ wr).drew
      have sz1 := p1.below.size
      have lY := p1.ltY
      have lX := World.block_lt_of_cell? wr _ cX1
      have lC := World.block_lt_of_cell? wr _ hcell
      simp only at lX
      have nXY : w.heap.size ≠ Yb := p1.nXY
      have c1 := p1.c1
      have nXo : (Value.slice vo i vc).ownBlock ≠ some w.heap.size := own_ne rows1 p1.hX (by intro cs fr hc; injection hc with _ h2 _; exact absurd h2 (by decide))
      have nCo : (Value.slice vo i vc).ownBlock ≠ some (pa.add i).block := fun e => by have := (rows1.lt _ e).1; omega
      go_upto_region 5 with fail
      go_cut [4] from 14 to 59 (fun v4 wc => v4 = .int .i64 (i : Nat) ∧ ∃ mv' ao6 c6, SoAt w.heap.size Rb Yb T mv' kv (svs ++ [.slice ao6 r6.length c6]) (u8s kl) (i + 1) i #[.string T0, .slice (some pa) xs.length mc, .slice ko ks.length kc] w wc ∧ SlIs wa ao6 r6)
      case first =>
        refine wp_region_noPanic ?_
        refine wp_region_held_drew (S := fun w' => w'.cell? ⟨w.heap.size, 1, none⟩ = some (.slice (some pa) xs.length mc) ∧ w'.cell? (pa.add i) = some (.slice ao r.length c)) (by kernel_rfl) ⟨cX1, hcell⟩ (fun hHeld => ?_)
        refine wpAnyH_take (i := 0) (v := ?va) rfl (by kernel_rfl) (by kernel_rfl) (by kernel_rfl) (fun _ _ _ h => h) (Or.inl ⟨by rfl, ?hya⟩) (by assumption) ?_
        case hya => (intro w hSw; go_simp <;> with_reducible rfl)
        try simp only [Act.put, List.getElem_toArray, List.getElem_cons_zero, List.setIfInBounds_toArray, List.set_cons_zero, List.set_cons_succ]
        refine wpAnyH_take (i := 2) (v := ?vb) rfl (by kernel_rfl) (by kernel_rfl) (by kernel_rfl) (fun _ _ _ h => h) (Or.inl ⟨by rfl, ?hyb⟩) (by assumption) ?_
        case hyb => (intro w hSw; go_simp <;> with_reducible rfl)
        try simp only [Act.put, List.getElem_toArray, List.getElem_cons_succ, List.getElem_cons_zero, List.setIfInBounds_toArray, List.set_cons_zero, List.set_cons_succ]
        refine wpAnyH_take (i := 3) (v := ?vc) rfl (by kernel_rfl) (by kernel_rfl) (by kernel_rfl) (fun _ _ _ h => h) (Or.inl ⟨by rfl, ?hyc⟩) (by assumption) ?_
        case hyc => (intro w hSw; obtain ⟨hs1, hs2⟩ := hSw; go_simp; with_reducible rfl)
        try simp only [Act.put, List.getElem_toArray, List.getElem_cons_succ, List.getElem_cons_zero, List.setIfInBounds_toArray, List.set_cons_zero, List.set_cons_succ]
        refine wpAnyH_take (i := 4) (v := ?vd) rfl (by kernel_rfl) (by kernel_rfl) (by kernel_rfl) (fun _ _ _ h => h) (Or.inl ⟨by rfl, ?hyd⟩) (by assumption) ?_
        case hyd => (intro w hSw; go_simp <;> with_reducible rfl)
        try simp only [Act.put, List.getElem_toArray, List.getElem_cons_succ, List.getElem_cons_zero, List.setIfInBounds_toArray, List.set_cons_zero, List.set_cons_succ]
        refine wpAnyH_take (i := 5) (v := ?ve) rfl (by kernel_rfl) (by kernel_rfl) (by kernel_rfl) (fun _ _ _ h => h) (Or.inl ⟨by rfl, ?hye⟩) (by assumption) ?_
        case hye => (intro w hSw; obtain ⟨hs1, hs2⟩ := hSw; go_simp; with_reducible rfl)
        try simp only [Act.put, List.getElem_toArray, List.getElem_cons_succ, List.getElem_cons_zero, List.setIfInBounds_toArray, List.set_cons_zero, List.set_cons_succ]
        refine wpAnyH_take (i := 6) (v := ?vf) rfl (by kernel_rfl) (by kernel_rfl) (by kernel_rfl) (fun _ _ _ h => h) (Or.inl ⟨by rfl, ?hyf⟩) (by assumption) ?_
        case hyf => (intro w hSw; obtain ⟨hs1, hs2⟩ := hSw; go_simp; with_reducible rfl)
        try simp only [Act.put, List.getElem_toArray, List.getElem_cons_succ, List.getElem_cons_zero, List.setIfInBounds_toArray, List.set_cons_zero, List.set_cons_succ]
        refine wpAnyH_take (i := 7) (v := ?vg) rfl (by kernel_rfl) (by kernel_rfl) (by kernel_rfl) (fun _ _ _ h => h) (Or.inl ⟨by rfl, ?hyg⟩) (by assumption) ?_
        case hyg => (intro w hSw; go_simp <;> with_reducible rfl)
        try simp only [Act.put, List.getElem_toArray, List.getElem_cons_succ, List.getElem_cons_zero, List.setIfInBounds_toArray, List.set_cons_zero, List.set_cons_succ]
        refine wpAnyH_take (i := 8) (v := ?vh) rfl (by kernel_rfl) (by kernel_rfl) (by kernel_rfl) (fun _ _ _ h => h) (Or.inl ⟨by rfl, ?hyh⟩) (by assumption) ?_
        case hyh => (intro w hSw; obtain ⟨hs1, hs2⟩ := hSw; go_simp; with_reducible rfl)
        try simp only [Act.put, List.getElem_toArray, List.getElem_cons_succ, List.getElem_cons_zero, List.setIfInBounds_toArray, List.set_cons_zero, List.set_cons_succ]
        refine wpAnyH_take (i := 9) (v := ?vi) rfl (by kernel_rfl) (by kernel_rfl) (by kernel_rfl) (fun _ _ _ h => h) (Or.inl ⟨by rfl, ?hyi⟩) (by assumption) ?_
        case hyi => (intro w hSw; go_simp <;> with_reducible rfl)
        try simp only [Act.put, List.getElem_toArray, List.getElem_cons_succ, List.getElem_cons_zero, List.setIfInBounds_toArray, List.set_cons_zero, List.set_cons_succ]
        refine wpAnyH_take (i := 10) (v := ?vj) rfl (by kernel_rfl) (by kernel_rfl) (by kernel_rfl) (fun _ _ _ h => h) (Or.inl ⟨by rfl, ?hyj⟩) (by assumption) ?_
        case hyj => (intro w hSw; obtain ⟨hs1, hs2⟩ := hSw; go_simp; with_reducible rfl)
        try simp only [Act.put, List.getElem_toArray, List.getElem_cons_succ, List.getElem_cons_zero, List.setIfInBounds_toArray, List.set_cons_zero, List.set_cons_succ]
        refine wpAnyH_take (i := 11) (v := ?vk) rfl (by kernel_rfl) (by kernel_rfl) (by kernel_rfl) (fun _ _ _ h => h) (Or.inl ⟨by rfl, ?hyk⟩) (by assumption) ?_
        case hyk => (intro w hSw; obtain ⟨hs1, hs2⟩ := hSw; go_simp; with_reducible rfl)
        try simp only [Act.put, List.getElem_toArray, List.getElem_cons_succ, List.getElem_cons_zero, List.setIfInBounds_toArray, List.set_cons_zero, List.set_cons_succ]
        refine wpAnyH_take (i := 12) (v := ?vl) rfl (by kernel_rfl) (by kernel_rfl) (by kernel_rfl) (fun _ _ _ h => h) (Or.inl ⟨by rfl, ?hyl⟩) (by assumption) ?_
        case hyl => (intro w hSw; obtain ⟨hs1, hs2⟩ := hSw; go_simp; with_reducible rfl)
        try simp only [Act.put, List.getElem_toArray, List.getElem_cons_succ, List.getElem_cons_zero, List.setIfInBounds_toArray, List.set_cons_zero, List.set_cons_succ]
        refine wpAnyH_take (i := 13) (v := ?vm) rfl (by kernel_rfl) (by kernel_rfl) (by kernel_rfl) (fun _ _ _ h => h) (Or.inl ⟨by rfl, ?hym⟩) (by assumption) ?_
        case hym => (intro w hSw; obtain ⟨hs1, hs2⟩ := hSw; go_simp; with_reducible rfl)
        try simp only [Act.put, List.getElem_toArray, List.getElem_cons_succ, List.getElem_cons_zero, List.setIfInBounds_toArray, List.set_cons_zero, List.set_cons_succ]
        refine wpAnyH_take (i := 14) rfl (by kernel_rfl) (by kernel_rfl) (by kernel_rfl) (fun _ _ _ h => h) (yieldsIf_slice (by rfl) 23 _ _ rfl (.slice ao r.length c) (r6.length : Nat) (.slice ao6 r6.length c6) rfl rfl hsl6) (by assumption) ?_
        try simp only [Act.put, List.getElem_toArray, List.getElem_cons_succ, List.getElem_cons_zero, List.setIfInBounds_toArray, List.set_cons_zero, List.set_cons_succ]
        refine wpAnyH_ready (rs := [1, 15]) (by kernel_rfl) (by simp) ?_
        refine AllReadyH.cons rfl (fun K hK => ?_) (AllReadyH.cons rfl (fun K hK => ?_) AllReadyH.nil)
        · go_simp
          refine hK.out _ _ hHeld (fun hHeld => ?_)
          clear hK K
          try simp only [Act.put, List.getElem_toArray, List.getElem_cons_succ, List.getElem_cons_zero, List.setIfInBounds_toArray, List.set_cons_zero, List.set_cons_succ]
          refine wpAnyH_ready (rs := [15]) (by kernel_rfl) (by simp) ?_
          refine AllReadyH.cons rfl (fun K hK => ?_) AllReadyH.nil
          go_simp
          refine hK.out _ _ ⟨(World.cell?_alloc_some _ _ _ (by rw [cX1]; rfl)).trans cX1, (World.cell?_alloc_some _ _ _ (by rw [hcell]; rfl)).trans hcell⟩ (fun hHeld => ?_)
          clear hK K
          try simp only [Act.put, List.getElem_toArray, List.getElem_cons_succ, List.getElem_cons_zero, List.setIfInBounds_toArray, List.set_cons_zero, List.set_cons_succ]
          refine wpAnyH_ready (rs := [16]) (by kernel_rfl) (by simp) ?_
          refine AllReadyH.cons rfl (fun K hK => ?_) AllReadyH.nil
          (refine step_append_lies _ (by rfl) _ _ _ (by rfl) w.heap.size 23 i1 _ 1 24 Tryz.underlying22 hi1 hy0 hy1 hy2 rfl (by omega) (.slice vo i vc) i svs (by rfl) (World.ownsRow.alloc (w := wr.drew) rows1 _) ⟨wr.heap.size, 0, none⟩ 1 1 [.slice ao6 r6.length c6] (by rfl) (by rfl) (World.news_of_block (cs := #[.slice ao6 r6.length c6]) (t := 23) (fr := (0, 0)) (heap_alloc_new _ _)) (by simp [Value.oneCell']) (by omega) (by simp only [maxLen]; omega) (by omega) (by simp; omega) (wr.heap.size + 1) (by simp) ?_; intro gg cap w2 hown1 hgrow hat hgl; obtain ⟨p2, hY2⟩ := p1d.addRow hgrow hown1; have d1 := Lib.cell_of_heap hY2 1; have g1 := Lib.frozen_of_heap hY2 1; simp only [List.getElem?_toArray, List.getElem?_cons_succ, List.getElem?_cons_zero] at d1)
          refine hK.out _ _ ⟨(hgrow.cell_far _ (Nat.lt_of_lt_of_le lX (by simp)) (fun e => nXo e.symm)).trans hHeld.1, (hgrow.cell_far _ (Nat.lt_of_lt_of_le lC (by simp)) (fun e => nCo e.symm)).trans hHeld.2⟩ (fun hHeld2 => ?_)
          clear hK K
          try simp only [Act.put, List.getElem_toArray, List.getElem_cons_succ, List.getElem_cons_zero, List.setIfInBounds_toArray, List.set_cons_zero, List.set_cons_succ]
          refine wpAnyH_take (i := 17) (v := ?vn) rfl (by kernel_rfl) (by kernel_rfl) (by kernel_rfl) (fun _ _ _ h => h) (Or.inl ⟨by rfl, ?hyn⟩) (by assumption) ?_
          case hyn => (intro w hSw; go_simp <;> with_reducible rfl)
          try simp only [Act.put, List.getElem_toArray, List.getElem_cons_succ, List.getElem_cons_zero, List.setIfInBounds_toArray, List.set_cons_zero, List.set_cons_succ]
          refine wpAnyH_ready (rs := [18]) (by kernel_rfl) (by simp) ?_
          refine AllReadyH.cons rfl (fun K hK => ?_) AllReadyH.nil
          go_simp
          refine hK.out _ _ ⟨(World.cell?_setCell_far _ _ _ _ (fun e => nXY e.symm)).trans hHeld2.1, (World.cell?_setCell_far _ _ _ _ n1).trans hHeld2.2⟩ (fun hHeld3 => ?_)
          clear hK K
          try simp only [Act.put, List.getElem_toArray, List.getElem_cons_succ, List.getElem_cons_zero, List.setIfInBounds_toArray, List.set_cons_zero, List.set_cons_succ]
          refine wpAnyH_done (by kernel_rfl) ?_ _
          refine NoPanic.normal ?_
          go_wp2
          go_meet
          case rel => exact ⟨rfl, _, ao6, c6, p2, hsl6s⟩
        · go_simp
          refine hK.out _ _ ⟨(World.cell?_alloc_some _ _ _ (by rw [cX1]; rfl)).trans cX1, (World.cell?_alloc_some _ _ _ (by rw [hcell]; rfl)).trans hcell⟩ (fun hHeld => ?_)
          clear hK K
          try simp only [Act.put, List.getElem_toArray, List.getElem_cons_succ, List.getElem_cons_zero, List.setIfInBounds_toArray, List.set_cons_zero, List.set_cons_succ]
          refine wpAnyH_ready (rs := [1]) (by kernel_rfl) (by simp) ?_
          refine AllReadyH.cons rfl (fun K hK => ?_) AllReadyH.nil
          go_simp
          refine hK.out _ _ hHeld (fun hHeld => ?_)
          clear hK K
          try simp only [Act.put, List.getElem_toArray, List.getElem_cons_succ, List.getElem_cons_zero, List.setIfInBounds_toArray, List.set_cons_zero, List.set_cons_succ]
          refine wpAnyH_ready (rs := [16]) (by kernel_rfl) (by simp) ?_
          refine AllReadyH.cons rfl (fun K hK => ?_) AllReadyH.nil
          (refine step_append_lies _ (by rfl) _ _ _ (by rfl) w.heap.size 23 i1 _ 1 24 Tryz.underlying22 hi1 hy0 hy1 hy2 rfl (by omega) (.slice vo i vc) i svs (by rfl) (World.ownsRow.alloc (w := wr.drew) rows1 _) ⟨wr.heap.size, 0, none⟩ 1 1 [.slice ao6 r6.length c6] (by rfl) (by rfl) (World.news_of_block (cs := #[.slice ao6 r6.length c6]) (t := 23) (fr := (0, 0)) (heap_alloc_new _ _)) (by simp [Value.oneCell']) (by omega) (by simp only [maxLen]; omega) (by omega) (by simp; omega) (wr.heap.size + 1) (by simp) ?_; intro gg cap w2 hown1 hgrow hat hgl; obtain ⟨p2, hY2⟩ := p1d.addRow hgrow hown1; have d1 := Lib.cell_of_heap hY2 1; have g1 := Lib.frozen_of_heap hY2 1; simp only [List.getElem?_toArray, List.getElem?_cons_succ, List.getElem?_cons_zero] at d1)
          refine hK.out _ _ ⟨(hgrow.cell_far _ (Nat.lt_of_lt_of_le lX (by simp)) (fun e => nXo e.symm)).trans hHeld.1, (hgrow.cell_far _ (Nat.lt_of_lt_of_le lC (by simp)) (fun e => nCo e.symm)).trans hHeld.2⟩ (fun hHeld2 => ?_)
          clear hK K
          try simp only [Act.put, List.getElem_toArray, List.getElem_cons_succ, List.getElem_cons_zero, List.setIfInBounds_toArray, List.set_cons_zero, List.set_cons_succ]
          refine wpAnyH_take (i := 17) (v := ?vn) rfl (by kernel_rfl) (by kernel_rfl) (by kernel_rfl) (fun _ _ _ h => h) (Or.inl ⟨by rfl, ?hyn⟩) (by assumption) ?_
          case hyn => (intro w hSw; go_simp <;> with_reducible rfl)
          try simp only [Act.put, List.getElem_toArray, List.getElem_cons_succ, List.getElem_cons_zero, List.setIfInBounds_toArray, List.set_cons_zero, List.set_cons_succ]
          refine wpAnyH_ready (rs := [18]) (by kernel_rfl) (by simp) ?_
          refine AllReadyH.cons rfl (fun K hK => ?_) AllReadyH.nil
          go_simp
          refine hK.out _ _ ⟨(World.cell?_setCell_far _ _ _ _ (fun e => nXY e.symm)).trans hHeld2.1, (World.cell?_setCell_far _ _ _ _ n1).trans hHeld2.2⟩ (fun hHeld3 => ?_)
          clear hK K
          try simp only [Act.put, List.getElem_toArray, List.getElem_cons_succ, List.getElem_cons_zero, List.setIfInBounds_toArray, List.set_cons_zero, List.set_cons_succ]
          refine wpAnyH_done (by kernel_rfl) ?_ _
          refine NoPanic.normal ?_
          go_wp2
          go_meet
          case rel => exact ⟨rfl, _, ao6, c6, p2, hsl6s⟩
      case rest =>
        obtain ⟨rfl, mv2, ao7, c7, p2, hs7⟩ := hcut
        clear p1 p1d rows1 c1 cX1 cX2 hcell hsl6 hsl6s lX lC
        have cX2 := p2.cX 2 (u := .slice ko ks.length kc) rfl
        go_upto_if 47 with fail
        go_cut [5] from 14 to 59 (fun v5 w3 => ∃ k : UInt8, k.toNat ≤ 7 ∧ v5 = .int .u8 (k.toNat : Nat) ∧ w3 = wc)
        case first =>
          by_cases hkk : i < ks.length
          · have hkk' : (i : Int) < (ks.length : Int) := by omega
            obtain ⟨y, hy⟩ : ∃ y, ks[i]? = some y := ⟨_, List.getElem?_eq_getElem hkk⟩
            obtain ⟨pk, rfl, hycA⟩ := hk i y hy
            have hyc0 := (hwa.cell (World.block_lt_of_cell? wa _ hycA)).trans hycA
            clear hycA
            have hyc := (p2.below.cell (World.block_lt_of_cell? w _ hyc0)).trans hyc0
            have hy8 := y.toNat_lt
            have y0 : (0 : Int) ≤ (y.toNat : Int) := by omega
            have hq : (y.toNat : Int).tmod 8 = ((y.toNat % 8 : Nat) : Int) := by rw [Int.tmod_eq_emod_of_nonneg y0]; omega
            obtain ⟨k, hkn, hke⟩ : ∃ k : UInt8, k.toNat ≤ 7 ∧ y.toNat % 8 = k.toNat := ⟨UInt8.ofNat (y.toNat % 8), by rw [UInt8.toNat_ofNat']; omega, by rw [UInt8.toNat_ofNat']; omega⟩
            rw [hke] at hq
            have hw : IntKind.u8.wrap (k.toNat : Int) = (k.toNat : Int) := IntWalk.u8_in _ (by omega)
            clear hke hy hyc0
            go_wp2
            go_meet
            case rel => exact ⟨k, hkn, rfl, rfl⟩
          · have hkk' : ¬ (i : Int) < (ks.length : Int) := by omega
            go_wp2
            go_meet
            case rel => exact ⟨0, by decide, rfl, rfl⟩
        case rest =>
          obtain ⟨k, hkn, rfl, rfl⟩ := hcut
          have keys2 := p2.keys
          obtain ⟨ko2, kc2, rfl⟩ := own_isS keys2
          have c2 := p2.c2
          have lY2 := p2.ltY
          have nx2 := World.new_ne _ _ c2
          have sz2 := p2.below.size
          go_wp2_with (at_builtin; refine wpList_append_lies _ rfl _ _ 23 rfl w.heap.size 5 i2 _ 1 1 Tryz.underlying23 hi2 hz0 hz1 hz2 rfl (by omega) (.slice ko2 i kc2) i (u8s kl) rfl (keys2.alloc _) ⟨wc.heap.size, 0, none⟩ 1 1 [.int .u8 (k.toNat : Nat)] rfl rfl (World.news_of_block (cs := #[.int .u8 (k.toNat : Nat)]) (t := 5) (fr := (0, 0)) (heap_alloc_new _ _)) (by simp [Value.oneCell']) (by omega) (by unfold maxLen; omega) (by omega) (by simp; omega) (wc.heap.size + 1) (by simp) ?_; intro gg cap w4 hown1 hgrow hat hgl; obtain ⟨p4, hY4⟩ := p2.addKey hgrow hown1; have d2 := Lib.cell_of_heap hY4 2; have g2 := Lib.frozen_of_heap hY4 2; simp only [List.getElem?_toArray, List.getElem?_cons_succ, List.getElem?_cons_zero] at d2)
          have hk2 : u8s (kl ++ [k]) = u8s kl ++ [.int .u8 (k.toNat : Nat)] := by simp [u8s]
          rw [← hk2] at p4
          go_roundg (6 - (i + 1))
          case measure => omega
          case rel => exact ⟨_, _, _, ls ++ [r6], kl ++ [k], by rw [List.length_append, hie]; simp; omega, by rw [List.length_append, hie]; simp; omega, by rw [List.length_append, hie]; rfl, by rw [List.length_append, hie]; simp, by rw [List.length_append, List.length_append, hie, hkl]; rfl,
            (fun r hr => by
              rcases List.mem_append.1 hr with h | h
              · exact hr6 r h
              · obtain rfl := List.mem_singleton.1 h
                exact h6),
            (fun y hy => by
              rcases List.mem_append.1 hy with h | h
              · exact hk7 y h
              · obtain rfl := List.mem_singleton.1 h
                exact hkn), hsv.more hs7, by rw [List.length_append, List.length_append, hie, hkl]; exact p4⟩
    · have hcond : ¬ (i : Int) < (xs.length : Int) ∨ ¬ (i : Int) < 5 := by omega
      subst hie
      have hY := p1.hY
      have hR := p1.hR
      have hszY : (Tryz.prog.info? 25).map (·.size) = some (#[.string T, mv, kv] : Array Value).size := by kernel_rfl
      have hone : (#[.string T, mv, kv] : Array Value).all (·.oneCell') = true := by
        obtain ⟨a1, b1, rfl⟩ := own_isS p1.rows
        obtain ⟨a2, b2, rfl⟩ := own_isS p1.keys
        simp [Value.oneCell']
      have bel := ((Away.of_below (bs := []) p1.below).setRow p1.lR #[.string T, mv, kv]).below
      have nr : mv.ownBlock ≠ some Rb := own_ne p1.rows hR (by intro cs fr hc; injection hc with _ h2 _; exact absurd h2 (by decide))
      have nk : kv.ownBlock ≠ some Rb := own_ne p1.keys hR (by intro cs fr hc; injection hc with _ h2 _; exact absurd h2 (by decide))
      obtain ⟨mo', mc', rfl⟩ := own_isS p1.rows
      obtain ⟨ko', kc', rfl⟩ := own_isS p1.keys
      have hrows := own_step (w' := wr.setRow Rb #[.string T, .slice mo' ls.length mc', .slice ko' ls.length kc']) p1.rows fun j hj => setRow_other _ _ _ _ (fun e => nr (by rw [hj, e]))
      have hkeys := own_step (w' := wr.setRow Rb #[.string T, .slice mo' ls.length mc', .slice ko' ls.length kc']) p1.keys fun j hj => setRow_other _ _ _ _ (fun e => nk (by rw [hj, e]))
      have hsh : ∀ w2, Below wa.heap.size wa w2 → Same [5, 23] (wr.setRow Rb #[.string T, .slice mo' ls.length mc', .slice ko' ls.length kc']) w2 → ShIs w2 (ls.zip kl) mo' ko' := fun w2 hb hs => by
        obtain ⟨a1, b1, a2, b2, e1, e2, h3⟩ := sheet_of (hs.own (by simp) hrows) (by rw [hkl]; exact hs.own (by simp) hkeys) (hsv.step hb) hkl
        injection e1 with e1
        injection e2 with e2
        rw [e1, e2]
        exact h3
      clear hrows hkeys
      have hRf := setRow_heap wr Rb _ #[.string T, .slice mo' ls.length mc', .slice ko' ls.length kc'] 25 (0, 0) hR
      have hlz : (ls.zip kl).length = ls.length := by rw [List.length_zip, hkl, Nat.min_self]
      have hfin : ∃ (l : List (List UInt8 × UInt8)), l.length = ls.length ∧ l.length ≤ 5 ∧ (∀ m ∈ l, m.1.length ≤ 6 ∧ m.2.toNat ≤ 7) ∧ ∀ w2, Below wa.heap.size wa w2 → Same [5, 23] (wr.setRow Rb #[.string T, .slice mo' ls.length mc', .slice ko' ls.length kc']) w2 → ShIs w2 l mo' ko' :=
        ⟨ls.zip kl, hlz, by rw [hlz]; exact h5, fun m hm => by
          obtain ⟨h1, h2⟩ := List.of_mem_zip (a := m.1) (b := m.2) hm
          exact ⟨hr6 _ h1, hk7 _ h2⟩, hsh⟩
      clear hsh hlz p1 hsv nr nk hr6 hk7
      by_cases hl1 : (ls.length : Int) < (xs.length : Int)
      · have hl2 : ¬ (ls.length : Int) < 5 := by omega
        go_wp2_with (first
          | (refine wpList_load_row rfl 25 _ rfl Yb rfl 25 #[.string T, .slice mo' ls.length mc', .slice ko' ls.length kc'] (0, 0) _ hY Tryz.underlying25 rfl hszY ?_)
          | (refine wpList_store_row rfl 25 _ _ rfl Rb #[.string T, .slice mo' ls.length mc', .slice ko' ls.length kc'] rfl rfl 25 _ hR hszY rfl hone ?_))
        refine bodyPost_ret (results_cell_row rfl _ _ Rb 25 _ (0, 0) _ rfl hRf Tryz.underlying25 rfl hszY) rfl ?_
        obtain ⟨l, e1, e2, e3, e4⟩ := hfin
        exact ⟨bel, T, l, mo', ko', mc', kc', by rw [e1], hTs, e2, e3, e4⟩
      · go_wp2_with (first
          | (refine wpList_load_row rfl 25 _ rfl Yb rfl 25 #[.string T, .slice mo' ls.length mc', .slice ko' ls.length kc'] (0, 0) _ hY Tryz.underlying25 rfl hszY ?_)
          | (refine wpList_store_row rfl 25 _ _ rfl Rb #[.string T, .slice mo' ls.length mc', .slice ko' ls.length kc'] rfl rfl 25 _ hR hszY rfl hone ?_))
        refine bodyPost_ret (results_cell_row rfl _ _ Rb 25 _ (0, 0) _ rfl hRf Tryz.underlying25 rfl hszY) rfl ?_
        obtain ⟨l, e1, e2, e3, e4⟩ := hfin
        exact ⟨bel, T, l, mo', ko', mc', kc', by rw [e1], hTs, e2, e3, e4⟩
end Go.Proofs.YtjnkppneilmpbaaGreatDoor
