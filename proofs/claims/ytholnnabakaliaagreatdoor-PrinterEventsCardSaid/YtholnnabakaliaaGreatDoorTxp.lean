/-
  A part of the proof that the law PrinterEvents (chapter 20) returns true for every event: walks of the program's functions, and runs of them in the kernel by the own evaluator.
-/
import Derived.Test.YtholnnabakaliaaGreatDoorLxt
import Derived.Test.YtholnnabakaliaaGreatDoorSvg
import Derived.Deep.AppendLies
namespace Go.Proofs.YtholnnabakaliaaGreatDoor
open Go.RowKit

theorem bel_next {w W w' : World} (h : Below w.heap.size w W) (b : Below W.heap.size W w') : Below w.heap.size w w' := h.trans (b.mono h.size)
theorem bel_alloc {w W : World} (h : Below w.heap.size w W) (o : Obj) : Below w.heap.size w (W.alloc o) := h.alloc h.size o
theorem cell_al {W : World} {a : Addr} {v : Value} (h : W.cell? a = some v) (o : Obj) : (W.alloc o).cell? a = some v := (World.cell?_alloc_some W _ o (by rw [h]; rfl)).trans h
def pickN (l : List ByteArray) : List ByteArray := l.filter fun z => !z.toList.isEmpty
theorem pick_one (W : List ByteArray) (hW : ∀ y ∈ W, y.toList.isEmpty = false) {n : Int} (h0 : 0 ≤ n) (hn : n ≤ W.length) : pickN [wordAt W n] = optL W n := by
  unfold optL pickN
  by_cases hz : n = 0
  · rw [if_pos hz, hz]
    have h : (wordAt W 0).toList.isEmpty = true := by unfold wordAt; rw [if_pos rfl]; decide +kernel
    simp [h]
  · rw [if_neg hz]
    have hm : wordAt W n ∈ W := by
      unfold wordAt
      rw [if_neg hz, List.getD_eq_getElem?_getD, List.getElem?_eq_getElem (by omega)]
      exact List.getElem_mem _
    simp [hW _ hm]
theorem words_pick {ar orn dy st be : Int} (o0 : 0 ≤ orn) (o4 : orn ≤ 4) (d0 : 0 ≤ dy) (d9 : dy ≤ 9) (st0 : 0 ≤ st) (st2 : st ≤ 2) (be0 : 0 ≤ be) (be2 : be ≤ 2) :
    bitsW ar artsW artsW.length ++ pickN [wordAt ornsW orn, wordAt dynsW dy, wordAt stemsW st, wordAt beamsW be] = (wordsB ar orn dy st be).map mkB := by
  have e : pickN [wordAt ornsW orn, wordAt dynsW dy, wordAt stemsW st, wordAt beamsW be] = pickN [wordAt ornsW orn] ++ (pickN [wordAt dynsW dy] ++ (pickN [wordAt stemsW st] ++ pickN [wordAt beamsW be])) := by
    unfold pickN; rw [← List.filter_append, ← List.filter_append, ← List.filter_append]; rfl
  rw [e, pick_one ornsW (by decide +kernel) o0 o4, pick_one dynsW (by decide +kernel) d0 d9, pick_one stemsW (by decide +kernel) st0 st2, pick_one beamsW (by decide +kernel) be0 be2]
  unfold wordsB wordsO
  rw [List.map_map]
  have hid : (mkB ∘ fun y : ByteArray => y.data.toList) = id := funext mkB_data
  rw [hid, List.map_id]
  simp only [List.append_assoc]
  rfl
theorem bitsW_small (a : Int) (l : List ByteArray) (hl : ∀ z ∈ l, z.data.toList.length ≤ 10) : ∀ k, ∀ y ∈ bitsW a l k, y.data.toList.length ≤ 10
  | 0, y, h => by simp [bitsW] at h
  | k + 1, y, h => by
    rw [bitsW] at h
    rcases List.mem_append.1 h with h | h
    · exact bitsW_small a l hl k y h
    · split at h
      · obtain rfl := List.mem_singleton.1 h
        rw [List.getD_eq_getElem?_getD]
        cases hk : l[k]? with
        | none => simp
        | some z => exact hl z (List.mem_of_getElem? hk)
      · cases h
theorem optL_small (W : List ByteArray) (hW : ∀ z ∈ W, z.data.toList.length ≤ 10) (n : Int) : ∀ y ∈ optL W n, y.data.toList.length ≤ 10 := by
  intro y h
  unfold optL at h
  split at h
  · cases h
  · rename_i hz
    obtain rfl := List.mem_singleton.1 h
    unfold wordAt
    rw [if_neg hz, List.getD_eq_getElem?_getD]
    cases hk : W[n.toNat - 1]? with
    | none => simp
    | some z => exact hW z (List.mem_of_getElem? hk)
theorem wordsB_small {ar orn dy st be : Int} : ∀ y ∈ wordsB ar orn dy st be, y.length ≤ 10 := by
  intro y h
  obtain ⟨z, hz, rfl⟩ := List.mem_map.1 h
  unfold wordsO at hz
  simp only [List.mem_append] at hz
  rcases hz with (((h | h) | h) | h) | h
  · exact bitsW_small ar artsW (by decide) 5 z h
  · exact optL_small ornsW (by decide) orn z h
  · exact optL_small dynsW (by decide) dy z h
  · exact optL_small stemsW (by decide) st z h
  · exact optL_small beamsW (by decide) be z h
def wpart (wb : List (List UInt8)) : List (List UInt8) := if wb = [] then [] else [[91] ++ joinL wb ++ [93]]
def gpart (graces : List GraceV) : List (List UInt8) := if graces = [] then [] else [[103, 114, 97, 99, 101], [40] ++ joinL (graces.map graceL) ++ [41]]

theorem gpart_len {graces : List GraceV} (g8 : graces.length ≤ 8) (hok : ∀ g ∈ graces, GraceOk g) : ∀ y ∈ gpart graces, y.length ≤ 200 := by
  intro y h
  unfold gpart at h
  split at h
  · cases h
  · rcases List.mem_cons.1 h with rfl | h
    · decide
    · obtain rfl := List.mem_singleton.1 h
      have := joinL_len (l := graces.map graceL) (m := 9) (fun z hz => by obtain ⟨g, hg, rfl⟩ := List.mem_map.1 hz; exact graceL_len (hok g hg))
      rw [List.length_map] at this
      simp only [List.length_append, List.length_cons, List.length_nil]; omega
theorem wpart_len {wb : List (List UInt8)} (h9 : wb.length ≤ 9) (hw : ∀ y ∈ wb, y.length ≤ 10) : ∀ y ∈ wpart wb, y.length ≤ 200 := by
  intro y h
  unfold wpart at h
  split at h
  · cases h
  · obtain rfl := List.mem_singleton.1 h
    have := joinL_len hw
    simp only [List.length_append, List.length_cons, List.length_nil]; omega

set_option maxHeartbeats 8000000 in
set_option maxRecDepth 100000 in
theorem ptext_walk (site num kd lg dt ar orn dy st be : Int) (ho go lo : Option Addr) (hn hc gn gc ln lc : Nat) (heads : List HeadV) (graces : List GraceV) (lyr : List SyllV) {b : Nat} (w : World) (T : Tabs b w)
    (hG : Els w 5 (.slice go gn gc) (graces.map GraceV.cells)) (g8 : graces.length ≤ 8) (hok : ∀ g ∈ graces, GraceOk g)
    (hL : Els w 2 (.slice lo ln lc) (lyr.map SyllV.cells)) (hl4 : lyr.length ≤ 4) (hokl : ∀ x ∈ lyr, x.tx.size ≤ 256 ∧ 0 ≤ x.ln ∧ x.ln ≤ 2)
    (ha0 : 0 ≤ ar) (ha1 : ar ≤ 31) (o0 : 0 ≤ orn) (o4 : orn ≤ 4) (d0 : 0 ≤ dy) (d9 : dy ≤ 9) (st0 : 0 ≤ st) (st2 : st ≤ 2) (be0 : 0 ≤ be) (be2 : be ≤ 2)
    (hbl : (bodyL ⟨site, num, kd, lg, dt, heads, graces, ar, orn, dy, lyr, st, be⟩).length ≤ 1000)
    (hbody0 : ∀ W, Below w.heap.size w W → Calls Tryz.prog 33 #[.agg #[.int .i64 site, .int .i64 num, .int .i64 kd, .int .i64 lg, .int .i64 dt, .slice ho hn hc, .slice go gn gc, .int .i64 ar, .int .i64 orn, .int .i64 dy, .slice lo ln lc, .int .i64 st, .int .i64 be]] W fun e w' => e = .returned (.string (mkB (bodyL ⟨site, num, kd, lg, dt, heads, graces, ar, orn, dy, lyr, st, be⟩))) ∧ Below W.heap.size W w') :
    Calls Tryz.prog 11 #[.agg #[.int .i64 site, .int .i64 num, .int .i64 kd, .int .i64 lg, .int .i64 dt, .slice ho hn hc, .slice go gn gc, .int .i64 ar, .int .i64 orn, .int .i64 dy, .slice lo ln lc, .int .i64 st, .int .i64 be]] w fun e w' => e = .returned (.string (mkB (textL ⟨site, num, kd, lg, dt, heads, graces, ar, orn, dy, lyr, st, be⟩))) ∧ Below w.heap.size w w' := by
  have b0 := (Below.refl w.heap.size w).alloc (Nat.le_refl _) (.cells #[.int .i64 site, .int .i64 num, .int .i64 kd, .int .i64 lg, .int .i64 dt, .slice ho hn hc, .slice go gn gc, .int .i64 ar, .int .i64 orn, .int .i64 dy, .slice lo ln lc, .int .i64 st, .int .i64 be] 30)
  have hB0 := heap_alloc_new w (.cells #[.int .i64 site, .int .i64 num, .int .i64 kd, .int .i64 lg, .int .i64 dt, .slice ho hn hc, .slice go gn gc, .int .i64 ar, .int .i64 orn, .int .i64 dy, .slice lo ln lc, .int .i64 st, .int .i64 be] 30)
  have eg : gn = graces.length := by have := hG.len; simpa using this
  subst eg
  obtain ⟨zf, hzf⟩ : ∃ z, z = mkB (textL ⟨site, num, kd, lg, dt, heads, graces, ar, orn, dy, lyr, st, be⟩) := ⟨_, rfl⟩
  rw [← hzf]
  have hbody := hbody0
  clear hbody0
  obtain ⟨zb, hzb⟩ : ∃ z, z = mkB (bodyL ⟨site, num, kd, lg, dt, heads, graces, ar, orn, dy, lyr, st, be⟩) := ⟨_, rfl⟩
  rw [← hzb] at hbody
  have HBd := shut hzb
  clear hzb
  have Hf := shut hzf
  obtain ⟨i0, hi0, hz0, hz1, hz2⟩ := info_parts Tryz.infoStr
  clear hzf
  go_enter Tryz.func11, Tryz.ntmps11
  go_wp2
  generalize w.alloc (.cells #[.int .i64 site, .int .i64 num, .int .i64 kd, .int .i64 lg, .int .i64 dt, .slice ho hn hc, .slice go graces.length gc, .int .i64 ar, .int .i64 orn, .int .i64 dy, .slice lo ln lc, .int .i64 st, .int .i64 be] 30) = w1 at b0 hB0 ⊢
  obtain ⟨k0, k1, k2, k3, k4, k5, k6, k7, k8, k9, k10, k11, k12⟩ := box13 hB0
  go_loopg [4, 17] graces.length (fun g s4 s17 wr => ∃ k : Nat, k ≤ graces.length ∧ g = graces.length - k ∧ s17 = .int .i64 (k : Nat) ∧ Below w1.heap.size w1 wr ∧ wr.ownsRow w1.heap.size 9 1 s4 k ((((graces.map graceL).take k).map mkB).map Value.string))
  case atStart => exact ⟨0, Nat.zero_le _, rfl, rfl, Below.refl _ _, World.ownsRow_nil _ _ _ _⟩
  case round =>
    obtain ⟨k, hk, hg, rfl, hb, hown⟩ := hrel
    have bbr := b0.trans (hb.mono b0.size)
    by_cases hlt : k < graces.length
    · have hlt' : (k : Int) < (graces.length : Int) := by omega
      have hk0 : (0 : Int) ≤ (k : Int) := by omega
      obtain ⟨g, oo, rfl, hcl⟩ := (hG.step bbr).atM hlt
      have m1 : IntKind.i64.wrap ((k : Int) + 1) = (k : Int) + 1 := IntWalk.i64_in _ (by omega)
      have hs : (graces.map graceL).take (k + 1) = (graces.map graceL).take k ++ [graceL graces[k]] := by
        rw [List.take_succ_eq_append_getElem (by simpa using hlt)]; simp
      have hho := hok graces[k] (List.getElem_mem hlt)
      generalize graces[k] = x at hcl hs hho
      obtain ⟨⟨x0, x1, x2⟩, x3, x4⟩ := x
      obtain ⟨hp, hl1, hl6⟩ := hho
      have c0 : wr.cell? ⟨g, oo + k * 5, none⟩ = some (.int .i64 x0) := hcl 0 _ rfl
      have c1 : wr.cell? ⟨g, oo + k * 5 + 1, none⟩ = some (.int .i64 x1) := hcl 1 _ rfl
      have c2 : wr.cell? ⟨g, oo + k * 5 + 2, none⟩ = some (.int .i64 x2) := hcl 2 _ rfl
      have c3 : wr.cell? ⟨g, oo + k * 5 + 3, none⟩ = some (.int .i64 x3) := hcl 3 _ rfl
      have c4 : wr.cell? ⟨g, oo + k * 5 + 4, none⟩ = some (.bool x4) := hcl 4 _ rfl
      have hnm := fun W (bW : Below w.heap.size w W) => pitch_name hp W (T.step bW)
      have bbr2 := bbr.alloc bbr.size (.cells #[.int .i64 x0, .int .i64 x1, .int .i64 x2, .int .i64 x3, .bool x4] 61)
      have hbr2 := hb.alloc hb.size (.cells #[.int .i64 x0, .int .i64 x1, .int .i64 x2, .int .i64 x3, .bool x4] 61)
      have hown2 := hown.alloc (.cells #[.int .i64 x0, .int .i64 x1, .int .i64 x2, .int .i64 x3, .bool x4] 61)
      have hpl : (pitchL ⟨x0, x1, x2⟩).length ≤ 5 := pitchL_len hp
      simp only at hl1 hl6
      have hpw := powL_len hl1 hl6
      have ew : wrap64 (2 ^ x3.toNat) = 2 ^ x3.toNat := by
        have hc : x3 = 1 ∨ x3 = 2 ∨ x3 = 3 ∨ x3 = 4 ∨ x3 = 5 ∨ x3 = 6 := by omega
        rcases hc with rfl | rfl | rfl | rfl | rfl | rfl <;> simp [wrap64]
      have hit : ∀ W, Calls Tryz.prog 31 #[.int .i64 (wrap64 (2 ^ x3.toNat))] W fun e w' => e = .returned (.string (mkB (powL x3))) ∧ Below W.heap.size W w' := fun W => by rw [ew]; exact itoa_pow hl1 hl6 W
      clear ew
      simp only [graceL] at hs
      have HS := shut hs
      clear hs
      obtain ⟨s0, hs0⟩ : ∃ s, s = mkB (pitchL ⟨x0, x1, x2⟩) := ⟨_, rfl⟩
      rw [← hs0] at hnm
      obtain ⟨s9, hs9⟩ : ∃ s, s = mkB (powL x3) := ⟨_, rfl⟩
      rw [← hs9] at hit
      have a0 := fun ww => add_mk [47] (pitchL ⟨x0, x1, x2⟩) (by simp) (by omega) ww
      have a1 := fun ww => add_mk ((if x4 = true then [47] else []) ++ pitchL ⟨x0, x1, x2⟩) [58] (by rw [List.length_append]; split <;> simp <;> omega) (by simp) ww
      have a2 := fun ww => add_mk ((if x4 = true then [47] else []) ++ pitchL ⟨x0, x1, x2⟩ ++ [58]) (powL x3) (by simp only [List.length_append]; split <;> simp <;> omega) (by omega) ww
      obtain ⟨t0, ht0⟩ : ∃ s, s = mkB ((if x4 = true then [47] else []) ++ pitchL ⟨x0, x1, x2⟩) := ⟨_, rfl⟩
      obtain ⟨t1, ht1⟩ : ∃ s, s = mkB ((if x4 = true then [47] else []) ++ pitchL ⟨x0, x1, x2⟩ ++ [58]) := ⟨_, rfl⟩
      obtain ⟨t2, ht2⟩ : ∃ s, s = mkB ((if x4 = true then [47] else []) ++ pitchL ⟨x0, x1, x2⟩ ++ [58] ++ powL x3) := ⟨_, rfl⟩
      rw [← ht0, ← ht1] at a1
      rw [← ht1, ← hs9, ← ht2] at a2
      rw [← hs0] at a0
      have a1' : ∀ ww, (Op.stringOp .add t0 ⟨#[58]⟩).run Tryz.prog ww = .ok (.string t1) ww := a1
      have HT := shut ht2
      have hcase : (x4 = false ∧ t0 = s0) ∨ (x4 = true ∧ ∀ ww, (Op.stringOp .add ⟨#[47]⟩ s0).run Tryz.prog ww = .ok (.string t0) ww) := by
        cases x4 with
        | false => exact .inl ⟨rfl, by rw [ht0, hs0]; simp⟩
        | true => exact .inr ⟨rfl, fun ww => by have := a0 ww; rw [ht0]; exact this⟩
      clear ht0 ht1 ht2 hs0 hs9 a0 a1 hpl hcl hpw hp
      go_wp2_with (go_at_call 25; refine (hnm _ bbr2).mono ?_)
      intro e w2; first | (intro he b2; subst he) | rintro ⟨rfl, b2⟩
      have q3 : w2.cell? ⟨wr.heap.size, 3, none⟩ = some (.int .i64 x3) := (b2.cell (by simp)).trans (by simp)
      have q4 : w2.cell? ⟨wr.heap.size, 4, none⟩ = some (.bool x4) := (b2.cell (by simp)).trans (by simp)
      have hb2 := hbr2.trans (b2.mono (by have := hb.size; first | omega | (simp; omega)))
      have hown3 := own_step hown2 fun j hj => b2.block j (by have := (hown2.lt j hj).2; simpa using this)
      clear hnm b2 hown hown2 bbr2 hbr2 c0 c1 c2 c3 c4
      rcases hcase with ⟨rfl, rfl⟩ | ⟨rfl, a0'⟩
      · go_wp2_with (go_at_call 31; (with_reducible refine (hit _).mono ?_))
        intro e w3; first | (intro he b3; subst he) | rintro ⟨rfl, b3⟩
        have hb3 := hb2.trans (b3.mono (by have := hb2.size; omega))
        have hown4 := own_step hown3 fun j hj => b3.block j (hown3.lt j hj).2
        obtain ⟨ao, cp, rfl⟩ := own_is hown4
        have hge : ∀ j, (Value.slice ao k cp).ownBlock = some j → w1.heap.size ≤ j := fun j hj => (hown4.lt j hj).1
        have hsz3 := hb3.size
        clear hit b3 hown3 q3 q4
        go_wp2_with (at_builtin; refine wpList_append_lies _ rfl _ _ 65 rfl w1.heap.size 9 i0 _ 1 16 Tryz.underlying65 hi0 hz0 hz1 hz2 rfl (by omega) _ k _ rfl (hown4.alloc _) ⟨w3.heap.size, 0, none⟩ 1 1 [.string t2] rfl rfl (World.news_of_block (cs := #[.string t2]) (t := 9) (fr := (0, 0)) (heap_alloc_new _ _)) (by simp [Value.oneCell']) (by omega) (by unfold maxLen; omega) (by omega) (by simp; omega) (w3.heap.size + 1) (by simp) ?_; intro gg wcap w4 hown5 hgrow hat hgl)
        go_roundg (graces.length - (k + 1))
        case measure => omega
        case rel => exact ⟨k + 1, by omega, rfl, by simp, (hb3.alloc hb3.size (.cells #[.string t2] 9)).grown hgrow (by simp; omega) hge, by rw [HS.out, List.map_append, List.map_append]; rw [HT.out] at hown5; exact hown5⟩
      · go_wp2_with (go_at_call 31; (with_reducible refine (hit _).mono ?_))
        intro e w3; first | (intro he b3; subst he) | rintro ⟨rfl, b3⟩
        have hb3 := hb2.trans (b3.mono (by have := hb2.size; omega))
        have hown4 := own_step hown3 fun j hj => b3.block j (hown3.lt j hj).2
        obtain ⟨ao, cp, rfl⟩ := own_is hown4
        have hge : ∀ j, (Value.slice ao k cp).ownBlock = some j → w1.heap.size ≤ j := fun j hj => (hown4.lt j hj).1
        have hsz3 := hb3.size
        clear hit b3 hown3 q3 q4
        go_wp2_with (at_builtin; refine wpList_append_lies _ rfl _ _ 65 rfl w1.heap.size 9 i0 _ 1 16 Tryz.underlying65 hi0 hz0 hz1 hz2 rfl (by omega) _ k _ rfl (hown4.alloc _) ⟨w3.heap.size, 0, none⟩ 1 1 [.string t2] rfl rfl (World.news_of_block (cs := #[.string t2]) (t := 9) (fr := (0, 0)) (heap_alloc_new _ _)) (by simp [Value.oneCell']) (by omega) (by unfold maxLen; omega) (by omega) (by simp; omega) (w3.heap.size + 1) (by simp) ?_; intro gg wcap w4 hown5 hgrow hat hgl)
        go_roundg (graces.length - (k + 1))
        case measure => omega
        case rel => exact ⟨k + 1, by omega, rfl, by simp, (hb3.alloc hb3.size (.cells #[.string t2] 9)).grown hgrow (by simp; omega) hge, by rw [HS.out, List.map_append, List.map_append]; rw [HT.out] at hown5; exact hown5⟩
    · have hkl : k = graces.length := by omega
      subst hkl
      have htk : (graces.map graceL).take graces.length = graces.map graceL := List.take_of_length_le (by simp)
      rw [htk] at hown
      have hlm : (graces.map graceL).length = graces.length := by simp
      obtain ⟨ao, cp, rfl⟩ := own_is hown
      have hown' : wr.ownsRow w1.heap.size 9 1 (.slice ao graces.length cp) (graces.map graceL).length (((graces.map graceL).map mkB).map Value.string) := by rw [hlm]; exact hown
      have hlen : ∀ y ∈ graces.map graceL, y.length ≤ 9 := fun y hy => by
        obtain ⟨h, hm, rfl⟩ := List.mem_map.1 hy
        exact graceL_len (hok h hm)
      clear hown htk hlt hk hg
      have hsz := hb.size
      go_upto_if 44 with (fail)
      go_cut [3] from 14 (fun s3 wc => Below w1.heap.size w1 wc ∧ wc.ownsRow w1.heap.size 9 1 s3 (gpart graces).length (((gpart graces).map mkB).map Value.string))
      case first =>
        by_cases he : graces = []
        · have hp : gpart graces = [] := by unfold gpart; rw [if_pos he]
          have h0 : ¬ (0 : Int) < (graces.length : Int) := by rw [he]; simp
          have SP := shut hp
          clear hp he
          go_wp2
          go_meet
          case rel => exact ⟨hb, by rw [SP.out]; exact World.ownsRow_nil _ _ _ _⟩
        · have hp : gpart graces = [[103, 114, 97, 99, 101], [40] ++ joinL (graces.map graceL) ++ [41]] := by unfold gpart; rw [if_neg he]
          have hpos : 0 < graces.length := List.length_pos_iff.2 he
          have h0 : (0 : Int) < (graces.length : Int) := by omega
          have hen := enclosed_walk hown' (by rw [hlm]; exact hpos) (by rw [hlm]; omega) (m := 9) (by omega) hlen 40 41
          obtain ⟨z, hz⟩ : ∃ z, z = mkB ([40] ++ joinL (graces.map graceL) ++ [41]) := ⟨_, rfl⟩
          rw [← hz] at hen
          have SP := shut (And.intro hp hz)
          clear hp he hz hown' hlen
          go_wp2_with (go_at_call 32; (with_reducible refine hen.mono ?_))
          intro e w5; first | (intro he b5; subst he) | rintro ⟨rfl, b5⟩
          have hb5 := hb.trans (b5.mono hb.size)
          have hsz5 := hb5.size
          have hnil : w5.ownsRow w1.heap.size 9 1 (.slice none 0 0) 0 [] := World.ownsRow_nil _ _ _ _
          clear hen b5
          go_wp2_with (at_builtin; refine wpList_append_lies _ rfl _ _ 65 rfl w1.heap.size 9 i0 _ 1 16 Tryz.underlying65 hi0 hz0 hz1 hz2 rfl (by omega) _ 0 [] rfl (World.ownsRow_nil _ _ _ _) ⟨w5.heap.size, 0, none⟩ 2 2 [.string ⟨#[103, 114, 97, 99, 101]⟩, .string z] rfl rfl (World.news_of_block (cs := #[.string ⟨#[103, 114, 97, 99, 101]⟩, .string z]) (t := 9) (fr := (0, 0)) (heap_alloc_new _ _)) (by simp [Value.oneCell']) (by omega) (by unfold maxLen; omega) (by omega) (by simp; omega) (w5.heap.size + 1) (by simp) ?_; intro gg wcap w6 hown6 hgrow hat hgl)
          go_meet
          case rel => exact ⟨(hb5.alloc hsz5 (.cells #[.string ⟨#[103, 114, 97, 99, 101]⟩, .string z] 9)).grown hgrow (by simp; omega) (fun j hj => (hnil.lt j hj).1), by rw [SP.out.1]; rw [SP.out.2] at hown6; exact hown6⟩
      case rest =>
        obtain ⟨hbc, hownc⟩ := hcut
        clear hb bbr hown' hlen hlm hsz
        have bbc := b0.trans (hbc.mono b0.size)
        have hBc := (hbc.block w.heap.size (Array.getElem?_eq_some_iff.1 hB0).1).trans hB0
        clear k0 k1 k2 k3 k4 k5 k6 k7 k8 k9 k10 k11 k12
        obtain ⟨k0, k1, k2, k3, k4, k5, k6, k7, k8, k9, k10, k11, k12⟩ := box13 hBc
        have hgl : (gpart graces).length ≤ 2 := by unfold gpart; split <;> simp
        obtain ⟨pa, hpa⟩ : ∃ P, P = gpart graces := ⟨_, rfl⟩
        rw [← hpa] at hownc hgl
        have HP := shut hpa
        clear hpa
        have hbd := hbody _ bbc
        obtain ⟨ao3, cp3, rfl⟩ := own_is hownc
        clear hbody
        go_wp2_with (go_at_call 33; (with_reducible refine hbd.mono ?_))
        intro e w5; first | (intro he b5; subst he) | rintro ⟨rfl, b5⟩
        have hb5 := hbc.trans (b5.mono hbc.size)
        have hown5 := own_step hownc fun j hj => b5.block j (hownc.lt j hj).2
        have hge : ∀ j, (Value.slice ao3 pa.length cp3).ownBlock = some j → w1.heap.size ≤ j := fun j hj => (hown5.lt j hj).1
        have hsz5 := hb5.size
        have hB5 := (b5.block w.heap.size (Array.getElem?_eq_some_iff.1 hBc).1).trans hBc
        clear hbd b5 hownc hBc hbc bbc k0 k1 k2 k3 k4 k5 k6 k7 k8 k9 k10 k11 k12
        go_wp2_with (at_builtin; refine wpList_append_lies _ rfl _ _ 65 rfl w1.heap.size 9 i0 _ 1 16 Tryz.underlying65 hi0 hz0 hz1 hz2 rfl (by omega) _ pa.length _ rfl (hown5.alloc _) ⟨w5.heap.size, 0, none⟩ 1 1 [.string zb] rfl rfl (World.news_of_block (cs := #[.string zb]) (t := 9) (fr := (0, 0)) (heap_alloc_new _ _)) (by simp [Value.oneCell']) (by omega) (by unfold maxLen; omega) (by omega) (by simp; omega) (w5.heap.size + 1) (by simp) ?_; intro gg wcap w6 hown6 hgrow hat hgl2; have hb6 := (hb5.alloc hb5.size (.cells #[.string zb] 9)).grown hgrow (by simp; omega) hge; have hB6 := (hb6.block w.heap.size (Array.getElem?_eq_some_iff.1 hB0).1).trans hB0; obtain ⟨k0, k1, k2, k3, k4, k5, k6, k7, k8, k9, k10, k11, k12⟩ := box13 hB6)
        have hT6 := T.step (b0.trans (hb6.mono b0.size))
        have hbw : Calls Tryz.prog 34 #[.int .i64 ar, .string ⟨#[115, 116, 97, 99, 99, 97, 116, 111, 32, 116, 101, 110, 117, 116, 111, 32, 97, 99, 99, 101, 110, 116, 32, 109, 97, 114, 99, 97, 116, 111, 32, 102, 101, 114, 109, 97, 116, 97]⟩] w6 fun e w' => (∃ v, e = .returned v ∧ w'.ownsRow w6.heap.size 9 1 v (bitsW ar artsW artsW.length).length ((bitsW ar artsW artsW.length).map Value.string)) ∧ Below w6.heap.size w6 w' := bitsOf_walk arts_run (by decide) ar ha0 ha1 w6 hT6
        have hwl := bitsW_len ar artsW artsW.length
        obtain ⟨wl, hwl0⟩ : ∃ l, l = bitsW ar artsW artsW.length := ⟨_, rfl⟩
        rw [← hwl0] at hbw hwl
        have hwl5 : wl.length ≤ 5 := hwl
        have HW := shut hwl0
        clear hwl0 hwl
        go_wp2_with (go_at_call 34; (with_reducible refine hbw.mono ?_))
        intro e w7 vw he hown7 b7
        subst he
        obtain ⟨aw, cw, rfl⟩ := own_is hown7
        have hB7 := (b7.block w.heap.size (Array.getElem?_eq_some_iff.1 hB6).1).trans hB6
        have hT7 := hT6.step b7
        have lb7 := (Array.getElem?_eq_some_iff.1 hB7).1
        obtain ⟨p0, p1, p2, p3, p4, p5, p6, p7, p8, p9, p10, p11, p12⟩ := box13 hB7
        have ho1 : ∀ W, Below w7.heap.size w7 W → Calls Tryz.prog 35 #[.int .i64 orn, .string ⟨#[116, 114, 105, 108, 108, 32, 109, 111, 114, 100, 101, 110, 116, 32, 105, 110, 118, 101, 114, 115, 101, 32, 116, 117, 114, 110]⟩] W fun e w' => e = .returned (.string (wordAt ornsW orn)) ∧ Below W.heap.size W w' := fun W bW => word_walk orns_run (by decide) orn o0 o4 W (hT7.step bW)
        have hd1 : ∀ W, Below w7.heap.size w7 W → Calls Tryz.prog 35 #[.int .i64 dy, .string ⟨#[112, 112, 112, 32, 112, 112, 32, 112, 32, 109, 112, 32, 109, 102, 32, 102, 32, 102, 102, 32, 102, 102, 102, 32, 115, 102, 122]⟩] W fun e w' => e = .returned (.string (wordAt dynsW dy)) ∧ Below W.heap.size W w' := fun W bW => word_walk dyns_run (by decide) dy d0 d9 W (hT7.step bW)
        have hs1 : ∀ W, Below w7.heap.size w7 W → Calls Tryz.prog 35 #[.int .i64 st, .string ⟨#[117, 112, 32, 100, 111, 119, 110]⟩] W fun e w' => e = .returned (.string (wordAt stemsW st)) ∧ Below W.heap.size W w' := fun W bW => word_walk stems_run (by decide) st st0 st2 W (hT7.step bW)
        have hm1 : ∀ W, Below w7.heap.size w7 W → Calls Tryz.prog 35 #[.int .i64 be, .string ⟨#[97, 112, 97, 114, 116, 32, 106, 111, 105, 110]⟩] W fun e w' => e = .returned (.string (wordAt beamsW be)) ∧ Below W.heap.size W w' := fun W bW => word_walk beams_run (by decide) be be0 be2 W (hT7.step bW)
        obtain ⟨zo, hzo⟩ : ∃ z, z = wordAt ornsW orn := ⟨_, rfl⟩
        obtain ⟨zd, hzd⟩ : ∃ z, z = wordAt dynsW dy := ⟨_, rfl⟩
        obtain ⟨zs, hzs⟩ : ∃ z, z = wordAt stemsW st := ⟨_, rfl⟩
        obtain ⟨zm, hzm⟩ : ∃ z, z = wordAt beamsW be := ⟨_, rfl⟩
        rw [← hzo] at ho1
        rw [← hzd] at hd1
        rw [← hzs] at hs1
        rw [← hzm] at hm1
        have HZ := shut (And.intro hzo (And.intro hzd (And.intro hzs hzm)))
        have r7 := Below.refl w7.heap.size w7
        have r7d := r7.drew
        clear hzo hzd hzs hzm hbw k0 k1 k2 k3 k4 k5 k6 k7 k8 k9 k10 k11 k12
        go_wp2
        go_region_held3 (fun w' => Below w7.heap.size w7 w' ∧ w'.cell? ⟨w.heap.size, 8, none⟩ = some (.int .i64 orn) ∧ w'.cell? ⟨w.heap.size, 9, none⟩ = some (.int .i64 dy) ∧ w'.cell? ⟨w.heap.size, 11, none⟩ = some (.int .i64 st) ∧ w'.cell? ⟨w.heap.size, 12, none⟩ = some (.int .i64 be)) (first | exact ⟨r7d, p8, p9, p11, p12⟩ | exact ⟨bN, q8, q9, q11, q12⟩ | exact ⟨bel_alloc bN _, cell_al q8 _, cell_al q9 _, cell_al q11 _, cell_al q12 _⟩) (first
          | (go_at_call 35; (first | ((with_reducible refine (ho1 _ ?hb).mono ?_); (case hb => first | exact r7d | assumption)) | ((with_reducible refine (hd1 _ ?hb).mono ?_); (case hb => first | exact r7d | assumption)) | ((with_reducible refine (hs1 _ ?hb).mono ?_); (case hb => first | exact r7d | assumption)) | ((with_reducible refine (hm1 _ ?hb).mono ?_); (case hb => first | exact r7d | assumption))); rintro e w' ⟨rfl, bx⟩; have bN : Below w7.heap.size w7 w' := bel_next (by first | exact r7d | assumption) bx; have q8 : w'.cell? ⟨w.heap.size, 8, none⟩ = some (.int .i64 orn) := (bN.cell lb7).trans p8; have q9 : w'.cell? ⟨w.heap.size, 9, none⟩ = some (.int .i64 dy) := (bN.cell lb7).trans p9; have q11 : w'.cell? ⟨w.heap.size, 11, none⟩ = some (.int .i64 st) := (bN.cell lb7).trans p11; have q12 : w'.cell? ⟨w.heap.size, 12, none⟩ = some (.int .i64 be) := (bN.cell lb7).trans p12))
        have hb7 : Below w6.heap.size w6 w' := b7.trans (bN.mono b7.size)
        have hown8 := own_step hown7 fun j hj => bN.block j (hown7.lt j hj).2
        have hG8 : (w'.alloc (.cells #[.string zo, .string zd, .string zs, .string zm] 9)).heap[w'.heap.size]? = some (strRow [zo, zd, zs, zm]) := heap_alloc_new w' _
        have hb8 := hb7.alloc hb7.size (.cells #[.string zo, .string zd, .string zs, .string zm] 9)
        have hown9 := hown8.alloc (.cells #[.string zo, .string zd, .string zs, .string zm] 9)
        have hlt8 : ∀ j, (Value.slice aw wl.length cw).ownBlock = some j → j ≠ w'.heap.size := fun j hj => by have := (hown8.lt j hj).2; omega
        have hsz8 : w'.heap.size < (w'.alloc (.cells #[.string zo, .string zd, .string zs, .string zm] 9)).heap.size := by simp
        obtain ⟨G, hGe⟩ : ∃ G, G = w'.heap.size := ⟨_, rfl⟩
        have hG8' := hG8
        rw [← hGe] at hG8' hlt8 hsz8
        obtain ⟨fl, hfl⟩ : ∃ l, l = [zo, zd, zs, zm] := ⟨_, rfl⟩
        rw [← hfl] at hG8'
        have HFL := shut hfl
        have HGe := shut hGe
        clear hGe hfl hG8 hown8 hown7 bN bx q8 q9 q11 q12
        go_wp2
        generalize w'.alloc (.cells #[.string zo, .string zd, .string zs, .string zm] 9) = w8 at hG8' hb8 hown9 hsz8 ⊢
        go_loopg [9, 72] 4 (fun g s9 s72 wr => ∃ k : Nat, k ≤ 4 ∧ g = 4 - k ∧ s72 = .int .i64 (k : Nat) ∧ Below w6.heap.size w6 wr ∧ wr.heap[G]? = some (strRow fl) ∧ wr.ownsRow w6.heap.size 9 1 s9 (wl ++ pickN (fl.take k)).length ((wl ++ pickN (fl.take k)).map Value.string) ∧ ∀ j, s9.ownBlock = some j → j ≠ G)
        case atStart => exact ⟨0, by omega, rfl, rfl, hb8, hG8', by simpa [pickN] using hown9, hlt8⟩
        case round =>
          obtain ⟨k, hk, hg, rfl, hb, hGr, hown, hne⟩ := hrel
          by_cases hlt : k < 4
          · have hlt' : (k : Int) < 4 := by omega
            have hk0 : (0 : Int) ≤ (k : Int) := by omega
            have m1 : IntKind.i64.wrap ((k : Int) + 1) = (k : Int) + 1 := IntWalk.i64_in _ (by omega)
            have hkf : k < fl.length := by rw [HFL.out]; simpa using hlt
            have q := strRow_cell hGr hkf
            rw [HGe.out] at q
            have hs : pickN (fl.take (k + 1)) = pickN (fl.take k) ++ (if fl[k].toList.isEmpty = true then [] else [fl[k]]) := by
              rw [List.take_succ_eq_append_getElem hkf]
              unfold pickN
              rw [List.filter_append]
              congr 1
              cases h : fl[k].toList.isEmpty <;> simp [h]
            have hle : (wl ++ pickN (fl.take k)).length ≤ 9 := by
              have h1 : (pickN (fl.take k)).length ≤ (fl.take k).length := List.length_filter_le _ _
              have h2 : (fl.take k).length ≤ k := List.length_take_le _ _
              rw [List.length_append]; omega
            generalize fl[k] = x at q hs
            have hlG := (Array.getElem?_eq_some_iff.1 hGr).1
            cases hx : x.toList.isEmpty with
            | true =>
              have HS := shut (show pickN (fl.take (k + 1)) = pickN (fl.take k) by rw [hs, hx]; simp)
              clear hs hkf hle
              go_wp2
              go_roundg (4 - (k + 1))
              case measure => omega
              case rel => exact ⟨k + 1, by omega, rfl, by simp, hb, hGr, by rw [HS.out]; exact hown, hne⟩
            | false =>
              have HS := shut (show wl ++ pickN (fl.take (k + 1)) = (wl ++ pickN (fl.take k)) ++ [x] by rw [hs, hx]; simp)
              clear hs hkf
              generalize wl ++ pickN (fl.take k) = cur at hown hle HS
              obtain ⟨ao9, cp9, rfl⟩ := own_is hown
              have hge9 : ∀ j, (Value.slice ao9 cur.length cp9).ownBlock = some j → w6.heap.size ≤ j := fun j hj => (hown.lt j hj).1
              have hsz9 := hb.size
              go_wp2_with (at_builtin; refine wpList_append_lies _ rfl _ _ 65 rfl w6.heap.size 9 i0 _ 1 16 Tryz.underlying65 hi0 hz0 hz1 hz2 rfl (by omega) _ cur.length _ rfl (hown.alloc _) ⟨wr.heap.size, 0, none⟩ 1 1 [.string x] rfl rfl (World.news_of_block (cs := #[.string x]) (t := 9) (fr := (0, 0)) (heap_alloc_new _ _)) (by simp [Value.oneCell']) (by omega) (by unfold maxLen; omega) (by omega) (by simp; omega) (wr.heap.size + 1) (by simp) ?_; intro gg9 wcap9 w9 hown10 hgrow9 hat9 hgl9)
              go_roundg (4 - (k + 1))
              case measure => omega
              case rel =>
                refine ⟨k + 1, by omega, rfl, by simp, (hb.alloc hb.size (.cells #[.string x] 9)).grown hgrow9 (by simp; omega) hge9, ?_, by rw [HS.out, List.length_append, List.map_append]; exact hown10, ?_⟩
                · exact ((hgrow9.block G (by simp; omega) (fun h => hne G h.symm rfl)).trans ((Below.refl wr.heap.size wr).alloc (Nat.le_refl _) _ |>.block G hlG)).trans hGr
                · intro j hj
                  have hj' : gg9 = j := by simpa [Value.ownBlock] using hj
                  rcases hat9 with h | h
                  · rw [← hj']; exact hne gg9 h
                  · omega
          · have hkl : k = 4 := by omega
            subst hkl
            have htk4 : fl.take 4 = fl := by rw [HFL.out]; rfl
            rw [htk4] at hown
            obtain ⟨wb, hwb⟩ : ∃ l, l = wordsB ar orn dy st be := ⟨_, rfl⟩
            have hww : wl ++ pickN fl = wb.map mkB := by
              rw [hwb, HFL.out, HW.out, HZ.out.1, HZ.out.2.1, HZ.out.2.2.1, HZ.out.2.2.2]
              exact words_pick o0 o4 d0 d9 st0 st2 be0 be2
            have hwl : ∀ y ∈ wb, y.length ≤ 10 := by rw [hwb]; exact wordsB_small
            have hw9 : wb.length ≤ 9 := by
              have h1 : (pickN fl).length ≤ fl.length := List.length_filter_le _ _
              have h2 : fl.length = 4 := by rw [HFL.out]; rfl
              have h3 := congrArg List.length hww
              rw [List.length_append, List.length_map] at h3
              omega
            rw [hww] at hown
            have hlm : (wb.map mkB).length = wb.length := List.length_map _
            rw [hlm] at hown
            obtain ⟨ao9, cp9, rfl⟩ := own_is hown
            have hown' := hown
            have hownP := own_step hown6 fun j hj => hb.block j (hown6.lt j hj).2
            have hbP := hb6.trans (hb.mono hb6.size)
            have hpl2 : (((pa ++ [bodyL ⟨site, num, kd, lg, dt, heads, graces, ar, orn, dy, lyr, st, be⟩]).map mkB).map Value.string) = (pa.map mkB).map Value.string ++ [.string zb] := by
              rw [HBd.out]; simp
            rw [← hpl2] at hownP
            have hpl3 : (pa ++ [bodyL ⟨site, num, kd, lg, dt, heads, graces, ar, orn, dy, lyr, st, be⟩]).length = pa.length + 1 := by simp
            obtain ⟨pb, hpb⟩ : ∃ l, l = pa ++ [bodyL ⟨site, num, kd, lg, dt, heads, graces, ar, orn, dy, lyr, st, be⟩] := ⟨_, rfl⟩
            rw [← hpb] at hownP hpl3
            have HPB := shut (And.intro hpb (And.intro hwb hpl3))
            have hgeP : ∀ j, (Value.slice (some ⟨gg, 0, none⟩) (pa.length + 1) wcap).ownBlock = some j → w1.heap.size ≤ j := fun j hj => (hownP.lt j hj).1
            clear hpl2 hpl3 hpb hwb hww htk4 hown hne hGr hown9 hb8 hG8' hlt8 ho1 hd1 hs1 hm1 p0 p1 p2 p3 p4 p5 p6 p7 p8 p9 p10 p11 p12 hlt hk hg
            go_upto_if 85 with (fail)
            go_cut [3] from 14 (fun s3 wc => Below w1.heap.size w1 wc ∧ wc.ownsRow w1.heap.size 9 1 s3 (pb ++ wpart wb).length (((pb ++ wpart wb).map mkB).map Value.string))
            case first =>
              by_cases he : wb = []
              · have hp : pb ++ wpart wb = pb := by unfold wpart; rw [if_pos he]; simp
                have h0 : ¬ (0 : Int) < (wb.length : Int) := by rw [he]; simp
                have SP := shut hp
                clear hp he
                go_wp2
                go_meet
                case rel => exact ⟨hbP, by rw [SP.out, HPB.out.2.2]; exact hownP⟩
              · have hp : pb ++ wpart wb = pb ++ [[91] ++ joinL wb ++ [93]] := by unfold wpart; rw [if_neg he]
                have hpos : 0 < wb.length := List.length_pos_iff.2 he
                have h0 : (0 : Int) < (wb.length : Int) := by omega
                have hen := enclosed_walk hown' hpos (by omega) (m := 10) (by omega) hwl 91 93
                obtain ⟨z, hz⟩ : ∃ z, z = mkB ([91] ++ joinL wb ++ [93]) := ⟨_, rfl⟩
                rw [← hz] at hen
                have SP := shut (And.intro hp hz)
                clear hp he hz hown' hwl
                go_wp2_with (go_at_call 32; (with_reducible refine hen.mono ?_))
                intro e w10; first | (intro he b10; subst he) | rintro ⟨rfl, b10⟩
                have hb10 := hbP.trans (b10.mono hbP.size)
                have hsz10 := hb10.size
                have hown11 := own_step hownP fun j hj => b10.block j (hownP.lt j hj).2
                clear hen b10
                go_wp2_with (at_builtin; refine wpList_append_lies _ rfl _ _ 65 rfl w1.heap.size 9 i0 _ 1 16 Tryz.underlying65 hi0 hz0 hz1 hz2 rfl (by omega) _ (pa.length + 1) _ rfl (hown11.alloc _) ⟨w10.heap.size, 0, none⟩ 1 1 [.string z] rfl rfl (World.news_of_block (cs := #[.string z]) (t := 9) (fr := (0, 0)) (heap_alloc_new _ _)) (by simp [Value.oneCell']) (by omega) (by unfold maxLen; omega) (by omega) (by simp; omega) (w10.heap.size + 1) (by simp) ?_; intro gg11 wcap11 w11 hown12 hgrow11 hat11 hgl11)
                go_meet
                case rel => exact ⟨(hb10.alloc hsz10 (.cells #[.string z] 9)).grown hgrow11 (by simp; omega) hgeP, by rw [SP.out.1, List.map_append, List.map_append, List.length_append, HPB.out.2.2]; rw [SP.out.2] at hown12; exact hown12⟩
            case rest =>
              obtain ⟨hbc, hownc⟩ := hcut
              have hBc := (hbc.block w.heap.size (Array.getElem?_eq_some_iff.1 hB0).1).trans hB0
              obtain ⟨k0, k1, k2, k3, k4, k5, k6, k7, k8, k9, k10, k11, k12⟩ := box13 hBc
              have hpb3 : (pb ++ wpart wb).length ≤ 4 := by
                have h1 := HPB.out.2.2
                have h2 : (wpart wb).length ≤ 1 := by unfold wpart; split <;> simp
                rw [List.length_append]; omega
              have HFIN : Shut (zf = mkB (joinL (pb ++ wpart wb ++ lyr.map syllL))) := shut (by
                rw [Hf.out, HPB.out.1, HPB.out.2.1, HP.out]; rfl)
              have HLEN : Shut (∀ y ∈ pb ++ wpart wb, y.length ≤ 2000) := shut (by
                intro y hy
                rcases List.mem_append.1 hy with h | h
                · rw [HPB.out.1] at h
                  rcases List.mem_append.1 h with h | h
                  · rw [HP.out] at h
                    have := gpart_len g8 hok y h; omega
                  · obtain rfl := List.mem_singleton.1 h
                    omega
                · have := wpart_len hw9 hwl y h; omega)
              have hpc0 : 0 < (pb ++ wpart wb).length := by rw [List.length_append]; have := HPB.out.2.2; omega
              generalize pb ++ wpart wb = pc at hownc hpb3 hpc0 HFIN HLEN
              have el : ln = lyr.length := by have := hL.len; simpa using this
              subst el
              clear hbP hownP hgeP hwl hw9 hown' hlm HPB hb hown6 hb6 hgrow hat hgl2 hge b7 hb7 hT7 hB7 lb7 hB5 hB6
              go_wp2
              go_loopg [3, 94] lyr.length (fun g s3 s94 wr => ∃ k : Nat, k ≤ lyr.length ∧ g = lyr.length - k ∧ s94 = .int .i64 (k : Nat) ∧ Below w1.heap.size w1 wr ∧ wr.ownsRow w1.heap.size 9 1 s3 (pc ++ (lyr.map syllL).take k).length (((pc ++ (lyr.map syllL).take k).map mkB).map Value.string))
              case atStart => exact ⟨0, Nat.zero_le _, rfl, rfl, hbc, by rw [List.take_zero, List.append_nil]; exact hownc⟩
              case round =>
                obtain ⟨k, hk, hg, rfl, hb, hown⟩ := hrel
                have bbr := b0.trans (hb.mono b0.size)
                by_cases hlt : k < lyr.length
                · have hlt' : (k : Int) < (lyr.length : Int) := by omega
                  have hk0 : (0 : Int) ≤ (k : Int) := by omega
                  obtain ⟨g, oo, rfl, hcl⟩ := (hL.step bbr).atM hlt
                  have m1 : IntKind.i64.wrap ((k : Int) + 1) = (k : Int) + 1 := IntWalk.i64_in _ (by omega)
                  have hs : (lyr.map syllL).take (k + 1) = (lyr.map syllL).take k ++ [syllL lyr[k]] := by
                    rw [List.take_succ_eq_append_getElem (by simpa using hlt)]; simp
                  have hho := hokl lyr[k] (List.getElem_mem hlt)
                  generalize lyr[k] = x at hcl hs hho
                  have hsy := fun W => syl10_walk x W hho.1 hho.2.1 hho.2.2
                  obtain ⟨x0, x1⟩ := x
                  have c0 : wr.cell? ⟨g, oo + k * 2, none⟩ = some (.string x0) := hcl 0 _ rfl
                  have c1 : wr.cell? ⟨g, oo + k * 2 + 1, none⟩ = some (.int .i64 x1) := hcl 1 _ rfl
                  obtain ⟨z, hz⟩ : ∃ z, z = mkB (syllL ⟨x0, x1⟩) := ⟨_, rfl⟩
                  rw [← hz] at hsy
                  have hsy' : ∀ W, Calls Tryz.prog 10 #[.agg #[.string x0, .int .i64 x1]] W fun e w' => e = .returned (.string z) ∧ Below W.heap.size W w' := hsy
                  have HS := shut (show pc ++ (lyr.map syllL).take (k + 1) = pc ++ (lyr.map syllL).take k ++ [syllL ⟨x0, x1⟩] ∧ z = mkB (syllL ⟨x0, x1⟩) from ⟨by rw [hs, List.append_assoc], hz⟩)
                  have hcl8 : (pc ++ (lyr.map syllL).take k).length ≤ 8 := by
                    have h2 : ((lyr.map syllL).take k).length ≤ k := List.length_take_le _ _
                    rw [List.length_append]; omega
                  clear hs hz hsy hcl hho
                  generalize pc ++ (lyr.map syllL).take k = cur at hown hcl8 HS
                  have hb2 := hb.alloc hb.size (.cells #[.string x0, .int .i64 x1] 33)
                  have hown2 := hown.alloc (.cells #[.string x0, .int .i64 x1] 33)
                  obtain ⟨ao9, cp9, rfl⟩ := own_is hown
                  clear hown
                  go_wp2_with (go_at_call 10; (with_reducible refine (hsy' _).mono ?_))
                  intro e w20; first | (intro he b20; subst he) | rintro ⟨rfl, b20⟩
                  have hb3 := hb2.trans (b20.mono (by have := hb.size; first | omega | (simp; omega)))
                  have hown3 := own_step hown2 fun j hj => b20.block j (by have := (hown2.lt j hj).2; simpa using this)
                  have hge9 : ∀ j, (Value.slice ao9 cur.length cp9).ownBlock = some j → w1.heap.size ≤ j := fun j hj => (hown3.lt j hj).1
                  have hsz3 := hb3.size
                  clear hsy' b20 hown2 hb2 c0 c1
                  go_wp2_with (at_builtin; refine wpList_append_lies _ rfl _ _ 65 rfl w1.heap.size 9 i0 _ 1 16 Tryz.underlying65 hi0 hz0 hz1 hz2 rfl (by omega) _ cur.length _ rfl (hown3.alloc _) ⟨w20.heap.size, 0, none⟩ 1 1 [.string z] rfl rfl (World.news_of_block (cs := #[.string z]) (t := 9) (fr := (0, 0)) (heap_alloc_new _ _)) (by simp [Value.oneCell']) (by omega) (by unfold maxLen; omega) (by omega) (by simp; omega) (w20.heap.size + 1) (by simp) ?_; intro gg21 wcap21 w21 hown22 hgrow21 hat21 hgl21)
                  go_roundg (lyr.length - (k + 1))
                  case measure => omega
                  case rel => exact ⟨k + 1, by omega, rfl, by simp, (hb3.alloc hsz3 (.cells #[.string z] 9)).grown hgrow21 (by simp; omega) hge9, by rw [HS.out.1, List.map_append, List.map_append, List.length_append]; rw [HS.out.2] at hown22; exact hown22⟩
                · have hkl : k = lyr.length := by omega
                  subst hkl
                  have htk : (lyr.map syllL).take lyr.length = lyr.map syllL := List.take_of_length_le (by simp)
                  rw [htk] at hown
                  have hjn := join_own hown (by rw [List.length_append]; have := hpc0; omega) (by rw [List.length_append, List.length_map]; omega) (by
                    intro y hy
                    rcases List.mem_append.1 hy with h | h
                    · have := HLEN.out y h; omega
                    · obtain ⟨x, hx, rfl⟩ := List.mem_map.1 h
                      have := syllL_len x (hokl x hx).1; omega)
                  rw [← HFIN.out] at hjn
                  generalize pc ++ lyr.map syllL = full at hown hjn
                  obtain ⟨ao9, cp9, rfl⟩ := own_is hown
                  clear hown htk
                  go_wp2_with (go_at_call 36; (with_reducible refine hjn.mono ?_))
                  intro e w30; first | (intro he b30; subst he) | rintro ⟨rfl, b30⟩
                  go_wp2
                  go_ret
                  exact ⟨rfl, bbr.trans (b30.mono bbr.size)⟩
end Go.Proofs.YtholnnabakaliaaGreatDoor
