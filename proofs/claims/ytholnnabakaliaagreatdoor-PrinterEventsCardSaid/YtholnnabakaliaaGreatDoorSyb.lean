/-
  A part of the proof that the law PrinterEvents (chapter 20) returns true for every event: walks of the program's functions, and runs of them in the kernel by the own evaluator.
-/
import Derived.Test.YtholnnabakaliaaGreatDoorS290n
import Derived.Test.YtholnnabakaliaaGreatDoorS290e
import Derived.Test.YtholnnabakaliaaGreatDoorS291n
import Derived.Test.YtholnnabakaliaaGreatDoorS291e
import Derived.Test.YtholnnabakaliaaGreatDoorS292n
import Derived.Test.YtholnnabakaliaaGreatDoorBod
import Derived.Test.YtholnnabakaliaaGreatDoorShf
import Derived.Deep.RegionWith
import Derived.Deep.RegionHeld3
import Derived.Test.YtholnnabakaliaaGreatDoorTxp
namespace Go.Proofs.YtholnnabakaliaaGreatDoor
open Go.RowKit

set_option maxHeartbeats 2000000 in
theorem syl29_walk (x : SyllV) (w : World) (hs : x.tx.size ≤ 256) (h0 : 0 ≤ x.ln) (h2 : x.ln ≤ 2) : Calls Tryz.prog 29 #[.agg x.cells] w fun e w' => e = .returned (.string (mkB (syllL x))) ∧ Below w.heap.size w w' := by
  obtain ⟨s, l⟩ := x
  unfold syllL linkL
  dsimp only at hs h0 h2 ⊢
  show Calls Tryz.prog 29 #[.agg #[.string s, .int .i64 l]] w _
  rcases (by omega : l = 0 ∨ l = 1 ∨ l = 2) with rfl | rfl | rfl
  · rw [if_neg (by omega), if_pos rfl]
    cases he : s.toList.isEmpty with
    | false => have q := syl29_0_n s w hs he; rw [show (⟨#[]⟩ : ByteArray) = mkB [] from rfl, quoteB_cat] at q; exact q
    | true => have q := syl29_0_e s w hs he; rw [show (⟨#[]⟩ : ByteArray) = mkB [] from rfl, quoteB_cat] at q; exact q
  · rw [if_neg (by omega), if_neg (by omega), if_pos rfl]
    cases he : s.toList.isEmpty with
    | false => have q := syl29_1_n s w hs he; rw [show (⟨#[45]⟩ : ByteArray) = mkB [45] from rfl, quoteB_cat] at q; exact q
    | true => have q := syl29_1_e s w hs he; rw [show (⟨#[45]⟩ : ByteArray) = mkB [45] from rfl, quoteB_cat] at q; exact q
  · cases he : s.toList.isEmpty with
    | false => rw [if_neg (by simp), if_neg (by omega), if_neg (by omega)]; have q := syl29_2_n s w hs he; rw [show (⟨#[95]⟩ : ByteArray) = mkB [95] from rfl, quoteB_cat] at q; exact q
    | true =>
      rw [if_pos ⟨rfl, rfl⟩]
      have hs' : ¬ (256 : Int) < s.size := by omega
      clear h0 h2
      go_enter Tryz.func29, Tryz.ntmps29
      go_wp2
      go_ret
      exact ⟨rfl, (Below.refl _ w).alloc (Nat.le_refl _) _⟩
end Go.Proofs.YtholnnabakaliaaGreatDoor

namespace Go.Proofs.YtholnnabakaliaaGreatDoor
open Go.RowKit

set_option maxHeartbeats 8000000 in
set_option maxRecDepth 100000 in
theorem lhead_walk (x0 x1 x2 x4 : Int) (x3 : Bool) {b : Nat} (w : World) (T : Tabs b w) (hho : HeadOk ⟨⟨x0, x1, x2⟩, x3, x4⟩) :
    Calls Tryz.prog 60 #[.agg #[.int .i64 x0, .int .i64 x1, .int .i64 x2, .bool x3, .int .i64 x4]] w fun e w' => e = .returned (.string (mkB (headL ⟨⟨x0, x1, x2⟩, x3, x4⟩))) ∧ Below w.heap.size w w' := by
  obtain ⟨hp, hsh⟩ := hho
  have b0 := (Below.refl w.heap.size w).alloc (Nat.le_refl _) (.cells #[.int .i64 x0, .int .i64 x1, .int .i64 x2, .bool x3, .int .i64 x4] 46)
  have hnm := fun W (bW : Below w.heap.size w W) => pitch_name hp W (T.step bW)
  have hpl := pitchL_len hp
  have hs : headL ⟨⟨x0, x1, x2⟩, x3, x4⟩ = pitchL ⟨x0, x1, x2⟩ ++ (if x3 = true then [126] else []) ++ showL x4 := rfl
  rw [hs]
  clear hs hp
  simp only at hsh
  generalize pitchL ⟨x0, x1, x2⟩ = pl at hnm hpl ⊢
  obtain ⟨s0, hs0⟩ : ∃ s, s = mkB pl := ⟨_, rfl⟩
  rw [← hs0] at hnm
  obtain ⟨s1, hs1⟩ : ∃ s, s = mkB (pl ++ (if x3 = true then [126] else [])) := ⟨_, rfl⟩
  obtain ⟨s2, hs2⟩ : ∃ s, s = mkB (pl ++ (if x3 = true then [126] else []) ++ showL x4) := ⟨_, rfl⟩
  rw [← hs2]
  have h3l : (pl ++ (if x3 = true then [126] else [])).length ≤ 6 := by rw [List.length_append]; split <;> simp <;> omega
  have aS0 := fun ww => add_mk (pl ++ (if x3 = true then [126] else [])) (showL x4) (by omega) (by unfold showL; (repeat' split) <;> simp) ww
  rw [← hs1, ← hs2] at aS0
  have hc : Calls Tryz.prog 60 #[.agg #[.int .i64 x0, .int .i64 x1, .int .i64 x2, .bool x3, .int .i64 x4]] w fun e w' => e = .returned (.string s2) ∧ Below w.heap.size w w' := by
    cases x3 with
    | false =>
      have e1 : s1 = s0 := by rw [hs1, hs0]; simp
      rw [e1] at aS0
      clear hs0 hs1 hs2 e1 h3l
      rcases hsh with rfl | rfl | rfl
      · have aS : ∀ ww, (Op.stringOp .add s0 ⟨#[]⟩).run Tryz.prog ww = .ok (.string s2) ww := aS0
        clear aS0
        go_enter Tryz.func60, Tryz.ntmps60
        go_wp2_with (go_at_call 25; refine (hnm _ b0).mono ?_)
        intro e w1; first | (intro he b1; subst he) | rintro ⟨rfl, b1⟩
        have q3 : w1.cell? ⟨w.heap.size, 3, none⟩ = some (.bool false) := (b1.cell (by simp)).trans (by simp)
        have q4 : w1.cell? ⟨w.heap.size, 4, none⟩ = some (.int .i64 0) := (b1.cell (by simp)).trans (by simp)
        have m4 : ∀ o, (w1.alloc o).cell? ⟨w.heap.size, 4, none⟩ = some (.int .i64 0) := fun o => (World.cell?_alloc_some w1 _ o (by rw [q4]; rfl)).trans q4
        go_wp2
        go_ret
        exact ⟨rfl, (b0.trans (b1.mono (by first | omega | simp))).alloc (by have := b1.size; simp at this; omega) _⟩
      · have aS : ∀ ww, (Op.stringOp .add s0 ⟨#[33]⟩).run Tryz.prog ww = .ok (.string s2) ww := aS0
        clear aS0
        go_enter Tryz.func60, Tryz.ntmps60
        go_wp2_with (go_at_call 25; refine (hnm _ b0).mono ?_)
        intro e w1; first | (intro he b1; subst he) | rintro ⟨rfl, b1⟩
        have q3 : w1.cell? ⟨w.heap.size, 3, none⟩ = some (.bool false) := (b1.cell (by simp)).trans (by simp)
        have q4 : w1.cell? ⟨w.heap.size, 4, none⟩ = some (.int .i64 1) := (b1.cell (by simp)).trans (by simp)
        have m4 : ∀ o, (w1.alloc o).cell? ⟨w.heap.size, 4, none⟩ = some (.int .i64 1) := fun o => (World.cell?_alloc_some w1 _ o (by rw [q4]; rfl)).trans q4
        go_wp2
        go_ret
        exact ⟨rfl, (b0.trans (b1.mono (by first | omega | simp))).alloc (by have := b1.size; simp at this; omega) _⟩
      · have aS : ∀ ww, (Op.stringOp .add s0 ⟨#[63]⟩).run Tryz.prog ww = .ok (.string s2) ww := aS0
        clear aS0
        go_enter Tryz.func60, Tryz.ntmps60
        go_wp2_with (go_at_call 25; refine (hnm _ b0).mono ?_)
        intro e w1; first | (intro he b1; subst he) | rintro ⟨rfl, b1⟩
        have q3 : w1.cell? ⟨w.heap.size, 3, none⟩ = some (.bool false) := (b1.cell (by simp)).trans (by simp)
        have q4 : w1.cell? ⟨w.heap.size, 4, none⟩ = some (.int .i64 2) := (b1.cell (by simp)).trans (by simp)
        have m4 : ∀ o, (w1.alloc o).cell? ⟨w.heap.size, 4, none⟩ = some (.int .i64 2) := fun o => (World.cell?_alloc_some w1 _ o (by rw [q4]; rfl)).trans q4
        go_wp2
        go_ret
        exact ⟨rfl, (b0.trans (b1.mono (by first | omega | simp))).alloc (by have := b1.size; simp at this; omega) _⟩
    | true =>
      have aT0 := fun ww => add_mk pl [126] (by omega) (by simp) ww
      have e1 : s1 = mkB (pl ++ [126]) := by rw [hs1]; simp
      rw [← hs0, ← e1] at aT0
      have aT : ∀ ww, (Op.stringOp .add s0 ⟨#[126]⟩).run Tryz.prog ww = .ok (.string s1) ww := aT0
      clear hs0 hs1 hs2 e1 h3l aT0
      rcases hsh with rfl | rfl | rfl
      · have aS : ∀ ww, (Op.stringOp .add s1 ⟨#[]⟩).run Tryz.prog ww = .ok (.string s2) ww := aS0
        clear aS0
        go_enter Tryz.func60, Tryz.ntmps60
        go_wp2_with (go_at_call 25; refine (hnm _ b0).mono ?_)
        intro e w1; first | (intro he b1; subst he) | rintro ⟨rfl, b1⟩
        have q3 : w1.cell? ⟨w.heap.size, 3, none⟩ = some (.bool true) := (b1.cell (by simp)).trans (by simp)
        have q4 : w1.cell? ⟨w.heap.size, 4, none⟩ = some (.int .i64 0) := (b1.cell (by simp)).trans (by simp)
        have m4 : ∀ o, (w1.alloc o).cell? ⟨w.heap.size, 4, none⟩ = some (.int .i64 0) := fun o => (World.cell?_alloc_some w1 _ o (by rw [q4]; rfl)).trans q4
        go_wp2
        go_ret
        exact ⟨rfl, (b0.trans (b1.mono (by first | omega | simp))).alloc (by have := b1.size; simp at this; omega) _⟩
      · have aS : ∀ ww, (Op.stringOp .add s1 ⟨#[33]⟩).run Tryz.prog ww = .ok (.string s2) ww := aS0
        clear aS0
        go_enter Tryz.func60, Tryz.ntmps60
        go_wp2_with (go_at_call 25; refine (hnm _ b0).mono ?_)
        intro e w1; first | (intro he b1; subst he) | rintro ⟨rfl, b1⟩
        have q3 : w1.cell? ⟨w.heap.size, 3, none⟩ = some (.bool true) := (b1.cell (by simp)).trans (by simp)
        have q4 : w1.cell? ⟨w.heap.size, 4, none⟩ = some (.int .i64 1) := (b1.cell (by simp)).trans (by simp)
        have m4 : ∀ o, (w1.alloc o).cell? ⟨w.heap.size, 4, none⟩ = some (.int .i64 1) := fun o => (World.cell?_alloc_some w1 _ o (by rw [q4]; rfl)).trans q4
        go_wp2
        go_ret
        exact ⟨rfl, (b0.trans (b1.mono (by first | omega | simp))).alloc (by have := b1.size; simp at this; omega) _⟩
      · have aS : ∀ ww, (Op.stringOp .add s1 ⟨#[63]⟩).run Tryz.prog ww = .ok (.string s2) ww := aS0
        clear aS0
        go_enter Tryz.func60, Tryz.ntmps60
        go_wp2_with (go_at_call 25; refine (hnm _ b0).mono ?_)
        intro e w1; first | (intro he b1; subst he) | rintro ⟨rfl, b1⟩
        have q3 : w1.cell? ⟨w.heap.size, 3, none⟩ = some (.bool true) := (b1.cell (by simp)).trans (by simp)
        have q4 : w1.cell? ⟨w.heap.size, 4, none⟩ = some (.int .i64 2) := (b1.cell (by simp)).trans (by simp)
        have m4 : ∀ o, (w1.alloc o).cell? ⟨w.heap.size, 4, none⟩ = some (.int .i64 2) := fun o => (World.cell?_alloc_some w1 _ o (by rw [q4]; rfl)).trans q4
        go_wp2
        go_ret
        exact ⟨rfl, (b0.trans (b1.mono (by first | omega | simp))).alloc (by have := b1.size; simp at this; omega) _⟩
  exact hc
end Go.Proofs.YtholnnabakaliaaGreatDoor

namespace Go.Proofs.YtholnnabakaliaaGreatDoor
open Go.RowKit

theorem joinL_snoc (l : List (List UInt8)) (y : List UInt8) (h : l ≠ []) : joinL (l ++ [y]) = joinL l ++ [32] ++ y := by
  cases l with
  | nil => exact absurd rfl h
  | cons x r => simp [joinL]

set_option maxHeartbeats 8000000 in
set_option maxRecDepth 100000 in
theorem lbody_walk (site num kd lg dt ar orn dy st be : Int) (ho go lo : Option Addr) (hn hc gn gc ln lc : Nat) (heads : List HeadV) (graces : List GraceV) (lyr : List SyllV) {b : Nat} (w : World) (T : Tabs b w)
    (hH : Els w 5 (.slice ho hn hc) (heads.map HeadV.cells)) (hv : valueE lg dt = 0) (hk : kd = 1 ∨ kd = 2 ∨ kd = 3 ∨ kd = 4) (hh : kd = 1 → 0 < heads.length) (hh2 : kd ≠ 1 → heads.length = 0) (h10 : heads.length ≤ 10) (hok : ∀ h ∈ heads, HeadOk h) :
    Calls Tryz.prog 27 #[.agg #[.int .i64 site, .int .i64 num, .int .i64 kd, .int .i64 lg, .int .i64 dt, .slice ho hn hc, .slice go gn gc, .int .i64 ar, .int .i64 orn, .int .i64 dy, .slice lo ln lc, .int .i64 st, .int .i64 be]] w fun e w' => e = .returned (.string (mkB (bodyL ⟨site, num, kd, lg, dt, heads, graces, ar, orn, dy, lyr, st, be⟩))) ∧ Below w.heap.size w w' := by
  have b0 := (Below.refl w.heap.size w).alloc (Nat.le_refl _) (.cells #[.int .i64 site, .int .i64 num, .int .i64 kd, .int .i64 lg, .int .i64 dt, .slice ho hn hc, .slice go gn gc, .int .i64 ar, .int .i64 orn, .int .i64 dy, .slice lo ln lc, .int .i64 st, .int .i64 be] 30)
  have hB0 := heap_alloc_new w (.cells #[.int .i64 site, .int .i64 num, .int .i64 kd, .int .i64 lg, .int .i64 dt, .slice ho hn hc, .slice go gn gc, .int .i64 ar, .int .i64 orn, .int .i64 dy, .slice lo ln lc, .int .i64 st, .int .i64 be] 30)
  have eh : hn = heads.length := by have := hH.len; simpa using this
  subst eh
  have hvl := valueL_len hv
  have h10' : ((heads.length : Nat) : Int) ≤ 10 := by omega
  obtain ⟨z, hz⟩ : ∃ z, z = mkB (valueL lg dt) := ⟨_, rfl⟩
  obtain ⟨zf, hzf⟩ : ∃ z, z = mkB (bodyL ⟨site, num, kd, lg, dt, heads, graces, ar, orn, dy, lyr, st, be⟩) := ⟨_, rfl⟩
  rw [← hzf]
  rcases hk with rfl | rfl | rfl | rfl
  · have hpos := hh rfl
    have e0 : bodyL ⟨site, num, 1, lg, dt, heads, graces, ar, orn, dy, lyr, st, be⟩ = headsTextL heads ++ [58] ++ valueL lg dt := by simp [bodyL]
    rw [e0] at hzf
    have hlm : (heads.map headL).length = heads.length := by simp
    have hjk : ∀ k, (joinL ((heads.map headL).take k)).length ≤ 100 := fun k => by
      have := joinL_len (l := (heads.map headL).take k) (m := 7) fun y hy => by
        obtain ⟨h, hm, rfl⟩ := List.mem_map.1 (List.mem_of_mem_take hy)
        exact headL_len (hok h hm)
      have h2 : ((heads.map headL).take k).length ≤ 10 := by rw [List.length_take, hlm]; omega
      have := Nat.mul_le_mul_right 8 h2
      omega
    have hvt := fun W (bW : Below w.heap.size w W) => value_text hv W (T.step bW)
    rw [← hz] at hvt
    have Hz := shut (And.intro hz (And.intro hzf (And.intro hvl hjk)))
    clear hz hzf e0 hh hh2 hvl hjk
    go_enter Tryz.func27, Tryz.ntmps27
    go_wp2
    generalize hV : w.alloc (.cells #[.int .i64 site, .int .i64 num, .int .i64 1, .int .i64 lg, .int .i64 dt, .slice ho heads.length hc, .slice go gn gc, .int .i64 ar, .int .i64 orn, .int .i64 dy, .slice lo ln lc, .int .i64 st, .int .i64 be] 30) = V at b0 hB0 ⊢
    have lV : w.heap.size < V.heap.size := (Array.getElem?_eq_some_iff.1 hB0).1
    clear hV
    go_loopg [3, 4] (heads.length + 1) (fun g s3 s4 wr => ∃ (k : Nat), k ≤ heads.length ∧ g = heads.length + 1 - k ∧ s4 = .int .i64 (k : Nat) ∧ Below V.heap.size V wr ∧ s3 = .string (mkB (joinL ((heads.map headL).take k))))
    case atStart => exact ⟨0, Nat.zero_le _, rfl, rfl, Below.refl _ _, rfl⟩
    case round =>
      obtain ⟨k, hk, hg, rfl, hb, rfl⟩ := hrel
      have hBr := (hb.block w.heap.size lV).trans hB0
      have bbr := b0.trans (hb.mono b0.size)
      obtain ⟨k0, k1, k2, k3, k4, k5, k6, k7, k8, k9, k10, k11, k12⟩ := box13 hBr
      by_cases hlt : k < heads.length
      · have hlt' : (k : Int) < (heads.length : Int) := by omega
        have hk0 : (0 : Int) ≤ (k : Int) := by omega
        obtain ⟨g, oo, rfl, hcl⟩ := (hH.step bbr).atM hlt
        have m1 : IntKind.i64.wrap ((k : Int) + 1) = (k : Int) + 1 := IntWalk.i64_in _ (by omega)
        have hs : (heads.map headL).take (k + 1) = (heads.map headL).take k ++ [headL heads[k]] := by
          rw [List.take_succ_eq_append_getElem (by simpa using hlt)]; simp
        have hho := hok heads[k] (List.getElem_mem hlt)
        generalize heads[k] = x at hcl hs hho
        have hhl := headL_len hho
        obtain ⟨⟨x0, x1, x2⟩, x3, x4⟩ := x
        have c0 : wr.cell? ⟨g, oo + k * 5, none⟩ = some (.int .i64 x0) := hcl 0 _ rfl
        have c1 : wr.cell? ⟨g, oo + k * 5 + 1, none⟩ = some (.int .i64 x1) := hcl 1 _ rfl
        have c2 : wr.cell? ⟨g, oo + k * 5 + 2, none⟩ = some (.int .i64 x2) := hcl 2 _ rfl
        have c3 : wr.cell? ⟨g, oo + k * 5 + 3, none⟩ = some (.bool x3) := hcl 3 _ rfl
        have c4 : wr.cell? ⟨g, oo + k * 5 + 4, none⟩ = some (.int .i64 x4) := hcl 4 _ rfl
        have hhd := lhead_walk x0 x1 x2 x4 x3 wr (T.step bbr) hho
        obtain ⟨pre, hpre⟩ : ∃ p, p = joinL ((heads.map headL).take k) := ⟨_, rfl⟩
        have hprl : pre.length ≤ 100 := by rw [hpre]; exact Hz.out.2.2.2 k
        rw [← hpre]
        generalize headL ⟨⟨x0, x1, x2⟩, x3, x4⟩ = hl at hhd hs hhl
        obtain ⟨sp, hsp⟩ : ∃ s, s = mkB pre := ⟨_, rfl⟩
        obtain ⟨sh, hsh⟩ : ∃ s, s = mkB hl := ⟨_, rfl⟩
        rw [← hsh] at hhd
        rw [← hsp]
        clear hcl hho
        by_cases hkz : k = 0
        · have a0 := fun ww => add_mk pre hl (by omega) (by omega) ww
          obtain ⟨sn, hsn⟩ : ∃ s, s = mkB (pre ++ hl) := ⟨_, rfl⟩
          rw [← hsp, ← hsh, ← hsn] at a0
          have fin := shut (show sn = mkB (joinL ((heads.map headL).take (k + 1))) by rw [hsn, hs, hpre, hkz]; simp [joinL])
          have kz : ¬ (0 : Int) < (k : Int) := by omega
          clear hs hpre hsp hsh hsn hkz
          go_wp2_with (go_at_call 60; refine hhd.mono ?_)
          intro e w2; first | (intro he b2; subst he) | rintro ⟨rfl, b2⟩
          go_wp2
          go_roundg (heads.length + 1 - (k + 1))
          case measure => omega
          case rel => exact ⟨k + 1, by omega, rfl, by simp, hb.trans (b2.mono hb.size), by rw [fin.out]⟩
        · have a0 := fun ww => add_mk pre [32] (by omega) (by simp) ww
          have a1 := fun ww => add_mk (pre ++ [32]) hl (by simp; omega) (by omega) ww
          obtain ⟨sm, hsm⟩ : ∃ s, s = mkB (pre ++ [32]) := ⟨_, rfl⟩
          obtain ⟨sn, hsn⟩ : ∃ s, s = mkB (pre ++ [32] ++ hl) := ⟨_, rfl⟩
          rw [← hsp, ← hsm] at a0
          rw [← hsm, ← hsh, ← hsn] at a1
          have a0' : ∀ ww, (Op.stringOp .add sp ⟨#[32]⟩).run Tryz.prog ww = .ok (.string sm) ww := a0
          have fin := shut (show sn = mkB (joinL ((heads.map headL).take (k + 1))) by
            rw [hsn, hs, hpre, joinL_snoc _ _ (by intro e; have h9 : ((heads.map headL).take k).length = k := (by rw [List.length_take, hlm]; omega); rw [e] at h9; exact hkz h9.symm)])
          have kz : (0 : Int) < (k : Int) := by omega
          clear hs hpre hsp hsh hsn hsm hkz a0
          go_wp2_with (go_at_call 60; refine hhd.mono ?_)
          intro e w2; first | (intro he b2; subst he) | rintro ⟨rfl, b2⟩
          go_wp2
          go_roundg (heads.length + 1 - (k + 1))
          case measure => omega
          case rel => exact ⟨k + 1, by omega, rfl, by simp, hb.trans (b2.mono hb.size), by rw [fin.out]⟩
      · have hkl : k = heads.length := by omega
        subst hkl
        have htk : (heads.map headL).take heads.length = heads.map headL := List.take_of_length_le (by simp)
        rw [htk]
        obtain ⟨hz, hzf, hvl, hjk⟩ := Hz.out
        have hjl := hjk heads.length
        rw [htk] at hjl
        obtain ⟨sp, hsp⟩ : ∃ s, s = mkB (joinL (heads.map headL)) := ⟨_, rfl⟩
        rw [← hsp]
        have hvtr := hvt _ bbr
        by_cases h1 : heads.length = 1
        · have ht : headsTextL heads = joinL (heads.map headL) := by unfold headsTextL; rw [if_pos h1]
          rw [ht] at hzf
          have a1 := fun ww => add_mk (joinL (heads.map headL)) [58] (by omega) (by simp) ww
          have a2 := fun ww => add_mk (joinL (heads.map headL) ++ [58]) (valueL lg dt) (by simp; omega) (by omega) ww
          obtain ⟨sk, hsk⟩ : ∃ s, s = mkB (joinL (heads.map headL) ++ [58]) := ⟨_, rfl⟩
          rw [← hsp, ← hsk] at a1
          rw [← hsk, ← hz, ← hzf] at a2
          have a1' : ∀ ww, (Op.stringOp .add sp ⟨#[58]⟩).run Tryz.prog ww = .ok (.string sk) ww := a1
          have l1 : ¬ (1 : Int) < ((heads.length : Nat) : Int) := by omega
          clear hz hzf hsp hsk a1 ht hjk hjl htk h1 hg hk hlt hvt hpos hlm
          go_wp2_with (go_at_call 61; refine hvtr.mono ?_)
          intro e w2; first | (intro he b2; subst he) | rintro ⟨rfl, b2⟩
          go_wp2
          go_ret
          exact ⟨rfl, bbr.trans (b2.mono bbr.size)⟩
        · have ht : headsTextL heads = [60] ++ joinL (heads.map headL) ++ [62] := by unfold headsTextL; rw [if_neg h1]
          rw [ht] at hzf
          have a1 := fun ww => add_mk [60] (joinL (heads.map headL)) (by simp) (by omega) ww
          have a2 := fun ww => add_mk ([60] ++ joinL (heads.map headL)) [62] (by simp; omega) (by simp) ww
          have a3 := fun ww => add_mk ([60] ++ joinL (heads.map headL) ++ [62]) [58] (by simp; omega) (by simp) ww
          have a4 := fun ww => add_mk ([60] ++ joinL (heads.map headL) ++ [62] ++ [58]) (valueL lg dt) (by simp; omega) (by omega) ww
          obtain ⟨sk, hsk⟩ : ∃ s, s = mkB ([60] ++ joinL (heads.map headL)) := ⟨_, rfl⟩
          obtain ⟨sl, hsl⟩ : ∃ s, s = mkB ([60] ++ joinL (heads.map headL) ++ [62]) := ⟨_, rfl⟩
          obtain ⟨sm, hsm⟩ : ∃ s, s = mkB ([60] ++ joinL (heads.map headL) ++ [62] ++ [58]) := ⟨_, rfl⟩
          rw [← hsp, ← hsk] at a1
          rw [← hsk, ← hsl] at a2
          rw [← hsl, ← hsm] at a3
          rw [← hsm, ← hz, ← hzf] at a4
          have a1' : ∀ ww, (Op.stringOp .add ⟨#[60]⟩ sp).run Tryz.prog ww = .ok (.string sk) ww := a1
          have a2' : ∀ ww, (Op.stringOp .add sk ⟨#[62]⟩).run Tryz.prog ww = .ok (.string sl) ww := a2
          have a3' : ∀ ww, (Op.stringOp .add sl ⟨#[58]⟩).run Tryz.prog ww = .ok (.string sm) ww := a3
          have l1 : (1 : Int) < ((heads.length : Nat) : Int) := by omega
          clear hz hzf hsp hsk hsl hsm a1 a2 a3 ht hjk hjl htk h1 hg hk hlt hvt hpos hlm
          go_wp2_with (go_at_call 61; refine hvtr.mono ?_)
          intro e w2; first | (intro he b2; subst he) | rintro ⟨rfl, b2⟩
          go_wp2
          go_ret
          exact ⟨rfl, bbr.trans (b2.mono bbr.size)⟩
  · have e0 : bodyL ⟨site, num, 2, lg, dt, heads, graces, ar, orn, dy, lyr, st, be⟩ = [114] ++ [58] ++ valueL lg dt := by simp [bodyL]
    rw [e0] at hzf
    have hz0 : heads.length = 0 := hh2 (by decide)
    have hvt := fun W (bW : Below w.heap.size w W) => value_text hv W (T.step bW)
    rw [← hz] at hvt
    have a2 := fun ww => add_mk ([114] ++ [58]) (valueL lg dt) (by simp) (by omega) ww
    rw [← hz, ← hzf] at a2
    have a2' : ∀ ww, (Op.stringOp .add ⟨#[114, 58]⟩ z).run Tryz.prog ww = .ok (.string zf) ww := a2
    have hcat : (⟨#[114]⟩ ++ ⟨#[58]⟩ : ByteArray) = ⟨#[114, 58]⟩ := mkB_append [114] [58]
    have a2'' : ∀ ww, (Op.stringOp .add (⟨#[114]⟩ ++ ⟨#[58]⟩) z).run Tryz.prog ww = .ok (.string zf) ww := by rw [hcat]; exact a2'
    clear hcat
    rw [hz0] at hB0 b0 ⊢
    clear hz hzf e0 hh hh2 a2 hH hok h10 h10'
    go_enter Tryz.func27, Tryz.ntmps27
    go_wp2
    go_loopw [3, 4] (fun v u wr => v = .string ⟨#[114]⟩ ∧ u = .int .i64 0 ∧ wr = w.alloc (.cells #[.int .i64 site, .int .i64 num, .int .i64 2, .int .i64 lg, .int .i64 dt, .slice ho 0 hc, .slice go gn gc, .int .i64 ar, .int .i64 orn, .int .i64 dy, .slice lo ln lc, .int .i64 st, .int .i64 be] 30)) (fun _ _ _ => 0)
    case atStart => exact ⟨rfl, rfl, rfl⟩
    case round =>
      obtain ⟨rfl, rfl, rfl⟩ := hrel
      have hvtr := hvt _ b0
      clear hvt
      go_wp2_with (go_at_call 61; refine hvtr.mono ?_)
      intro e w2; first | (intro he b2; subst he) | rintro ⟨rfl, b2⟩
      go_wp2
      go_ret
      exact ⟨rfl, b0.trans (b2.mono (by first | omega | simp))⟩
  · have e0 : bodyL ⟨site, num, 3, lg, dt, heads, graces, ar, orn, dy, lyr, st, be⟩ = [82] := by simp [bodyL]
    rw [e0] at hzf
    have hzf' : zf = ⟨#[82]⟩ := hzf
    subst hzf'
    clear hz e0 hh hh2 hzf
    go_enter Tryz.func27, Tryz.ntmps27
    go_wp2
    go_ret
    exact ⟨rfl, b0⟩
  · have e0 : bodyL ⟨site, num, 4, lg, dt, heads, graces, ar, orn, dy, lyr, st, be⟩ = [115] ++ [58] ++ valueL lg dt := by simp [bodyL]
    rw [e0] at hzf
    have hz0 : heads.length = 0 := hh2 (by decide)
    have hvt := fun W (bW : Below w.heap.size w W) => value_text hv W (T.step bW)
    rw [← hz] at hvt
    have a2 := fun ww => add_mk ([115] ++ [58]) (valueL lg dt) (by simp) (by omega) ww
    rw [← hz, ← hzf] at a2
    have a2' : ∀ ww, (Op.stringOp .add ⟨#[115, 58]⟩ z).run Tryz.prog ww = .ok (.string zf) ww := a2
    have hcat : (⟨#[115]⟩ ++ ⟨#[58]⟩ : ByteArray) = ⟨#[115, 58]⟩ := mkB_append [115] [58]
    have a2'' : ∀ ww, (Op.stringOp .add (⟨#[115]⟩ ++ ⟨#[58]⟩) z).run Tryz.prog ww = .ok (.string zf) ww := by rw [hcat]; exact a2'
    clear hcat
    rw [hz0] at hB0 b0 ⊢
    clear hz hzf e0 hh hh2 a2 hH hok h10 h10'
    go_enter Tryz.func27, Tryz.ntmps27
    go_wp2
    go_loopw [3, 4] (fun v u wr => v = .string ⟨#[115]⟩ ∧ u = .int .i64 0 ∧ wr = w.alloc (.cells #[.int .i64 site, .int .i64 num, .int .i64 4, .int .i64 lg, .int .i64 dt, .slice ho 0 hc, .slice go gn gc, .int .i64 ar, .int .i64 orn, .int .i64 dy, .slice lo ln lc, .int .i64 st, .int .i64 be] 30)) (fun _ _ _ => 0)
    case atStart => exact ⟨rfl, rfl, rfl⟩
    case round =>
      obtain ⟨rfl, rfl, rfl⟩ := hrel
      have hvtr := hvt _ b0
      clear hvt
      go_wp2_with (go_at_call 61; refine hvtr.mono ?_)
      intro e w2; first | (intro he b2; subst he) | rintro ⟨rfl, b2⟩
      go_wp2
      go_ret
      exact ⟨rfl, b0.trans (b2.mono (by first | omega | simp))⟩
end Go.Proofs.YtholnnabakaliaaGreatDoor

namespace Go.Proofs.YtholnnabakaliaaGreatDoor
open Go.RowKit

theorem decs : ([1, 2, 3, 4, 6, 8] : List Int).all (fun k => runsV 26 [.int .i64 k] (.string (mkB [48 + k.toNat.toUInt8]))) = true := by kernel_rfl
theorem dec_small {k : Int} (hm : k ∈ ([1, 2, 3, 4, 6, 8] : List Int)) (w : World) : Calls Tryz.prog 26 #[.int .i64 k] w fun e w' => e = .returned (.string (mkB [48 + k.toNat.toUInt8])) ∧ Below w.heap.size w w' :=
  runsV_says (args := [.int .i64 k]) rfl rfl (List.all_eq_true.1 decs k hm) w

set_option maxRecDepth 100000 in
theorem conv1 {W : World} {g : Nat} {x : UInt8} (h : W.cell? ⟨g, 0, none⟩ = some (.int .u8 (x.toNat : Int))) : (convert 106 9 (.slice (some ⟨g, 0, none⟩) 1 1)).run Tryz.prog W = .ok (.string ⟨#[x]⟩) W :=
  run_convert_bytes_back (P := Tryz.prog) W 106 9 5 ⟨g, 0, none⟩ 1 [x] rfl rfl rfl (fun j hj => by
    have : j = 0 := by simp at hj; omega
    subst this; exact h)
set_option maxHeartbeats 4000000 in
set_option maxRecDepth 100000 in
theorem dec_16 (w : World) : Calls Tryz.prog 26 #[.int .i64 16] w fun e w' => e = .returned (.string ⟨#[49, 54]⟩) ∧ Below w.heap.size w w' := by
  have e1 : IntKind.i64.wrap 1 = 1 := by decide
  have e2 : IntKind.u8.wrap (IntKind.i64.wrap 54) = 54 := by decide
  have hq : ∀ W, Calls Tryz.prog 26 #[.int .i64 (IntKind.i64.wrap 1)] W fun e w' => e = .returned (.string ⟨#[49]⟩) ∧ Below W.heap.size W w' := fun W => by rw [e1]; exact dec_small (k := 1) (by decide) W
  have a3 : ∀ ww, (Op.stringOp .add ⟨#[49]⟩ ⟨#[54]⟩).run Tryz.prog ww = .ok (.string ⟨#[49, 54]⟩) ww := fun ww => add_mk [49] [54] (by decide) (by decide) ww
  have a4 : ∀ ww : World, (convert 106 9 (.slice (some ⟨ww.heap.size, 0, none⟩) 1 1)).run Tryz.prog (ww.alloc (.cells #[.int .u8 54] 5)) = .ok (.string ⟨#[54]⟩) (ww.alloc (.cells #[.int .u8 54] 5)) := fun ww => conv1 (x := 54) (by first | (simp; done) | (simp; rfl))
  have a5 : ∀ ww : World, (convert 106 9 (.slice (some ⟨ww.heap.size, 0, none⟩) 1 1)).run Tryz.prog (ww.alloc (.cells #[.int .u8 54] 5)).drew = .ok (.string ⟨#[54]⟩) (ww.alloc (.cells #[.int .u8 54] 5)).drew := fun ww => conv1 (x := 54) (by first | (simp; done) | (simp; rfl))
  clear e1
  go_enter Tryz.func26, Tryz.ntmps26
  go_wp2
  go_region_with (first
    | (go_at_call 26; (with_reducible refine (hq _).mono ?_); rintro e w' ⟨rfl, b1⟩; try (have c5 : w'.cell? ⟨w.heap.size, 0, none⟩ = some (.int .u8 54) := (b1.cell (by first | (simp; done) | (simp; omega))).trans (by simp)); try (have c6 := conv1 (x := 54) c5)))
  all_goals go_wp2
  all_goals go_ret
  all_goals first
    | exact ⟨rfl, (((Below.refl _ w).drew).trans (b1.mono (by simp))).alloc (by have := b1.size; simp at this; omega) _⟩
    | exact ⟨rfl, (((Below.refl _ w).alloc (Nat.le_refl _) _).drew).trans (b1.mono (by simp))⟩

set_option maxHeartbeats 4000000 in
set_option maxRecDepth 100000 in
theorem dec_32 (w : World) : Calls Tryz.prog 26 #[.int .i64 32] w fun e w' => e = .returned (.string ⟨#[51, 50]⟩) ∧ Below w.heap.size w w' := by
  have e1 : IntKind.i64.wrap 3 = 3 := by decide
  have e2 : IntKind.u8.wrap (IntKind.i64.wrap 50) = 50 := by decide
  have hq : ∀ W, Calls Tryz.prog 26 #[.int .i64 (IntKind.i64.wrap 3)] W fun e w' => e = .returned (.string ⟨#[51]⟩) ∧ Below W.heap.size W w' := fun W => by rw [e1]; exact dec_small (k := 3) (by decide) W
  have a3 : ∀ ww, (Op.stringOp .add ⟨#[51]⟩ ⟨#[50]⟩).run Tryz.prog ww = .ok (.string ⟨#[51, 50]⟩) ww := fun ww => add_mk [51] [50] (by decide) (by decide) ww
  have a4 : ∀ ww : World, (convert 106 9 (.slice (some ⟨ww.heap.size, 0, none⟩) 1 1)).run Tryz.prog (ww.alloc (.cells #[.int .u8 50] 5)) = .ok (.string ⟨#[50]⟩) (ww.alloc (.cells #[.int .u8 50] 5)) := fun ww => conv1 (x := 50) (by first | (simp; done) | (simp; rfl))
  have a5 : ∀ ww : World, (convert 106 9 (.slice (some ⟨ww.heap.size, 0, none⟩) 1 1)).run Tryz.prog (ww.alloc (.cells #[.int .u8 50] 5)).drew = .ok (.string ⟨#[50]⟩) (ww.alloc (.cells #[.int .u8 50] 5)).drew := fun ww => conv1 (x := 50) (by first | (simp; done) | (simp; rfl))
  clear e1
  go_enter Tryz.func26, Tryz.ntmps26
  go_wp2
  go_region_with (first
    | (go_at_call 26; (with_reducible refine (hq _).mono ?_); rintro e w' ⟨rfl, b1⟩; try (have c5 : w'.cell? ⟨w.heap.size, 0, none⟩ = some (.int .u8 50) := (b1.cell (by first | (simp; done) | (simp; omega))).trans (by simp)); try (have c6 := conv1 (x := 50) c5)))
  all_goals go_wp2
  all_goals go_ret
  all_goals first
    | exact ⟨rfl, (((Below.refl _ w).drew).trans (b1.mono (by simp))).alloc (by have := b1.size; simp at this; omega) _⟩
    | exact ⟨rfl, (((Below.refl _ w).alloc (Nat.le_refl _) _).drew).trans (b1.mono (by simp))⟩

set_option maxHeartbeats 4000000 in
set_option maxRecDepth 100000 in
theorem dec_64 (w : World) : Calls Tryz.prog 26 #[.int .i64 64] w fun e w' => e = .returned (.string ⟨#[54, 52]⟩) ∧ Below w.heap.size w w' := by
  have e1 : IntKind.i64.wrap 6 = 6 := by decide
  have e2 : IntKind.u8.wrap (IntKind.i64.wrap 52) = 52 := by decide
  have hq : ∀ W, Calls Tryz.prog 26 #[.int .i64 (IntKind.i64.wrap 6)] W fun e w' => e = .returned (.string ⟨#[54]⟩) ∧ Below W.heap.size W w' := fun W => by rw [e1]; exact dec_small (k := 6) (by decide) W
  have a3 : ∀ ww, (Op.stringOp .add ⟨#[54]⟩ ⟨#[52]⟩).run Tryz.prog ww = .ok (.string ⟨#[54, 52]⟩) ww := fun ww => add_mk [54] [52] (by decide) (by decide) ww
  have a4 : ∀ ww : World, (convert 106 9 (.slice (some ⟨ww.heap.size, 0, none⟩) 1 1)).run Tryz.prog (ww.alloc (.cells #[.int .u8 52] 5)) = .ok (.string ⟨#[52]⟩) (ww.alloc (.cells #[.int .u8 52] 5)) := fun ww => conv1 (x := 52) (by first | (simp; done) | (simp; rfl))
  have a5 : ∀ ww : World, (convert 106 9 (.slice (some ⟨ww.heap.size, 0, none⟩) 1 1)).run Tryz.prog (ww.alloc (.cells #[.int .u8 52] 5)).drew = .ok (.string ⟨#[52]⟩) (ww.alloc (.cells #[.int .u8 52] 5)).drew := fun ww => conv1 (x := 52) (by first | (simp; done) | (simp; rfl))
  clear e1
  go_enter Tryz.func26, Tryz.ntmps26
  go_wp2
  go_region_with (first
    | (go_at_call 26; (with_reducible refine (hq _).mono ?_); rintro e w' ⟨rfl, b1⟩; try (have c5 : w'.cell? ⟨w.heap.size, 0, none⟩ = some (.int .u8 52) := (b1.cell (by first | (simp; done) | (simp; omega))).trans (by simp)); try (have c6 := conv1 (x := 52) c5)))
  all_goals go_wp2
  all_goals go_ret
  all_goals first
    | exact ⟨rfl, (((Below.refl _ w).drew).trans (b1.mono (by simp))).alloc (by have := b1.size; simp at this; omega) _⟩
    | exact ⟨rfl, (((Below.refl _ w).alloc (Nat.le_refl _) _).drew).trans (b1.mono (by simp))⟩

theorem dec_walk {k : Int} (h1 : 1 ≤ k) (h6 : k ≤ 6) (w : World) : Calls Tryz.prog 26 #[.int .i64 (2 ^ k.toNat)] w fun e w' => e = .returned (.string (mkB (powL k))) ∧ Below w.heap.size w w' := by
  have hc : k = 1 ∨ k = 2 ∨ k = 3 ∨ k = 4 ∨ k = 5 ∨ k = 6 := by omega
  rcases hc with rfl | rfl | rfl | rfl | rfl | rfl
  · exact dec_small (k := 2) (by decide) w
  · exact dec_small (k := 4) (by decide) w
  · exact dec_small (k := 8) (by decide) w
  · exact dec_16 w
  · exact dec_32 w
  · exact dec_64 w
end Go.Proofs.YtholnnabakaliaaGreatDoor

namespace Go.Proofs.YtholnnabakaliaaGreatDoor
open Go.RowKit

theorem blanks_len {l : List (List UInt8)} {m : Nat} (h : ∀ y ∈ l, y.length ≤ m) : (blanks l).length ≤ l.length * (m + 1) := by
  induction l with
  | nil => simp [blanks]
  | cons x r ih =>
    have h1 := h x List.mem_cons_self
    have h2 := ih fun y hy => h y (List.mem_cons_of_mem _ hy)
    have e : blanks (x :: r) = (32 :: x) ++ blanks r := by simp [blanks]
    rw [e, List.length_append, List.length_cons, List.length_cons, Nat.succ_mul]
    omega
theorem blanks_snoc (l : List (List UInt8)) (y : List UInt8) : blanks (l ++ [y]) = blanks l ++ [32] ++ y := by
  rw [blanks_append]; simp [blanks]
theorem drop_one {l : List UInt8} (h : 0 < l.length) : (mkB l).extract 1 (mkB l).size = mkB (l.drop 1) := by
  cases l with
  | nil => simp at h
  | cons x r => exact (mkB_extract [x] r).2
theorem isEmpty_mk (l : List UInt8) : (mkB l).toList.isEmpty = decide (l = []) := by
  cases l with
  | nil => simp [ByteArray.toList_eq, mkB]
  | cons x r => simp [ByteArray.toList_eq, mkB]

def gA (l : List GraceV) : List UInt8 := if l = [] then [] else [103, 114, 97, 99, 101, 32, 40] ++ (blanks (l.map graceL)).drop 1 ++ [41, 32]
def wA (t : List UInt8) : List UInt8 := if t = [] then [] else [32, 91] ++ t.drop 1 ++ [93]
theorem text_parts (x : EvV) : textL x = gA x.graces ++ bodyL x ++ wA (wordsT x.ar x.orn x.dy x.stem x.beam) ++ blanks (x.lyr.map syllL) := by
  rw [text_law x, wordsT_blanks]
  unfold gA wA
  congr 2
  by_cases hw : wordsB x.ar x.orn x.dy x.stem x.beam = []
  · rw [if_pos hw, hw]; rfl
  · rw [if_neg hw, if_neg]
    intro h
    rw [blanks_join hw] at h
    cases h
theorem optL_len (W : List ByteArray) (n : Int) : (optL W n).length ≤ 1 := by unfold optL; split <;> simp
theorem wordsB_len (ar orn dy st be : Int) : (wordsB ar orn dy st be).length ≤ 9 := by
  unfold wordsB wordsO
  have h0 := bitsW_len ar artsW 5
  have h1 := optL_len ornsW orn
  have h2 := optL_len dynsW dy
  have h3 := optL_len stemsW st
  have h4 := optL_len beamsW be
  simp only [List.length_map, List.length_append]
  omega

set_option maxHeartbeats 8000000 in
set_option maxRecDepth 100000 in
theorem ltext_walk (site num kd lg dt ar orn dy st be : Int) (ho go lo : Option Addr) (hn hc gn gc ln lc : Nat) (heads : List HeadV) (graces : List GraceV) (lyr : List SyllV) {b : Nat} (w : World) (T : Tabs b w)
    (hG : Els w 5 (.slice go gn gc) (graces.map GraceV.cells)) (g8 : graces.length ≤ 8) (hok : ∀ g ∈ graces, GraceOk g)
    (hL : Els w 2 (.slice lo ln lc) (lyr.map SyllV.cells)) (hl4 : lyr.length ≤ 4) (hokl : ∀ x ∈ lyr, x.tx.size ≤ 256 ∧ 0 ≤ x.ln ∧ x.ln ≤ 2)
    (ha0 : 0 ≤ ar) (ha1 : ar ≤ 31) (o0 : 0 ≤ orn) (o4 : orn ≤ 4) (d0 : 0 ≤ dy) (d9 : dy ≤ 9) (st0 : 0 ≤ st) (st2 : st ≤ 2) (be0 : 0 ≤ be) (be2 : be ≤ 2)
    (hbl : (bodyL ⟨site, num, kd, lg, dt, heads, graces, ar, orn, dy, lyr, st, be⟩).length ≤ 1000)
    (hbody0 : ∀ W, Below w.heap.size w W → Calls Tryz.prog 27 #[.agg #[.int .i64 site, .int .i64 num, .int .i64 kd, .int .i64 lg, .int .i64 dt, .slice ho hn hc, .slice go gn gc, .int .i64 ar, .int .i64 orn, .int .i64 dy, .slice lo ln lc, .int .i64 st, .int .i64 be]] W fun e w' => e = .returned (.string (mkB (bodyL ⟨site, num, kd, lg, dt, heads, graces, ar, orn, dy, lyr, st, be⟩))) ∧ Below W.heap.size W w') :
    Calls Tryz.prog 8 #[.agg #[.int .i64 site, .int .i64 num, .int .i64 kd, .int .i64 lg, .int .i64 dt, .slice ho hn hc, .slice go gn gc, .int .i64 ar, .int .i64 orn, .int .i64 dy, .slice lo ln lc, .int .i64 st, .int .i64 be]] w fun e w' => e = .returned (.string (mkB (textL ⟨site, num, kd, lg, dt, heads, graces, ar, orn, dy, lyr, st, be⟩))) ∧ Below w.heap.size w w' := by
  have b0 := (Below.refl w.heap.size w).alloc (Nat.le_refl _) (.cells #[.int .i64 site, .int .i64 num, .int .i64 kd, .int .i64 lg, .int .i64 dt, .slice ho hn hc, .slice go gn gc, .int .i64 ar, .int .i64 orn, .int .i64 dy, .slice lo ln lc, .int .i64 st, .int .i64 be] 30)
  have hB0 := heap_alloc_new w (.cells #[.int .i64 site, .int .i64 num, .int .i64 kd, .int .i64 lg, .int .i64 dt, .slice ho hn hc, .slice go gn gc, .int .i64 ar, .int .i64 orn, .int .i64 dy, .slice lo ln lc, .int .i64 st, .int .i64 be] 30)
  have eg : gn = graces.length := by have := hG.len; simpa using this
  subst eg
  have gkl : ∀ k, (blanks ((graces.map graceL).take k)).length ≤ 80 := fun k => by
    have := blanks_len (l := (graces.map graceL).take k) (m := 9) fun y hy => by
      obtain ⟨h, hm, rfl⟩ := List.mem_map.1 (List.mem_of_mem_take hy)
      exact graceL_len (hok h hm)
    have h2 : ((graces.map graceL).take k).length ≤ 8 := by rw [List.length_take, List.length_map]; omega
    have := Nat.mul_le_mul_right 10 h2
    omega
  have lkl : ∀ k, (blanks ((lyr.map syllL).take k)).length ≤ 9000 := fun k => by
    have := blanks_len (l := (lyr.map syllL).take k) (m := 2000) fun y hy => by
      obtain ⟨h, hm, rfl⟩ := List.mem_map.1 (List.mem_of_mem_take hy)
      exact syllL_len h (hokl h hm).1
    have h2 : ((lyr.map syllL).take k).length ≤ 4 := by rw [List.length_take, List.length_map]; omega
    have := Nat.mul_le_mul_right 2001 h2
    omega
  have wbl : (wordsT ar orn dy st be).length ≤ 200 := by
    rw [wordsT_blanks]
    have h1 := blanks_len (l := wordsB ar orn dy st be) (m := 10) wordsB_small
    have h2 : (wordsB ar orn dy st be).length ≤ 9 := wordsB_len ar orn dy st be
    have := Nat.mul_le_mul_right 11 h2
    omega
  have etl : textL ⟨site, num, kd, lg, dt, heads, graces, ar, orn, dy, lyr, st, be⟩ = gA graces ++ bodyL ⟨site, num, kd, lg, dt, heads, graces, ar, orn, dy, lyr, st, be⟩ ++ wA (wordsT ar orn dy st be) ++ blanks (lyr.map syllL) := text_parts _
  rw [etl]
  clear etl
  generalize bodyL ⟨site, num, kd, lg, dt, heads, graces, ar, orn, dy, lyr, st, be⟩ = bd at hbl hbody0 ⊢
  have hwords := words_walk site num kd lg dt ar orn dy st be ho go lo hn hc graces.length gc ln lc
  generalize hwt : wordsT ar orn dy st be = wt at wbl ⊢
  obtain ⟨zf, hzf⟩ : ∃ z, z = mkB (gA graces ++ bd ++ wA wt ++ blanks (lyr.map syllL)) := ⟨_, rfl⟩
  rw [← hzf]
  have hwords' : ∀ W, Calls Tryz.prog 28 #[.agg #[.int .i64 site, .int .i64 num, .int .i64 kd, .int .i64 lg, .int .i64 dt, .slice ho hn hc, .slice go graces.length gc, .int .i64 ar, .int .i64 orn, .int .i64 dy, .slice lo ln lc, .int .i64 st, .int .i64 be]] W fun e w' => e = .returned (.string (mkB wt)) ∧ Below W.heap.size W w' := fun W => by rw [← hwt]; exact hwords W ha0 ha1 o0 o4 d0 d9 st0 st2 be0 be2
  clear hwords
  obtain ⟨zb, hzb⟩ : ∃ z, z = mkB bd := ⟨_, rfl⟩
  obtain ⟨zw, hzw⟩ : ∃ z, z = mkB wt := ⟨_, rfl⟩
  have hbody := hbody0
  clear hbody0
  rw [← hzb] at hbody
  rw [← hzw] at hwords'
  have HZ := shut (And.intro hzf (And.intro hzb (And.intro hzw (And.intro hbl (And.intro wbl (And.intro gkl lkl))))))
  clear hzf hzb hzw hbl wbl gkl lkl hwt
  go_enter Tryz.func8, Tryz.ntmps8
  go_wp2
  generalize w.alloc (.cells #[.int .i64 site, .int .i64 num, .int .i64 kd, .int .i64 lg, .int .i64 dt, .slice ho hn hc, .slice go graces.length gc, .int .i64 ar, .int .i64 orn, .int .i64 dy, .slice lo ln lc, .int .i64 st, .int .i64 be] 30) = w1 at b0 hB0 ⊢
  obtain ⟨k0, k1, k2, k3, k4, k5, k6, k7, k8, k9, k10, k11, k12⟩ := box13 hB0
  go_loopg [3, 4] graces.length (fun g s3 s4 wr => ∃ k : Nat, k ≤ graces.length ∧ g = graces.length - k ∧ s4 = .int .i64 (k : Nat) ∧ Below w1.heap.size w1 wr ∧ s3 = .string (mkB (blanks ((graces.map graceL).take k))))
  case atStart => exact ⟨0, Nat.zero_le _, rfl, rfl, Below.refl _ _, rfl⟩
  case round =>
    obtain ⟨k, hk, hg, rfl, hb, rfl⟩ := hrel
    have bbr := b0.trans (hb.mono b0.size)
    by_cases hlt : k < graces.length
    · have hlt' : (k : Int) < (graces.length : Int) := by omega
      have hk0 : (0 : Int) ≤ (k : Int) := by omega
      obtain ⟨g, oo, rfl, hcl⟩ := (hG.step bbr).atM hlt
      have hBr := (hb.block w.heap.size (Array.getElem?_eq_some_iff.1 hB0).1).trans hB0
      obtain ⟨j0, j1, j2, j3, j4, j5, j6, j7, j8, j9, j10, j11, j12⟩ := box13 hBr
      have m1 : IntKind.i64.wrap ((k : Int) + 1) = (k : Int) + 1 := IntWalk.i64_in _ (by omega)
      have hs : blanks ((graces.map graceL).take (k + 1)) = blanks ((graces.map graceL).take k) ++ [32] ++ graceL graces[k] := by
        rw [List.take_succ_eq_append_getElem (by simpa using hlt), blanks_snoc]; simp
      have hho := hok graces[k] (List.getElem_mem hlt)
      generalize graces[k] = x at hcl hs hho
      obtain ⟨⟨x0, x1, x2⟩, x3, x4⟩ := x
      obtain ⟨hp, hl1, hl6⟩ := hho
      have c0 : wr.cell? ⟨g, oo + k * 5, none⟩ = some (.int .i64 x0) := hcl 0 _ rfl
      have c1 : wr.cell? ⟨g, oo + k * 5 + 1, none⟩ = some (.int .i64 x1) := hcl 1 _ rfl
      have c2 : wr.cell? ⟨g, oo + k * 5 + 2, none⟩ = some (.int .i64 x2) := hcl 2 _ rfl
      have c3 : wr.cell? ⟨g, oo + k * 5 + 3, none⟩ = some (.int .i64 x3) := hcl 3 _ rfl
      have c4 : wr.cell? ⟨g, oo + k * 5 + 4, none⟩ = some (.bool x4) := hcl 4 _ rfl
      have hnm := fun W (bW : Below w.heap.size w W) => pitch_name hp W (T.step bW)
      have bbr2 := bbr.alloc bbr.size (.cells #[.int .i64 x0, .int .i64 x1, .int .i64 x2, .int .i64 x3, .bool x4] 61)
      have hbr2 := hb.alloc hb.size (.cells #[.int .i64 x0, .int .i64 x1, .int .i64 x2, .int .i64 x3, .bool x4] 61)
      have hpl : (pitchL ⟨x0, x1, x2⟩).length ≤ 5 := pitchL_len hp
      simp only at hl1 hl6
      have hpw := powL_len hl1 hl6
      have ew : wrap64 (2 ^ x3.toNat) = 2 ^ x3.toNat := by
        have hc : x3 = 1 ∨ x3 = 2 ∨ x3 = 3 ∨ x3 = 4 ∨ x3 = 5 ∨ x3 = 6 := by omega
        rcases hc with rfl | rfl | rfl | rfl | rfl | rfl <;> simp [wrap64]
      have hit : ∀ W, Calls Tryz.prog 26 #[.int .i64 (wrap64 (2 ^ x3.toNat))] W fun e w' => e = .returned (.string (mkB (powL x3))) ∧ Below W.heap.size W w' := fun W => by rw [ew]; exact dec_walk hl1 hl6 W
      clear ew
      simp only [graceL] at hs
      have gk := HZ.out.2.2.2.2.2.1 k
      generalize blanks ((graces.map graceL).take k) = pre at gk hs ⊢
      generalize pitchL ⟨x0, x1, x2⟩ = pl at hnm hpl hs
      generalize powL x3 = pw at hit hpw hs
      obtain ⟨sl, hsl⟩ : ∃ l, l = (if x4 = true then [47] else [] : List UInt8) := ⟨_, rfl⟩
      have hsll : sl.length ≤ 1 := by rw [hsl]; split <;> simp
      rw [← hsl] at hs
      have a0 := fun ww => add_mk [47] pl (by simp) (by omega) ww
      have a1 := fun ww => add_mk pre [32] (by omega) (by simp) ww
      have a2 := fun ww => add_mk (pre ++ [32]) (sl ++ pl) (by simp; omega) (by simp; omega) ww
      have a3 := fun ww => add_mk (pre ++ [32] ++ (sl ++ pl)) [58] (by simp; omega) (by simp) ww
      have a4 := fun ww => add_mk (pre ++ [32] ++ (sl ++ pl) ++ [58]) pw (by simp; omega) (by omega) ww
      obtain ⟨s0, hs0⟩ : ∃ s, s = mkB pl := ⟨_, rfl⟩
      obtain ⟨sp, hsp⟩ : ∃ s, s = mkB pre := ⟨_, rfl⟩
      obtain ⟨s9, hs9⟩ : ∃ s, s = mkB pw := ⟨_, rfl⟩
      obtain ⟨t0, ht0⟩ : ∃ s, s = mkB (sl ++ pl) := ⟨_, rfl⟩
      obtain ⟨t1, ht1⟩ : ∃ s, s = mkB (pre ++ [32]) := ⟨_, rfl⟩
      obtain ⟨t2, ht2⟩ : ∃ s, s = mkB (pre ++ [32] ++ (sl ++ pl)) := ⟨_, rfl⟩
      obtain ⟨t3, ht3⟩ : ∃ s, s = mkB (pre ++ [32] ++ (sl ++ pl) ++ [58]) := ⟨_, rfl⟩
      obtain ⟨t4, ht4⟩ : ∃ s, s = mkB (pre ++ [32] ++ (sl ++ pl) ++ [58] ++ pw) := ⟨_, rfl⟩
      rw [← hs0] at hnm a0
      rw [← hs9] at hit
      rw [← hsp, ← ht1] at a1
      rw [← ht1, ← ht0, ← ht2] at a2
      rw [← ht2, ← ht3] at a3
      rw [← ht3, ← hs9, ← ht4] at a4
      rw [← hsp]
      have a1' : ∀ ww, (Op.stringOp .add sp ⟨#[32]⟩).run Tryz.prog ww = .ok (.string t1) ww := a1
      have a3' : ∀ ww, (Op.stringOp .add t2 ⟨#[58]⟩).run Tryz.prog ww = .ok (.string t3) ww := a3
      have HT := shut (show t4 = mkB (blanks ((graces.map graceL).take (k + 1))) by rw [ht4, hs]; simp [List.append_assoc])
      have hcase : (x4 = false ∧ t0 = s0) ∨ (x4 = true ∧ ∀ ww, (Op.stringOp .add ⟨#[47]⟩ s0).run Tryz.prog ww = .ok (.string t0) ww) := by
        cases x4 with
        | false => exact .inl ⟨rfl, by rw [ht0, hs0, hsl]; simp⟩
        | true => exact .inr ⟨rfl, fun ww => by have := a0 ww; rw [ht0, hsl]; exact this⟩
      clear ht0 ht1 ht2 ht3 ht4 hs0 hs9 a0 a1 a3 hpl hcl hpw hp hs hsl hsll hsp gk
      go_wp2_with (go_at_call 25; refine (hnm _ bbr2).mono ?_)
      intro e w2; first | (intro he b2; subst he) | rintro ⟨rfl, b2⟩
      have q3 : w2.cell? ⟨wr.heap.size, 3, none⟩ = some (.int .i64 x3) := (b2.cell (by simp)).trans (by simp)
      have q4 : w2.cell? ⟨wr.heap.size, 4, none⟩ = some (.bool x4) := (b2.cell (by simp)).trans (by simp)
      have hb2 := hbr2.trans (b2.mono (by have := hb.size; first | omega | (simp; omega)))
      clear hnm b2 bbr2 hbr2 c0 c1 c2 c3 c4 j0 j1 j2 j3 j4 j5 j6 j7 j8 j9 j10 j11 j12 hBr
      rcases hcase with ⟨rfl, rfl⟩ | ⟨rfl, a0'⟩
      · go_wp2_with (go_at_call 26; (with_reducible refine (hit _).mono ?_))
        intro e w3; first | (intro he b3; subst he) | rintro ⟨rfl, b3⟩
        have hb3 := hb2.trans (b3.mono (by have := hb2.size; omega))
        clear hit b3 q3 q4
        go_wp2
        go_roundg (graces.length - (k + 1))
        case measure => omega
        case rel => exact ⟨k + 1, by omega, rfl, by simp, hb3, by rw [HT.out]⟩
      · go_wp2_with (go_at_call 26; (with_reducible refine (hit _).mono ?_))
        intro e w3; first | (intro he b3; subst he) | rintro ⟨rfl, b3⟩
        have hb3 := hb2.trans (b3.mono (by have := hb2.size; omega))
        clear hit b3 q3 q4
        go_wp2
        go_roundg (graces.length - (k + 1))
        case measure => omega
        case rel => exact ⟨k + 1, by omega, rfl, by simp, hb3, by rw [HT.out]⟩
    · have hkl : k = graces.length := by omega
      subst hkl
      have hBr := (hb.block w.heap.size (Array.getElem?_eq_some_iff.1 hB0).1).trans hB0
      obtain ⟨j0, j1, j2, j3, j4, j5, j6, j7, j8, j9, j10, j11, j12⟩ := box13 hBr
      have htk : (graces.map graceL).take graces.length = graces.map graceL := List.take_of_length_le (by simp)
      have gk := HZ.out.2.2.2.2.2.1 graces.length
      rw [htk] at gk ⊢
      obtain ⟨L, hL1⟩ : ∃ L, L = blanks (graces.map graceL) := ⟨_, rfl⟩
      rw [← hL1] at gk ⊢
      obtain ⟨A, hA⟩ : ∃ A : List UInt8, A = gA graces := ⟨_, rfl⟩
      have hAl : A.length ≤ 100 := by
        rw [hA, gA]; split
        · simp
        · rw [← hL1]; simp only [List.length_append, List.length_drop, List.length_cons, List.length_nil]; omega
      obtain ⟨zA, hzA⟩ : ∃ z, z = mkB A := ⟨_, rfl⟩
      have HA := shut (And.intro hzA (And.intro hA (And.intro hL1 hAl)))
      clear hzA hA hAl hL1
      clear hlt hk hg htk
      go_upto_if 43 with (fail)
      go_cut [3] from 10 (fun s3 wc => Below w1.heap.size w1 wc ∧ s3 = .string zA)
      case first =>
        by_cases he : graces = []
        · have hp : L = [] := by rw [HA.out.2.2.1, he]; rfl
          have hz : zA = ⟨#[]⟩ := by rw [HA.out.1, HA.out.2.1, gA, if_pos he]; rfl
          have h0 : (mkB L).toList.isEmpty = true := by rw [isEmpty_mk, hp]; rfl
          have hz' : zA = mkB L := by rw [hz, hp]; rfl
          have SP := shut hz'
          clear hp hz hz' he
          rw [h0]
          generalize mkB L = zL at SP ⊢
          go_wp2
          go_meet
          case rel => exact ⟨hb, by rw [SP.out]⟩
        · have hp : L ≠ [] := by
            rw [HA.out.2.2.1, blanks_join (by simpa using he)]; simp
          have hpos : 0 < L.length := List.length_pos_iff.2 hp
          have hAe : zA = mkB ([103, 114, 97, 99, 101, 32, 40] ++ L.drop 1 ++ [41, 32]) := by rw [HA.out.1, HA.out.2.1, gA, if_neg he, HA.out.2.2.1]
          have h0 : (mkB L).toList.isEmpty = false := by rw [isEmpty_mk]; exact decide_eq_false hp
          have hd := drop_one hpos
          have hsz : (1 : Int) ≤ ((mkB L).size : Int) := by rw [mkB_size]; omega
          have hsz' : 1 ≤ (mkB L).size := by rw [mkB_size]; omega
          have a1 := fun ww => add_mk [103, 114, 97, 99, 101, 32, 40] (L.drop 1) (by simp) (by simp; omega) ww
          have a2 := fun ww => add_mk ([103, 114, 97, 99, 101, 32, 40] ++ L.drop 1) [41, 32] (by simp; omega) (by simp) ww
          rw [← hAe] at a2
          obtain ⟨ze, hze⟩ : ∃ z, z = mkB ([103, 114, 97, 99, 101, 32, 40] ++ L.drop 1) := ⟨_, rfl⟩
          rw [← hd, ← hze] at a1
          rw [← hze] at a2
          have a1' : ∀ ww, (Op.stringOp .add ⟨#[103, 114, 97, 99, 101, 32, 40]⟩ ((mkB L).extract 1 (mkB L).size)).run Tryz.prog ww = .ok (.string ze) ww := a1
          have a2' : ∀ ww, (Op.stringOp .add ze ⟨#[41, 32]⟩).run Tryz.prog ww = .ok (.string zA) ww := a2
          clear a1 a2 hze hAe hp he hpos hd
          have hsz9 : (mkB L).size ≤ 100 := by rw [mkB_size]; omega
          rw [h0]
          clear h0
          generalize mkB L = zL at hsz hsz' hsz9 a1' ⊢
          go_wp2
          go_meet
          case rel => exact ⟨hb, rfl⟩
      case rest =>
        obtain ⟨hbc, rfl⟩ := hcut
        have hBc := (hbc.block w.heap.size (Array.getElem?_eq_some_iff.1 hB0).1).trans hB0
        have bbc := b0.trans (hbc.mono b0.size)
        clear k0 k1 k2 k3 k4 k5 k6 k7 k8 k9 k10 k11 k12 j0 j1 j2 j3 j4 j5 j6 j7 j8 j9 j10 j11 j12 hb bbr hBr gk
        obtain ⟨k0, k1, k2, k3, k4, k5, k6, k7, k8, k9, k10, k11, k12⟩ := box13 hBc
        have hbd := hbody _ bbc
        clear hbody
        have a1 := fun ww => add_mk A bd (by have := HA.out.2.2.2; omega) (by have := HZ.out.2.2.2.1; omega) ww
        rw [← HA.out.1, ← HZ.out.2.1] at a1
        obtain ⟨zB, hzB⟩ : ∃ z, z = mkB (A ++ bd) := ⟨_, rfl⟩
        rw [← hzB] at a1
        have HB := shut hzB
        clear hzB
        go_wp2_with (go_at_call 27; (with_reducible refine hbd.mono ?_))
        intro e w5; first | (intro he b5; subst he) | rintro ⟨rfl, b5⟩
        have hb5 := hbc.trans (b5.mono hbc.size)
        have hB5 := (b5.block w.heap.size (Array.getElem?_eq_some_iff.1 hBc).1).trans hBc
        clear hbd b5 hBc hbc bbc k0 k1 k2 k3 k4 k5 k6 k7 k8 k9 k10 k11 k12
        obtain ⟨k0, k1, k2, k3, k4, k5, k6, k7, k8, k9, k10, k11, k12⟩ := box13 hB5
        have hwd := hwords' w5
        clear hwords'
        go_wp2_with (go_at_call 28; (with_reducible refine hwd.mono ?_))
        intro e w6; first | (intro he b6; subst he) | rintro ⟨rfl, b6⟩
        have hb6 := hb5.trans (b6.mono hb5.size)
        have hB6 := (b6.block w.heap.size (Array.getElem?_eq_some_iff.1 hB5).1).trans hB5
        clear hwd b6 hB5 hb5 k0 k1 k2 k3 k4 k5 k6 k7 k8 k9 k10 k11 k12 a1
        obtain ⟨C, hC⟩ : ∃ C : List UInt8, C = A ++ bd ++ wA wt := ⟨_, rfl⟩
        have hCl : C.length ≤ 2000 := by
          have h1 := HA.out.2.2.2
          have h2 := HZ.out.2.2.2.1
          have h3 := HZ.out.2.2.2.2.1
          rw [hC, wA]; split
          · simp only [List.length_append, List.length_nil]; omega
          · simp only [List.length_append, List.length_drop, List.length_cons, List.length_nil]; omega
        obtain ⟨zC, hzC⟩ : ∃ z, z = mkB C := ⟨_, rfl⟩
        have HC := shut (And.intro hzC (And.intro hC hCl))
        clear hzC hC hCl
        go_upto_if 55 with (fail)
        go_cut [3] from 10 (fun s3 wc => Below w1.heap.size w1 wc ∧ s3 = .string zC)
        case first =>
          by_cases he : wt = []
          · have hp : wt = [] := he
            have hz : zC = zB := by rw [HC.out.1, HC.out.2.1, wA, if_pos he, HB.out]; simp
            have h0 : zw.toList.isEmpty = true := by rw [HZ.out.2.2.1, isEmpty_mk, hp]; rfl
            have SP := shut hz
            clear hp hz he
            rw [h0]
            go_wp2
            go_meet
            case rel => exact ⟨hb6, by rw [SP.out]⟩
          · have hp : wt ≠ [] := he
            have hpos : 0 < wt.length := List.length_pos_iff.2 hp
            have hCe : zC = mkB (A ++ bd ++ [32, 91] ++ wt.drop 1 ++ [93]) := by rw [HC.out.1, HC.out.2.1, wA, if_neg he]; simp [List.append_assoc]
            have h0 : zw.toList.isEmpty = false := by rw [HZ.out.2.2.1, isEmpty_mk]; exact decide_eq_false hp
            have hd := drop_one hpos
            rw [← HZ.out.2.2.1] at hd
            have hsz9 : zw.size = wt.length := by rw [HZ.out.2.2.1, mkB_size]
            have hwl := HZ.out.2.2.2.2.1
            have hsz : (1 : Int) ≤ (zw.size : Int) := by omega
            have hsz' : 1 ≤ zw.size := by omega
            have hsz8 : zw.size ≤ 200 := by omega
            have hA9 := HA.out.2.2.2
            have hb9 := HZ.out.2.2.2.1
            have a1 := fun ww => add_mk (A ++ bd) [32, 91] (by simp; omega) (by simp) ww
            have a2 := fun ww => add_mk (A ++ bd ++ [32, 91]) (wt.drop 1) (by simp; omega) (by simp; omega) ww
            have a3 := fun ww => add_mk (A ++ bd ++ [32, 91] ++ wt.drop 1) [93] (by simp; omega) (by simp) ww
            rw [← hCe] at a3
            rw [← HB.out] at a1
            obtain ⟨ze, hze⟩ : ∃ z, z = mkB (A ++ bd ++ [32, 91]) := ⟨_, rfl⟩
            obtain ⟨zg, hzg⟩ : ∃ z, z = mkB (A ++ bd ++ [32, 91] ++ wt.drop 1) := ⟨_, rfl⟩
            rw [← hze] at a1
            rw [← hze, ← hd, ← hzg] at a2
            rw [← hzg] at a3
            have a1' : ∀ ww, (Op.stringOp .add zB ⟨#[32, 91]⟩).run Tryz.prog ww = .ok (.string ze) ww := a1
            have a3' : ∀ ww, (Op.stringOp .add zg ⟨#[93]⟩).run Tryz.prog ww = .ok (.string zC) ww := a3
            clear a1 a3 hd hze hzg hCe hp he hpos hsz9 hwl hA9 hb9
            rw [h0]
            go_wp2
            go_meet
            case rel => exact ⟨hb6, rfl⟩
        case rest =>
          obtain ⟨hbc, rfl⟩ := hcut
          have HFIN : Shut (zf = mkB (C ++ blanks (lyr.map syllL))) := shut (by
            rw [HZ.out.1, HC.out.2.1, HA.out.2.1])
          have el : ln = lyr.length := by have := hL.len; simpa using this
          subst el
          clear hb6 hB6
          go_wp2
          go_loopg [3, 9] lyr.length (fun g s3 s9 wr => ∃ k : Nat, k ≤ lyr.length ∧ g = lyr.length - k ∧ s9 = .int .i64 (k : Nat) ∧ Below w1.heap.size w1 wr ∧ s3 = .string (mkB (C ++ blanks ((lyr.map syllL).take k))))
          case atStart => exact ⟨0, Nat.zero_le _, rfl, rfl, hbc, by rw [HC.out.1]; simp [blanks]⟩
          case round =>
            obtain ⟨k, hk, hg, rfl, hb, rfl⟩ := hrel
            have bbr := b0.trans (hb.mono b0.size)
            have hBr := (hb.block w.heap.size (Array.getElem?_eq_some_iff.1 hB0).1).trans hB0
            obtain ⟨j0, j1, j2, j3, j4, j5, j6, j7, j8, j9, j10, j11, j12⟩ := box13 hBr
            by_cases hlt : k < lyr.length
            · have hlt' : (k : Int) < (lyr.length : Int) := by omega
              have hk0 : (0 : Int) ≤ (k : Int) := by omega
              obtain ⟨g, oo, rfl, hcl⟩ := (hL.step bbr).atM hlt
              have m1 : IntKind.i64.wrap ((k : Int) + 1) = (k : Int) + 1 := IntWalk.i64_in _ (by omega)
              have hs : blanks ((lyr.map syllL).take (k + 1)) = blanks ((lyr.map syllL).take k) ++ [32] ++ syllL lyr[k] := by
                rw [List.take_succ_eq_append_getElem (by simpa using hlt), blanks_snoc]; simp
              have hho := hokl lyr[k] (List.getElem_mem hlt)
              generalize lyr[k] = x at hcl hs hho
              have hsy := syl29_walk x wr hho.1 hho.2.1 hho.2.2
              have hsl := syllL_len x hho.1
              obtain ⟨tx, lnk⟩ := x
              have c0 : wr.cell? ⟨g, oo + k * 2, none⟩ = some (.string tx) := hcl 0 _ rfl
              have c1 : wr.cell? ⟨g, oo + k * 2 + 1, none⟩ = some (.int .i64 lnk) := hcl 1 _ rfl
              have lk := HZ.out.2.2.2.2.2.2 k
              have cl := HC.out.2.2
              generalize blanks ((lyr.map syllL).take k) = pre at lk hs ⊢
              generalize syllL ⟨tx, lnk⟩ = sy at hsy hsl hs
              have a1 := fun ww => add_mk (C ++ pre) [32] (by simp; omega) (by simp) ww
              have a2 := fun ww => add_mk (C ++ pre ++ [32]) sy (by simp; omega) (by omega) ww
              obtain ⟨sp, hsp⟩ : ∃ s, s = mkB (C ++ pre) := ⟨_, rfl⟩
              obtain ⟨s1, hs1⟩ : ∃ s, s = mkB (C ++ pre ++ [32]) := ⟨_, rfl⟩
              obtain ⟨s2, hs2⟩ : ∃ s, s = mkB (C ++ pre ++ [32] ++ sy) := ⟨_, rfl⟩
              obtain ⟨s3, hs3⟩ : ∃ s, s = mkB sy := ⟨_, rfl⟩
              rw [← hsp, ← hs1] at a1
              rw [← hs1, ← hs3, ← hs2] at a2
              rw [← hs3] at hsy
              rw [← hsp]
              have a1' : ∀ ww, (Op.stringOp .add sp ⟨#[32]⟩).run Tryz.prog ww = .ok (.string s1) ww := a1
              have HT := shut (show s2 = mkB (C ++ blanks ((lyr.map syllL).take (k + 1))) by rw [hs2, hs]; simp [List.append_assoc])
              have hsy' : Calls Tryz.prog 29 #[.agg #[.string tx, .int .i64 lnk]] wr fun e w' => e = .returned (.string s3) ∧ Below wr.heap.size wr w' := hsy
              clear hs hsp hs1 hs2 hs3 a1 lk cl hcl hsl hho hsy
              go_wp2_with (go_at_call 29; (with_reducible refine hsy'.mono ?_))
              intro e w7; first | (intro he b7; subst he) | rintro ⟨rfl, b7⟩
              have hb7 := hb.trans (b7.mono hb.size)
              clear hsy' b7
              go_wp2
              go_roundg (lyr.length - (k + 1))
              case measure => omega
              case rel => exact ⟨k + 1, by omega, rfl, by simp, hb7, by rw [HT.out]⟩
            · have hkl : k = lyr.length := by omega
              subst hkl
              have htk : (lyr.map syllL).take lyr.length = lyr.map syllL := List.take_of_length_le (by simp)
              rw [htk, ← HFIN.out]
              go_wp2
              go_ret
              exact ⟨rfl, bbr⟩
end Go.Proofs.YtholnnabakaliaaGreatDoor
