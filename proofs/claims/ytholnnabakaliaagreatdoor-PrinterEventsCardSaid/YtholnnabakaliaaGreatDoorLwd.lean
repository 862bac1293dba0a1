/-
  A part of the proof that the law PrinterEvents (chapter 20) returns true for every event: walks of the program's functions, and runs of them in the kernel by the own evaluator.
-/
import Derived.Test.YtholnnabakaliaaGreatDoorBod
namespace Go.Proofs.YtholnnabakaliaaGreatDoor
open Go.RowKit

def bitsT (a : Int) (k : Nat) : List UInt8 := (bitsW a artsW k).flatMap fun y => 32 :: y.data.toList
def slotL (W : List ByteArray) (n : Int) : List UInt8 := if n = 0 then [] else 32 :: (wordAt W n).data.toList
def wordsT (ar orn dy st be : Int) : List UInt8 := bitsT ar 5 ++ slotL ornsW orn ++ slotL dynsW dy ++ slotL stemsW st ++ slotL beamsW be
theorem mkB_data (x : ByteArray) : mkB x.data.toList = x := by
  apply ByteArray.ext; simp [mkB]
theorem arts_small : ∀ y ∈ artsW, y.data.toList.length ≤ 10 := by decide
theorem artsW_getD_mem (k : Nat) (h : k < 5) : artsW.getD k ⟨#[]⟩ ∈ artsW := by
  have : k = 0 ∨ k = 1 ∨ k = 2 ∨ k = 3 ∨ k = 4 := by omega
  rcases this with rfl | rfl | rfl | rfl | rfl <;> simp [artsW]
theorem bitsT_succ (a : Int) (k : Nat) : bitsT a (k + 1) = bitsT a k ++ (if bitB a k = true then 32 :: (artsW.getD k ⟨#[]⟩).data.toList else []) := by
  unfold bitsT
  rw [bitsW, List.flatMap_append]
  split <;> simp
theorem bitsT_len (a : Int) : ∀ k, k ≤ 5 → (bitsT a k).length ≤ 11 * k
  | 0, _ => by simp [bitsT, bitsW]
  | k + 1, h => by
    have := bitsT_len a k (by omega)
    have := arts_small _ (artsW_getD_mem k (by omega))
    rw [bitsT_succ, List.length_append]
    split <;> simp only [List.length_cons, List.length_nil] <;> omega
theorem slot_step (W : List ByteArray) (hW : ∀ y ∈ W, y.data.toList.length ≤ 10) (n : Int) (h0 : 0 ≤ n) (hn : n ≤ W.length) (L : List UInt8) (hL : L.length ≤ 1000) :
    (n = 0 ∧ mkB (L ++ slotL W n) = mkB L) ∨ ∃ (i : Nat) (x : ByteArray) (s : ByteArray), n = (i : Int) + 1 ∧ i < W.length ∧ W[i]? = some x ∧ (∀ ww, (Op.stringOp .add (mkB L) ⟨#[32]⟩).run Tryz.prog ww = .ok (.string s) ww) ∧
      (∀ ww, (Op.stringOp .add s x).run Tryz.prog ww = .ok (.string (mkB (L ++ slotL W n))) ww) := by
  by_cases hz : n = 0
  · refine .inl ⟨hz, ?_⟩
    unfold slotL
    rw [if_pos hz, List.append_nil]
  · obtain ⟨i, rfl⟩ : ∃ i : Nat, n = (i : Int) + 1 := ⟨n.toNat - 1, by omega⟩
    have hi : i < W.length := by omega
    refine .inr ⟨i, W[i], mkB (L ++ [32]), rfl, hi, List.getElem?_eq_getElem hi, fun ww => add_mk L [32] (by omega) (by decide) ww, fun ww => ?_⟩
    have e : wordAt W ((i : Int) + 1) = W[i] := by
      unfold wordAt
      rw [if_neg hz, show ((i : Int) + 1).toNat - 1 = i by omega, List.getD_eq_getElem?_getD, List.getElem?_eq_getElem hi]; rfl
    have := add_mk (L ++ [32]) W[i].data.toList (by simp; omega) (by have := hW _ (List.getElem_mem hi); omega) ww
    rw [mkB_data] at this
    rw [this]
    unfold slotL
    rw [if_neg hz, e, List.append_assoc]; rfl
theorem slot_len (W : List ByteArray) (hW : ∀ y ∈ W, y.data.toList.length ≤ 10) (n : Int) (h0 : 0 ≤ n) (hn : n ≤ W.length) : (slotL W n).length ≤ 11 := by
  unfold slotL
  split
  · simp
  · rename_i hz
    have hm : wordAt W n ∈ W := by
      unfold wordAt
      rw [if_neg hz, List.getD_eq_getElem?_getD, List.getElem?_eq_getElem (by omega)]
      exact List.getElem_mem _
    have := hW _ hm
    simp only [List.length_cons]; omega
theorem bit_step (a : Int) (k : Nat) (h : k < 5) (hb : bitB a k = true) : ∃ s x, artsW[k]? = some x ∧ (∀ ww, (Op.stringOp .add (mkB (bitsT a k)) ⟨#[32]⟩).run Tryz.prog ww = .ok (.string s) ww) ∧ (∀ ww, (Op.stringOp .add s x).run Tryz.prog ww = .ok (.string (mkB (bitsT a (k + 1)))) ww) := by
  have h1 := bitsT_len a k (by omega)
  have h2 := arts_small _ (artsW_getD_mem k h)
  have hk : k < artsW.length := h
  refine ⟨mkB (bitsT a k ++ [32]), artsW[k], List.getElem?_eq_getElem hk, fun ww => add_mk _ [32] (by omega) (by decide) ww, fun ww => ?_⟩
  have e : artsW.getD k ⟨#[]⟩ = artsW[k] := by rw [List.getD_eq_getElem?_getD, List.getElem?_eq_getElem hk]; rfl
  rw [e] at h2
  have := add_mk (bitsT a k ++ [32]) artsW[k].data.toList (by simp; omega) (by omega) ww
  rw [mkB_data] at this
  rw [this, bitsT_succ, if_pos hb, e, List.append_assoc]; rfl
theorem row_cell (l : List Value) (x : Value) (i : Nat) (h : l[i]? = some x) (ww : World) : (ww.alloc (.cells l.toArray 9)).cell? ⟨ww.heap.size, i, none⟩ = some x := by
  rw [World.cell?_alloc_mark]; simpa using h
theorem row_cell_at (l : List Value) (x : Value) (i : Nat) (h : l[i]? = some x) (ww : World) (n : Nat) (hn : n = ww.heap.size) : (ww.alloc (.cells l.toArray 9)).cell? ⟨n, i, none⟩ = some x := by subst hn; exact row_cell l x i h ww

set_option maxHeartbeats 8000000 in
set_option maxRecDepth 100000 in
theorem words_walk (site num kd lg dt ar orn dy st be : Int) (ho go lo : Option Addr) (hn hc gn gc ln lc : Nat) (w : World) (_ha0 : 0 ≤ ar) (_ha1 : ar ≤ 31)
    (ho0 : 0 ≤ orn) (ho1 : orn ≤ 4) (hd0 : 0 ≤ dy) (hd1 : dy ≤ 9) (hs0 : 0 ≤ st) (hs1 : st ≤ 2) (hb0 : 0 ≤ be) (hb1 : be ≤ 2) :
    Calls Tryz.prog 28 #[.agg #[.int .i64 site, .int .i64 num, .int .i64 kd, .int .i64 lg, .int .i64 dt, .slice ho hn hc, .slice go gn gc, .int .i64 ar, .int .i64 orn, .int .i64 dy, .slice lo ln lc, .int .i64 st, .int .i64 be]] w fun e w' => e = .returned (.string (mkB (wordsT ar orn dy st be))) ∧ Below w.heap.size w w' := by
  have b0 := (Below.refl w.heap.size w).alloc (Nat.le_refl _) (.cells #[.int .i64 site, .int .i64 num, .int .i64 kd, .int .i64 lg, .int .i64 dt, .slice ho hn hc, .slice go gn gc, .int .i64 ar, .int .i64 orn, .int .i64 dy, .slice lo ln lc, .int .i64 st, .int .i64 be] 30)
  have l0 := bitsT_len ar 5 (by omega)
  have k1 := slot_step ornsW (by decide) orn ho0 ho1 (bitsT ar 5) (by omega)
  have j1 := slot_len ornsW (by decide) orn ho0 ho1
  have k2 := slot_step dynsW (by decide) dy hd0 hd1 (bitsT ar 5 ++ slotL ornsW orn) (by rw [List.length_append]; omega)
  have j2 := slot_len dynsW (by decide) dy hd0 hd1
  have k3 := slot_step stemsW (by decide) st hs0 hs1 (bitsT ar 5 ++ slotL ornsW orn ++ slotL dynsW dy) (by simp only [List.length_append]; omega)
  have j3 := slot_len stemsW (by decide) st hs0 hs1
  have k4 := slot_step beamsW (by decide) be hb0 hb1 (bitsT ar 5 ++ slotL ornsW orn ++ slotL dynsW dy ++ slotL stemsW st) (by simp only [List.length_append]; omega)
  change _ ∨ ∃ (i : Nat) (x : ByteArray) (s : ByteArray), _ ∧ _ ∧ _ ∧ _ ∧ _ at k4
  have hW : mkB (bitsT ar 5 ++ slotL ornsW orn ++ slotL dynsW dy ++ slotL stemsW st ++ slotL beamsW be) = mkB (wordsT ar orn dy st be) := rfl
  rw [hW] at k4
  clear hW l0 j1 j2 j3
  generalize mkB (wordsT ar orn dy st be) = z4 at k4 ⊢
  generalize mkB (bitsT ar 5 ++ slotL ornsW orn ++ slotL dynsW dy ++ slotL stemsW st) = z3 at k3 k4
  generalize mkB (bitsT ar 5 ++ slotL ornsW orn ++ slotL dynsW dy) = z2 at k2 k3
  generalize mkB (bitsT ar 5 ++ slotL ornsW orn) = z1 at k1 k2
  obtain ⟨z0, hz0⟩ : ∃ z, mkB (bitsT ar 5) = z := ⟨_, rfl⟩
  rw [hz0] at k1
  have SZ := shut hz0
  clear hz0
  go_enter Tryz.func28, Tryz.ntmps28
  go_wp2
  go_loopg [3, 5] 5 (fun g s3 s5 wr => ∃ k : Nat, k ≤ 5 ∧ g = 5 - k ∧ s5 = .int .i64 (k : Nat) ∧ s3 = .string (mkB (bitsT ar k)) ∧ wr = (w.alloc (.cells #[.int .i64 site, .int .i64 num, .int .i64 kd, .int .i64 lg, .int .i64 dt, .slice ho hn hc, .slice go gn gc, .int .i64 ar, .int .i64 orn, .int .i64 dy, .slice lo ln lc, .int .i64 st, .int .i64 be] 30)).alloc (.cells #[.string ⟨#[115, 116, 97, 99, 99, 97, 116, 111]⟩, .string ⟨#[116, 101, 110, 117, 116, 111]⟩, .string ⟨#[97, 99, 99, 101, 110, 116]⟩, .string ⟨#[109, 97, 114, 99, 97, 116, 111]⟩, .string ⟨#[102, 101, 114, 109, 97, 116, 97]⟩] 9))
  case atStart => exact ⟨0, by omega, rfl, rfl, rfl, rfl⟩
  case round =>
    obtain ⟨k, hk, hg, rfl, rfl, rfl⟩ := hrel
    by_cases hlt : k < 5
    · have hlt' : (k : Int) < 5 := by omega
      have hk0 : (0 : Int) ≤ (k : Int) := by omega
      have m1 : IntKind.i64.wrap ((k : Int) + 1) = (k : Int) + 1 := IntWalk.i64_in _ (by omega)
      obtain ⟨bb, hbb⟩ : ∃ c, bitB ar k = c := ⟨_, rfl⟩
      have hbb' : (bits BinOp.and IntKind.i64 (ar / 2 ^ k) 1 == 1) = bb := hbb
      cases bb with
      | false =>
        have HS := shut (show bitsT ar (k + 1) = bitsT ar k by rw [bitsT_succ, hbb]; simp)
        clear hbb
        go_wp2
        go_roundg (5 - (k + 1))
        case measure => omega
        case rel => exact ⟨k + 1, by omega, rfl, by simp, by rw [HS.out], rfl⟩
      | true =>
        obtain ⟨s, x, hx, a1, a2⟩ := bit_step ar k hlt hbb
        clear hbb
        have q : ((w.alloc (.cells #[.int .i64 site, .int .i64 num, .int .i64 kd, .int .i64 lg, .int .i64 dt, .slice ho hn hc, .slice go gn gc, .int .i64 ar, .int .i64 orn, .int .i64 dy, .slice lo ln lc, .int .i64 st, .int .i64 be] 30)).alloc (.cells #[.string ⟨#[115, 116, 97, 99, 99, 97, 116, 111]⟩, .string ⟨#[116, 101, 110, 117, 116, 111]⟩, .string ⟨#[97, 99, 99, 101, 110, 116]⟩, .string ⟨#[109, 97, 114, 99, 97, 116, 111]⟩, .string ⟨#[102, 101, 114, 109, 97, 116, 97]⟩] 9)).cell? ⟨w.heap.size + 1, k, none⟩ = some (.string x) := by
          have := row_cell (artsW.map Value.string) (.string x) k (by rw [List.getElem?_map, hx]; rfl) (w.alloc (.cells #[.int .i64 site, .int .i64 num, .int .i64 kd, .int .i64 lg, .int .i64 dt, .slice ho hn hc, .slice go gn gc, .int .i64 ar, .int .i64 orn, .int .i64 dy, .slice lo ln lc, .int .i64 st, .int .i64 be] 30))
          rw [show (w.alloc (.cells #[.int .i64 site, .int .i64 num, .int .i64 kd, .int .i64 lg, .int .i64 dt, .slice ho hn hc, .slice go gn gc, .int .i64 ar, .int .i64 orn, .int .i64 dy, .slice lo ln lc, .int .i64 st, .int .i64 be] 30)).heap.size = w.heap.size + 1 by simp] at this
          exact this
        clear hx
        generalize mkB (bitsT ar k) = sk at a1 ⊢
        obtain ⟨sn, hsn⟩ : ∃ z, mkB (bitsT ar (k + 1)) = z := ⟨_, rfl⟩
        rw [hsn] at a2
        have SN := shut hsn
        clear hsn
        go_wp2
        go_roundg (5 - (k + 1))
        case measure => omega
        case rel => exact ⟨k + 1, by omega, rfl, by simp, by rw [SN.out], rfl⟩
    · have hkl : k = 5 := by omega
      subst hkl
      rw [SZ.out]
      rcases k1 with ⟨rfl, rfl⟩ | ⟨i1, x1, s1, rfl, hi, hx, p1, r1⟩
      · skip
        rcases k2 with ⟨rfl, rfl⟩ | ⟨i2, x2, s2, rfl, hi, hx, p2, r2⟩
        · skip
          rcases k3 with ⟨rfl, rfl⟩ | ⟨i3, x3, s3, rfl, hi, hx, p3, r3⟩
          · skip
            rcases k4 with ⟨rfl, rfl⟩ | ⟨i4, x4, s4, rfl, hi, hx, p4, r4⟩
            · skip
              clear SZ
              go_wp2
              go_ret
              exact ⟨rfl, ((Below.refl _ w).alloc (Nat.le_refl _) _).alloc (by simp) _⟩
            · have q4 : ∀ (ww : World) (n : Nat), n = ww.heap.size → (ww.alloc (.cells #[.string ⟨#[97, 112, 97, 114, 116]⟩, .string ⟨#[106, 111, 105, 110]⟩] 9)).cell? ⟨n, i4, none⟩ = some (.string x4) := row_cell_at (beamsW.map Value.string) (.string x4) i4 (by rw [List.getElem?_map, hx]; rfl)
              have m4 : IntKind.i64.wrap ((i4 : Int) + 1 - 1) = (i4 : Int) := by rw [show (i4 : Int) + 1 - 1 = i4 by omega]; exact IntWalk.i64_in _ (by have : beamsW.length = 2 := rfl; omega)
              have u4 : (0 : Int) ≤ (i4 : Int) := by omega
              have v4 : (i4 : Int) < 2 := by have : beamsW.length = 2 := rfl; omega
              have y4 : (0 : Int) < (i4 : Int) + 1 := by omega
              clear hx hi
              clear SZ
              go_wp2
              go_ret
              exact ⟨rfl, (((Below.refl _ w).alloc (Nat.le_refl _) _).alloc (by simp) _).alloc (by simp; omega) _⟩
          · have q3 : ∀ (ww : World) (n : Nat), n = ww.heap.size → (ww.alloc (.cells #[.string ⟨#[117, 112]⟩, .string ⟨#[100, 111, 119, 110]⟩] 9)).cell? ⟨n, i3, none⟩ = some (.string x3) := row_cell_at (stemsW.map Value.string) (.string x3) i3 (by rw [List.getElem?_map, hx]; rfl)
            have m3 : IntKind.i64.wrap ((i3 : Int) + 1 - 1) = (i3 : Int) := by rw [show (i3 : Int) + 1 - 1 = i3 by omega]; exact IntWalk.i64_in _ (by have : stemsW.length = 2 := rfl; omega)
            have u3 : (0 : Int) ≤ (i3 : Int) := by omega
            have v3 : (i3 : Int) < 2 := by have : stemsW.length = 2 := rfl; omega
            have y3 : (0 : Int) < (i3 : Int) + 1 := by omega
            clear hx hi
            rcases k4 with ⟨rfl, rfl⟩ | ⟨i4, x4, s4, rfl, hi, hx, p4, r4⟩
            · skip
              clear SZ
              go_wp2
              go_ret
              exact ⟨rfl, (((Below.refl _ w).alloc (Nat.le_refl _) _).alloc (by simp) _).alloc (by simp; omega) _⟩
            · have q4 : ∀ (ww : World) (n : Nat), n = ww.heap.size → (ww.alloc (.cells #[.string ⟨#[97, 112, 97, 114, 116]⟩, .string ⟨#[106, 111, 105, 110]⟩] 9)).cell? ⟨n, i4, none⟩ = some (.string x4) := row_cell_at (beamsW.map Value.string) (.string x4) i4 (by rw [List.getElem?_map, hx]; rfl)
              have m4 : IntKind.i64.wrap ((i4 : Int) + 1 - 1) = (i4 : Int) := by rw [show (i4 : Int) + 1 - 1 = i4 by omega]; exact IntWalk.i64_in _ (by have : beamsW.length = 2 := rfl; omega)
              have u4 : (0 : Int) ≤ (i4 : Int) := by omega
              have v4 : (i4 : Int) < 2 := by have : beamsW.length = 2 := rfl; omega
              have y4 : (0 : Int) < (i4 : Int) + 1 := by omega
              clear hx hi
              clear SZ
              go_wp2
              go_ret
              exact ⟨rfl, ((((Below.refl _ w).alloc (Nat.le_refl _) _).alloc (by simp) _).alloc (by simp; omega) _).alloc (by simp; omega) _⟩
        · have q2 : ∀ (ww : World) (n : Nat), n = ww.heap.size → (ww.alloc (.cells #[.string ⟨#[112, 112, 112]⟩, .string ⟨#[112, 112]⟩, .string ⟨#[112]⟩, .string ⟨#[109, 112]⟩, .string ⟨#[109, 102]⟩, .string ⟨#[102]⟩, .string ⟨#[102, 102]⟩, .string ⟨#[102, 102, 102]⟩, .string ⟨#[115, 102, 122]⟩] 9)).cell? ⟨n, i2, none⟩ = some (.string x2) := row_cell_at (dynsW.map Value.string) (.string x2) i2 (by rw [List.getElem?_map, hx]; rfl)
          have m2 : IntKind.i64.wrap ((i2 : Int) + 1 - 1) = (i2 : Int) := by rw [show (i2 : Int) + 1 - 1 = i2 by omega]; exact IntWalk.i64_in _ (by have : dynsW.length = 9 := rfl; omega)
          have u2 : (0 : Int) ≤ (i2 : Int) := by omega
          have v2 : (i2 : Int) < 9 := by have : dynsW.length = 9 := rfl; omega
          have y2 : (0 : Int) < (i2 : Int) + 1 := by omega
          clear hx hi
          rcases k3 with ⟨rfl, rfl⟩ | ⟨i3, x3, s3, rfl, hi, hx, p3, r3⟩
          · skip
            rcases k4 with ⟨rfl, rfl⟩ | ⟨i4, x4, s4, rfl, hi, hx, p4, r4⟩
            · skip
              clear SZ
              go_wp2
              go_ret
              exact ⟨rfl, (((Below.refl _ w).alloc (Nat.le_refl _) _).alloc (by simp) _).alloc (by simp; omega) _⟩
            · have q4 : ∀ (ww : World) (n : Nat), n = ww.heap.size → (ww.alloc (.cells #[.string ⟨#[97, 112, 97, 114, 116]⟩, .string ⟨#[106, 111, 105, 110]⟩] 9)).cell? ⟨n, i4, none⟩ = some (.string x4) := row_cell_at (beamsW.map Value.string) (.string x4) i4 (by rw [List.getElem?_map, hx]; rfl)
              have m4 : IntKind.i64.wrap ((i4 : Int) + 1 - 1) = (i4 : Int) := by rw [show (i4 : Int) + 1 - 1 = i4 by omega]; exact IntWalk.i64_in _ (by have : beamsW.length = 2 := rfl; omega)
              have u4 : (0 : Int) ≤ (i4 : Int) := by omega
              have v4 : (i4 : Int) < 2 := by have : beamsW.length = 2 := rfl; omega
              have y4 : (0 : Int) < (i4 : Int) + 1 := by omega
              clear hx hi
              clear SZ
              go_wp2
              go_ret
              exact ⟨rfl, ((((Below.refl _ w).alloc (Nat.le_refl _) _).alloc (by simp) _).alloc (by simp; omega) _).alloc (by simp; omega) _⟩
          · have q3 : ∀ (ww : World) (n : Nat), n = ww.heap.size → (ww.alloc (.cells #[.string ⟨#[117, 112]⟩, .string ⟨#[100, 111, 119, 110]⟩] 9)).cell? ⟨n, i3, none⟩ = some (.string x3) := row_cell_at (stemsW.map Value.string) (.string x3) i3 (by rw [List.getElem?_map, hx]; rfl)
            have m3 : IntKind.i64.wrap ((i3 : Int) + 1 - 1) = (i3 : Int) := by rw [show (i3 : Int) + 1 - 1 = i3 by omega]; exact IntWalk.i64_in _ (by have : stemsW.length = 2 := rfl; omega)
            have u3 : (0 : Int) ≤ (i3 : Int) := by omega
            have v3 : (i3 : Int) < 2 := by have : stemsW.length = 2 := rfl; omega
            have y3 : (0 : Int) < (i3 : Int) + 1 := by omega
            clear hx hi
            rcases k4 with ⟨rfl, rfl⟩ | ⟨i4, x4, s4, rfl, hi, hx, p4, r4⟩
            · skip
              clear SZ
              go_wp2
              go_ret
              exact ⟨rfl, ((((Below.refl _ w).alloc (Nat.le_refl _) _).alloc (by simp) _).alloc (by simp; omega) _).alloc (by simp; omega) _⟩
            · have q4 : ∀ (ww : World) (n : Nat), n = ww.heap.size → (ww.alloc (.cells #[.string ⟨#[97, 112, 97, 114, 116]⟩, .string ⟨#[106, 111, 105, 110]⟩] 9)).cell? ⟨n, i4, none⟩ = some (.string x4) := row_cell_at (beamsW.map Value.string) (.string x4) i4 (by rw [List.getElem?_map, hx]; rfl)
              have m4 : IntKind.i64.wrap ((i4 : Int) + 1 - 1) = (i4 : Int) := by rw [show (i4 : Int) + 1 - 1 = i4 by omega]; exact IntWalk.i64_in _ (by have : beamsW.length = 2 := rfl; omega)
              have u4 : (0 : Int) ≤ (i4 : Int) := by omega
              have v4 : (i4 : Int) < 2 := by have : beamsW.length = 2 := rfl; omega
              have y4 : (0 : Int) < (i4 : Int) + 1 := by omega
              clear hx hi
              clear SZ
              go_wp2
              go_ret
              exact ⟨rfl, (((((Below.refl _ w).alloc (Nat.le_refl _) _).alloc (by simp) _).alloc (by simp; omega) _).alloc (by simp; omega) _).alloc (by simp; omega) _⟩
      · have q1 : ∀ (ww : World) (n : Nat), n = ww.heap.size → (ww.alloc (.cells #[.string ⟨#[116, 114, 105, 108, 108]⟩, .string ⟨#[109, 111, 114, 100, 101, 110, 116]⟩, .string ⟨#[105, 110, 118, 101, 114, 115, 101]⟩, .string ⟨#[116, 117, 114, 110]⟩] 9)).cell? ⟨n, i1, none⟩ = some (.string x1) := row_cell_at (ornsW.map Value.string) (.string x1) i1 (by rw [List.getElem?_map, hx]; rfl)
        have m1 : IntKind.i64.wrap ((i1 : Int) + 1 - 1) = (i1 : Int) := by rw [show (i1 : Int) + 1 - 1 = i1 by omega]; exact IntWalk.i64_in _ (by have : ornsW.length = 4 := rfl; omega)
        have u1 : (0 : Int) ≤ (i1 : Int) := by omega
        have v1 : (i1 : Int) < 4 := by have : ornsW.length = 4 := rfl; omega
        have y1 : (0 : Int) < (i1 : Int) + 1 := by omega
        clear hx hi
        rcases k2 with ⟨rfl, rfl⟩ | ⟨i2, x2, s2, rfl, hi, hx, p2, r2⟩
        · skip
          rcases k3 with ⟨rfl, rfl⟩ | ⟨i3, x3, s3, rfl, hi, hx, p3, r3⟩
          · skip
            rcases k4 with ⟨rfl, rfl⟩ | ⟨i4, x4, s4, rfl, hi, hx, p4, r4⟩
            · skip
              clear SZ
              go_wp2
              go_ret
              exact ⟨rfl, (((Below.refl _ w).alloc (Nat.le_refl _) _).alloc (by simp) _).alloc (by simp; omega) _⟩
            · have q4 : ∀ (ww : World) (n : Nat), n = ww.heap.size → (ww.alloc (.cells #[.string ⟨#[97, 112, 97, 114, 116]⟩, .string ⟨#[106, 111, 105, 110]⟩] 9)).cell? ⟨n, i4, none⟩ = some (.string x4) := row_cell_at (beamsW.map Value.string) (.string x4) i4 (by rw [List.getElem?_map, hx]; rfl)
              have m4 : IntKind.i64.wrap ((i4 : Int) + 1 - 1) = (i4 : Int) := by rw [show (i4 : Int) + 1 - 1 = i4 by omega]; exact IntWalk.i64_in _ (by have : beamsW.length = 2 := rfl; omega)
              have u4 : (0 : Int) ≤ (i4 : Int) := by omega
              have v4 : (i4 : Int) < 2 := by have : beamsW.length = 2 := rfl; omega
              have y4 : (0 : Int) < (i4 : Int) + 1 := by omega
              clear hx hi
              clear SZ
              go_wp2
              go_ret
              exact ⟨rfl, ((((Below.refl _ w).alloc (Nat.le_refl _) _).alloc (by simp) _).alloc (by simp; omega) _).alloc (by simp; omega) _⟩
          · have q3 : ∀ (ww : World) (n : Nat), n = ww.heap.size → (ww.alloc (.cells #[.string ⟨#[117, 112]⟩, .string ⟨#[100, 111, 119, 110]⟩] 9)).cell? ⟨n, i3, none⟩ = some (.string x3) := row_cell_at (stemsW.map Value.string) (.string x3) i3 (by rw [List.getElem?_map, hx]; rfl)
            have m3 : IntKind.i64.wrap ((i3 : Int) + 1 - 1) = (i3 : Int) := by rw [show (i3 : Int) + 1 - 1 = i3 by omega]; exact IntWalk.i64_in _ (by have : stemsW.length = 2 := rfl; omega)
            have u3 : (0 : Int) ≤ (i3 : Int) := by omega
            have v3 : (i3 : Int) < 2 := by have : stemsW.length = 2 := rfl; omega
            have y3 : (0 : Int) < (i3 : Int) + 1 := by omega
            clear hx hi
            rcases k4 with ⟨rfl, rfl⟩ | ⟨i4, x4, s4, rfl, hi, hx, p4, r4⟩
            · skip
              clear SZ
              go_wp2
              go_ret
              exact ⟨rfl, ((((Below.refl _ w).alloc (Nat.le_refl _) _).alloc (by simp) _).alloc (by simp; omega) _).alloc (by simp; omega) _⟩
            · have q4 : ∀ (ww : World) (n : Nat), n = ww.heap.size → (ww.alloc (.cells #[.string ⟨#[97, 112, 97, 114, 116]⟩, .string ⟨#[106, 111, 105, 110]⟩] 9)).cell? ⟨n, i4, none⟩ = some (.string x4) := row_cell_at (beamsW.map Value.string) (.string x4) i4 (by rw [List.getElem?_map, hx]; rfl)
              have m4 : IntKind.i64.wrap ((i4 : Int) + 1 - 1) = (i4 : Int) := by rw [show (i4 : Int) + 1 - 1 = i4 by omega]; exact IntWalk.i64_in _ (by have : beamsW.length = 2 := rfl; omega)
              have u4 : (0 : Int) ≤ (i4 : Int) := by omega
              have v4 : (i4 : Int) < 2 := by have : beamsW.length = 2 := rfl; omega
              have y4 : (0 : Int) < (i4 : Int) + 1 := by omega
              clear hx hi
              clear SZ
              go_wp2
              go_ret
              exact ⟨rfl, (((((Below.refl _ w).alloc (Nat.le_refl _) _).alloc (by simp) _).alloc (by simp; omega) _).alloc (by simp; omega) _).alloc (by simp; omega) _⟩
        · have q2 : ∀ (ww : World) (n : Nat), n = ww.heap.size → (ww.alloc (.cells #[.string ⟨#[112, 112, 112]⟩, .string ⟨#[112, 112]⟩, .string ⟨#[112]⟩, .string ⟨#[109, 112]⟩, .string ⟨#[109, 102]⟩, .string ⟨#[102]⟩, .string ⟨#[102, 102]⟩, .string ⟨#[102, 102, 102]⟩, .string ⟨#[115, 102, 122]⟩] 9)).cell? ⟨n, i2, none⟩ = some (.string x2) := row_cell_at (dynsW.map Value.string) (.string x2) i2 (by rw [List.getElem?_map, hx]; rfl)
          have m2 : IntKind.i64.wrap ((i2 : Int) + 1 - 1) = (i2 : Int) := by rw [show (i2 : Int) + 1 - 1 = i2 by omega]; exact IntWalk.i64_in _ (by have : dynsW.length = 9 := rfl; omega)
          have u2 : (0 : Int) ≤ (i2 : Int) := by omega
          have v2 : (i2 : Int) < 9 := by have : dynsW.length = 9 := rfl; omega
          have y2 : (0 : Int) < (i2 : Int) + 1 := by omega
          clear hx hi
          rcases k3 with ⟨rfl, rfl⟩ | ⟨i3, x3, s3, rfl, hi, hx, p3, r3⟩
          · skip
            rcases k4 with ⟨rfl, rfl⟩ | ⟨i4, x4, s4, rfl, hi, hx, p4, r4⟩
            · skip
              clear SZ
              go_wp2
              go_ret
              exact ⟨rfl, ((((Below.refl _ w).alloc (Nat.le_refl _) _).alloc (by simp) _).alloc (by simp; omega) _).alloc (by simp; omega) _⟩
            · have q4 : ∀ (ww : World) (n : Nat), n = ww.heap.size → (ww.alloc (.cells #[.string ⟨#[97, 112, 97, 114, 116]⟩, .string ⟨#[106, 111, 105, 110]⟩] 9)).cell? ⟨n, i4, none⟩ = some (.string x4) := row_cell_at (beamsW.map Value.string) (.string x4) i4 (by rw [List.getElem?_map, hx]; rfl)
              have m4 : IntKind.i64.wrap ((i4 : Int) + 1 - 1) = (i4 : Int) := by rw [show (i4 : Int) + 1 - 1 = i4 by omega]; exact IntWalk.i64_in _ (by have : beamsW.length = 2 := rfl; omega)
              have u4 : (0 : Int) ≤ (i4 : Int) := by omega
              have v4 : (i4 : Int) < 2 := by have : beamsW.length = 2 := rfl; omega
              have y4 : (0 : Int) < (i4 : Int) + 1 := by omega
              clear hx hi
              clear SZ
              go_wp2
              go_ret
              exact ⟨rfl, (((((Below.refl _ w).alloc (Nat.le_refl _) _).alloc (by simp) _).alloc (by simp; omega) _).alloc (by simp; omega) _).alloc (by simp; omega) _⟩
          · have q3 : ∀ (ww : World) (n : Nat), n = ww.heap.size → (ww.alloc (.cells #[.string ⟨#[117, 112]⟩, .string ⟨#[100, 111, 119, 110]⟩] 9)).cell? ⟨n, i3, none⟩ = some (.string x3) := row_cell_at (stemsW.map Value.string) (.string x3) i3 (by rw [List.getElem?_map, hx]; rfl)
            have m3 : IntKind.i64.wrap ((i3 : Int) + 1 - 1) = (i3 : Int) := by rw [show (i3 : Int) + 1 - 1 = i3 by omega]; exact IntWalk.i64_in _ (by have : stemsW.length = 2 := rfl; omega)
            have u3 : (0 : Int) ≤ (i3 : Int) := by omega
            have v3 : (i3 : Int) < 2 := by have : stemsW.length = 2 := rfl; omega
            have y3 : (0 : Int) < (i3 : Int) + 1 := by omega
            clear hx hi
            rcases k4 with ⟨rfl, rfl⟩ | ⟨i4, x4, s4, rfl, hi, hx, p4, r4⟩
            · skip
              clear SZ
              go_wp2
              go_ret
              exact ⟨rfl, (((((Below.refl _ w).alloc (Nat.le_refl _) _).alloc (by simp) _).alloc (by simp; omega) _).alloc (by simp; omega) _).alloc (by simp; omega) _⟩
            · have q4 : ∀ (ww : World) (n : Nat), n = ww.heap.size → (ww.alloc (.cells #[.string ⟨#[97, 112, 97, 114, 116]⟩, .string ⟨#[106, 111, 105, 110]⟩] 9)).cell? ⟨n, i4, none⟩ = some (.string x4) := row_cell_at (beamsW.map Value.string) (.string x4) i4 (by rw [List.getElem?_map, hx]; rfl)
              have m4 : IntKind.i64.wrap ((i4 : Int) + 1 - 1) = (i4 : Int) := by rw [show (i4 : Int) + 1 - 1 = i4 by omega]; exact IntWalk.i64_in _ (by have : beamsW.length = 2 := rfl; omega)
              have u4 : (0 : Int) ≤ (i4 : Int) := by omega
              have v4 : (i4 : Int) < 2 := by have : beamsW.length = 2 := rfl; omega
              have y4 : (0 : Int) < (i4 : Int) + 1 := by omega
              clear hx hi
              clear SZ
              go_wp2
              go_ret
              exact ⟨rfl, ((((((Below.refl _ w).alloc (Nat.le_refl _) _).alloc (by simp) _).alloc (by simp; omega) _).alloc (by simp; omega) _).alloc (by simp; omega) _).alloc (by simp; omega) _⟩
end Go.Proofs.YtholnnabakaliaaGreatDoor
