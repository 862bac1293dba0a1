/-
  A part of the proof that the law ParserNests (chapter 19) returns true for every depth and every list of notes: walks of the program's functions, and runs of them in the kernel by the own evaluator.
-/
import Derived.Test.YtmoddgkjaimpfaaGreatDoorNsa
import Derived.Test.YtmoddgkjaimpfaaGreatDoorSca
import Derived.Deep.LoopGhost
namespace Go.Proofs.YtmoddgkjaimpfaaGreatDoor
open Go.RowKit

theorem nest_voice (l : List (Nat × Bool)) (hl : l.length ≤ 20) (h3 : ∀ p ∈ l, p.1 ≤ 3) (w : World) :
    Calls Tryz.prog 4 #[.string (mk (nestT l))] w fun r w' => Below w.heap.size w w' ∧ ∃ ao c tu, r = .returned (.tuple #[.agg #[.slice ao (cnt l) c, tu], .int .i64 0, .int .i64 0, .int .i64 0]) ∧ w'.ownsRow 0 25 4 tu l.length (tupCells (tups 0 l)) := by
  obtain ⟨toks, hx, hT⟩ := nest_lx l
  have hP := nestP_len l h3
  have hN := nestT_len l h3
  have hC := (cnt_le l h3).2
  have hps : (nestP l ++ [endP]).length ≤ 1000 := by rw [List.length_append]; simp; omega
  obtain ⟨n, h1, h2, hi⟩ := nest_items hT hps l 0 0 [] [endP] rfl ⟨_, _, rfl, rfl, by decide, by decide, by decide⟩ (by omega) (by simp; omega)
  simp only [Nat.zero_add, List.nil_append] at hi
  obtain ⟨t, ht, hk, -⟩ := hT.2 (nestP l).length endP (by simp)
  have hm : ∀ x ∈ (mk (nestT l)).data.toList, x ≠ 10 := fun x hx => nest_bytes l x (by simpa [mk] using hx)
  have := voice_top hx (by rw [mk_size]; omega) (fun k h e => hm _ (List.mem_of_getElem? (at_list k h)) (UInt8.toNat_inj.1 (by show _ = 10; omega))) (by rw [hT.1]; omega) (by omega) hi ht hk (end_stop hk) w
  rw [tups_len] at this
  exact this

theorem own_is {w : World} {B : Nat} {T : TypeId} {size : Nat} {v : Value} {n : Nat} {xs : List Value} (h : w.ownsRow B T size v n xs) : ∃ ao c, v = .slice ao n c := by
  rcases h.2 with ⟨hv, h0⟩ | ⟨g, cap, cur, hv, _⟩
  · exact ⟨none, 0, by rw [hv, h0]⟩
  · exact ⟨_, _, hv⟩

/-- How many notes tuplet i begins with, and whether one follows it. -/
def cOf (nb : Nat → Int) (L i : Nat) : Nat := if i < L then (nb i).toNat % 4 else 0
def bOf (nb : Nat → Int) (L i : Nat) : Bool := decide (i < L) && decide (127 < nb i)
def lv (nb : Nat → Int) (L n : Nat) : List (Nat × Bool) := (List.range n).map fun i => (cOf nb L i, bOf nb L i)
theorem lv_succ (nb : Nat → Int) (L n : Nat) : lv nb L (n + 1) = lv nb L n ++ [(cOf nb L n, bOf nb L n)] := by simp [lv, List.range_succ]
theorem lv_len (nb : Nat → Int) (L n : Nat) : (lv nb L n).length = n := by simp [lv]
theorem lv_le (nb : Nat → Int) (L n : Nat) : ∀ p ∈ lv nb L n, p.1 ≤ 3 := by
  intro p hp
  obtain ⟨i, -, rfl⟩ := List.mem_map.1 hp
  simp only [cOf]
  split <;> omega
def post (nb : Nat → Int) (L n j : Nat) : List (Nat × Bool) := (lv nb L n).drop j
theorem post_all (nb : Nat → Int) (L n : Nat) : post nb L n n = [] := by
  unfold post
  rw [List.drop_eq_nil_iff, lv_len]
  exact Nat.le_refl _
theorem post_cons {nb : Nat → Int} {L n j : Nat} (h : j < n) : post nb L n j = (cOf nb L j, bOf nb L j) :: post nb L n (j + 1) := by
  unfold post
  have hlt : j < (lv nb L n).length := by rw [lv_len]; exact h
  rw [List.drop_eq_getElem_cons hlt]
  congr 1
  simp [lv]

theorem below_grown {B : Nat} {w w1 w2 : World} {row : Option Nat} (h : Below B w w1) (hB : B ≤ w1.heap.size) (hg : w1.grownBy w2 row) (hr : ∀ k, row = some k → B ≤ k) : Below B w w2 :=
  ⟨hg.os.trans h.os, hg.tape.trans h.tape, hg.output.trans h.output, Nat.le_trans h.size hg.size, fun k hk => (hg.block k (Nat.lt_of_lt_of_le hk hB) (fun e => by
    have := hr k e.symm
    omega)).trans (h.block k hk)⟩

theorem tupCells_at0 (ts : List (Int × Int)) (p : Int × Int) (rest : List (Int × Int)) : (tupCells (ts ++ p :: rest))[ts.length * 4]? = some (.int .i64 p.1) := by
  have h : tupCells (ts ++ p :: rest) = tupCells ts ++ ([.int .i64 p.1, .int .i64 p.2, .int .i64 3, .int .i64 2] ++ tupCells rest) := by simp [tupCells]
  rw [h, List.getElem?_append_right (by rw [tupCells_len]; omega), tupCells_len, show ts.length * 4 - 4 * ts.length = 0 by omega]
  rfl

theorem tupCells_get : ∀ (ts : List (Int × Int)) (j : Nat), j < ts.length → ∃ f c : Int, (tupCells ts)[j * 4]? = some (.int .i64 f) ∧ (tupCells ts)[j * 4 + 1]? = some (.int .i64 c) ∧ (tupCells ts)[j * 4 + 2]? = some (.int .i64 3) ∧ (tupCells ts)[j * 4 + 3]? = some (.int .i64 2)
  | [], j, h => absurd h (by simp)
  | p :: ts, 0, _ => ⟨p.1, p.2, rfl, rfl, rfl, rfl⟩
  | p :: ts, j + 1, h => by
    obtain ⟨f, c, h0, h1, h2, h3⟩ := tupCells_get ts j (by simpa using h)
    have e : ∀ k, (tupCells (p :: ts))[(j + 1) * 4 + k]? = (tupCells ts)[j * 4 + k]? := fun k => by
      rw [show (j + 1) * 4 + k = (j * 4 + k) + 1 + 1 + 1 + 1 by omega]
      rfl
    exact ⟨f, c, by rw [← Nat.add_zero ((j + 1) * 4), e]; exact h0, by rw [e]; exact h1, by rw [e]; exact h2, by rw [e]; exact h3⟩

/-- The tuplets behind the closing of tuplet q. -/
theorem close_tups {nb : Nat → Int} {L n q : Nat} (h : q < n) : ups 0 (lv nb L q) ++ (((sumC (lv nb L q) : Nat) : Int), ((cOf nb L q + cnt (post nb L n (q + 1)) : Nat) : Int)) :: tups (sumC (lv nb L (q + 1))) (post nb L n (q + 1)) = ups 0 (lv nb L q) ++ tups (sumC (lv nb L q)) (post nb L n q) := by
  rw [post_cons h, lv_succ, sumC_more]
  rfl
theorem close_text {nb : Nat → Int} {L n q : Nat} (h : q < n) : upT (lv nb L (q + 1)) ++ nestT (post nb L n (q + 1)) ++ (pW ++ eIf (bOf nb L q)) = upT (lv nb L q) ++ nestT (post nb L n q) := by
  rw [post_cons h, lv_succ, upT_more]
  simp [nestT]
theorem close_count {nb : Nat → Int} {L n q : Nat} (h : q < n) : sumC (lv nb L (q + 1)) + cnt (post nb L n (q + 1)) + (if bOf nb L q then 1 else 0) = sumC (lv nb L q) + cnt (post nb L n q) := by
  rw [post_cons h, lv_succ, sumC_more]
  simp only [cnt]
  omega

/-- A text, a number, named without a rule to turn them. -/
def TxtIs (z : ByteArray) (l : List UInt8) : Prop := z = mk l
def NumIs (x : Int) (n : Nat) : Prop := x = (n : Int)
theorem TxtIs.add {z : ByteArray} {l m : List UInt8} (h : TxtIs z l) : TxtIs (z ++ ⟨m.toArray⟩) (l ++ m) := by
  unfold TxtIs at *
  rw [h, ← mk_add]; rfl
theorem TxtIs.size {z : ByteArray} {l : List UInt8} (h : TxtIs z l) : z.size = l.length := by
  unfold TxtIs at h
  rw [h, mk_size]
theorem NumIs.add {x : Int} {n : Nat} (h : NumIs x n) : NumIs (x + 1) (n + 1) := by
  unfold NumIs at *
  omega
theorem NumIs.lo {x : Int} {n : Nat} (h : NumIs x n) : 0 ≤ x := by
  unfold NumIs at *
  omega
theorem NumIs.hi {x : Int} {n : Nat} (h : NumIs x n) : x ≤ n := by
  unfold NumIs at *
  omega

set_option maxHeartbeats 32000000 in
set_option maxRecDepth 1000000 in
theorem law_walk (hkn : ∀ w, Calls Tryz.prog 5 #[] w fun e w' => e = .returned (.bool true) ∧ Below w.heap.size w w') (d : Int) (d0 : 0 ≤ d) (ao : Option Addr) (L cap : Nat) (nb : Nat → Int) (w : World)
    (hnb : ∀ i, i < L → ∃ a, ao = some a ∧ w.cell? (a.add i) = some (.int .u8 (nb i)) ∧ 0 ≤ nb i ∧ nb i ≤ 255) :
    Calls Tryz.prog 3 #[.int .u8 d, .slice ao L cap] w fun e w' => e = .returned (.bool true) ∧ Below w.heap.size w w' := by
  obtain ⟨n0, hne⟩ : ∃ n : Nat, d.tmod 20 = n := ⟨(d.tmod 20).toNat, by have : 0 ≤ d.tmod 20 := Int.tmod_nonneg 20 d0; omega⟩
  have hn0 : n0 ≤ 19 := by have : d.tmod 20 = d % 20 := Int.tmod_eq_emod_of_nonneg d0; omega
  obtain ⟨n, hn⟩ : ∃ n : Nat, n = n0 + 1 := ⟨_, rfl⟩
  have m1 : IntKind.u8.wrap (n0 : Int) = n0 := IntWalk.u8_in _ (by omega)
  have m2 : IntKind.i64.wrap (n0 : Int) = n0 := IntWalk.i64_in _ (by omega)
  have m3 : IntKind.i64.wrap (1 + (n0 : Int)) = (n : Int) := by rw [hn, show ((n0 + 1 : Nat) : Int) = 1 + (n0 : Int) by omega]; exact IntWalk.i64_in _ (by omega)
  have hn20 : n ≤ 20 := by omega
  have hn1 : 1 ≤ n := by omega
  clear hn
  obtain ⟨i0, hi0, hz0, hz1, hz2⟩ := info_parts Tryz.infoTuplet
  go_enter Tryz.func3, Tryz.ntmps3
  go_wp2
  go_loopg [6, 7, 8, 9] (n + 1) (fun g v6 v7 v8 v9 wr => ∃ (i : Nat) (z : ByteArray) (x : Int), i ≤ n ∧ g = n + 1 - i ∧ v6 = .string z ∧ TxtIs z (upT (lv nb L i)) ∧ v8 = .int .i64 x ∧ NumIs x (sumC (lv nb L i)) ∧ v9 = .int .i64 (i : Nat) ∧ Below w.heap.size w wr ∧ wr.ownsRow w.heap.size 25 4 v7 i (tupCells (ups 0 (lv nb L i))))
  case atStart => exact ⟨0, _, _, Nat.zero_le _, rfl, rfl, rfl, rfl, rfl, rfl, Below.refl _ _, World.ownsRow_nil _ _ _ _⟩
  case round =>
    obtain ⟨i, z, x, hi, hg, rfl, hz, rfl, hx, rfl, hb, hown⟩ := hrel
    obtain ⟨wo, wc, rfl⟩ := own_is hown
    have hsz := hb.size
    have hle := (cnt_le (lv nb L i) (lv_le nb L i)).1
    have htl := upT_len (lv nb L i) (lv_le nb L i)
    rw [lv_len] at hle htl
    have hzs := hz.size
    have hx0 := hx.lo
    have hx1 := hx.hi
    by_cases hlt : i < n
    · have hlt' : (i : Int) < n := by omega
      have g1 := fun w => add_run z ⟨#[40, 51, 58, 50, 32]⟩ (by omega) (by decide) w
      go_wp2_with (at_builtin; refine wpList_append_lies _ rfl _ _ 23 rfl w.heap.size 25 i0 _ 4 32 Tryz.underlying23 hi0 hz0 hz1 hz2 rfl (by omega) (.slice wo i wc) i (tupCells (ups 0 (lv nb L i))) rfl (hown.alloc _) ⟨wr.heap.size, 0, none⟩ 1 1 [.int .i64 x, .int .i64 0, .int .i64 3, .int .i64 2] rfl rfl (World.news_of_block (cs := #[.int .i64 x, .int .i64 0, .int .i64 3, .int .i64 2]) (t := 25) (fr := (0, 0)) (heap_alloc_new _ _)) (by simp [Value.oneCell']) (by omega) (by unfold maxLen; omega) (by omega) (by simp; omega) (wr.heap.size + 1) (by simp) ?_; intro gg wcap w1 hown1 hgrow hat hgl)
      have b1 : Below w.heap.size w w1 := below_grown (hb.alloc hsz _) (by simp; omega) hgrow (fun k hk => (hown.lt k hk).1)
      have hz2 := hz.add (m := [40, 51, 58, 50, 32])
      have hzs2 := hz2.size
      rw [← show tupCells (ups 0 (lv nb L (i + 1))) = tupCells (ups 0 (lv nb L i)) ++ [.int .i64 x, .int .i64 0, .int .i64 3, .int .i64 2] by rw [lv_succ, ups_more, tupCells_more]; unfold NumIs at hx; simp [hx]] at hown1
      generalize z ++ (⟨([40, 51, 58, 50, 32] : List UInt8).toArray⟩ : ByteArray) = zz at hz2 hzs2 ⊢
      clear g1 hgrow hat hgl hb hown hz hzs
      obtain ⟨c, hc⟩ : ∃ c, cOf nb L i = c := ⟨_, rfl⟩
      have hc3 : c ≤ 3 := by rw [← hc]; unfold cOf; split <;> omega
      have hcase : (i < L ∧ ∃ a, ao = some a ∧ w1.cell? (a.add i) = some (.int .u8 (nb i)) ∧ (nb i).tmod 4 = (c : Int)) ∨ (¬ i < L ∧ c = 0) := by
        by_cases hiL : i < L
        · obtain ⟨a, ha, hcell, z0, z1⟩ := hnb i hiL
          refine .inl ⟨hiL, a, ha, (b1.cell (World.block_lt_of_cell? w _ hcell)).trans hcell, ?_⟩
          rw [← hc, cOf, if_pos hiL, Int.tmod_eq_emod_of_nonneg z0]
          omega
        · refine .inr ⟨hiL, ?_⟩
          rw [← hc, cOf, if_neg hiL]
      have mc1 : IntKind.u8.wrap (c : Int) = c := IntWalk.u8_in _ (by omega)
      have mc2 : IntKind.i64.wrap (c : Int) = c := IntWalk.i64_in _ (by omega)
      have hi0' : (0 : Int) ≤ (i : Int) := by omega
      go_loopg [6, 8, 10] (c + 1) (fun g v6 v8 v10 w2 => ∃ (k : Nat) (z : ByteArray) (x : Int), k ≤ c ∧ g = c + 1 - k ∧ v6 = .string z ∧ TxtIs z (upT (lv nb L i) ++ [40, 51, 58, 50, 32] ++ notesT k) ∧ v8 = .int .i64 x ∧ NumIs x (sumC (lv nb L i) + k) ∧ v10 = .int .i64 (k : Nat) ∧ w2 = w1)
      case atStart => exact ⟨0, zz, x, Nat.zero_le _, rfl, rfl, by simpa [notesT] using hz2, rfl, hx, rfl, rfl⟩
      case round =>
        clear hzs2 hz2 hx hx0 hx1
        obtain ⟨k, z, x, hk, hgk, rfl, hz, rfl, hx, rfl, rfl⟩ := hrel
        have hzs := hz.size
        have hnk := notesT_len k
        rw [List.length_append, List.length_append, hnk, show ([40, 51, 58, 50, 32] : List UInt8).length = 5 from rfl] at hzs
        have hx0 := hx.lo
        have hx1 := hx.hi
        by_cases hkc : k < c
        · rcases hcase with ⟨hiL, a, rfl, hcell, hq⟩ | ⟨hiL, h0⟩
          · have hiL' : (i : Int) < (L : Int) := by omega
            have hkc' : (k : Int) < (c : Int) := by omega
            have g2 := fun w => add_run z ⟨#[67, 52, 58, 56, 32]⟩ (by omega) (by decide) w
            have m4 : IntKind.i64.wrap (x + 1) = x + 1 := IntWalk.i64_in _ (by omega)
            have m5 : IntKind.i64.wrap ((k : Int) + 1) = (k : Int) + 1 := IntWalk.i64_in _ (by omega)
            go_wp2
            go_roundg (c + 1 - (k + 1))
            case measure => omega
            case rel => exact ⟨k + 1, _, _, by omega, rfl, rfl, by rw [notesT_succ, ← List.append_assoc]; exact hz.add (m := cW), rfl, hx.add, by simp, by simp⟩
          · omega
        · obtain rfl : k = c := by omega
          have m6 : IntKind.i64.wrap ((i : Int) + 1) = (i : Int) + 1 := IntWalk.i64_in _ (by omega)
          have hzf : TxtIs z (upT (lv nb L (i + 1))) := by
            rw [lv_succ, upT_more, hc, ← List.append_assoc]; exact hz
          have hxf : NumIs x (sumC (lv nb L (i + 1))) := by
            rw [lv_succ, sumC_more, hc]; exact hx
          rcases hcase with ⟨hiL, a, rfl, hcell, hq⟩ | ⟨hiL, h0⟩
          · have hiL' : (i : Int) < (L : Int) := by omega
            go_wp2
            go_roundg (n + 1 - (i + 1))
            case measure => omega
            case rel => exact ⟨i + 1, z, x, by omega, rfl, rfl, hzf, rfl, hxf, by simp, b1, hown1⟩
          · have hiL' : ¬ (i : Int) < (L : Int) := by omega
            go_wp2
            go_roundg (n + 1 - (i + 1))
            case measure => omega
            case rel => exact ⟨i + 1, z, x, by omega, rfl, rfl, hzf, rfl, hxf, by simp, b1, hown1⟩
    · obtain rfl : i = n := by omega
      have g3 := fun w => add_run z ⟨#[68, 52, 58, 49, 54, 32]⟩ (by omega) (by decide) w
      have hz3 := hz.add (m := dW)
      have hx3 := hx.add
      have m7 : IntKind.i64.wrap (x + 1) = x + 1 := IntWalk.i64_in _ (by omega)
      have m8 : IntKind.i64.wrap ((i : Int) - 1) = (i : Int) - 1 := IntWalk.i64_in _ (by omega)
      obtain ⟨gw, cw, e, _, _⟩ := hown.form (by omega)
      injection e with e1 _ e2
      subst e1 e2
      have hz4 : TxtIs (z ++ ⟨#[68, 52, 58, 49, 54, 32]⟩) (upT (lv nb L i) ++ nestT (post nb L i i)) := by rw [post_all]; exact hz3
      have hx4 : NumIs (x + 1) (sumC (lv nb L i) + cnt (post nb L i i)) := by rw [post_all]; exact hx3
      have hown4 : wr.ownsRow w.heap.size 25 4 (.slice (some ⟨gw, 0, none⟩) i wc) i (tupCells (ups 0 (lv nb L i) ++ tups (sumC (lv nb L i)) (post nb L i i))) := by rw [post_all]; simpa [tups] using hown
      go_wp2
      go_loopg [6, 8, 11] (i + 1) (fun g v6 v8 v11 w2 => ∃ (j : Nat) (z : ByteArray) (x y : Int), j ≤ i ∧ g = j + 1 ∧ v6 = .string z ∧ TxtIs z (upT (lv nb L j) ++ nestT (post nb L i j)) ∧ v8 = .int .i64 x ∧ NumIs x (sumC (lv nb L j) + cnt (post nb L i j)) ∧ v11 = .int .i64 y ∧ y = (j : Int) - 1 ∧ Below w.heap.size w w2 ∧ w2.ownsRow w.heap.size 25 4 (.slice (some ⟨gw, 0, none⟩) i wc) i (tupCells (ups 0 (lv nb L j) ++ tups (sumC (lv nb L j)) (post nb L i j))))
      case atStart => exact ⟨i, _, _, _, Nat.le_refl _, rfl, rfl, hz4, rfl, hx4, rfl, rfl, hb, hown4⟩
      case round =>
        clear hz4 hx4 hown4 hz3 hx3 g3 m7 hz hx hx0 hx1 hzs hown hb hle htl m8 hsz
        obtain ⟨j, z, x, y, hj, hg, rfl, hz, rfl, hx, rfl, hy, hb, hown⟩ := hrel
        have hsz := hb.size
        have hle := cnt_le (post nb L i j) (fun p hp => lv_le nb L i p (List.mem_of_mem_drop hp))
        have hle2 := (cnt_le (lv nb L j) (lv_le nb L j)).1
        have htl := upT_len (lv nb L j) (lv_le nb L j)
        have htl2 := nestT_len (post nb L i j) (fun p hp => lv_le nb L i p (List.mem_of_mem_drop hp))
        have hpl : (post nb L i j).length ≤ 20 := by rw [post, List.length_drop, lv_len]; omega
        rw [lv_len] at htl hle2
        have hzs := hz.size
        rw [List.length_append] at hzs
        have hx0 := hx.lo
        have hx1 := hx.hi
        cases j with
        | zero =>
          have hy0 : ¬ (0 : Int) ≤ y := by omega
          clear hy
          have hz7 : z = mk (nestT (lv nb L i)) := by
            have : upT (lv nb L 0) ++ nestT (post nb L i 0) = nestT (lv nb L i) := rfl
            rw [this] at hz; exact hz
          have hx7 : x = (cnt (lv nb L i) : Nat) := by
            have : sumC (lv nb L 0) + cnt (post nb L i 0) = cnt (lv nb L i) := by simp [lv, post, sumC]
            rw [this] at hx; exact hx
          have hts : ups 0 (lv nb L 0) ++ tups (sumC (lv nb L 0)) (post nb L i 0) = tups 0 (lv nb L i) := rfl
          rw [hts] at hown
          have hv := nest_voice (lv nb L i) (by rw [lv_len]; omega) (lv_le nb L i) wr
          rw [lv_len, ← hz7, ] at hv
          clear hz hx hz7 hle hle2 htl htl2 hpl hzs hg
          generalize cnt (lv nb L i) = C at hv hx7
          subst hx7
          have htl : (tups 0 (lv nb L i)).length = i := by rw [tups_len, lv_len]
          generalize tups 0 (lv nb L i) = ts at hown hv htl
          go_wp2_with (go_at_call 4; refine hv.mono ?_)
          intro r w3 b3 ao2 c2 tu hr htu
          subst hr
          obtain ⟨gt, ct, rfl, _, lgt⟩ := htu.form (by omega)
          have hown3 := own_step hown fun k hk => b3.block k (hown.lt k hk).2
          have lgw := (hown3.lt gw rfl).2
          have bb3 := hb.trans (b3.mono hsz)
          have sz3 := bb3.size
          clear hv hown b3 hb
          have bb4 := bb3.alloc sz3 (.cells #[.slice ao2 C c2, .slice (some ⟨gt, 0, none⟩) i ct] 28)
          have hB := heap_alloc_new w3 (.cells #[.slice ao2 C c2, .slice (some ⟨gt, 0, none⟩) i ct] 28)
          have htu4 := htu.alloc (.cells #[.slice ao2 C c2, .slice (some ⟨gt, 0, none⟩) i ct] 28)
          have hown4 := hown3.alloc (.cells #[.slice ao2 C c2, .slice (some ⟨gt, 0, none⟩) i ct] 28)
          have hk4 := hkn (w3.alloc (.cells #[.slice ao2 C c2, .slice (some ⟨gt, 0, none⟩) i ct] 28))
          clear htu hown3 bb3
          go_wp2_with (go_at_call 5; refine hk4.mono ?_)
          clear hk4
          intro r w5; first | (intro he5 b5; subst he5) | rintro ⟨rfl, b5⟩
          have bb5 := bb4.trans (b5.mono (by simp; omega))
          have hB5 := (b5.block _ (Array.getElem?_eq_some_iff.1 hB).1).trans hB
          have htu5 := own_step htu4 fun k hk => b5.block k (htu4.lt k hk).2
          have hown5 := own_step hown4 fun k hk => b5.block k (hown4.lt k hk).2
          clear hB htu4 hown4 bb4 b5
          generalize w3.heap.size = V at hB5 ⊢
          have y0 : w5.cell? ⟨V, 0, none⟩ = some (.slice ao2 C c2) := by rw [Lib.cell_of_heap hB5]; rfl
          have y1 : w5.cell? ⟨V, 1, none⟩ = some (.slice (some ⟨gt, 0, none⟩) i ct) := by rw [Lib.cell_of_heap hB5]; rfl
          go_wp2
          go_loopg [16] (i + 1) (fun g v w6 => ∃ j : Nat, j ≤ i ∧ g = i + 1 - j ∧ v = .int .i64 (j : Nat) ∧ Below w.heap.size w w6 ∧ w6.heap[V]? = some (.cells #[.slice ao2 C c2, .slice (some ⟨gt, 0, none⟩) i ct] 28 (0, 0)) ∧ w6.ownsRow 0 25 4 (.slice (some ⟨gt, 0, none⟩) i ct) i (tupCells ts) ∧ w6.ownsRow w.heap.size 25 4 (.slice (some ⟨gw, 0, none⟩) i wc) i (tupCells ts))
          case atStart => exact ⟨0, Nat.zero_le _, rfl, rfl, bb5, hB5, htu5, hown5⟩
          case round =>
            clear y0 y1 hB5 htu5 hown5 bb5 w5
            obtain ⟨j, hj, hg, rfl, bb5, hB5, htu5, hown5⟩ := hrel
            have y1 : wr.cell? ⟨V, 1, none⟩ = some (.slice (some ⟨gt, 0, none⟩) i ct) := by rw [Lib.cell_of_heap hB5]; rfl
            by_cases hji : j < i
            · have hji' : (j : Int) < (i : Int) := by omega
              have hj0 : (0 : Int) ≤ (j : Int) := by omega
              obtain ⟨f, c, s0, s1, s2, s3⟩ := tupCells_get ts j (by omega)
              have a0 := (htu5.cellAt (j * 4) (by omega)).trans s0
              have a1 := (htu5.cellAt (j * 4 + 1) (by omega)).trans s1
              have a2 := (htu5.cellAt (j * 4 + 2) (by omega)).trans s2
              have a3 := (htu5.cellAt (j * 4 + 3) (by omega)).trans s3
              have e0 := (hown5.cellAt (j * 4) (by omega)).trans s0
              have e1 := (hown5.cellAt (j * 4 + 1) (by omega)).trans s1
              have e2 := (hown5.cellAt (j * 4 + 2) (by omega)).trans s2
              have e3 := (hown5.cellAt (j * 4 + 3) (by omega)).trans s3
              have m12 : IntKind.i64.wrap ((j : Int) + 1) = (j : Int) + 1 := IntWalk.i64_in _ (by omega)
              clear s0 s1 s2 s3
              go_wp2
              go_region_held3 (fun w' => w'.cell? ⟨V, 1, none⟩ = some (.slice (some ⟨gt, 0, none⟩) i ct) ∧
                w'.cell? ⟨gt, j * 4, none⟩ = some (.int .i64 f) ∧ w'.cell? ⟨gt, j * 4 + 1, none⟩ = some (.int .i64 c) ∧ w'.cell? ⟨gt, j * 4 + 2, none⟩ = some (.int .i64 3) ∧ w'.cell? ⟨gt, j * 4 + 3, none⟩ = some (.int .i64 2) ∧
                w'.cell? ⟨gw, j * 4, none⟩ = some (.int .i64 f) ∧ w'.cell? ⟨gw, j * 4 + 1, none⟩ = some (.int .i64 c) ∧ w'.cell? ⟨gw, j * 4 + 2, none⟩ = some (.int .i64 3) ∧ w'.cell? ⟨gw, j * 4 + 3, none⟩ = some (.int .i64 2)) (go_keep) (fail)
              go_wp2
              go_roundg (i + 1 - (j + 1))
              case measure => omega
              case rel => exact ⟨j + 1, by omega, rfl, by simp, bb5.drew, hB5, own_step htu5 fun _ _ => rfl, own_step hown5 fun _ _ => rfl⟩
            · obtain rfl : j = i := by omega
              go_wp2
              go_ret
              exact ⟨rfl, bb5⟩
        | succ q =>
          obtain rfl : y = (q : Int) := by omega
          clear hy
          have hq : q < i := by omega
          have hq0 : (0 : Int) ≤ (q : Int) := by omega
          have hqi : (q : Int) < (i : Int) := by omega
          obtain ⟨f, hf⟩ : ∃ f : Int, NumIs f (sumC (lv nb L q)) := ⟨_, rfl⟩
          have hup : ups 0 (lv nb L (q + 1)) = ups 0 (lv nb L q) ++ [(f, 0)] := by rw [lv_succ, ups_more]; unfold NumIs at hf; simp [hf]
          rw [hup, List.append_assoc] at hown
          have hlq : (ups 0 (lv nb L q)).length = q := by rw [ups_len, lv_len]
          have k0 := hown.cellAt (q * 4) (by omega)
          have k1 := hown.cellAt (q * 4 + 1) (by omega)
          have s0 := tupCells_at0 (ups 0 (lv nb L q)) (f, 0) (tups (sumC (lv nb L (q + 1))) (post nb L i (q + 1)))
          have s1 := tupCells_at (ups 0 (lv nb L q)) (f, 0) (tups (sumC (lv nb L (q + 1))) (post nb L i (q + 1)))
          rw [hlq] at s0 s1
          rw [show ([(f, 0)] : List (Int × Int)) ++ tups (sumC (lv nb L (q + 1))) (post nb L i (q + 1)) = (f, 0) :: tups (sumC (lv nb L (q + 1))) (post nb L i (q + 1)) from rfl] at k0 k1 hown
          rw [s0] at k0
          rw [s1] at k1
          have kf := hown.frozenAt (q * 4 + 1)
          have hst := hown.stored (q * 4 + 1) (.int .i64 (x - f))
          have hset := tupCells_set (ups 0 (lv nb L q)) (f, 0) (x - f) (tups (sumC (lv nb L (q + 1))) (post nb L i (q + 1)))
          rw [hlq] at hset
          rw [hset, show ((f, x - f) : Int × Int) = (((sumC (lv nb L q) : Nat) : Int), ((cOf nb L q + cnt (post nb L i (q + 1)) : Nat) : Int)) by
            have e1 : f = ((sumC (lv nb L q) : Nat) : Int) := hf
            have e2 : x = ((sumC (lv nb L (q + 1)) + cnt (post nb L i (q + 1)) : Nat) : Int) := hx
            have e3 : sumC (lv nb L (q + 1)) = sumC (lv nb L q) + cOf nb L q := by rw [lv_succ, sumC_more]
            rw [Prod.mk.injEq]
            refine ⟨e1, ?_⟩
            omega, close_tups hq] at hst
          have bs : Below w.heap.size w (wr.setCell ⟨gw, q * 4 + 1, none⟩ (.int .i64 (x - f))) := hb.setCell (p := ⟨gw, q * 4 + 1, none⟩) (hown.lt gw rfl).1 _
          have hf0 := hf.lo
          have hf1 := hf.hi
          have hfs : sumC (lv nb L q) ≤ 60 := by
            have := (cnt_le (lv nb L q) (lv_le nb L q)).1
            rw [lv_len] at this
            omega
          have m9 : IntKind.i64.wrap (x - f) = x - f := IntWalk.i64_in _ (by omega)
          have m10 : IntKind.i64.wrap ((q : Int) - 1) = (q : Int) - 1 := IntWalk.i64_in _ (by omega)
          have m11 : IntKind.i64.wrap (x + 1) = x + 1 := IntWalk.i64_in _ (by omega)
          have g4 := fun w => add_run z ⟨#[41, 32]⟩ (by omega) (by decide) w
          have hz5 := hz.add (m := [41, 32])
          have hzs5 := hz5.size
          have hct := close_text (nb := nb) (L := L) (n := i) hq
          have hcc := close_count (nb := nb) (L := L) (n := i) hq
          clear hset s0 s1 hup hown hb
          by_cases hqL : q < L
          · have hqL' : (q : Int) < (L : Int) := by omega
            obtain ⟨a, rfl, hcell, z0, z1⟩ := hnb q hqL
            have hcell2 := (bs.cell (World.block_lt_of_cell? w _ hcell)).trans hcell
            by_cases h127 : 127 < nb q
            · have hbq : bOf nb L q = true := by simp [bOf, hqL, h127]
              rw [hbq] at hct hcc
              have hzs6 : (z ++ ⟨#[41, 32]⟩).size ≤ 100000 := by
                have := hzs5
                rw [List.length_append, List.length_append] at this
                have e2 : ([41, 32] : List UInt8).length = 2 := rfl
                rw [e2] at this
                show (z ++ ⟨([41, 32] : List UInt8).toArray⟩).size ≤ 100000
                omega
              have g5 := fun w => add_run (z ++ ⟨#[41, 32]⟩) ⟨#[69, 52, 58, 56, 46, 32]⟩ hzs6 (by decide) w
              have hz6 := hz5.add (m := [69, 52, 58, 56, 46, 32])
              rw [List.append_assoc, List.append_assoc, ← List.append_assoc (upT _), show ([41, 32] : List UInt8) ++ [69, 52, 58, 56, 46, 32] = pW ++ eIf true from rfl, hct] at hz6
              have hx6 := hx.add
              rw [if_pos rfl] at hcc
              rw [hcc] at hx6
              go_wp2
              go_roundg (q + 1)
              case measure => omega
              case rel => exact ⟨q, _, _, _, by omega, rfl, rfl, hz6, rfl, hx6, rfl, rfl, bs, hst.1⟩
            · have hbq : bOf nb L q = false := by simp [bOf, h127]
              rw [hbq] at hct hcc
              have hz6 := hz5
              rw [show ([41, 32] : List UInt8) = pW ++ eIf false from rfl, hct] at hz6
              have hx6 := hx
              rw [if_neg (by decide), Nat.add_zero] at hcc
              rw [hcc] at hx6
              go_wp2
              go_roundg (q + 1)
              case measure => omega
              case rel => exact ⟨q, _, _, _, by omega, rfl, rfl, hz6, rfl, hx6, rfl, rfl, bs, hst.1⟩
          · have hqL' : ¬ (q : Int) < (L : Int) := by omega
            have hbq : bOf nb L q = false := by simp [bOf, hqL]
            rw [hbq] at hct hcc
            have hz6 := hz5
            rw [show ([41, 32] : List UInt8) = pW ++ eIf false from rfl, hct] at hz6
            have hx6 := hx
            rw [if_neg (by decide), Nat.add_zero] at hcc
            rw [hcc] at hx6
            go_wp2
            go_roundg (q + 1)
            case measure => omega
            case rel => exact ⟨q, _, _, _, by omega, rfl, rfl, hz6, rfl, hx6, rfl, rfl, bs, hst.1⟩
end Go.Proofs.YtmoddgkjaimpfaaGreatDoor
