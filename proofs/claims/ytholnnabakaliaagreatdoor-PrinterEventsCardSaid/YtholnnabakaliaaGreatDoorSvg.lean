/-
  A part of the proof that the law PrinterEvents (chapter 20) returns true for every event: walks of the program's functions, and runs of them in the kernel by the own evaluator.
-/
import Derived.Test.YtholnnabakaliaaGreatDoorSvh
import Derived.Deep.AppendLies
import Derived.Test.YtholnnabakaliaaGreatDoorS100n
import Derived.Test.YtholnnabakaliaaGreatDoorS100e
import Derived.Test.YtholnnabakaliaaGreatDoorS101n
import Derived.Test.YtholnnabakaliaaGreatDoorS101e
import Derived.Test.YtholnnabakaliaaGreatDoorS102n
import Derived.Test.YtholnnabakaliaaGreatDoorBod
import Derived.Test.YtholnnabakaliaaGreatDoorLxs
import Derived.Deep.Slices
import Derived.Deep.Strs
import Derived.ProofKit
import Derived.OpenShut
import Derived.Lib.SmallJoins
import Derived.Test.YtholnnabakaliaaGreatDoorRows
import Derived.Test.YtholnnabakaliaaGreatDoorCkl
import Derived.LaidMore
import Derived.Stop.LaidErr
import Derived.Lib.LaidTab
import Derived.Lay
namespace Go.Proofs.YtholnnabakaliaaGreatDoor
open Go.RowKit

section
variable {Y M : Nat} {tv : Value} {toks : List Tok} {pos : Nat} {line col e : Int} {free : Bool} {ls ln : Int} {es : Array MapEntry} {clk : Nat} {w : World} {t : Tok}

theorem Tryz.infograces : (Tryz.prog.info? 61).map (fun i => (i.zero.isSome, i.size, i.bytes)) = some (true, 5, 40) := by kernel_rfl

theorem zero_cells_graces {i : TypeInfo} {z : Value} (h1 : Tryz.prog.info? 61 = some i) (h2 : i.zero = some z) : z.cells.size = 5 := by
  have : (Tryz.prog.info? 61).map (fun i => i.zero.map fun z => z.cells.size) = some (some 5) := by kernel_rfl
  rw [h1] at this
  simp only [Option.map_some, h2, Option.some.injEq] at this
  exact this

theorem next_graces (q : Nat) (r : List GraceV) (h : At toks q (sepPs gracePs [32] r ++ [symP [] 41])) (hok : ∀ x ∈ r, GraceOk x) : ∃ t, toks[q]? = some t ∧ NoHead t ∧ IsTok t ⟨#[41]⟩ = decide (r = []) := by
  cases r with
  | nil =>
    obtain ⟨t, ht, hi⟩ := At.first (r := []) h
    exact ⟨t, ht, noHead_sym hi (by decide), (isTok_of hi [41]).trans (by decide)⟩
  | cons x r =>
    have hx := hok x List.mem_cons_self
    rw [sep_head, List.append_assoc] at h


    have h0 := h.left
    unfold gracePs at h0
    cases hs : x.sl with
    | true =>
      rw [hs] at h0
      simp only [if_true, List.cons_append] at h0
      obtain ⟨t, ht, hi⟩ := h0.first
      exact ⟨t, ht, noHead_blank hi rfl (by decide) (by decide) (by decide), (isTok_of hi [41]).trans (by simp [symP])⟩
    | false =>
      rw [hs] at h0
      simp only [Bool.false_eq_true, if_false] at h0
      obtain ⟨t, ht, hi⟩ := At.first (r := extraPs x.p ++ _) h0
      exact ⟨t, ht, noHead_blank hi rfl (word_ne' hx.1 (by decide)) (word_ne hx.1 (by decide)) (word_ne hx.1 (by decide)), (isTok_of hi [41]).trans (by
        have : wordOfP x.p ≠ [41] := word_ne hx.1 (by decide)
        simp [wordP, this])⟩


set_option maxHeartbeats 16000000 in
set_option maxRecDepth 100000 in
theorem several_graces (h : Prs Y M tv toks pos line col 0 free ls ln es clk w) (x : GraceV) (r : List GraceV) (bl : List UInt8) (hok : ∀ y ∈ x :: r, GraceOk y) (hA : At toks pos (sepPs gracePs bl (x :: r) ++ [symP [] 41])) (hr8 : r.length ≤ 100) (hpos : pos + (sepPs gracePs bl (x :: r)).length + 1 ≤ 1000000) {b : Nat} (T : Tabs b w) (hY : 7 ≤ Y) :
    Calls Tryz.prog 49 #[.pointer (some ⟨Y, 0, none⟩), .func (.func 50) #[.pointer (some ⟨Y, 0, none⟩)] #[], .string ⟨#[41]⟩] w fun rr w' => ∃ v, rr = .returned v ∧ Els w' 5 v ((x :: r).map GraceV.cells) ∧ (∀ k, v.ownBlock = some k → w.heap.size ≤ k) ∧ Prs Y M tv toks (pos + (sepPs gracePs bl (x :: r)).length + 1) line col 0 free ls ln es clk w' ∧ Away [Y] w w' := by
  obtain ⟨E, hE⟩ : ∃ E, E = pos + (sepPs gracePs bl (x :: r)).length := ⟨_, rfl⟩
  rw [← hE] at hpos ⊢
  obtain ⟨i0, hi0, hz0, hz1, hz2⟩ : ∃ i, Tryz.prog.info? 61 = some i ∧ i.zero.isSome = true ∧ i.size = 5 ∧ i.bytes = 40 := by
    have := Tryz.infograces
    cases hi : Tryz.prog.info? 61 with
    | none => rw [hi] at this; cases this
    | some i => rw [hi] at this; simp only [Option.map_some, Option.some.injEq, Prod.mk.injEq] at this; exact ⟨i, rfl, this.1, this.2.1, this.2.2⟩
  have hr0 := h.row rfl
  have htv : ∀ k, tv.ownBlock = some k → k < w.heap.size := fun k hk => (hr0.lt k hk).2
  have lY := h.lt
  have lM := h.ltM
  have hx := hok x List.mem_cons_self
  rw [sep_head, List.append_assoc] at hA
  have hA2 := hA.right
  have hE2 : pos + (gracePs bl x).length + (sepPs gracePs [32] r).length = E := by rw [hE, sep_head, List.length_append]; omega
  have hok' : ∀ y ∈ r, GraceOk y := fun y hy => hok y (List.mem_cons_of_mem _ hy)
  obtain ⟨t1, ht1, hn1, -⟩ := next_graces _ r hA2 hok'


  have x1 := grace_at (bl := bl) h hx hA.left (by omega) T hY

  generalize pos + (gracePs bl x).length = q at hA2 hE2 x1 ht1
  have hel : ∀ l : List GraceV, ((l.map GraceV.cells).flatMap (·.toList)).length = l.length * 5 := by
    intro l
    induction l with
    | nil => rfl
    | cons a l ih => rw [List.map_cons, List.flatMap_cons, List.length_append, ih, List.length_cons]; show 5 + l.length * 5 = (l.length + 1) * 5; omega
  clear hA h hE hx ht1 hn1 hok
  obtain ⟨xs0, hxs0⟩ : ∃ xs0, xs0 = x :: r := ⟨_, rfl⟩
  rw [← hxs0]
  have HX := shut hxs0
  clear hxs0
  obtain ⟨x', hx'⟩ : ∃ x', x' = x := ⟨_, rfl⟩
  have HX' := shut hx'
  obtain ⟨⟨y0, y1, y2⟩, y3, y4⟩ := x
  simp only [GraceV.cells] at x1
  go_enter Tryz.func49, Tryz.ntmps49
  go_wp2_with (go_at_call 50; refine x1.mono ?_)
  intro rr w1; first | (intro he hS1 a1; subst he) | rintro ⟨rfl, hS1, a1⟩
  have sz1 := a1.size
  have hS2 := hS1.step ((Below.refl _ w1).alloc (Nat.le_refl _) (.cells #[.int .i64 y0, .int .i64 y1, .int .i64 y2, .int .i64 y3, .bool y4] 61))
  have aw2 := a1.alloc (.cells #[.int .i64 y0, .int .i64 y1, .int .i64 y2, .int .i64 y3, .bool y4] 61)
  have ho2 : (w1.alloc (.cells #[.int .i64 y0, .int .i64 y1, .int .i64 y2, .int .i64 y3, .bool y4] 61)).ownsRow w.heap.size 61 5 (.slice (some ⟨w1.heap.size, 0, none⟩) 1 1) 1 #[.int .i64 y0, .int .i64 y1, .int .i64 y2, .int .i64 y3, .bool y4].toList := World.ownsRow_lit (size := 5) w1 #[.int .i64 y0, .int .i64 y1, .int .i64 y2, .int .i64 y3, .bool y4] 1 sz1 (by decide) rfl
  clear x1 hS1 a1
  go_wp2
  go_loopg [7] r.length (fun g s7 wr => ∃ (k : Nat) (q : Nat), k ≤ r.length ∧ g = r.length - k ∧ At toks q (sepPs gracePs [32] (r.drop k) ++ [symP [] 41]) ∧ q + (sepPs gracePs [32] (r.drop k)).length = E ∧ wr.ownsRow w.heap.size 61 5 s7 (k + 1) (((x' :: r.take k).map GraceV.cells).flatMap (·.toList)) ∧ Prs Y M tv toks q line col 0 free ls ln es clk wr ∧ Away [Y] w wr)
  case atStart => exact ⟨0, q, Nat.zero_le _, rfl, hA2, hE2, by rw [HX'.out]; exact ho2, hS2, aw2⟩
  case round =>
    clear hS2 aw2 ho2 hA2 hE2
    obtain ⟨k, q, hk, hg, hA, hE, hown, hS, aw⟩ := hrel
    have hokd : ∀ y ∈ r.drop k, GraceOk y := fun y hy => hok' y (List.mem_of_mem_drop hy)
    obtain ⟨t1, ht1, hn1, hb1⟩ := next_graces q (r.drop k) hA hokd
    have hq9 : q ≤ 1000000 := by omega
    have c4 := hS.c4
    by_cases hlt : k < r.length
    · have hd : r.drop k = r[k] :: r.drop (k + 1) := List.drop_eq_getElem_cons hlt
      rw [hd] at hA hE hb1 hokd
      have hb2 : IsTok t1 ⟨#[41]⟩ = false := hb1.trans (decide_eq_false (by intro e; cases e))
      have xi := is_ok hS ht1 _ hb2
      have htk : r.take (k + 1) = r.take k ++ [r[k]] := List.take_succ_eq_append_getElem hlt
      have hx := hokd r[k] List.mem_cons_self
      generalize r[k] = y at hA hE htk hx hokd
      rw [sep_head, List.append_assoc] at hA
      have hA3 := hA.right
      have hE3 : q + (gracePs [32] y).length + (sepPs gracePs [32] (r.drop (k + 1))).length = E := by rw [← hE, sep_head, List.length_append]; omega
      have hok3 : ∀ z ∈ r.drop (k + 1), GraceOk z := fun z hz => hokd z (List.mem_cons_of_mem _ hz)
      obtain ⟨t2, ht2, hn2, -⟩ := next_graces _ (r.drop (k + 1)) hA3 hok3


      have xr := fun W (bW : Below wr.heap.size wr W) => grace_at (bl := [32]) (hS.step bW) hx hA.left (by omega) (T.away (aw.step bW) (by simp; omega)) hY

      generalize q + (gracePs [32] y).length = q' at hA3 hE3 xr ht2
      have hcat : (((x' :: r.take (k + 1)).map GraceV.cells).flatMap (·.toList)) = (((x' :: r.take k).map GraceV.cells).flatMap (·.toList)) ++ y.cells.toList := by rw [htk]; simp
      have hle := hel (x' :: r.take k)
      generalize (((x' :: r.take k).map GraceV.cells).flatMap (·.toList)) = cur at hown hcat hle
      obtain ⟨⟨z0, z1, z2⟩, z3, z4⟩ := y
      simp only [GraceV.cells] at xr hcat
      have HC := shut hcat
      have HA3 := shut (And.intro hA3 hE3)
      clear hcat htk hA hE hd hb1 hb2 hx hokd ht1 hn1 ht2 hn2 hA3 hE3 hok3 hle
      go_wp2_with (go_at_call 72; refine xi.mono ?_)
      intro rr w3; first | (intro he b3; subst he) | rintro ⟨rfl, b3⟩
      have xr3 := xr w3 b3
      have hown3 := own_step hown fun j hj => b3.block j (hown.lt j hj).2
      have aw3 := aw.step b3
      clear xr xi c4 hS hown aw b3
      obtain ⟨ao, cp, rfl⟩ := own_is hown3
      go_wp2_with (go_at_call 50; refine xr3.mono ?_)
      intro rr w4; first | (intro he hS4 a4; subst he) | rintro ⟨rfl, hS4, a4⟩
      have hlo : ∀ j, (Value.slice ao (k + 1) cp).ownBlock = some j → w.heap.size ≤ j := fun j hj => (hown3.lt j hj).1
      have hown4 := own_step hown3 fun j hj => a4.block j (hown3.lt j hj).2 (by have := hlo j hj; simp; omega)
      have aw4 := aw3.trans a4
      have sz4 := aw4.size
      clear xr3 hown3 aw3 a4
      obtain ⟨zz, hzz⟩ := Option.isSome_iff_exists.1 hz0
      go_wp2_with (at_builtin; refine wpList_append_lies _ rfl _ _ 27 rfl w.heap.size 61 i0 _ 5 40 Tryz.underlying27 hi0 hzz hz1 hz2 (zero_cells_graces hi0 hzz) (by omega) _ (k + 1) _ rfl (hown4.alloc _) ⟨w4.heap.size, 0, none⟩ 1 1 #[.int .i64 z0, .int .i64 z1, .int .i64 z2, .int .i64 z3, .bool z4].toList rfl rfl (World.news_of_block (cs := #[.int .i64 z0, .int .i64 z1, .int .i64 z2, .int .i64 z3, .bool z4]) (t := 61) (fr := (0, 0)) (heap_alloc_new _ _)) (by simp [Value.oneCell']) (by omega) (by unfold maxLen; omega) (by omega) (by simp; omega) (w4.heap.size + 1) (by simp) ?_; intro gg wcap w5 hown5 hgrow hat hgl)
      go_roundg (r.length - (k + 1))
      case measure => omega
      case rel =>
        refine ⟨k + 1, q', by omega, rfl, HA3.out.1, HA3.out.2, ?_, (hS4.step ((Below.refl _ w4).alloc (Nat.le_refl _) _)).grown hgrow (fun j hj => ?_), (aw4.alloc _).grown hgrow hlo⟩
        · rw [HC.out]; exact hown5
        · have := hlo j hj
          exact ⟨by omega, by omega, fun e => by have := htv j e; omega⟩
    · have hkl : k = r.length := by omega
      subst hkl
      have hd : r.drop r.length = [] := List.drop_length
      rw [hd] at hA hE hb1
      have hb2 : IsTok t1 ⟨#[41]⟩ = true := hb1.trans (by simp)
      have xi := is_ok hS ht1 _ hb2
      have hqE : q = E := hE
      subst hqE
      have xe := fun W (bW : Below wr.heap.size wr W) => expect_yes (hS.step bW) ht1 _ hb2 (by omega)
      rw [List.take_length] at hown
      obtain ⟨ao, cp, rfl⟩ := own_is hown
      have hlo : ∀ j, (Value.slice ao (r.length + 1) cp).ownBlock = some j → w.heap.size ≤ j := fun j hj => (hown.lt j hj).1
      clear hA hE hb1 hb2 hokd hd ht1 hn1 hS
      go_wp2_with (go_at_call 72; refine xi.mono ?_)
      intro rr w3; first | (intro he b3; subst he) | rintro ⟨rfl, b3⟩
      have xe3 := xe w3 b3
      have hown3 := own_step hown fun j hj => b3.block j (hown.lt j hj).2
      have aw3 := aw.step b3
      clear xe xi c4 hown aw b3
      go_wp2_with (go_at_call 48; refine xe3.mono ?_)
      intro rr w4; first | (intro he hS4 a4; subst he) | rintro ⟨rfl, hS4, a4⟩
      have hown4 := own_step hown3 fun j hj => a4.block j (hown3.lt j hj).2 (by have := hlo j hj; simp; omega)
      have aw4 := aw3.trans a4
      clear xe3 hown3 aw3 a4
      go_wp2
      go_ret
      refine ⟨_, rfl, ?_, hlo, hS4, aw4⟩
      have hxe : xs0.map GraceV.cells = (x' :: r).map GraceV.cells := by rw [HX.out, HX'.out]
      rw [hxe]
      refine Els.of_own (B := w.heap.size) (T := 61) (by rw [List.length_map, List.length_cons]; exact hown4) rfl (fun c hc => ?_)
      obtain ⟨y, -, rfl⟩ := List.mem_map.1 hc
      exact ⟨rfl, by simp [GraceV.cells, Value.oneCell']⟩
end
end Go.Proofs.YtholnnabakaliaaGreatDoor

namespace Go.Proofs.YtholnnabakaliaaGreatDoor
open Go.RowKit

set_option maxHeartbeats 2000000 in
theorem syl10_walk (x : SyllV) (w : World) (hs : x.tx.size ≤ 256) (h0 : 0 ≤ x.ln) (h2 : x.ln ≤ 2) : Calls Tryz.prog 10 #[.agg x.cells] w fun e w' => e = .returned (.string (mkB (syllL x))) ∧ Below w.heap.size w w' := by
  obtain ⟨s, l⟩ := x
  unfold syllL linkL
  dsimp only at hs h0 h2 ⊢
  show Calls Tryz.prog 10 #[.agg #[.string s, .int .i64 l]] w _
  rcases (by omega : l = 0 ∨ l = 1 ∨ l = 2) with rfl | rfl | rfl
  · rw [if_neg (by omega), if_pos rfl]
    cases he : s.toList.isEmpty with
    | false => have q := syl10_0_n s w hs he; rw [show (⟨#[]⟩ : ByteArray) = mkB [] from rfl, quoteB_cat] at q; exact q
    | true => have q := syl10_0_e s w hs he; rw [show (⟨#[]⟩ : ByteArray) = mkB [] from rfl, quoteB_cat] at q; exact q
  · rw [if_neg (by omega), if_neg (by omega), if_pos rfl]
    cases he : s.toList.isEmpty with
    | false => have q := syl10_1_n s w hs he; rw [show (⟨#[45]⟩ : ByteArray) = mkB [45] from rfl, quoteB_cat] at q; exact q
    | true => have q := syl10_1_e s w hs he; rw [show (⟨#[45]⟩ : ByteArray) = mkB [45] from rfl, quoteB_cat] at q; exact q
  · cases he : s.toList.isEmpty with
    | false => rw [if_neg (by simp), if_neg (by omega), if_neg (by omega)]; have q := syl10_2_n s w hs he; rw [show (⟨#[95]⟩ : ByteArray) = mkB [95] from rfl, quoteB_cat] at q; exact q
    | true =>
      rw [if_pos ⟨rfl, rfl⟩]
      have hs' : ¬ (256 : Int) < s.size := by omega
      clear h0 h2
      go_enter Tryz.func10, Tryz.ntmps10
      go_wp2
      go_ret
      exact ⟨rfl, (Below.refl _ w).alloc (Nat.le_refl _) _⟩
end Go.Proofs.YtholnnabakaliaaGreatDoor

namespace Go.Proofs.YtholnnabakaliaaGreatDoor
open Go.RowKit

set_option maxHeartbeats 1000000 in
theorem enclosed_walk {B : Nat} {v : Value} {l : List (List UInt8)} {w : World} (h : w.ownsRow B 9 1 v l.length ((l.map mkB).map Value.string)) (hn : 0 < l.length) (hsz : l.length ≤ 100) {m : Nat} (hm : m ≤ 5000) (hlen : ∀ y ∈ l, y.length ≤ m) (o c : UInt8) :
    Calls Tryz.prog 32 #[.string ⟨#[o]⟩, v, .string ⟨#[c]⟩] w fun e w' => e = .returned (.string (mkB ([o] ++ joinL l ++ [c]))) ∧ Below w.heap.size w w' := by
  have hj := join_own h hn hsz (fun y hy => Nat.le_trans (hlen y hy) (by omega))
  have hjl := joinL_len hlen
  have hjl' : (joinL l).length ≤ 600000 := Nat.le_trans hjl (Nat.le_trans (Nat.mul_le_mul hsz (by omega : m + 1 ≤ 5001)) (by decide))
  have a1 := fun ww => add_mk [o] (joinL l) (by simp) (by omega) ww
  have a2 := fun ww => add_mk ([o] ++ joinL l) [c] (by rw [List.length_append]; simp only [List.length_cons, List.length_nil]; omega) (by simp) ww
  obtain ⟨ao, cp, rfl⟩ := own_is h
  generalize mkB ([o] ++ joinL l ++ [c]) = z2 at a2 ⊢
  generalize mkB ([o] ++ joinL l) = z1 at a1 a2
  generalize mkB (joinL l) = z0 at a1 hj
  have a1' : ∀ ww, (Op.stringOp .add ⟨#[o]⟩ z0).run Tryz.prog ww = .ok (.string z1) ww := a1
  have a2' : ∀ ww, (Op.stringOp .add z1 ⟨#[c]⟩).run Tryz.prog ww = .ok (.string z2) ww := a2
  have hn' : (0 : Int) < (l.length : Int) := by omega
  have hn2 : ¬ ((l.length : Int) = 0) := by omega
  clear a1 a2 hjl hjl' hlen hsz h
  go_enter Tryz.func32, Tryz.ntmps32
  go_wp2_with (go_at_call 36; (with_reducible refine hj.mono ?_))
  intro e w1; first | (intro he b1; subst he) | rintro ⟨rfl, b1⟩
  go_wp2
  go_ret
  exact ⟨rfl, b1⟩
end Go.Proofs.YtholnnabakaliaaGreatDoor

namespace Go.Proofs.YtholnnabakaliaaGreatDoor
open Go.ChangeShapes Go.WideShapes Go.ChangeAt Go.RowKit Go.Joins Go.Deep
set_option maxRecDepth 100000

def fl (name : String) (t o b : Nat) : Field := { name := name, type := t, offset := o, embedded := false, tag := "", pkgPath := "", byteOffset := b }
theorem v3 : Tryz.prog.underlying 3 = some (.int .i64) := by kernel_rfl
theorem v4 : Tryz.prog.underlying 4 = some .bool := by kernel_rfl
theorem v9 : Tryz.prog.underlying 9 = some .string := by kernel_rfl
theorem v23 : Tryz.prog.underlying 23 = some (.struct #[fl "Site" 3 0 0, fl "Number" 3 1 8]) := by kernel_rfl
theorem v25 : Tryz.prog.underlying 25 = some (.struct #[fl "Log" 3 0 0, fl "Dots" 3 1 8]) := by kernel_rfl
theorem v26 : Tryz.prog.underlying 26 = some (.slice 46) := by kernel_rfl
theorem v27 : Tryz.prog.underlying 27 = some (.slice 61) := by kernel_rfl
theorem v28 : Tryz.prog.underlying 28 = some (.slice 33) := by kernel_rfl
theorem v33 : Tryz.prog.underlying 33 = some (.struct #[fl "Text" 9 0 0, fl "Link" 3 1 16]) := by kernel_rfl
theorem v44 : Tryz.prog.underlying 44 = some (.struct #[fl "Step" 3 0 0, fl "Alter" 3 1 8, fl "Octave" 3 2 16]) := by kernel_rfl
theorem v46 : Tryz.prog.underlying 46 = some (.struct #[fl "Pitch" 44 0 0, fl "Tied" 4 3 24, fl "Show" 3 4 32]) := by kernel_rfl
theorem v61 : Tryz.prog.underlying 61 = some (.struct #[fl "Pitch" 44 0 0, fl "Log" 3 3 24, fl "Slash" 4 4 32]) := by kernel_rfl
theorem v30 : Tryz.prog.underlying 30 = some (.struct #[fl "ID" 23 0 0, fl "Kind" 3 2 16, fl "Value" 25 3 24, fl "Heads" 26 5 40, fl "Graces" 27 6 64, fl "Articulations" 3 7 88, fl "Ornament" 3 8 96, fl "Dynamic" 3 9 104, fl "Lyrics" 28 10 112, fl "Stem" 3 11 136, fl "Beam" 3 12 144]) := by kernel_rfl
theorem n3 : Tryz.prog.cellsOf 3 = 1 := by kernel_rfl
theorem n4 : Tryz.prog.cellsOf 4 = 1 := by kernel_rfl
theorem n9 : Tryz.prog.cellsOf 9 = 1 := by kernel_rfl
theorem n23 : Tryz.prog.cellsOf 23 = 2 := by kernel_rfl
theorem n25 : Tryz.prog.cellsOf 25 = 2 := by kernel_rfl
theorem n26 : Tryz.prog.cellsOf 26 = 1 := by kernel_rfl
theorem n27 : Tryz.prog.cellsOf 27 = 1 := by kernel_rfl
theorem n28 : Tryz.prog.cellsOf 28 = 1 := by kernel_rfl
theorem n33 : Tryz.prog.cellsOf 33 = 2 := by kernel_rfl
theorem n44 : Tryz.prog.cellsOf 44 = 3 := by kernel_rfl
theorem n46 : Tryz.prog.cellsOf 46 = 5 := by kernel_rfl
theorem n61 : Tryz.prog.cellsOf 61 = 5 := by kernel_rfl
theorem n30 : Tryz.prog.cellsOf 30 = 13 := by kernel_rfl
theorem ts30 : Tryz.prog.cellTypes Tryz.prog.depth 30 = some [3, 3, 3, 3, 3, 26, 27, 3, 3, 3, 28, 3, 3] := by kernel_rfl

instance : Inhabited HeadV := ⟨⟨⟨0, 0, 0⟩, false, 0⟩⟩
instance : Inhabited GraceV := ⟨⟨⟨0, 0, 0⟩, 0, false⟩⟩
instance : Inhabited SyllV := ⟨⟨⟨#[]⟩, 0⟩⟩

theorem list2 {l : List Value} (h : l.length = 2) : ∃ a b, l = [a, b] := by
  match l, h with
  | [a, b], _ => exact ⟨a, b, rfl⟩
theorem list3 {l : List Value} (h : l.length = 3) : ∃ a b c, l = [a, b, c] := by
  match l, h with
  | [a, b, c], _ => exact ⟨a, b, c, rfl⟩
theorem list5 {l : List Value} (h : l.length = 5) : ∃ a b c d e, l = [a, b, c, d, e] := by
  match l, h with
  | [a, b, c, d, e], _ => exact ⟨a, b, c, d, e, rfl⟩

section
variable {H : Type} {enc : TypeId × Value → H} {W : World} {base : Nat} {sp : Nat → Bool} {held : Bool}

theorem fld {n : Nat} {cs : List Value} {y : Option (DataW H × List MemPlace)} {f : Field} (h : DataW.trod enc Tryz.prog W base sp held n f.type ((cs.drop f.offset).take (Tryz.prog.cellsOf f.type)) = y) {t o k : Nat} (ht : f.type = t) (ho : f.offset = o) (hk : Tryz.prog.cellsOf t = k) :
    DataW.trod enc Tryz.prog W base sp held n t ((cs.drop o).take k) = y := by
  subst ht; subst ho; subst hk; exact h

theorem ints2_open {n t : Nat} {a b : String} {x y : Nat} {cs : List Value} {z : DataW H × List MemPlace} (ht : Tryz.prog.underlying t = some (.struct #[fl a 3 0 x, fl b 3 1 y])) (hn : Tryz.prog.cellsOf t = 2) (h : DataW.trod enc Tryz.prog W base sp held n t cs = some z) :
    ∃ i j : Int, cs = [.int .i64 i, .int .i64 j] := by
  obtain ⟨y0, y1, m, _, hl, h0, h1⟩ := trod_struct2 ht h
  obtain ⟨i, e0, _, _⟩ := DataW.trod_int v3 (fld h0 (t := 3) (o := 0) rfl rfl n3)
  obtain ⟨j, e1, _, _⟩ := DataW.trod_int v3 (fld h1 (t := 3) (o := 1) rfl rfl n3)
  rw [hn] at hl
  obtain ⟨c0, c1, rfl⟩ := list2 hl
  simp at e0 e1
  exact ⟨i, j, by rw [e0, e1]⟩

theorem pitch_open {n : Nat} {cs : List Value} {z : DataW H × List MemPlace} (h : DataW.trod enc Tryz.prog W base sp held n 44 cs = some z) : ∃ p : PitchV, cs = p.cells.toList := by
  obtain ⟨y0, y1, y2, m, _, hl, h0, h1, h2⟩ := trod_struct3 v44 h
  obtain ⟨i, e0, _, _⟩ := DataW.trod_int v3 (fld h0 (t := 3) (o := 0) rfl rfl n3)
  obtain ⟨j, e1, _, _⟩ := DataW.trod_int v3 (fld h1 (t := 3) (o := 1) rfl rfl n3)
  obtain ⟨k, e2, _, _⟩ := DataW.trod_int v3 (fld h2 (t := 3) (o := 2) rfl rfl n3)
  rw [n44] at hl
  obtain ⟨c0, c1, c2, rfl⟩ := list3 hl
  simp at e0 e1 e2
  exact ⟨⟨i, j, k⟩, by rw [e0, e1, e2]; rfl⟩

theorem head_open {n : Nat} {cs : List Value} {z : DataW H × List MemPlace} (h : DataW.trod enc Tryz.prog W base sp held n 46 cs = some z) : ∃ y : HeadV, cs = y.cells.toList := by
  obtain ⟨y0, y1, y2, m, _, hl, h0, h1, h2⟩ := trod_struct3 v46 h
  obtain ⟨p, e0⟩ := pitch_open (fld h0 (t := 44) (o := 0) rfl rfl n44)
  obtain ⟨j, e1, _⟩ := DataW.trod_bool v4 (fld h1 (t := 4) (o := 3) rfl rfl n4)
  obtain ⟨k, e2, _, _⟩ := DataW.trod_int v3 (fld h2 (t := 3) (o := 4) rfl rfl n3)
  rw [n46] at hl
  obtain ⟨c0, c1, c2, c3, c4, rfl⟩ := list5 hl
  simp [PitchV.cells] at e0 e1 e2
  obtain ⟨q0, q1, q2⟩ := e0
  exact ⟨⟨p, j, k⟩, by rw [q0, q1, q2, e1, e2]; rfl⟩

theorem grace_open {n : Nat} {cs : List Value} {z : DataW H × List MemPlace} (h : DataW.trod enc Tryz.prog W base sp held n 61 cs = some z) : ∃ y : GraceV, cs = y.cells.toList := by
  obtain ⟨y0, y1, y2, m, _, hl, h0, h1, h2⟩ := trod_struct3 v61 h
  obtain ⟨p, e0⟩ := pitch_open (fld h0 (t := 44) (o := 0) rfl rfl n44)
  obtain ⟨j, e1, _, _⟩ := DataW.trod_int v3 (fld h1 (t := 3) (o := 3) rfl rfl n3)
  obtain ⟨k, e2, _⟩ := DataW.trod_bool v4 (fld h2 (t := 4) (o := 4) rfl rfl n4)
  rw [n61] at hl
  obtain ⟨c0, c1, c2, c3, c4, rfl⟩ := list5 hl
  simp [PitchV.cells] at e0 e1 e2
  obtain ⟨q0, q1, q2⟩ := e0
  exact ⟨⟨p, j, k⟩, by rw [q0, q1, q2, e1, e2]; rfl⟩

theorem syll_open {n : Nat} {cs : List Value} {z : DataW H × List MemPlace} (h : DataW.trod enc Tryz.prog W base sp held n 33 cs = some z) : ∃ y : SyllV, cs = y.cells.toList := by
  obtain ⟨y0, y1, m, _, hl, h0, h1⟩ := trod_struct2 v33 h
  obtain ⟨s, e0, _, _⟩ := DataW.trod_string v9 (fld h0 (t := 9) (o := 0) rfl rfl n9)
  obtain ⟨j, e1, _, _⟩ := DataW.trod_int v3 (fld h1 (t := 3) (o := 1) rfl rfl n3)
  rw [n33] at hl
  obtain ⟨c0, c1, rfl⟩ := list2 hl
  simp at e0 e1
  exact ⟨⟨s, j⟩, by rw [e0, e1]; rfl⟩

/-- A slice of structs that came in, as rows. -/
theorem els_open {α : Type} [Inhabited α] (cells : α → Array Value) {t e s : Nat} (ht : Tryz.prog.underlying t = some (.slice e)) (hc : Tryz.prog.cellsOf e = s)
    (hop : ∀ (n : Nat) (cs : List Value) (x : DataW H × List MemPlace), DataW.trod enc Tryz.prog W base sp held n e cs = some x → ∃ y : α, cs = (cells y).toList) (hs : ∀ y, (cells y).size = s ∧ (cells y).all (·.oneCell') = true)
    {fuel : Nat} {v : Value} {x : DataW H × List MemPlace} (h : DataW.trod enc Tryz.prog W base sp held fuel t [v] = some x) (hsp : ∀ a l c, v = .slice (some a) l c → a.spot = none) :
    ∃ (l : List α) (ao : Option Addr) (c : Nat), v = .slice ao l.length c ∧ Els W s (.slice ao l.length c) (l.map cells) := by
  rcases open_slice ht h with ⟨hcs, _⟩ | ⟨a, len, cap, m, n, D, Pl, hcs, _, hl, _, hm, _, hcell⟩
  · injection hcs with hcs _
    exact ⟨[], none, 0, hcs, .inl ⟨rfl, rfl⟩⟩
  · injection hcs with hcs _
    obtain ⟨g, o, spt⟩ := a
    have e0 : spt = none := hsp _ _ _ hcs
    subst e0
    have hlm : len ≤ m := by rw [hm]; split <;> omega
    obtain ⟨f, hf⟩ := choose_lt (α := α) (n := len) (p := fun i y => ∀ (k : Nat) (u : Value), (cells y)[k]? = some u → W.cell? ⟨g, o + i * s + k, none⟩ = some u) (fun i hi => by
      obtain ⟨cs', h1, h2⟩ := hcell i (by omega)
      obtain ⟨y, rfl⟩ := hop _ _ _ h2
      obtain ⟨_, _, hcl⟩ := World.cells?_some h1
      refine ⟨y, fun k u hu => ?_⟩
      have hk : k < s := by rw [← (hs y).1]; exact (Array.getElem?_eq_some_iff.1 hu).1
      have := hcl k (by rw [hc]; exact hk)
      rw [hc, add_plain, add_plain] at this
      rw [this]
      simpa using hu)
    refine ⟨(List.range len).map f, some ⟨g, o, none⟩, cap, by rw [hcs]; simp, .inr ⟨g, o, cap, by simp, fun j r hr => ?_⟩⟩
    have hj : j < len := by
      have := (List.getElem?_eq_some_iff.1 hr).1
      simpa using this
    rw [List.getElem?_map, List.getElem?_map, List.getElem?_range hj] at hr
    simp only [Option.map_some, Option.some.injEq] at hr
    subst hr
    exact ⟨(hs _).1, (hs _).2, hf j hj⟩

theorem slice_spot {t e : Nat} (ht : Tryz.prog.underlying t = some (.slice e)) {r : Reach} {b0 : Nat} {v : Value} (h : Cell.okWide Tryz.prog W r b0 t v) : ∀ a l c, v = .slice (some a) l c → a.spot = none := by
  intro a l c hv
  subst hv
  unfold Cell.okWide at h
  rw [ht] at h
  simp only [Cell.ok, ht] at h
  exact h.2.2.2.1

theorem array13 {cs : Array Value} (h : cs.size = 13) : ∃ c0 c1 c2 c3 c4 c5 c6 c7 c8 c9 c10 c11 c12, cs = #[c0, c1, c2, c3, c4, c5, c6, c7, c8, c9, c10, c11, c12] := by
  obtain ⟨l⟩ := cs
  match l, h with
  | [c0, c1, c2, c3, c4, c5, c6, c7, c8, c9, c10, c11, c12], _ => exact ⟨c0, c1, c2, c3, c4, c5, c6, c7, c8, c9, c10, c11, c12, rfl⟩

/-- The event that came in. -/
theorem event_open {r : Reach} {b0 : Nat} {v : Value} {d : DataW H} {p : List MemPlace} (hv : Value.okWide Tryz.prog W r b0 30 v) (h : DataW.Trod enc Tryz.prog W base sp held 30 v d p) :
    ∃ (site num kd lg dt ar orn dy st be : Int) (ho go lo : Option Addr) (hc gc lc : Nat) (heads : List HeadV) (graces : List GraceV) (lyr : List SyllV),
      v = .agg #[.int .i64 site, .int .i64 num, .int .i64 kd, .int .i64 lg, .int .i64 dt, .slice ho heads.length hc, .slice go graces.length gc, .int .i64 ar, .int .i64 orn, .int .i64 dy, .slice lo lyr.length lc, .int .i64 st, .int .i64 be] ∧
      Els W 5 (.slice ho heads.length hc) (heads.map HeadV.cells) ∧ Els W 5 (.slice go graces.length gc) (graces.map GraceV.cells) ∧ Els W 2 (.slice lo lyr.length lc) (lyr.map SyllV.cells) := by
  obtain ⟨cs, rfl, hsz⟩ := okWide_struct v30 hv
  rw [n30] at hsz
  obtain ⟨c0, c1, c2, c3, c4, c5, c6, c7, c8, c9, c10, c11, c12, rfl⟩ := array13 hsz
  unfold Value.okWide at hv
  rw [v30] at hv
  obtain ⟨cs', e, _, ts, hts, _, hcell⟩ := hv
  injection e with e
  subst e
  obtain rfl := Option.some.inj (ts30.symm.trans hts)
  have s5 : Cell.okWide Tryz.prog W r b0 26 c5 := by
    obtain ⟨u, hu, hk⟩ := hcell 5 c5 rfl
    obtain rfl : 26 = u := Option.some.inj hu
    exact hk
  have s6 : Cell.okWide Tryz.prog W r b0 27 c6 := by
    obtain ⟨u, hu, hk⟩ := hcell 6 c6 rfl
    obtain rfl : 27 = u := Option.some.inj hu
    exact hk
  have s10 : Cell.okWide Tryz.prog W r b0 28 c10 := by
    obtain ⟨u, hu, hk⟩ := hcell 10 c10 rfl
    obtain rfl : 28 = u := Option.some.inj hu
    exact hk
  obtain ⟨fuel, hf⟩ := h
  obtain ⟨xs, n, _, _, hl, hlen, hf⟩ := DataW.trod_struct v30 hf
  have get : ∀ i, i < 11 → ∃ y, xs[i]? = some y := fun i hi => ⟨xs[i]'(by rw [hlen]; exact hi), List.getElem?_eq_getElem (by rw [hlen]; exact hi)⟩
  obtain ⟨y0, hy0⟩ := get 0 (by decide)
  obtain ⟨y1, hy1⟩ := get 1 (by decide)
  obtain ⟨y2, hy2⟩ := get 2 (by decide)
  obtain ⟨y3, hy3⟩ := get 3 (by decide)
  obtain ⟨y4, hy4⟩ := get 4 (by decide)
  obtain ⟨y5, hy5⟩ := get 5 (by decide)
  obtain ⟨y6, hy6⟩ := get 6 (by decide)
  obtain ⟨y7, hy7⟩ := get 7 (by decide)
  obtain ⟨y8, hy8⟩ := get 8 (by decide)
  obtain ⟨y9, hy9⟩ := get 9 (by decide)
  obtain ⟨y10, hy10⟩ := get 10 (by decide)
  have h0 := (fld (hf 0 _ rfl) (t := 23) (o := 0) rfl rfl n23).trans hy0
  have h1 := (fld (hf 1 _ rfl) (t := 3) (o := 2) rfl rfl n3).trans hy1
  have h2 := (fld (hf 2 _ rfl) (t := 25) (o := 3) rfl rfl n25).trans hy2
  have h3 := (fld (hf 3 _ rfl) (t := 26) (o := 5) rfl rfl n26).trans hy3
  have h4 := (fld (hf 4 _ rfl) (t := 27) (o := 6) rfl rfl n27).trans hy4
  have h5 := (fld (hf 5 _ rfl) (t := 3) (o := 7) rfl rfl n3).trans hy5
  have h6 := (fld (hf 6 _ rfl) (t := 3) (o := 8) rfl rfl n3).trans hy6
  have h7 := (fld (hf 7 _ rfl) (t := 3) (o := 9) rfl rfl n3).trans hy7
  have h8 := (fld (hf 8 _ rfl) (t := 28) (o := 10) rfl rfl n28).trans hy8
  have h9 := (fld (hf 9 _ rfl) (t := 3) (o := 11) rfl rfl n3).trans hy9
  have h10 := (fld (hf 10 _ rfl) (t := 3) (o := 12) rfl rfl n3).trans hy10
  have h0' : DataW.trod enc Tryz.prog W base sp held n 23 [c0, c1] = some y0 := h0
  have h1' : DataW.trod enc Tryz.prog W base sp held n 3 [c2] = some y1 := h1
  have h2' : DataW.trod enc Tryz.prog W base sp held n 25 [c3, c4] = some y2 := h2
  have h3' : DataW.trod enc Tryz.prog W base sp held n 26 [c5] = some y3 := h3
  have h4' : DataW.trod enc Tryz.prog W base sp held n 27 [c6] = some y4 := h4
  have h5' : DataW.trod enc Tryz.prog W base sp held n 3 [c7] = some y5 := h5
  have h6' : DataW.trod enc Tryz.prog W base sp held n 3 [c8] = some y6 := h6
  have h7' : DataW.trod enc Tryz.prog W base sp held n 3 [c9] = some y7 := h7
  have h8' : DataW.trod enc Tryz.prog W base sp held n 28 [c10] = some y8 := h8
  have h9' : DataW.trod enc Tryz.prog W base sp held n 3 [c11] = some y9 := h9
  have h10' : DataW.trod enc Tryz.prog W base sp held n 3 [c12] = some y10 := h10
  obtain ⟨site, num, e0⟩ := ints2_open v23 n23 h0'
  obtain ⟨kd, e1, _, _⟩ := DataW.trod_int v3 h1'
  obtain ⟨lg, dt, e2⟩ := ints2_open v25 n25 h2'
  obtain ⟨heads, ho, hc, rfl, eh⟩ := els_open HeadV.cells v26 n46 (fun _ _ _ h => head_open h) (fun y => ⟨rfl, by simp [HeadV.cells, Value.oneCell']⟩) h3' (slice_spot v26 s5)
  obtain ⟨graces, go, gc, rfl, eg⟩ := els_open GraceV.cells v27 n61 (fun _ _ _ h => grace_open h) (fun y => ⟨rfl, by simp [GraceV.cells, Value.oneCell']⟩) h4' (slice_spot v27 s6)
  obtain ⟨ar, e5, _, _⟩ := DataW.trod_int v3 h5'
  obtain ⟨orn, e6, _, _⟩ := DataW.trod_int v3 h6'
  obtain ⟨dy, e7, _, _⟩ := DataW.trod_int v3 h7'
  obtain ⟨lyr, lo, lc, rfl, el⟩ := els_open SyllV.cells v28 n33 (fun _ _ _ h => syll_open h) (fun y => ⟨rfl, by simp [SyllV.cells, Value.oneCell']⟩) h8' (slice_spot v28 s10)
  obtain ⟨st, e9, _, _⟩ := DataW.trod_int v3 h9'
  obtain ⟨be, e10, _, _⟩ := DataW.trod_int v3 h10'
  simp only [List.cons.injEq, and_true] at e0 e1 e2 e5 e6 e7 e9 e10
  obtain ⟨rfl, rfl⟩ := e0
  obtain ⟨rfl, rfl⟩ := e2
  subst e1; subst e5; subst e6; subst e7; subst e9; subst e10
  exact ⟨site, num, kd, lg, dt, ar, orn, dy, st, be, ho, go, lo, hc, gc, lc, heads, graces, lyr, rfl, eh, eg, el⟩
end
end Go.Proofs.YtholnnabakaliaaGreatDoor

namespace Go.Proofs.YtholnnabakaliaaGreatDoor
open Go.ChangeShapes Go.WideShapes Go.ChangeAt Go.RowKit Go.Joins Go.Deep

def laid : List (String × DataW Unit) := Rows.printerEventsRow.laid

/-- A variable's cells, as its block. -/
theorem block_of_var {W : World} (hs : W.ShapedOpen Tryz.prog) {name : String} {g ty : Nat} {cs : Array Value} (hg : Tryz.prog.globalNamed name = some g) (hn : Nat.blt g Tryz.prog.globals.size = true)
    (hw : (((begin Tryz.prog (fun _ _ => 0) default).world.heap[g]?).bind Obj.row?).map (·.2) = some ty) (hv : W.var? Tryz.prog name = some cs) : W.heap[g]? = some (.cells cs ty (0, 0)) := by
  obtain ⟨zero, ty', hz, hty⟩ : ∃ zero ty', ((begin Tryz.prog (fun _ _ => 0) default).world.heap[g]?).bind Obj.row? = some (zero, ty') ∧ ty' = ty := by
    cases hx : ((begin Tryz.prog (fun _ _ => 0) default).world.heap[g]?).bind Obj.row? with
    | none => rw [hx] at hw; cases hw
    | some x => rw [hx] at hw; exact ⟨x.1, x.2, rfl, Option.some.inj hw⟩
  subst hty
  obtain ⟨cs', hh, _, _⟩ := hs.1 g zero ty' (Nat.le_of_ble_eq_true hn) hz
  unfold World.var? at hv
  rw [hg] at hv
  simp only [Option.bind_some, hh, Option.some.injEq] at hv
  rw [hh, hv]

theorem g0 : Tryz.prog.globalNamed "strings.asciiSpace" = some 0 := by kernel_rfl
theorem g2 : Tryz.prog.globalNamed "internal/strconv.uint64pow10" = some 2 := by kernel_rfl
theorem g5 : Tryz.prog.globalNamed "math/bits.deBruijn64tab" = some 5 := by kernel_rfl
theorem g6 : Tryz.prog.globalNamed "strconv.ErrSyntax" = some 6 := by kernel_rfl
theorem b0 : Nat.blt 0 Tryz.prog.globals.size = true := by kernel_rfl
theorem b2 : Nat.blt 2 Tryz.prog.globals.size = true := by kernel_rfl
theorem b5 : Nat.blt 5 Tryz.prog.globals.size = true := by kernel_rfl
theorem b6 : Nat.blt 6 Tryz.prog.globals.size = true := by kernel_rfl
theorem w0 : (((begin Tryz.prog (fun _ _ => 0) default).world.heap[0]?).bind Obj.row?).map (·.2) = some 145 := by kernel_rfl
theorem w2 : (((begin Tryz.prog (fun _ _ => 0) default).world.heap[2]?).bind Obj.row?).map (·.2) = some 203 := by kernel_rfl
theorem w5 : (((begin Tryz.prog (fun _ _ => 0) default).world.heap[5]?).bind Obj.row?).map (·.2) = some 230 := by kernel_rfl
theorem w6 : (((begin Tryz.prog (fun _ _ => 0) default).world.heap[6]?).bind Obj.row?).map (·.2) = some 116 := by kernel_rfl
theorem t0 : (Tryz.prog.globals[0]?).map (·.type) = some 145 := by kernel_rfl
theorem t2 : (Tryz.prog.globals[2]?).map (·.type) = some 203 := by kernel_rfl
theorem t5 : (Tryz.prog.globals[5]?).map (·.type) = some 230 := by kernel_rfl
theorem t6 : (Tryz.prog.globals[6]?).map (·.type) = some 116 := by kernel_rfl
theorem u145 : Tryz.prog.underlying 145 = some (.array 256 5) := by kernel_rfl
theorem u203 : Tryz.prog.underlying 203 = some (.array 20 175) := by kernel_rfl
theorem u230 : Tryz.prog.underlying 230 = some (.array 64 5) := by kernel_rfl
theorem u5 : Tryz.prog.underlying 5 = some (.int .u8) := by kernel_rfl
theorem u175 : Tryz.prog.underlying 175 = some (.int .u64) := by kernel_rfl
theorem c5 : Tryz.prog.cellsOf 5 = 1 := by kernel_rfl
theorem c175 : Tryz.prog.cellsOf 175 = 1 := by kernel_rfl
theorem c145 : Tryz.prog.cellsOf 145 = 256 := by kernel_rfl
theorem c203 : Tryz.prog.cellsOf 203 = 20 := by kernel_rfl
theorem c230 : Tryz.prog.cellsOf 230 = 64 := by kernel_rfl
theorem u116 : Tryz.prog.underlying 116 = some (.interface #[("Error", 119)]) := by kernel_rfl
theorem u237 : Tryz.prog.underlying 237 = some (.pointer 239) := by kernel_rfl
def fErr : Field := { name := "s", type := 9, offset := 0, embedded := false, tag := "", pkgPath := "errors", byteOffset := 0 }
theorem u239 : Tryz.prog.underlying 239 = some (.struct #[fErr]) := by kernel_rfl
theorem c239 : Tryz.prog.cellsOf 239 = 1 := by kernel_rfl

def spaceInts : List Int := (List.range 256).map fun i => if (9 ≤ i ∧ i ≤ 13) ∨ i = 32 then 1 else 0
def powInts : List Int := (List.range 20).map fun i => 10 ^ i
def brInts : List Int := [0, 1, 56, 2, 57, 49, 28, 3, 61, 58, 42, 50, 38, 29, 17, 4, 62, 47, 59, 36, 45, 43, 51, 22, 53, 39, 33, 30, 24, 18, 12, 5, 63, 55, 48, 27, 60, 41, 37, 16, 46, 35, 44, 21, 52, 32, 23, 11, 54, 26, 40, 15, 34, 20, 31, 10, 25, 14, 19, 9, 13, 8, 7, 6]
theorem space_eq : (Rows.laid_strings_asciiSpace : DataW Unit) = Lib.tabData .u8 spaceInts := by kernel_rfl
theorem pow_eq : (Rows.laid_internal_strconv_uint64pow10 : DataW Unit) = Lib.tabData .u64 powInts := by kernel_rfl
theorem br_eq : (Rows.laid_math_bits_deBruijn64tab : DataW Unit) = Lib.tabData .u8 brInts := by kernel_rfl
theorem spaceBlk : Obj.cells (spaceInts.map fun z => Value.int .u8 z).toArray 145 (0, 0) = spaceBlock := by kernel_rfl
theorem powBlk : Obj.cells (powInts.map fun z => Value.int .u64 z).toArray 203 (0, 0) = powBlock := by kernel_rfl
theorem brBlk : Obj.cells (brInts.map fun z => Value.int .u8 z).toArray 230 (0, 0) = brBlock := by kernel_rfl

theorem row237 (u : TypeId) (h : Tryz.prog.typeName? 3 u = some "*errors.errorString") : u = 237 :=
  typeName_ptr_named (nm := "errors.errorString") (by kernel_rfl) (by kernel_rfl) (by decide) u h

/-- What the condition gives the walk. -/
theorem of_laid {W : World} (hs : W.ShapedOpen Tryz.prog) (h : laidMetH Tryz.prog laid W) : ∃ b, Tabs b W := by
  rw [MakeChecks.laidMetH_plain _ _ _ (by kernel_rfl)] at h
  have h1 : laidMet Tryz.prog [("math/bits.deBruijn64tab", Rows.laid_math_bits_deBruijn64tab), ("internal/strconv.uint64pow10", Rows.laid_internal_strconv_uint64pow10), ("strconv.ErrRange", Rows.laid_strconv_ErrRange), ("strconv.ErrSyntax", Rows.laid_strconv_ErrSyntax), ("unicode.White_Space", Rows.laid_unicode_White_Space), ("strings.asciiSpace", Rows.laid_strings_asciiSpace)] W := laidMet.tail h
  have h2 := laidMet.tail h1
  have h4 := laidMet.tail (laidMet.tail h2)
  have h6 := laidMet.tail (laidMet.tail h4)
  rw [br_eq] at h1
  rw [pow_eq] at h2
  rw [space_eq] at h6
  have q5 := Lib.tabIs_of_head g5 t5 u230 u5 c5 c230 h1
  have q2 := Lib.tabIs_of_head g2 t2 u203 u175 c175 c203 h2
  have q0 := Lib.tabIs_of_head g0 t0 u145 u5 c5 c145 h6
  obtain ⟨a, s, hv, hc, _, _⟩ := laid_sentinel h4 g6 t6 u116 row237 u237 u239 rfl rfl v9 c239 n9
  obtain ⟨bl, o, spt⟩ := a
  have e0 : spt = none := by
    unfold World.cell? at hc
    cases spt with
    | none => rfl
    | some x => simp at hc; split at hc <;> simp at hc
  subst e0
  obtain ⟨b, hb⟩ := pairOf_all (bl + o) o bl rfl
  refine ⟨b, (block_of_var hs g0 b0 w0 q0).trans (congrArg some spaceBlk), (block_of_var hs g2 b2 w2 q2).trans (congrArg some powBlk), (block_of_var hs g5 b5 w5 q5).trans (congrArg some brBlk), ?_⟩
  rw [block_of_var hs g6 b6 w6 hv]
  unfold errBlock
  rw [hb]
end Go.Proofs.YtholnnabakaliaaGreatDoor
