/-
  A part of the proof that the law PrinterEvents (chapter 20) returns true for every event: walks of the program's functions, and runs of them in the kernel by the own evaluator.
-/
import Derived.Test.YtholnnabakaliaaGreatDoorPhd
import Derived.Deep.AppendLies
namespace Go.Proofs.YtholnnabakaliaaGreatDoor
open Go.RowKit

section
variable {Y M : Nat} {tv : Value} {toks : List Tok} {pos : Nat} {line col e : Int} {free : Bool} {ls ln : Int} {es : Array MapEntry} {clk : Nat} {w : World} {t : Tok}

theorem noHead_sym {c : UInt8} {bl : List UInt8} (h : IsOf (symP bl c) t) (hc : decide (c ≠ 35 ∧ c ≠ 45 ∧ c ≠ 126 ∧ c ≠ 33 ∧ c ≠ 63) = true) : NoHead t := by
  have hc' := of_decide_eq_true hc
  refine ⟨(joins_of h true signsL).trans ?_, (isTok_of h [126]).trans ?_, (isTok_of h [33]).trans ?_, (isTok_of h [63]).trans ?_⟩ <;> simp [JoinsP, symP, signsL, hc']
theorem noHead_blank {p : Piece} (h : IsOf p t) (hb : p.bl = [32]) (h1 : p.body ≠ [126]) (h2 : p.body ≠ [33]) (h3 : p.body ≠ [63]) : NoHead t := by
  refine ⟨(joins_of h true signsL).trans ?_, (isTok_of h [126]).trans ?_, (isTok_of h [33]).trans ?_, (isTok_of h [63]).trans ?_⟩ <;> simp [JoinsP, hb, h1, h2, h3]
theorem word_ne {p : PitchV} (hp : pitchE p = 0) {c : UInt8} (hc : c.toNat < 65) : wordOfP p ≠ [c] := by
  have hf := List.all_eq_true.1 word_first p (mem_allP hp)
  intro e
  rw [e] at hf
  simp only [Bool.and_eq_true, decide_eq_true_eq] at hf
  omega
theorem word_ne' {p : PitchV} (hp : pitchE p = 0) {c : UInt8} (hc : 71 < c.toNat) : wordOfP p ≠ [c] := by
  have hf := List.all_eq_true.1 word_first p (mem_allP hp)
  intro e
  rw [e] at hf
  simp only [Bool.and_eq_true, decide_eq_true_eq] at hf
  omega
theorem Prs.grown (h : Prs Y M tv toks pos line col 0 free ls ln es clk w) {w' : World} {row : Option Nat} (hg : w.grownBy w' row) (hn : ∀ k, row = some k → k ≠ Y ∧ k ≠ M ∧ tv.ownBlock ≠ some k) : Prs Y M tv toks pos line col 0 free ls ln es clk w' := by
  refine ⟨(hg.block Y h.lt fun e => (hn Y e.symm).1 rfl).trans h.blk, (hg.block M h.ltM fun e => (hn M e.symm).2.1 rfl).trans h.map, fun he => own_step (h.row he) fun k hk => hg.block k ((h.row he).lt k hk).2 fun e => (hn k e.symm).2.2 hk⟩
theorem Away.grown {bs : List Nat} {a w w' : World} {row : Option Nat} (h : Away bs a w) (hg : w.grownBy w' row) (hr : ∀ k, row = some k → a.heap.size ≤ k) : Away bs a w' :=
  ⟨hg.os.trans h.os, hg.tape.trans h.tape, hg.output.trans h.output, Nat.le_trans h.size hg.size, fun k hk hb => (hg.block k (Nat.lt_of_lt_of_le hk h.size) fun e => by have := hr k e.symm; omega).trans (h.block k hk hb)⟩
theorem sep_head {α : Type} (f : List UInt8 → α → List Piece) (bl : List UInt8) (x : α) (r : List α) : sepPs f bl (x :: r) = f bl x ++ sepPs f [32] r := rfl
theorem headPs_first (bl : List UInt8) (x : HeadV) : ∃ r, headPs bl x = wordP bl (wordOfP x.p) :: r := ⟨_, rfl⟩

theorem Tryz.infoheads : (Tryz.prog.info? 46).map (fun i => (i.zero.isSome, i.size, i.bytes)) = some (true, 5, 40) := by kernel_rfl

theorem zero_cells_heads {i : TypeInfo} {z : Value} (h1 : Tryz.prog.info? 46 = some i) (h2 : i.zero = some z) : z.cells.size = 5 := by
  have : (Tryz.prog.info? 46).map (fun i => i.zero.map fun z => z.cells.size) = some (some 5) := by kernel_rfl
  rw [h1] at this
  simp only [Option.map_some, h2, Option.some.injEq] at this
  exact this

theorem next_heads (q : Nat) (r : List HeadV) (h : At toks q (sepPs headPs [32] r ++ [symP [] 62])) (hok : ∀ x ∈ r, HeadOk x) : ∃ t, toks[q]? = some t ∧ NoHead t ∧ IsTok t ⟨#[62]⟩ = decide (r = []) := by
  cases r with
  | nil =>
    obtain ⟨t, ht, hi⟩ := At.first (r := []) h
    exact ⟨t, ht, noHead_sym hi (by decide), (isTok_of hi [62]).trans (by decide)⟩
  | cons x r =>
    have hx := hok x List.mem_cons_self
    rw [sep_head, List.append_assoc] at h

    obtain ⟨r', hr'⟩ := headPs_first [32] x
    rw [hr'] at h
    obtain ⟨t, ht, hi⟩ := At.first (r := r' ++ _) h
    exact ⟨t, ht, noHead_blank hi rfl (word_ne' hx.1 (by decide)) (word_ne hx.1 (by decide)) (word_ne hx.1 (by decide)), (isTok_of hi [62]).trans (by
      have : wordOfP x.p ≠ [62] := word_ne hx.1 (by decide)
      simp [wordP, this])⟩



set_option maxHeartbeats 16000000 in
set_option maxRecDepth 100000 in
theorem several_heads (h : Prs Y M tv toks pos line col 0 free ls ln es clk w) (x : HeadV) (r : List HeadV) (bl : List UInt8) (hok : ∀ y ∈ x :: r, HeadOk y) (hA : At toks pos (sepPs headPs bl (x :: r) ++ [symP [] 62])) (hr8 : r.length ≤ 100) (hpos : pos + (sepPs headPs bl (x :: r)).length + 1 ≤ 1000000) {b : Nat} (T : Tabs b w) (hY : 7 ≤ Y) :
    Calls Tryz.prog 51 #[.pointer (some ⟨Y, 0, none⟩), .func (.func 52) #[.pointer (some ⟨Y, 0, none⟩)] #[], .string ⟨#[62]⟩] w fun rr w' => ∃ v, rr = .returned v ∧ Els w' 5 v ((x :: r).map HeadV.cells) ∧ (∀ k, v.ownBlock = some k → w.heap.size ≤ k) ∧ Prs Y M tv toks (pos + (sepPs headPs bl (x :: r)).length + 1) line col 0 free ls ln es clk w' ∧ Away [Y] w w' := by
  obtain ⟨E, hE⟩ : ∃ E, E = pos + (sepPs headPs bl (x :: r)).length := ⟨_, rfl⟩
  rw [← hE] at hpos ⊢
  obtain ⟨i0, hi0, hz0, hz1, hz2⟩ : ∃ i, Tryz.prog.info? 46 = some i ∧ i.zero.isSome = true ∧ i.size = 5 ∧ i.bytes = 40 := by
    have := Tryz.infoheads
    cases hi : Tryz.prog.info? 46 with
    | none => rw [hi] at this; cases this
    | some i => rw [hi] at this; simp only [Option.map_some, Option.some.injEq, Prod.mk.injEq] at this; exact ⟨i, rfl, this.1, this.2.1, this.2.2⟩
  have hr0 := h.row rfl
  have htv : ∀ k, tv.ownBlock = some k → k < w.heap.size := fun k hk => (hr0.lt k hk).2
  have lY := h.lt
  have lM := h.ltM
  have hx := hok x List.mem_cons_self
  rw [sep_head, List.append_assoc] at hA
  have hA2 := hA.right
  have hE2 : pos + (headPs bl x).length + (sepPs headPs [32] r).length = E := by rw [hE, sep_head, List.length_append]; omega
  have hok' : ∀ y ∈ r, HeadOk y := fun y hy => hok y (List.mem_cons_of_mem _ hy)
  obtain ⟨t1, ht1, hn1, -⟩ := next_heads _ r hA2 hok'

  have x1 := head_at (bl := bl) h hx hA.left ht1 hn1 (by omega) T


  generalize pos + (headPs bl x).length = q at hA2 hE2 x1 ht1
  have hel : ∀ l : List HeadV, ((l.map HeadV.cells).flatMap (·.toList)).length = l.length * 5 := by
    intro l
    induction l with
    | nil => rfl
    | cons a l ih => rw [List.map_cons, List.flatMap_cons, List.length_append, ih, List.length_cons]; show 5 + l.length * 5 = (l.length + 1) * 5; omega
  clear hA h hE hx ht1 hn1 hok
  obtain ⟨xs0, hxs0⟩ : ∃ xs0, xs0 = x :: r := ⟨_, rfl⟩
  rw [← hxs0]
  have HX := shut hxs0
  clear hxs0
  obtain ⟨x', hx'⟩ : ∃ x', x' = x := ⟨_, rfl⟩
  have HX' := shut hx'
  obtain ⟨⟨y0, y1, y2⟩, y3, y4⟩ := x
  simp only [HeadV.cells] at x1
  go_enter Tryz.func51, Tryz.ntmps51
  go_wp2_with (go_at_call 52; refine x1.mono ?_)
  intro rr w1; first | (intro he hS1 a1; subst he) | rintro ⟨rfl, hS1, a1⟩
  have sz1 := a1.size
  have hS2 := hS1.step ((Below.refl _ w1).alloc (Nat.le_refl _) (.cells #[.int .i64 y0, .int .i64 y1, .int .i64 y2, .bool y3, .int .i64 y4] 46))
  have aw2 := a1.alloc (.cells #[.int .i64 y0, .int .i64 y1, .int .i64 y2, .bool y3, .int .i64 y4] 46)
  have ho2 : (w1.alloc (.cells #[.int .i64 y0, .int .i64 y1, .int .i64 y2, .bool y3, .int .i64 y4] 46)).ownsRow w.heap.size 46 5 (.slice (some ⟨w1.heap.size, 0, none⟩) 1 1) 1 #[.int .i64 y0, .int .i64 y1, .int .i64 y2, .bool y3, .int .i64 y4].toList := World.ownsRow_lit (size := 5) w1 #[.int .i64 y0, .int .i64 y1, .int .i64 y2, .bool y3, .int .i64 y4] 1 sz1 (by decide) rfl
  clear x1 hS1 a1
  go_wp2
  go_loopg [7] r.length (fun g s7 wr => ∃ (k : Nat) (q : Nat), k ≤ r.length ∧ g = r.length - k ∧ At toks q (sepPs headPs [32] (r.drop k) ++ [symP [] 62]) ∧ q + (sepPs headPs [32] (r.drop k)).length = E ∧ wr.ownsRow w.heap.size 46 5 s7 (k + 1) (((x' :: r.take k).map HeadV.cells).flatMap (·.toList)) ∧ Prs Y M tv toks q line col 0 free ls ln es clk wr ∧ Away [Y] w wr)
  case atStart => exact ⟨0, q, Nat.zero_le _, rfl, hA2, hE2, by rw [HX'.out]; exact ho2, hS2, aw2⟩
  case round =>
    clear hS2 aw2 ho2 hA2 hE2
    obtain ⟨k, q, hk, hg, hA, hE, hown, hS, aw⟩ := hrel
    have hokd : ∀ y ∈ r.drop k, HeadOk y := fun y hy => hok' y (List.mem_of_mem_drop hy)
    obtain ⟨t1, ht1, hn1, hb1⟩ := next_heads q (r.drop k) hA hokd
    have hq9 : q ≤ 1000000 := by omega
    have c4 := hS.c4
    by_cases hlt : k < r.length
    · have hd : r.drop k = r[k] :: r.drop (k + 1) := List.drop_eq_getElem_cons hlt
      rw [hd] at hA hE hb1 hokd
      have hb2 : IsTok t1 ⟨#[62]⟩ = false := hb1.trans (decide_eq_false (by intro e; cases e))
      have xi := is_ok hS ht1 _ hb2
      have htk : r.take (k + 1) = r.take k ++ [r[k]] := List.take_succ_eq_append_getElem hlt
      have hx := hokd r[k] List.mem_cons_self
      generalize r[k] = y at hA hE htk hx hokd
      rw [sep_head, List.append_assoc] at hA
      have hA3 := hA.right
      have hE3 : q + (headPs [32] y).length + (sepPs headPs [32] (r.drop (k + 1))).length = E := by rw [← hE, sep_head, List.length_append]; omega
      have hok3 : ∀ z ∈ r.drop (k + 1), HeadOk z := fun z hz => hokd z (List.mem_cons_of_mem _ hz)
      obtain ⟨t2, ht2, hn2, -⟩ := next_heads _ (r.drop (k + 1)) hA3 hok3

      have xr := fun W (bW : Below wr.heap.size wr W) => head_at (bl := [32]) (hS.step bW) hx hA.left ht2 hn2 (by omega) (T.away (aw.step bW) (by simp; omega))


      generalize q + (headPs [32] y).length = q' at hA3 hE3 xr ht2
      have hcat : (((x' :: r.take (k + 1)).map HeadV.cells).flatMap (·.toList)) = (((x' :: r.take k).map HeadV.cells).flatMap (·.toList)) ++ y.cells.toList := by rw [htk]; simp
      have hle := hel (x' :: r.take k)
      generalize (((x' :: r.take k).map HeadV.cells).flatMap (·.toList)) = cur at hown hcat hle
      obtain ⟨⟨z0, z1, z2⟩, z3, z4⟩ := y
      simp only [HeadV.cells] at xr hcat
      have HC := shut hcat
      have HA3 := shut (And.intro hA3 hE3)
      clear hcat htk hA hE hd hb1 hb2 hx hokd ht1 hn1 ht2 hn2 hA3 hE3 hok3 hle
      go_wp2_with (go_at_call 72; refine xi.mono ?_)
      intro rr w3; first | (intro he b3; subst he) | rintro ⟨rfl, b3⟩
      have xr3 := xr w3 b3
      have hown3 := own_step hown fun j hj => b3.block j (hown.lt j hj).2
      have aw3 := aw.step b3
      clear xr xi c4 hS hown aw b3
      obtain ⟨ao, cp, rfl⟩ := own_is hown3
      go_wp2_with (go_at_call 52; refine xr3.mono ?_)
      intro rr w4; first | (intro he hS4 a4; subst he) | rintro ⟨rfl, hS4, a4⟩
      have hlo : ∀ j, (Value.slice ao (k + 1) cp).ownBlock = some j → w.heap.size ≤ j := fun j hj => (hown3.lt j hj).1
      have hown4 := own_step hown3 fun j hj => a4.block j (hown3.lt j hj).2 (by have := hlo j hj; simp; omega)
      have aw4 := aw3.trans a4
      have sz4 := aw4.size
      clear xr3 hown3 aw3 a4
      obtain ⟨zz, hzz⟩ := Option.isSome_iff_exists.1 hz0
      go_wp2_with (at_builtin; refine wpList_append_lies _ rfl _ _ 26 rfl w.heap.size 46 i0 _ 5 40 Tryz.underlying26 hi0 hzz hz1 hz2 (zero_cells_heads hi0 hzz) (by omega) _ (k + 1) _ rfl (hown4.alloc _) ⟨w4.heap.size, 0, none⟩ 1 1 #[.int .i64 z0, .int .i64 z1, .int .i64 z2, .bool z3, .int .i64 z4].toList rfl rfl (World.news_of_block (cs := #[.int .i64 z0, .int .i64 z1, .int .i64 z2, .bool z3, .int .i64 z4]) (t := 46) (fr := (0, 0)) (heap_alloc_new _ _)) (by simp [Value.oneCell']) (by omega) (by unfold maxLen; omega) (by omega) (by simp; omega) (w4.heap.size + 1) (by simp) ?_; intro gg wcap w5 hown5 hgrow hat hgl)
      go_roundg (r.length - (k + 1))
      case measure => omega
      case rel =>
        refine ⟨k + 1, q', by omega, rfl, HA3.out.1, HA3.out.2, ?_, (hS4.step ((Below.refl _ w4).alloc (Nat.le_refl _) _)).grown hgrow (fun j hj => ?_), (aw4.alloc _).grown hgrow hlo⟩
        · rw [HC.out]; exact hown5
        · have := hlo j hj
          exact ⟨by omega, by omega, fun e => by have := htv j e; omega⟩
    · have hkl : k = r.length := by omega
      subst hkl
      have hd : r.drop r.length = [] := List.drop_length
      rw [hd] at hA hE hb1
      have hb2 : IsTok t1 ⟨#[62]⟩ = true := hb1.trans (by simp)
      have xi := is_ok hS ht1 _ hb2
      have hqE : q = E := hE
      subst hqE
      have xe := fun W (bW : Below wr.heap.size wr W) => expect_yes (hS.step bW) ht1 _ hb2 (by omega)
      rw [List.take_length] at hown
      obtain ⟨ao, cp, rfl⟩ := own_is hown
      have hlo : ∀ j, (Value.slice ao (r.length + 1) cp).ownBlock = some j → w.heap.size ≤ j := fun j hj => (hown.lt j hj).1
      clear hA hE hb1 hb2 hokd hd ht1 hn1 hS
      go_wp2_with (go_at_call 72; refine xi.mono ?_)
      intro rr w3; first | (intro he b3; subst he) | rintro ⟨rfl, b3⟩
      have xe3 := xe w3 b3
      have hown3 := own_step hown fun j hj => b3.block j (hown.lt j hj).2
      have aw3 := aw.step b3
      clear xe xi c4 hown aw b3
      go_wp2_with (go_at_call 48; refine xe3.mono ?_)
      intro rr w4; first | (intro he hS4 a4; subst he) | rintro ⟨rfl, hS4, a4⟩
      have hown4 := own_step hown3 fun j hj => a4.block j (hown3.lt j hj).2 (by have := hlo j hj; simp; omega)
      have aw4 := aw3.trans a4
      clear xe3 hown3 aw3 a4
      go_wp2
      go_ret
      refine ⟨_, rfl, ?_, hlo, hS4, aw4⟩
      have hxe : xs0.map HeadV.cells = (x' :: r).map HeadV.cells := by rw [HX.out, HX'.out]
      rw [hxe]
      refine Els.of_own (B := w.heap.size) (T := 46) (by rw [List.length_map, List.length_cons]; exact hown4) rfl (fun c hc => ?_)
      obtain ⟨y, -, rfl⟩ := List.mem_map.1 hc
      exact ⟨rfl, by simp [HeadV.cells, Value.oneCell']⟩
end
end Go.Proofs.YtholnnabakaliaaGreatDoor
