/-
  A part of the proof that the law PrinterEvents (chapter 20) returns true for every event: walks of the program's functions, and runs of them in the kernel by the own evaluator.
-/
import Derived.Test.YtholnnabakaliaaGreatDoorSvg
import Derived.Test.YtholnnabakaliaaGreatDoorAtw
namespace Go.Proofs.YtholnnabakaliaaGreatDoor
open Go.RowKit

theorem Tryz.infoSyll : (Tryz.prog.info? 33).map (fun i => (i.zero.map fun z => z.cells.size, i.size, i.bytes)) = some (some 2, 2, 24) := by kernel_rfl

section
variable {Y M : Nat} {tv : Value} {toks : List Tok} {pos : Nat} {line col e : Int} {free : Bool} {ls ln : Int} {es : Array MapEntry} {clk : Nat} {w : World} {t : Tok}

/-- What stands behind a syllable without a link. -/
def NoLink (t : Tok) : Prop := t.joined = false ∨ (t.joined = true ∧ IsTok t ⟨#[45]⟩ = false ∧ IsTok t ⟨#[95]⟩ = false)
theorem next_syll (q : Nat) (r : List SyllV) (h : At toks q (sepPs syllPs [32] r ++ [endP []])) : ∃ t, toks[q]? = some t ∧ NoLink t ∧ (r = [] → t.kind = 0 ∧ IsTok t ⟨#[95]⟩ = false) := by
  cases r with
  | nil =>
    obtain ⟨t, ht, hi⟩ := At.first (r := []) h
    exact ⟨t, ht, .inr ⟨hi.2.2.2.1, (isTok_of hi [45]).trans (by decide), (isTok_of hi [95]).trans (by decide)⟩, fun _ => ⟨hi.1, (isTok_of hi [95]).trans (by decide)⟩⟩
  | cons x r =>
    rw [sep_head, List.append_assoc] at h
    have h0 := h.left
    unfold syllPs at h0
    split at h0
    · obtain ⟨t, ht, hi⟩ := h0.first
      exact ⟨t, ht, .inl hi.2.2.2.1, fun e => by cases e⟩
    · obtain ⟨t, ht, hi⟩ := h0.first
      exact ⟨t, ht, .inl hi.2.2.2.1, fun e => by cases e⟩

/-- The tokens of a syllable. -/
theorem syll_toks (q : Nat) (y : SyllV) (hy : 0 ≤ y.ln ∧ y.ln ≤ 2) (h : At toks q (syllPs [32] y)) {tn : Tok} (htn : toks[q + (syllPs [32] y).length]? = some tn) (hn : NoLink tn) :
    ∃ t, toks[q]? = some t ∧ ((y.tx = ⟨#[]⟩ ∧ y.ln = 2 ∧ t.kind = 4 ∧ IsTok t ⟨#[95]⟩ = true ∧ (syllPs [32] y).length = 1) ∨
      (t.kind = 3 ∧ IsTok t ⟨#[95]⟩ = false ∧ t.bytes = y.tx ∧ ∃ t2, toks[q + 1]? = some t2 ∧
        ((y.ln = 0 ∧ NoLink t2 ∧ (syllPs [32] y).length = 1) ∨ (y.ln = 1 ∧ t2.joined = true ∧ IsTok t2 ⟨#[45]⟩ = true ∧ (syllPs [32] y).length = 2) ∨ (y.ln = 2 ∧ t2.joined = true ∧ IsTok t2 ⟨#[45]⟩ = false ∧ IsTok t2 ⟨#[95]⟩ = true ∧ (syllPs [32] y).length = 2)))) := by
  unfold syllPs at h htn ⊢
  by_cases hc : y.tx.toList.isEmpty = true ∧ y.ln = 2
  · rw [if_pos hc] at h htn ⊢
    obtain ⟨t, ht, hi⟩ := h.first
    refine ⟨t, ht, .inl ⟨?_, hc.2, hi.1, (isTok_of hi [95]).trans (by decide), rfl⟩⟩
    have h1 := List.isEmpty_iff.1 hc.1
    rw [ByteArray.toList_eq] at h1
    exact ByteArray.ext (Array.ext' h1)
  · rw [if_neg hc] at h htn ⊢
    obtain ⟨t, ht, hi⟩ := h.first
    have hk : IsTok t ⟨#[95]⟩ = false := (isTok_of hi [95]).trans (by simp [strP])
    have hb : t.bytes = y.tx := hi.2.2.2.2
    have hc3 : y.ln = 0 ∨ y.ln = 1 ∨ y.ln = 2 := by omega
    rcases hc3 with h0 | h0 | h0
    · simp only [h0, if_true, List.length_cons, List.length_nil] at htn ⊢
      exact ⟨t, ht, .inr ⟨hi.1, hk, hb, tn, htn, .inl ⟨trivial, hn, trivial⟩⟩⟩
    · simp only [h0, Int.reduceEq, if_false, if_true] at h ⊢
      obtain ⟨t2, ht2, hi2⟩ := h.rest.first
      exact ⟨t, ht, .inr ⟨hi.1, hk, hb, t2, ht2, .inr (.inl ⟨trivial, hi2.2.2.2.1, (isTok_of hi2 [45]).trans (by decide), rfl⟩)⟩⟩
    · simp only [h0, Int.reduceEq, if_false] at h ⊢
      obtain ⟨t2, ht2, hi2⟩ := h.rest.first
      exact ⟨t, ht, .inr ⟨hi.1, hk, hb, t2, ht2, .inr (.inr ⟨trivial, hi2.2.2.2.1, (isTok_of hi2 [45]).trans (by decide), (isTok_of hi2 [95]).trans (by decide), rfl⟩)⟩⟩

set_option maxHeartbeats 16000000 in
set_option maxRecDepth 100000 in
theorem lyrics_at (h : Prs Y M tv toks pos line col 0 free ls ln es clk w) (r : List SyllV) (hok : ∀ y ∈ r, 0 ≤ y.ln ∧ y.ln ≤ 2) (hA : At toks pos (sepPs syllPs [32] r ++ [endP []])) (hr8 : r.length ≤ 100) (hpos : pos + (sepPs syllPs [32] r).length + 1 ≤ 1000000) :
    Calls Tryz.prog 55 #[.pointer (some ⟨Y, 0, none⟩)] w fun rr w' => ∃ v, rr = .returned v ∧ Els w' 2 v (r.map SyllV.cells) ∧ (∀ k, v.ownBlock = some k → w.heap.size ≤ k) ∧ Prs Y M tv toks (pos + (sepPs syllPs [32] r).length) line col 0 free ls ln es clk w' ∧ Away [Y] w w' := by
  obtain ⟨E, hE⟩ : ∃ E, E = pos + (sepPs syllPs [32] r).length := ⟨_, rfl⟩
  rw [← hE] at hpos ⊢
  obtain ⟨i0, zz, hi0, hzz, hzc, hz1, hz2⟩ : ∃ i z, Tryz.prog.info? 33 = some i ∧ i.zero = some z ∧ z.cells.size = 2 ∧ i.size = 2 ∧ i.bytes = 24 := by
    have := Tryz.infoSyll
    cases hi : Tryz.prog.info? 33 with
    | none => rw [hi] at this; cases this
    | some i =>
      rw [hi] at this
      simp only [Option.map_some, Option.some.injEq, Prod.mk.injEq] at this
      cases hz : i.zero with
      | none => rw [hz] at this; cases this.1
      | some z => rw [hz] at this; exact ⟨i, z, rfl, hz, by simpa using this.1, this.2.1, this.2.2⟩
  have hr0 := h.row rfl
  have htv : ∀ k, tv.ownBlock = some k → k < w.heap.size := fun k hk => (hr0.lt k hk).2
  have lY := h.lt
  have lM := h.ltM
  have hel : ∀ l : List SyllV, ((l.map SyllV.cells).flatMap (·.toList)).length = l.length * 2 := by
    intro l
    induction l with
    | nil => rfl
    | cons a l ih => rw [List.map_cons, List.flatMap_cons, List.length_append, ih, List.length_cons]; show 2 + l.length * 2 = (l.length + 1) * 2; omega
  go_enter Tryz.func55, Tryz.ntmps55
  go_wp2
  go_loopg [3] r.length (fun g s3 wr => ∃ (k : Nat) (q : Nat), k ≤ r.length ∧ g = r.length - k ∧ At toks q (sepPs syllPs [32] (r.drop k) ++ [endP []]) ∧ q + (sepPs syllPs [32] (r.drop k)).length = E ∧ wr.ownsRow w.heap.size 33 2 s3 k (((r.take k).map SyllV.cells).flatMap (·.toList)) ∧ Prs Y M tv toks q line col 0 free ls ln es clk wr ∧ Away [Y] w wr)
  case atStart => exact ⟨0, pos, Nat.zero_le _, rfl, hA, hE.symm, World.ownsRow_nil _ _ _ _, h, Away.refl _ _⟩
  case round =>
    clear h hA hE
    obtain ⟨k, q, hk, hg, hA, hE, hown, hS, aw⟩ := hrel
    have hq9 : q ≤ 1000000 := by omega
    obtain ⟨ao, cp, rfl⟩ := own_is hown
    have hlo : ∀ j, (Value.slice ao k cp).ownBlock = some j → w.heap.size ≤ j := fun j hj => (hown.lt j hj).1
    by_cases hlt : k < r.length
    · have hd : r.drop k = r[k] :: r.drop (k + 1) := List.drop_eq_getElem_cons hlt
      rw [hd] at hA hE
      have htk : r.take (k + 1) = r.take k ++ [r[k]] := List.take_succ_eq_append_getElem hlt
      have hy := hok r[k] (List.getElem_mem hlt)
      generalize r[k] = y at hA hE htk hy
      rw [sep_head, List.append_assoc] at hA
      have hA3 := hA.right
      have hE3 : q + (syllPs [32] y).length + (sepPs syllPs [32] (r.drop (k + 1))).length = E := by rw [← hE, sep_head, List.length_append]; omega
      obtain ⟨tn, htn, hnn, -⟩ := next_syll _ (r.drop (k + 1)) hA3
      obtain ⟨t1, ht1, hcase⟩ := syll_toks q y hy hA.left htn hnn
      have hcat : (((r.take (k + 1)).map SyllV.cells).flatMap (·.toList)) = (((r.take k).map SyllV.cells).flatMap (·.toList)) ++ y.cells.toList := by rw [htk]; simp
      have hle := hel (r.take k)
      generalize (((r.take k).map SyllV.cells).flatMap (·.toList)) = cur at hown hcat hle
      obtain ⟨tx, lnk⟩ := y
      simp only [SyllV.cells] at hcat hcase hy
      have HC := shut hcat
      have xp := peek_ok hS ht1
      clear hcat htk hA hE hd htn hnn hle hy
      rcases hcase with ⟨rfl, rfl, hk4, hb1, hl1⟩ | ⟨hk3, hb1, hby, t2, ht2, hcase⟩
      · rw [hl1] at hA3 hE3
        have HA3 := shut (And.intro hA3 hE3)
        have xi := fun W (bW : Below wr.heap.size wr W) => is_ok (hS.step bW) ht1 _ hb1
        have xa := fun W (bW : Below wr.heap.size wr W) => accept_yes (hS.step bW) ht1 _ hb1 (by omega)
        have hfd := field0_run t1.kind (.string t1.text) (.int .i64 t1.value) (.string t1.bytes) (.int .i64 t1.line) (.int .i64 t1.col) (.bool t1.joined)
        rw [hk4] at xp hfd
        clear hA3 hE3 hl1
        go_wp2_with (go_at_call 56; refine xp.mono ?_)
        intro rr w1; first | (intro he b1; subst he) | rintro ⟨rfl, b1⟩
        have xi1 := xi w1 b1
        go_wp2_with (go_at_call 72; refine xi1.mono ?_)
        intro rr w2; first | (intro he b2; subst he) | rintro ⟨rfl, b2⟩
        have bb2 := b1.trans (b2.mono b1.size)
        have xa2 := xa w2 bb2
        have hown2 := own_step hown fun j hj => bb2.block j (hown.lt j hj).2
        have aw2 := aw.step bb2
        clear xp xi xi1 xa hS hown aw b1 b2 bb2 hfd
        go_wp2_with (go_at_call 47; refine xa2.mono ?_)
        intro rr w4; first | (intro he hS4 a4; subst he) | rintro ⟨rfl, hS4, a4⟩
        have hown4 := own_step hown2 fun j hj => a4.block j (hown2.lt j hj).2 (by have := hlo j hj; simp; omega)
        have aw4 := aw2.trans a4
        have sz4 := aw4.size
        clear xa2 hown2 aw2 a4
        go_wp2_with (at_builtin; refine wpList_append_lies _ rfl _ _ 28 rfl w.heap.size 33 i0 _ 2 24 Tryz.underlying28 hi0 hzz hz1 hz2 hzc (by omega) _ k _ rfl (hown4.alloc _) ⟨w4.heap.size, 0, none⟩ 1 1 [.string ⟨#[]⟩, .int .i64 2] rfl rfl (World.news_of_block (cs := #[.string ⟨#[]⟩, .int .i64 2]) (t := 33) (fr := (0, 0)) (heap_alloc_new _ _)) (by simp [Value.oneCell']) (by omega) (by unfold maxLen; omega) (by omega) (by simp; omega) (w4.heap.size + 1) (by simp) ?_; intro gg wcap w5 hown5 hgrow hat hgl)
        go_roundg (r.length - (k + 1))
        case measure => omega
        case rel =>
          refine ⟨k + 1, q + 1, by omega, rfl, HA3.out.1, HA3.out.2, ?_, (hS4.step ((Below.refl _ w4).alloc (Nat.le_refl _) _)).grown hgrow (fun j hj => ?_), (aw4.alloc _).grown hgrow hlo⟩
          · rw [HC.out]; exact hown5
          · have := hlo j hj
            exact ⟨by omega, by omega, fun e => by have := htv j e; omega⟩
      · have xa := fun W (bW : Below wr.heap.size wr W) => accept_no (hS.step bW) ht1 _ hb1
        have xs := fun W (bW : Below wr.heap.size wr W) => str_ok (hS.step bW) ht1 hk3 (by omega)
        have hfd := field0_run t1.kind (.string t1.text) (.int .i64 t1.value) (.string t1.bytes) (.int .i64 t1.line) (.int .i64 t1.col) (.bool t1.joined)
        rw [hk3] at xp hfd
        rw [hby] at xs xp hfd
        clear hby
        go_wp2_with (go_at_call 56; refine xp.mono ?_)
        intro rr w1; first | (intro he b1; subst he) | rintro ⟨rfl, b1⟩
        have xa1 := xa w1 b1
        go_wp2_with (go_at_call 47; refine xa1.mono ?_)
        intro rr w2; first | (intro he b2; subst he) | rintro ⟨rfl, b2⟩
        have bb2 := b1.trans (b2.mono b1.size)
        have xs2 := xs w2 bb2
        have hown2 := own_step hown fun j hj => bb2.block j (hown.lt j hj).2
        have aw2 := aw.step bb2
        clear xp xa xa1 xs hS hown aw b1 b2 bb2 hfd
        go_wp2_with (go_at_call 84; refine xs2.mono ?_)
        intro rr w3; first | (intro he hS3 a3; subst he) | rintro ⟨rfl, hS3, a3⟩
        have hown3 := own_step hown2 fun j hj => a3.block j (hown2.lt j hj).2 (by have := hlo j hj; simp; omega)
        have aw3 := aw2.trans a3
        have sz3 := aw3.size
        have hX3 := heap_alloc_new w3 (.cells #[.string tx, .int .i64 0] 33)
        have hS3' := hS3.step ((Below.refl _ w3).alloc (Nat.le_refl _) (.cells #[.string tx, .int .i64 0] 33))
        have hown3' := hown3.alloc (.cells #[.string tx, .int .i64 0] 33)
        have aw3' := aw3.alloc (.cells #[.string tx, .int .i64 0] 33)
        have xp3 := peek_ok hS3' ht2
        have hfd := field6_run (.int .i64 t2.kind) (.string t2.text) (.int .i64 t2.value) (.string t2.bytes) (.int .i64 t2.line) (.int .i64 t2.col) t2.joined
        have hnX : ∀ j, (Value.slice ao k cp).ownBlock = some j → j ≠ w3.heap.size := fun j hj => by have := (hown3.lt j hj).2; omega
        have lY3 := hS3.lt
        obtain ⟨X, hXe⟩ : ∃ X, X = w3.heap.size := ⟨_, rfl⟩
        rw [← hXe] at hX3 hnX lY3 sz3
        have HXe := shut hXe
        clear xs2 hown2 aw2 a3 hS3 hown3 aw3
        rcases hcase with ⟨rfl, hnl, hl1⟩ | ⟨rfl, hj2, hd2, hl1⟩ | ⟨rfl, hj2, hd2, hd3, hl1⟩
        · rw [hl1] at hA3 hE3
          have HA3 := shut (And.intro hA3 hE3)
          clear hA3 hE3 hl1
          go_wp2_with (go_at_call 56; refine xp3.mono ?_)
          intro rr w4; first | (intro he b4; subst he) | rintro ⟨rfl, b4⟩
          rw [← hXe]
          have hX4 := (b4.block X (Array.getElem?_eq_some_iff.1 hX3).1).trans hX3
          have hS4 := hS3'.step b4
          have hown4 := own_step hown3' fun j hj => b4.block j (hown3'.lt j hj).2
          have aw4 := aw3'.step b4
          clear xp3 hX3 hS3' hown3' aw3' b4 hXe
          rcases hnl with hj2 | ⟨hj2, hd2, hd3⟩
          · rw [hj2] at hfd ⊢
            have hS9 := hS4
            have aw9 := aw4
            have hown9 := hown4
            have u0 : w4.cell? ⟨X, 0, none⟩ = some (.string tx) := by rw [Lib.cell_of_heap hX4]; rfl
            have u1 : w4.cell? ⟨X, 1, none⟩ = some (.int .i64 0) := by rw [Lib.cell_of_heap hX4]; rfl
            have hN9 : (w4.alloc (.cells #[.string tx, .int .i64 0] 33)).heap[w4.heap.size]? = some (.cells #[.string tx, .int .i64 0] 33 (0, 0)) := heap_alloc_new _ _
            have sz9 := aw9.size
            clear hS4 aw4 hown4
            go_wp2_with (at_builtin; refine wpList_append_lies _ rfl _ _ 28 rfl w.heap.size 33 i0 _ 2 24 Tryz.underlying28 hi0 hzz hz1 hz2 hzc (by omega) _ k _ rfl (hown9.alloc _) ⟨w4.heap.size, 0, none⟩ 1 1 [.string tx, .int .i64 0] rfl rfl (World.news_of_block (cs := #[.string tx, .int .i64 0]) (t := 33) (fr := (0, 0)) hN9) (by simp [Value.oneCell']) (by omega) (by unfold maxLen; omega) (by omega) (by simp; omega) (w4.heap.size + 1) (by simp) ?_; intro gg wcap w9 hown10 hgrow hat hgl)
            go_roundg (r.length - (k + 1))
            case measure => omega
            case rel =>
              refine ⟨k + 1, (q + 1), by omega, rfl, HA3.out.1, HA3.out.2, ?_, (hS9.step ((Below.refl _ w4).alloc (Nat.le_refl _) _)).grown hgrow (fun j hj => ?_), (aw9.alloc _).grown hgrow hlo⟩
              · rw [HC.out]; exact hown10
              · have := hlo j hj
                exact ⟨by omega, by omega, fun e => by have := htv j e; omega⟩
          · rw [hj2] at hfd ⊢
            have xd := accept_no hS4 ht2 _ hd2
            go_wp2_with (go_at_call 47; refine xd.mono ?_)
            intro rr w5; first | (intro he b5; subst he) | rintro ⟨rfl, b5⟩
            have hX5 := (b5.block X (Array.getElem?_eq_some_iff.1 hX4).1).trans hX4
            have hS5 := hS4.step b5
            have hown5 := own_step hown4 fun j hj => b5.block j (hown4.lt j hj).2
            have aw5 := aw4.step b5
            clear xd hX4 hS4 hown4 aw4 b5
            have xe := accept_no hS5 ht2 _ hd3
            go_wp2_with (go_at_call 47; refine xe.mono ?_)
            intro rr w6; first | (intro he b6; subst he) | rintro ⟨rfl, b6⟩
            have hX6 := (b6.block X (Array.getElem?_eq_some_iff.1 hX5).1).trans hX5
            have hS6 := hS5.step b6
            have hown6 := own_step hown5 fun j hj => b6.block j (hown5.lt j hj).2
            have aw6 := aw5.step b6
            clear xe hX5 hS5 hown5 aw5 b6
            have hS9 := hS6
            have aw9 := aw6
            have hown9 := hown6
            have u0 : w6.cell? ⟨X, 0, none⟩ = some (.string tx) := by rw [Lib.cell_of_heap hX6]; rfl
            have u1 : w6.cell? ⟨X, 1, none⟩ = some (.int .i64 0) := by rw [Lib.cell_of_heap hX6]; rfl
            have hN9 : (w6.alloc (.cells #[.string tx, .int .i64 0] 33)).heap[w6.heap.size]? = some (.cells #[.string tx, .int .i64 0] 33 (0, 0)) := heap_alloc_new _ _
            have sz9 := aw9.size
            clear hS6 aw6 hown6
            go_wp2_with (at_builtin; refine wpList_append_lies _ rfl _ _ 28 rfl w.heap.size 33 i0 _ 2 24 Tryz.underlying28 hi0 hzz hz1 hz2 hzc (by omega) _ k _ rfl (hown9.alloc _) ⟨w6.heap.size, 0, none⟩ 1 1 [.string tx, .int .i64 0] rfl rfl (World.news_of_block (cs := #[.string tx, .int .i64 0]) (t := 33) (fr := (0, 0)) hN9) (by simp [Value.oneCell']) (by omega) (by unfold maxLen; omega) (by omega) (by simp; omega) (w6.heap.size + 1) (by simp) ?_; intro gg wcap w9 hown10 hgrow hat hgl)
            go_roundg (r.length - (k + 1))
            case measure => omega
            case rel =>
              refine ⟨k + 1, (q + 1), by omega, rfl, HA3.out.1, HA3.out.2, ?_, (hS9.step ((Below.refl _ w6).alloc (Nat.le_refl _) _)).grown hgrow (fun j hj => ?_), (aw9.alloc _).grown hgrow hlo⟩
              · rw [HC.out]; exact hown10
              · have := hlo j hj
                exact ⟨by omega, by omega, fun e => by have := htv j e; omega⟩
        · rw [hl1] at hA3 hE3
          have HA3 := shut (And.intro hA3 hE3)
          clear hA3 hE3 hl1
          go_wp2_with (go_at_call 56; refine xp3.mono ?_)
          intro rr w4; first | (intro he b4; subst he) | rintro ⟨rfl, b4⟩
          rw [← hXe]
          have hX4 := (b4.block X (Array.getElem?_eq_some_iff.1 hX3).1).trans hX3
          have hS4 := hS3'.step b4
          have hown4 := own_step hown3' fun j hj => b4.block j (hown3'.lt j hj).2
          have aw4 := aw3'.step b4
          clear xp3 hX3 hS3' hown3' aw3' b4 hXe
          rw [hj2] at hfd ⊢
          have xd := accept_yes hS4 ht2 _ hd2 (by omega)
          go_wp2_with (go_at_call 47; refine xd.mono ?_)
          intro rr w5; first | (intro he hS5 a5; subst he) | rintro ⟨rfl, hS5, a5⟩
          have hX5 := a5.heap hX4 (by simp; omega)
          have hown5 := own_step hown4 fun j hj => a5.block j (hown4.lt j hj).2 (by have := hlo j hj; simp; omega)
          have aw5 := aw4.trans a5
          clear xd hX4 hS4 hown4 aw4 a5
          have hX9 : (w5.setCell ⟨X, 1, none⟩ (.int .i64 1)).heap[X]? = some (.cells #[.string tx, .int .i64 1] 33 (0, 0)) := by rw [Lib.heap_setCell_same (i := 1) hX5 (.int .i64 1)]; rfl
          have hS9 := hS5.elsewhere hX5 (by decide) (by decide) 1 (.int .i64 1)
          have aw9 := aw5.setCell (p := ⟨X, 1, none⟩) (.inr (by show w.heap.size ≤ X; omega)) (.int .i64 1)
          have hown9 := own_step hown5 fun j hj => Below.heap_setCell w5 ⟨X, 1, none⟩ (.int .i64 1) j (hnX j hj)
          have u0 : w5.cell? ⟨X, 0, none⟩ = some (.string tx) := by rw [Lib.cell_of_heap hX5]; rfl
          have u1 : w5.cell? ⟨X, 1, none⟩ = some (.int .i64 0) := by rw [Lib.cell_of_heap hX5]; rfl
          have uf := Lib.frozen_of_heap hX5 1
          have szW : (w5.setCell ⟨X, 1, none⟩ (.int .i64 1)).heap.size = w5.heap.size := by simp [World.setCell]
          have hN9 : ((w5.setCell ⟨X, 1, none⟩ (.int .i64 1)).alloc (.cells #[.string tx, .int .i64 1] 33)).heap[w5.heap.size]? = some (.cells #[.string tx, .int .i64 1] 33 (0, 0)) := by rw [← szW]; exact heap_alloc_new _ _
          have sz9 := aw9.size
          clear hS5 aw5 hown5
          go_wp2_with (at_builtin; refine wpList_append_lies _ rfl _ _ 28 rfl w.heap.size 33 i0 _ 2 24 Tryz.underlying28 hi0 hzz hz1 hz2 hzc (by omega) _ k _ rfl (hown9.alloc _) ⟨w5.heap.size, 0, none⟩ 1 1 [.string tx, .int .i64 1] rfl rfl (World.news_of_block (cs := #[.string tx, .int .i64 1]) (t := 33) (fr := (0, 0)) hN9) (by simp [Value.oneCell']) (by omega) (by unfold maxLen; omega) (by omega) (by simp; omega) (w5.heap.size + 1) (by simp) ?_; intro gg wcap w9 hown10 hgrow hat hgl)
          go_roundg (r.length - (k + 1))
          case measure => omega
          case rel =>
            refine ⟨k + 1, (q + 2), by omega, rfl, HA3.out.1, HA3.out.2, ?_, (hS9.step ((Below.refl _ (w5.setCell ⟨X, 1, none⟩ (.int .i64 1))).alloc (Nat.le_refl _) _)).grown hgrow (fun j hj => ?_), (aw9.alloc _).grown hgrow hlo⟩
            · rw [HC.out]; exact hown10
            · have := hlo j hj
              exact ⟨by omega, by omega, fun e => by have := htv j e; omega⟩
        · rw [hl1] at hA3 hE3
          have HA3 := shut (And.intro hA3 hE3)
          clear hA3 hE3 hl1
          go_wp2_with (go_at_call 56; refine xp3.mono ?_)
          intro rr w4; first | (intro he b4; subst he) | rintro ⟨rfl, b4⟩
          rw [← hXe]
          have hX4 := (b4.block X (Array.getElem?_eq_some_iff.1 hX3).1).trans hX3
          have hS4 := hS3'.step b4
          have hown4 := own_step hown3' fun j hj => b4.block j (hown3'.lt j hj).2
          have aw4 := aw3'.step b4
          clear xp3 hX3 hS3' hown3' aw3' b4 hXe
          rw [hj2] at hfd ⊢
          have xd := accept_no hS4 ht2 _ hd2
          go_wp2_with (go_at_call 47; refine xd.mono ?_)
          intro rr w5; first | (intro he b5; subst he) | rintro ⟨rfl, b5⟩
          have hX5 := (b5.block X (Array.getElem?_eq_some_iff.1 hX4).1).trans hX4
          have hS5 := hS4.step b5
          have hown5 := own_step hown4 fun j hj => b5.block j (hown4.lt j hj).2
          have aw5 := aw4.step b5
          clear xd hX4 hS4 hown4 aw4 b5
          have xe := accept_yes hS5 ht2 _ hd3 (by omega)
          go_wp2_with (go_at_call 47; refine xe.mono ?_)
          intro rr w6; first | (intro he hS6 a6; subst he) | rintro ⟨rfl, hS6, a6⟩
          have hX6 := a6.heap hX5 (by simp; omega)
          have hown6 := own_step hown5 fun j hj => a6.block j (hown5.lt j hj).2 (by have := hlo j hj; simp; omega)
          have aw6 := aw5.trans a6
          clear xe hX5 hS5 hown5 aw5 a6
          have hX9 : (w6.setCell ⟨X, 1, none⟩ (.int .i64 2)).heap[X]? = some (.cells #[.string tx, .int .i64 2] 33 (0, 0)) := by rw [Lib.heap_setCell_same (i := 1) hX6 (.int .i64 2)]; rfl
          have hS9 := hS6.elsewhere hX6 (by decide) (by decide) 1 (.int .i64 2)
          have aw9 := aw6.setCell (p := ⟨X, 1, none⟩) (.inr (by show w.heap.size ≤ X; omega)) (.int .i64 2)
          have hown9 := own_step hown6 fun j hj => Below.heap_setCell w6 ⟨X, 1, none⟩ (.int .i64 2) j (hnX j hj)
          have u0 : w6.cell? ⟨X, 0, none⟩ = some (.string tx) := by rw [Lib.cell_of_heap hX6]; rfl
          have u1 : w6.cell? ⟨X, 1, none⟩ = some (.int .i64 0) := by rw [Lib.cell_of_heap hX6]; rfl
          have uf := Lib.frozen_of_heap hX6 1
          have szW : (w6.setCell ⟨X, 1, none⟩ (.int .i64 2)).heap.size = w6.heap.size := by simp [World.setCell]
          have hN9 : ((w6.setCell ⟨X, 1, none⟩ (.int .i64 2)).alloc (.cells #[.string tx, .int .i64 2] 33)).heap[w6.heap.size]? = some (.cells #[.string tx, .int .i64 2] 33 (0, 0)) := by rw [← szW]; exact heap_alloc_new _ _
          have sz9 := aw9.size
          clear hS6 aw6 hown6
          go_wp2_with (at_builtin; refine wpList_append_lies _ rfl _ _ 28 rfl w.heap.size 33 i0 _ 2 24 Tryz.underlying28 hi0 hzz hz1 hz2 hzc (by omega) _ k _ rfl (hown9.alloc _) ⟨w6.heap.size, 0, none⟩ 1 1 [.string tx, .int .i64 2] rfl rfl (World.news_of_block (cs := #[.string tx, .int .i64 2]) (t := 33) (fr := (0, 0)) hN9) (by simp [Value.oneCell']) (by omega) (by unfold maxLen; omega) (by omega) (by simp; omega) (w6.heap.size + 1) (by simp) ?_; intro gg wcap w9 hown10 hgrow hat hgl)
          go_roundg (r.length - (k + 1))
          case measure => omega
          case rel =>
            refine ⟨k + 1, (q + 2), by omega, rfl, HA3.out.1, HA3.out.2, ?_, (hS9.step ((Below.refl _ (w6.setCell ⟨X, 1, none⟩ (.int .i64 2))).alloc (Nat.le_refl _) _)).grown hgrow (fun j hj => ?_), (aw9.alloc _).grown hgrow hlo⟩
            · rw [HC.out]; exact hown10
            · have := hlo j hj
              exact ⟨by omega, by omega, fun e => by have := htv j e; omega⟩
    · have hkl : k = r.length := by omega
      subst hkl
      have hd : r.drop r.length = [] := List.drop_length
      rw [hd] at hA hE
      obtain ⟨t1, ht1, -, hz⟩ := next_syll q [] hA
      obtain ⟨hk0, hb1⟩ := hz rfl
      have xp := peek_ok hS ht1
      have xi := fun W (bW : Below wr.heap.size wr W) => is_ok (hS.step bW) ht1 _ hb1
      have hfd := field0_run t1.kind (.string t1.text) (.int .i64 t1.value) (.string t1.bytes) (.int .i64 t1.line) (.int .i64 t1.col) (.bool t1.joined)
      rw [hk0] at xp hfd
      have hqE : q = E := hE
      subst hqE
      rw [List.take_length] at hown
      clear hA hE hd hz ht1
      go_wp2_with (go_at_call 56; refine xp.mono ?_)
      intro rr w1; first | (intro he b1; subst he) | rintro ⟨rfl, b1⟩
      have xi1 := xi w1 b1
      go_wp2_with (go_at_call 72; refine xi1.mono ?_)
      intro rr w2; first | (intro he b2; subst he) | rintro ⟨rfl, b2⟩
      have bb2 := b1.trans (b2.mono b1.size)
      have hown2 := own_step hown fun j hj => bb2.block j (hown.lt j hj).2
      go_wp2
      go_ret
      refine ⟨_, rfl, ?_, hlo, hS.step bb2, aw.step bb2⟩
      refine Els.of_own (B := w.heap.size) (T := 33) (by rw [List.length_map]; exact hown2) rfl (fun c hc => ?_)
      obtain ⟨y, -, rfl⟩ := List.mem_map.1 hc
      exact ⟨rfl, by simp [SyllV.cells, Value.oneCell']⟩
end
end Go.Proofs.YtholnnabakaliaaGreatDoor

namespace Go.Proofs.YtholnnabakaliaaGreatDoor
open Go.RowKit

theorem setObj_run {M : Nat} {es : Array MapEntry} {clk : Nat} {w : World} (o : Obj) (h : w.heap[M]? = some (.map es clk)) : (setObj M o).run Tryz.prog w = .ok () { w with heap := w.heap.setIfInBounds M o } := by
  simp [setObj, Sem.run, h]
theorem getObj_run {M : Nat} {es : Array MapEntry} {clk : Nat} {w : World} (h : w.heap[M]? = some (.map es clk)) : (getObj M).run Tryz.prog w = .ok (.map es clk) w := by
  simp [getObj, Sem.run, h]
theorem ck_str (b : Bool) (k : ByteArray) (w : World) : (Instr.checkKey b 10000 9 (.string k)).run Tryz.prog w = .ok () w := by
  show (Instr.checkKey b (9999 + 1) 9 (.string k)).run Tryz.prog w = .ok () w
  unfold Instr.checkKey
  simp [Sem.run_bind, run_underlying Tryz.underlying9, Result.andThen]
theorem find_str (k : ByteArray) {es : List MapEntry} {r : Option (Nat × Value)} (h : Instr.findNow .string (.string k) es 0 = some r) (w : World) : (Instr.findKey 9 (.string k) es).run Tryz.prog w = .ok r w := by
  unfold Instr.findKey
  simp [Sem.run_bind, run_underlying Tryz.underlying9, Result.andThen, h]
theorem look_str_yes {M : Nat} {es : Array MapEntry} {clk : Nat} {w : World} (h : w.heap[M]? = some (.map es clk)) (k : ByteArray) {i : Nat} {v : Value} (hf : Instr.findNow .string (.string k) es.toList 0 = some (some (i, v))) :
    (Instr.lookup 132 (.map (some M)) (.string k) true).run Tryz.prog w = .ok (.tuple #[v, .bool true]) w := by
  unfold Instr.lookup
  simp only [Sem.run_bind, run_underlying Tryz.underlying132, Result.andThen_ok, getObj_run h, Sem.run_pure, ck_str, find_str k hf, if_true]
theorem put_str_at {M : Nat} {es : Array MapEntry} {clk : Nat} {w : World} (h : w.heap[M]? = some (.map es clk)) (k : ByteArray) (v : Value) (hf : Instr.findNow .string (.string k) es.toList 0 = some none) :
    (Instr.mapUpdate 132 (.map (some M)) (.string k) v).run Tryz.prog w = .ok () { w with heap := w.heap.setIfInBounds M (.map (es.push ⟨.string k, v, clk⟩) (clk + 1)) } := by
  unfold Instr.mapUpdate
  simp only [Sem.run_bind, run_underlying Tryz.underlying132, Result.andThen_ok, getObj_run h, ck_str, find_str k hf]
  rw [setObj_run _ h]

/-- The cells of the event that is being read. -/
def evC (kd lg dt : Int) (hv gv : Value) (A : A5) (lv : Value) : Array Value := #[.int .i64 0, .int .i64 0, .int .i64 kd, .int .i64 lg, .int .i64 dt, hv, gv, .int .i64 A.ar, .int .i64 A.orn, .int .i64 A.dy, lv, .int .i64 A.st, .int .i64 A.be]

section
variable {Y M : Nat} {tv : Value} {toks : List Tok} {pos : Nat} {line col e : Int} {free : Bool} {ls ln : Int} {es : Array MapEntry} {clk : Nat} {w : World} {t : Tok}

set_option maxRecDepth 100000 in
theorem or_facts : ((List.range 5).all fun i => (rangeI (2 ^ i)).all fun a => decide (bits BinOp.or IntKind.i64 a (IntKind.i64.wrap (2 ^ i)) = a + 2 ^ i)) = true := by decide +kernel
theorem or_fact {i : Nat} {a : Int} (hi : i < 5) (h0 : 0 ≤ a) (h1 : a < 2 ^ i) : bits BinOp.or IntKind.i64 a (IntKind.i64.wrap (2 ^ i)) = a + 2 ^ i :=
  of_decide_eq_true (List.all_eq_true.1 (List.all_eq_true.1 or_facts i (List.mem_range.2 hi)) a (mem_rangeI h0 (by
    have : ((2 ^ i : Nat) : Int) = (2 : Int) ^ i := by simp
    omega)))

def setOff (i : Nat) : Nat := if 20 ≤ i then 12 else if 18 ≤ i then 11 else if 9 ≤ i then 9 else if 5 ≤ i then 8 else 7
def setVal (A : A5) (i : Nat) : Int := if 20 ≤ i then (i : Int) - 19 else if 18 ≤ i then (i : Int) - 17 else if 9 ≤ i then (i : Int) - 8 else if 5 ≤ i then (i : Int) - 4 else A.ar + 2 ^ i
theorem setA_cells (kd lg dt : Int) (hv gv lv : Value) (A : A5) (i : Nat) : (evC kd lg dt hv gv A lv).setIfInBounds (setOff i) (.int .i64 (setVal A i)) = evC kd lg dt hv gv (setA A i) lv := by
  unfold setOff setVal setA evC
  repeat' split
  all_goals rfl

set_option maxHeartbeats 16000000 in
set_option maxRecDepth 100000 in
theorem set_walk {E : Nat} {kd lg dt : Int} {hv gv lv : Value} {A : A5} (hE : w.heap[E]? = some (.cells (evC kd lg dt hv gv A lv) 30 (0, 0))) (i : Nat) (hi : i < 22) (hA : i < 5 → 0 ≤ A.ar ∧ A.ar < 2 ^ i) :
    Calls Tryz.prog 83 #[.pointer (some ⟨E, 0, none⟩), .int .i64 (i : Nat)] w fun r w' => r = .returned (.tuple #[]) ∧ w'.heap = (w.setCell ⟨E, setOff i, none⟩ (.int .i64 (setVal A i))).heap ∧ Away [E] w w' := by
  have f5 := Lib.frozen_of_heap hE 7
  have f6 := Lib.frozen_of_heap hE 8
  have f7 := Lib.frozen_of_heap hE 9
  have f11 := Lib.frozen_of_heap hE 11
  have f12 := Lib.frozen_of_heap hE 12
  have c7 : w.cell? ⟨E, 7, none⟩ = some (.int .i64 A.ar) := by rw [Lib.cell_of_heap hE]; rfl
  have c8 : w.cell? ⟨E, 8, none⟩ = some (.int .i64 A.orn) := by rw [Lib.cell_of_heap hE]; rfl
  have c9 : w.cell? ⟨E, 9, none⟩ = some (.int .i64 A.dy) := by rw [Lib.cell_of_heap hE]; rfl
  have c11 : w.cell? ⟨E, 11, none⟩ = some (.int .i64 A.st) := by rw [Lib.cell_of_heap hE]; rfl
  have c12 : w.cell? ⟨E, 12, none⟩ = some (.int .i64 A.be) := by rw [Lib.cell_of_heap hE]; rfl
  have aw := fun o v => (Away.refl [E] w).setCell (p := ⟨E, o, none⟩) (.inl (by simp)) v
  have i0 : (0 : Int) ≤ (i : Int) := by omega
  clear hE
  by_cases h20 : 20 ≤ i
  · have e1 : setOff i = 12 := by unfold setOff; rw [if_pos h20]
    have e2 : setVal A i = (i : Int) - 19 := by unfold setVal; rw [if_pos h20]
    rw [e1, e2]
    have g1 : (20 : Int) ≤ (i : Int) := by omega
    have m1 : IntKind.i64.wrap ((i : Int) - 20) = (i : Int) - 20 := IntWalk.i64_in _ (by omega)
    have m2 : IntKind.i64.wrap ((i : Int) - 20 + 1) = (i : Int) - 19 := by rw [show (i : Int) - 20 + 1 = (i : Int) - 19 by omega]; exact IntWalk.i64_in _ (by omega)
    go_enter Tryz.func83, Tryz.ntmps83
    go_wp2
    go_end0
    exact ⟨rfl, rfl, aw _ _⟩
  by_cases h18 : 18 ≤ i
  · have e1 : setOff i = 11 := by unfold setOff; rw [if_neg h20, if_pos h18]
    have e2 : setVal A i = (i : Int) - 17 := by unfold setVal; rw [if_neg h20, if_pos h18]
    rw [e1, e2]
    have g0 : ¬ (20 : Int) ≤ (i : Int) := by omega
    have g1 : (18 : Int) ≤ (i : Int) := by omega
    have m1 : IntKind.i64.wrap ((i : Int) - 18) = (i : Int) - 18 := IntWalk.i64_in _ (by omega)
    have m2 : IntKind.i64.wrap ((i : Int) - 18 + 1) = (i : Int) - 17 := by rw [show (i : Int) - 18 + 1 = (i : Int) - 17 by omega]; exact IntWalk.i64_in _ (by omega)
    go_enter Tryz.func83, Tryz.ntmps83
    go_wp2
    go_end0
    exact ⟨rfl, rfl, aw _ _⟩
  by_cases h9 : 9 ≤ i
  · have e1 : setOff i = 9 := by unfold setOff; rw [if_neg h20, if_neg h18, if_pos h9]
    have e2 : setVal A i = (i : Int) - 8 := by unfold setVal; rw [if_neg h20, if_neg h18, if_pos h9]
    rw [e1, e2]
    have g0 : ¬ (20 : Int) ≤ (i : Int) := by omega
    have g1 : ¬ (18 : Int) ≤ (i : Int) := by omega
    have g2 : (9 : Int) ≤ (i : Int) := by omega
    have m1 : IntKind.i64.wrap ((i : Int) - 9) = (i : Int) - 9 := IntWalk.i64_in _ (by omega)
    have m2 : IntKind.i64.wrap ((i : Int) - 9 + 1) = (i : Int) - 8 := by rw [show (i : Int) - 9 + 1 = (i : Int) - 8 by omega]; exact IntWalk.i64_in _ (by omega)
    go_enter Tryz.func83, Tryz.ntmps83
    go_wp2
    go_end0
    exact ⟨rfl, rfl, aw _ _⟩
  by_cases h5 : 5 ≤ i
  · have e1 : setOff i = 8 := by unfold setOff; rw [if_neg h20, if_neg h18, if_neg h9, if_pos h5]
    have e2 : setVal A i = (i : Int) - 4 := by unfold setVal; rw [if_neg h20, if_neg h18, if_neg h9, if_pos h5]
    rw [e1, e2]
    have g0 : ¬ (20 : Int) ≤ (i : Int) := by omega
    have g1 : ¬ (18 : Int) ≤ (i : Int) := by omega
    have g2 : ¬ (9 : Int) ≤ (i : Int) := by omega
    have g3 : (5 : Int) ≤ (i : Int) := by omega
    have m1 : IntKind.i64.wrap ((i : Int) - 5) = (i : Int) - 5 := IntWalk.i64_in _ (by omega)
    have m2 : IntKind.i64.wrap ((i : Int) - 5 + 1) = (i : Int) - 4 := by rw [show (i : Int) - 5 + 1 = (i : Int) - 4 by omega]; exact IntWalk.i64_in _ (by omega)
    go_enter Tryz.func83, Tryz.ntmps83
    go_wp2
    go_end0
    exact ⟨rfl, rfl, aw _ _⟩
  · have e1 : setOff i = 7 := by unfold setOff; rw [if_neg h20, if_neg h18, if_neg h9, if_neg h5]
    have e2 : setVal A i = A.ar + 2 ^ i := by unfold setVal; rw [if_neg h20, if_neg h18, if_neg h9, if_neg h5]
    rw [e1, e2]
    obtain ⟨a0, a1⟩ := hA (by omega)
    have ho := or_fact (by omega : i < 5) a0 a1
    have hi5 : i = 0 ∨ i = 1 ∨ i = 2 ∨ i = 3 ∨ i = 4 := by omega
    clear e1 e2 h20 h18 h9 h5
    have aw' := (aw 7 (.int .i64 (A.ar + 2 ^ i))).drew
    clear aw
    rcases hi5 with rfl | rfl | rfl | rfl | rfl
    all_goals simp only [Int.reducePow] at ho aw' ⊢
    all_goals go_enter Tryz.func83, Tryz.ntmps83
    all_goals go_wp2
    all_goals go_region_with (fail)
    all_goals go_wp2
    all_goals go_end0
    all_goals exact ⟨rfl, rfl, aw'⟩
set_option maxHeartbeats 8000000 in
set_option maxRecDepth 100000 in
theorem word_ok (h : Prs Y M tv toks pos line col 0 free ls ln es clk w) (ht : toks[pos]? = some t) (hk : t.kind = 1) (hpos : pos ≤ 1048576) {Q : Nat} {ws : Array MapEntry} {c i : Nat} {n : Int} (hQ : w.heap[Q]? = some (.map ws c)) (hf : Instr.findNow .string (.string t.text) ws.toList 0 = some (some (i, .int .i64 n))) :
    Calls Tryz.prog 82 #[.pointer (some ⟨Y, 0, none⟩), .map (some Q)] w fun r w' => r = .returned (.int .i64 n) ∧ Prs Y M tv toks (pos + 1) line col 0 free ls ln es clk w' ∧ Away [Y] w w' := by
  have hp := peek_ok h ht
  have hst := fun w' (b : Below w.heap.size w w') => h.step b
  have lQ := (Array.getElem?_eq_some_iff.1 hQ).1
  clear h ht
  rw [hk] at hp
  have hw : IntKind.i64.wrap ((pos : Int) + 1) = (pos : Int) + 1 := IntWalk.i64_in _ (by omega)
  go_enter Tryz.func82, Tryz.ntmps82
  go_wp2_with (go_at_call 56; refine hp.mono ?_)
  intro r w1; first | (intro he b1; subst he) | rintro ⟨rfl, b1⟩
  have b2 := b1.alloc b1.size (.cells #[.int .i64 1, .string t.text, .int .i64 t.value, .string t.bytes, .int .i64 t.line, .int .i64 t.col, .bool t.joined] 100)
  have hQ2 := (b2.block Q lQ).trans hQ
  have hlk := look_str_yes hQ2 t.text hf
  have hS1 := hst _ b1
  have d1 := hS1.c1
  have l1 := hS1.lt
  have n1 := World.new_ne w1 _ d1
  have f1 := hS1.fz 1
  have hN := hS1.next.step ((Below.refl _ _).alloc (Nat.le_refl _) (.cells #[.int .i64 1, .string t.text, .int .i64 t.value, .string t.bytes, .int .i64 t.line, .int .i64 t.col, .bool t.joined] 100))
  clear hst hp hS1 hQ hQ2 hf
  go_wp2
  go_ret
  exact ⟨rfl, hN, ((Away.of_below b1).setCell (.inl (by simp)) _).alloc _⟩

end
end Go.Proofs.YtholnnabakaliaaGreatDoor
