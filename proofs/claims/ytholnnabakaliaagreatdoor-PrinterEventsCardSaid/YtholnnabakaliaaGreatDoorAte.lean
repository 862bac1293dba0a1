/-
  A part of the proof that the law PrinterEvents (chapter 20) returns true for every event: walks of the program's functions, and runs of them in the kernel by the own evaluator.
-/
import Derived.Test.YtholnnabakaliaaGreatDoorAtd
namespace Go.Proofs.YtholnnabakaliaaGreatDoor
open Go.RowKit

def attrPs1 (bl : List UInt8) (i : Nat) : List Piece := wPs bl (attrB i).data.toList
section
variable {Bw Bp Bl Be Q E Y M : Nat} {tv : Value} {toks : List Tok} {pos pos' : Nat} {line col : Int} {free : Bool} {ls ln : Int} {es : Array MapEntry} {clk : Nat} {last kd lg dt : Int} {hv gv lv : Value} {A : A5} {w0 w w' : World} {t : Tok}

theorem Cl.grown (h : Cl Bw Bp Bl Be Q E Y M tv toks pos line col free ls ln es clk last kd lg dt hv gv lv A w0 w) {row : Option Nat} (hg : w.grownBy w' row) {B : Nat} (hB : Bw < B ∧ Bp < B ∧ Bl < B ∧ Be < B ∧ Q < B ∧ E < B ∧ Y < B ∧ M < B ∧ w0.heap.size ≤ B ∧ ∀ k, tv.ownBlock = some k → k < B) (hr : ∀ k, row = some k → B ≤ k) : Cl Bw Bp Bl Be Q E Y M tv toks pos line col free ls ln es clk last kd lg dt hv gv lv A w0 w' := by
  obtain ⟨b1, b2, b3, b4, b5, b6, b7, b8, b9, b10⟩ := hB
  have o : ∀ k o, w.heap[k]? = some o → k < B → w'.heap[k]? = some o := fun k o hk hl => (hg.block k (Array.getElem?_eq_some_iff.1 hk).1 fun e => by have := hr k e.symm; omega).trans hk
  exact ⟨h.prs.grown hg fun k hk => ⟨by have := hr k hk; omega, by have := hr k hk; omega, fun e => by have := hr k hk; have := b10 k e; omega⟩, o _ _ h.hw b1, o _ _ h.hp b2, o _ _ h.hl b3, o _ _ h.he b4, o _ _ h.hq b5, o _ _ h.hE b6, h.aw.grown hg fun k hk => by have := hr k hk; omega, h.bl⟩

theorem mk_data (x : ByteArray) : mk x.data.toList = x := mkB_data x
theorem next_word (q : Nat) (r : List Nat) (h : At toks q (sepPs attrPs1 [32] r ++ [symP [] 93])) (hne : ∀ i ∈ r, (attrB i).data.toList ≠ [93]) : ∃ t, toks[q]? = some t ∧ IsTok t ⟨#[93]⟩ = decide (r = []) := by
  cases r with
  | nil =>
    obtain ⟨t, ht, hi⟩ := At.first (r := []) h
    exact ⟨t, ht, (isTok_of hi [93]).trans (by decide)⟩
  | cons i r =>
    obtain ⟨t, ht, hi⟩ := At.first (r := sepPs attrPs1 [32] r ++ [symP [] 93]) h
    refine ⟨t, ht, (isTok_of hi [93]).trans ?_⟩
    have := hne i List.mem_cons_self
    simp [wordP, this]
theorem sepW_len : ∀ (r : List Nat) (bl : List UInt8), (sepPs attrPs1 bl r).length = r.length
  | [], _ => rfl
  | i :: r, bl => by rw [sep_head, List.length_append, sepW_len r]; simp [attrPs1, wPs]; omega
theorem attr_ne : (List.range 22).all (fun i => decide ((attrB i).data.toList ≠ [93])) = true := by decide +kernel
theorem okNext_last {i : Nat} (hi : i < 22) : (-1 : Int) ≤ (i : Int) ∧ (i : Int) < 22 := by omega
theorem Tryz.infoInt3 : (Tryz.prog.info? 3).map (fun i => (i.zero.map fun z => z.cells.size, i.size, i.bytes)) = some (some 1, 1, 8) := by kernel_rfl

set_option maxHeartbeats 16000000 in
set_option maxRecDepth 100000 in
theorem several_words (h : Cl Bw Bp Bl Be Q E Y M tv toks pos line col free ls ln es clk (-1) kd lg dt hv gv lv A w0 w) (i : Nat) (r : List Nat) (hA : At toks pos (sepPs attrPs1 [] (i :: r) ++ [symP [] 93])) (h22 : ∀ j ∈ i :: r, j < 22) (hok : okL (-1) (i :: r) = true) (hoA : okA A (i :: r) = true) (hr8 : r.length ≤ 100) (hpos : pos + (i :: r).length + 1 ≤ 1000000) :
    Calls Tryz.prog 79 #[.pointer (some ⟨Y, 0, none⟩), .func (.func 80) #[] #[.pointer (some ⟨Bw, 0, none⟩), .pointer (some ⟨Bp, 0, none⟩), .pointer (some ⟨Bl, 0, none⟩), .pointer (some ⟨Be, 0, none⟩)], .string ⟨#[93]⟩] w fun rr w' => ∃ v l', rr = .returned v ∧ Cl Bw Bp Bl Be Q E Y M tv toks (pos + (i :: r).length + 1) line col free ls ln es clk l' kd lg dt hv gv lv ((i :: r).foldl setA A) w0 w' := by
  obtain ⟨i0, zz, hi0, hzz, hzc, hz1, hz2⟩ : ∃ i z, Tryz.prog.info? 3 = some i ∧ i.zero = some z ∧ z.cells.size = 1 ∧ i.size = 1 ∧ i.bytes = 8 := by
    have := Tryz.infoInt3
    cases hi : Tryz.prog.info? 3 with
    | none => rw [hi] at this; cases this
    | some i =>
      rw [hi] at this
      simp only [Option.map_some, Option.some.injEq, Prod.mk.injEq] at this
      cases hz : i.zero with
      | none => rw [hz] at this; cases this.1
      | some z => rw [hz] at this; exact ⟨i, z, rfl, hz, by simpa using this.1, this.2.1, this.2.2⟩
  have hB : Bw < w.heap.size ∧ Bp < w.heap.size ∧ Bl < w.heap.size ∧ Be < w.heap.size ∧ Q < w.heap.size ∧ E < w.heap.size ∧ Y < w.heap.size ∧ M < w.heap.size ∧ w0.heap.size ≤ w.heap.size ∧ ∀ k, tv.ownBlock = some k → k < w.heap.size :=
    ⟨(Array.getElem?_eq_some_iff.1 h.hw).1, (Array.getElem?_eq_some_iff.1 h.hp).1, (Array.getElem?_eq_some_iff.1 h.hl).1, (Array.getElem?_eq_some_iff.1 h.he).1, (Array.getElem?_eq_some_iff.1 h.hq).1, (Array.getElem?_eq_some_iff.1 h.hE).1, h.prs.lt, h.prs.ltM, h.aw.size, fun k hk => ((h.prs.row rfl).lt k hk).2⟩
  have hne : ∀ j ∈ r, (attrB j).data.toList ≠ [93] := fun j hj => of_decide_eq_true (List.all_eq_true.1 attr_ne j (List.mem_range.2 (h22 j (List.mem_cons_of_mem _ hj))))
  obtain ⟨t1, ht1, hi1⟩ := At.first (r := sepPs attrPs1 [32] r ++ [symP [] 93]) hA
  have hA2 : At toks (pos + 1) (sepPs attrPs1 [32] r ++ [symP [] 93]) := At.rest (p := wordP [] (attrB i).data.toList) hA
  simp only [okL, Bool.and_eq_true] at hok
  simp only [okA, Bool.and_eq_true, Bool.or_eq_true, decide_eq_true_eq] at hoA
  have x1 := word_closure h ht1 hi1.1 i (h22 i List.mem_cons_self) (hi1.2.1.trans (mk_data _)) (by rw [List.length_cons] at hpos; omega) (Int.le_refl _) (by decide) hok.1 (fun h5 => by
    rcases hoA.1 with h9 | h9
    · omega
    · exact h9)
  have hok2 := hok.2
  have hoA2 := hoA.2
  have h22' : ∀ j ∈ r, j < 22 := fun j hj => h22 j (List.mem_cons_of_mem _ hj)
  have hi22 := h22 i List.mem_cons_self
  rw [show pos + (i :: r).length + 1 = pos + 1 + r.length + 1 by rw [List.length_cons]; omega] at hpos ⊢
  rw [List.foldl_cons]
  generalize setA A i = A1 at x1 hoA2 ⊢
  generalize pos + 1 = q at hA2 x1 hpos ⊢
  clear hA h hok hoA hi1 ht1
  go_enter Tryz.func79, Tryz.ntmps79
  go_wp2_with (go_at_call 80; refine x1.mono ?_)
  intro rr w1; first | (intro he V1 a1; subst he) | rintro ⟨rfl, V1, a1⟩
  have sz1 := a1.size
  have V2 := V1.step ((Below.refl _ w1).alloc (Nat.le_refl _) (.cells #[.int .i64 (i : Nat)] 3))
  have ho2 : (w1.alloc (.cells #[.int .i64 (i : Nat)] 3)).ownsRow w.heap.size 3 1 (.slice (some ⟨w1.heap.size, 0, none⟩) 1 1) 1 [.int .i64 (i : Nat)] := World.ownsRow_lit (size := 1) w1 #[.int .i64 (i : Nat)] 1 sz1 (by decide) rfl
  have sz2 : w.heap.size ≤ (w1.alloc (.cells #[.int .i64 (i : Nat)] 3)).heap.size := by simp; omega
  clear x1 V1 a1
  go_wp2
  go_loopg [7] r.length (fun g s7 wr => ∃ (k : Nat) (last : Int) (xs : List Value) (A2 : A5), k ≤ r.length ∧ g = r.length - k ∧ At toks (q + k) (sepPs attrPs1 [32] (r.drop k) ++ [symP [] 93]) ∧ wr.ownsRow w.heap.size 3 1 s7 (k + 1) xs ∧ -1 ≤ last ∧ last < 22 ∧ okL last (r.drop k) = true ∧ okA A2 (r.drop k) = true ∧ (r.drop k).foldl setA A2 = r.foldl setA A1 ∧ Cl Bw Bp Bl Be Q E Y M tv toks (q + k) line col free ls ln es clk last kd lg dt hv gv lv A2 w0 wr ∧ w.heap.size ≤ wr.heap.size)
  case atStart => exact ⟨0, i, _, A1, Nat.zero_le _, rfl, hA2, ho2, by omega, by omega, hok2, hoA2, rfl, V2, sz2⟩
  case round =>
    clear V2 ho2 hA2 hok2 hoA2 sz2
    obtain ⟨k, last, xs, A2, hk, hg, hA, hown, hl0, hl1, hok, hoA, hfo, V, szr⟩ := hrel
    have hned : ∀ j ∈ r.drop k, (attrB j).data.toList ≠ [93] := fun j hj => hne j (List.mem_of_mem_drop hj)
    obtain ⟨t1, ht1, hb1⟩ := next_word _ (r.drop k) hA hned
    have hq9 : q + k ≤ 1000000 := by omega
    have c4 := V.prs.c4
    obtain ⟨ao, cp, rfl⟩ := own_is hown
    have hlo : ∀ j, (Value.slice ao (k + 1) cp).ownBlock = some j → w.heap.size ≤ j := fun j hj => (hown.lt j hj).1
    by_cases hlt : k < r.length
    · have hd : r.drop k = r[k] :: r.drop (k + 1) := List.drop_eq_getElem_cons hlt
      rw [hd] at hA hb1 hok hoA hfo
      have hb2 : IsTok t1 ⟨#[93]⟩ = false := hb1.trans (decide_eq_false (by intro e; cases e))
      have xi := is_ok V.prs ht1 _ hb2
      have hj22 := h22' r[k] (List.getElem_mem hlt)
      generalize r[k] = j at hA hok hoA hfo hj22
      obtain ⟨t2, ht2, hi2⟩ := At.first (r := sepPs attrPs1 [32] (r.drop (k + 1)) ++ [symP [] 93]) hA
      have hA3 : At toks (q + k + 1) (sepPs attrPs1 [32] (r.drop (k + 1)) ++ [symP [] 93]) := At.rest (p := wordP [32] (attrB j).data.toList) hA
      simp only [okL, Bool.and_eq_true] at hok
      simp only [okA, Bool.and_eq_true, Bool.or_eq_true, decide_eq_true_eq] at hoA
      have xr := fun W (bW : Below wr.heap.size wr W) => word_closure (V.step bW) ht2 hi2.1 j hj22 (hi2.2.1.trans (mk_data _)) hq9 hl0 hl1 hok.1 (fun h5 => by
        rcases hoA.1 with h9 | h9
        · omega
        · exact h9)
      rw [List.foldl_cons] at hfo
      have HR := shut (And.intro hA3 (And.intro hok.2 (And.intro hoA.2 hfo)))
      clear hA hok hoA hb1 hb2 ht2 hi2 hA3 ht1 hfo hd V
      go_wp2_with (go_at_call 72; refine xi.mono ?_)
      intro rr w3; first | (intro he b3; subst he) | rintro ⟨rfl, b3⟩
      have xr3 := xr w3 b3
      have hown3 := own_step hown fun j hj => b3.block j (hown.lt j hj).2
      have sz3 := b3.size
      clear xr xi c4 hown b3
      go_wp2_with (go_at_call 80; refine xr3.mono ?_)
      intro rr w4; first | (intro he V4 a4; subst he) | rintro ⟨rfl, V4, a4⟩
      have hown4 := own_step hown3 fun j hj => a4.block j (hown3.lt j hj).2 (by
        have := hlo j hj
        obtain ⟨b1, b2, b3, b4, b5, b6, b7, b8, b9, b10⟩ := hB
        simp; omega)
      have sz4 := a4.size
      clear xr3 hown3 a4
      go_wp2_with (at_builtin; refine wpList_append_lies _ rfl _ _ 121 rfl w.heap.size 3 i0 _ 1 8 Tryz.underlying121 hi0 hzz hz1 hz2 hzc (by omega) _ (k + 1) _ rfl (hown4.alloc _) ⟨w4.heap.size, 0, none⟩ 1 1 [.int .i64 (j : Nat)] rfl rfl (World.news_of_block (cs := #[.int .i64 (j : Nat)]) (t := 3) (fr := (0, 0)) (heap_alloc_new _ _)) (by simp [Value.oneCell']) (by omega) (by unfold maxLen; omega) (by omega) (by simp; omega) (w4.heap.size + 1) (by simp) ?_; intro gg wcap w5 hown5 hgrow hat hgl)
      go_roundg (r.length - (k + 1))
      case measure => omega
      case rel =>
        exact ⟨k + 1, j, _, _, by omega, rfl, HR.out.1, hown5, by omega, by omega, HR.out.2.1, HR.out.2.2.1, HR.out.2.2.2, (V4.step ((Below.refl _ w4).alloc (Nat.le_refl _) _)).grown hgrow hB hlo, by have := hgrow.size; simp at this; omega⟩
    · have hkl : k = r.length := by omega
      subst hkl
      have hd : r.drop r.length = [] := List.drop_length
      rw [hd] at hA hb1 hfo
      have hb2 : IsTok t1 ⟨#[93]⟩ = true := hb1.trans (by simp)
      have xi := is_ok V.prs ht1 _ hb2
      have xe := fun W (bW : Below wr.heap.size wr W) => expect_yes (V.step bW).prs ht1 _ hb2 (by omega)
      have hfo' : A2 = r.foldl setA A1 := hfo
      subst hfo'
      clear hA hb1 hb2 hd ht1 hfo hok hoA
      go_wp2_with (go_at_call 72; refine xi.mono ?_)
      intro rr w3; first | (intro he b3; subst he) | rintro ⟨rfl, b3⟩
      have xe3 := xe w3 b3
      have V3 := V.step b3
      clear xe xi c4 b3 V
      go_wp2_with (go_at_call 48; refine xe3.mono ?_)
      intro rr w4; first | (intro he hS4 a4; subst he) | rintro ⟨rfl, hS4, a4⟩
      have V4 := V3.away a4 hS4
      clear xe3 V3 hS4 a4
      go_wp2
      go_ret
      exact ⟨_, last, rfl, V4⟩
end
end Go.Proofs.YtholnnabakaliaaGreatDoor

namespace Go.Proofs.YtholnnabakaliaaGreatDoor
open Go.RowKit

def attrRow : Obj := .cells (attrWL.map Value.string).toArray 9 (0, 0)
theorem attr_at : (List.range 22).all (fun i => match attrWL[i]? with | some x => decide (x = attrB i) | none => false) = true := by decide +kernel
theorem attr_get {i : Nat} (h : i < 22) : attrWL[i]? = some (attrB i) := by
  have := List.all_eq_true.1 attr_at i (List.mem_range.2 h)
  split at this
  · rename_i x hx; rw [hx, of_decide_eq_true this]
  · cases this

set_option maxHeartbeats 8000000 in
set_option maxRecDepth 100000 in
theorem attrs_walk (w : World) : Calls Tryz.prog 78 #[] w fun r w' => r = .returned (.slice (some ⟨w.heap.size, 0, none⟩) 22 22) ∧ w' = w.alloc attrRow := by
  go_enter Tryz.func78, Tryz.ntmps78
  go_wp2
  go_ret
  exact ⟨rfl, rfl⟩

section
variable {E Y M : Nat} {tv : Value} {toks : List Tok} {pos pos' : Nat} {line col : Int} {free : Bool} {ls ln : Int} {es : Array MapEntry} {clk : Nat} {kd lg dt : Int} {hv gv lv : Value} {A : A5} {w w' : World} {t : Tok}

theorem below_newer {B : Nat} {a w : World} (h : Below B a w) {Q : Nat} (hQ : B ≤ Q) (o : Obj) : Below B a { w with heap := w.heap.setIfInBounds Q o } :=
  ⟨h.os, h.tape, h.output, by simpa using h.size, fun k hk => by
    show (w.heap.setIfInBounds Q o)[k]? = _
    rw [Array.getElem?_setIfInBounds_ne (by omega)]; exact h.block k hk⟩
theorem set_ne {w : World} {Q k : Nat} {o o' : Obj} (h : w.heap[k]? = some o) (hk : Q ≠ k) : ({ w with heap := w.heap.setIfInBounds Q o' } : World).heap[k]? = some o := by
  show (w.heap.setIfInBounds Q o')[k]? = _
  rw [Array.getElem?_setIfInBounds_ne hk]; exact h
theorem set_eq {w : World} {Q : Nat} {o o' : Obj} (h : w.heap[Q]? = some o) : ({ w with heap := w.heap.setIfInBounds Q o' } : World).heap[Q]? = some o' := by
  show (w.heap.setIfInBounds Q o')[Q]? = _
  rw [Array.getElem?_setIfInBounds_self_of_lt (Array.getElem?_eq_some_iff.1 h).1]

set_option maxHeartbeats 16000000 in
set_option maxRecDepth 100000 in
theorem attributes_at (h : Prs Y M tv toks pos line col 0 free ls ln es clk w) (hE : w.heap[E]? = some (.cells (evC kd lg dt hv gv A lv) 30 (0, 0))) (i : Nat) (r : List Nat) (hA : At toks pos (sepPs attrPs1 [] (i :: r) ++ [symP [] 93])) (h22 : ∀ j ∈ i :: r, j < 22) (hok : okL (-1) (i :: r) = true) (hoA : okA A (i :: r) = true) (hr8 : r.length ≤ 100) (hpos : pos + (i :: r).length + 1 ≤ 1000000) :
    Calls Tryz.prog 54 #[.pointer (some ⟨Y, 0, none⟩), .pointer (some ⟨E, 0, none⟩)] w fun rr w' => rr = .returned (.tuple #[]) ∧ Prs Y M tv toks (pos + (i :: r).length + 1) line col 0 free ls ln es clk w' ∧ w'.heap[E]? = some (.cells (evC kd lg dt hv gv ((i :: r).foldl setA A) lv) 30 (0, 0)) ∧ Away [Y, E] w w' := by
  have hmk : ∀ ww : World, (Instr.makeMap 132 none).run Tryz.prog ww = .ok (.map (some ww.heap.size)) (ww.alloc (.map #[] 0)) := fun ww => by
    simp [Instr.makeMap, newObj, Sem.run]
  have b1 := (Below.refl w.heap.size w).alloc (Nat.le_refl _) (.cells #[.pointer (some ⟨Y, 0, none⟩)] 56)
  have b2 := b1.alloc b1.size (.cells #[.pointer (some ⟨E, 0, none⟩)] 97)
  have b3 := b2.alloc b2.size (.map #[] 0)
  have b4 := b3.alloc b3.size (.cells #[.map (some (w.heap.size + 1 + 1))] 132)
  have b5 := b4.alloc b4.size attrRow
  have e1 : (w.alloc (.cells #[.pointer (some ⟨Y, 0, none⟩)] 56)).heap.size = w.heap.size + 1 := by simp
  have e2 : ((w.alloc (.cells #[.pointer (some ⟨Y, 0, none⟩)] 56)).alloc (.cells #[.pointer (some ⟨E, 0, none⟩)] 97)).heap.size = w.heap.size + 1 + 1 := by simp
  have e3 : (((w.alloc (.cells #[.pointer (some ⟨Y, 0, none⟩)] 56)).alloc (.cells #[.pointer (some ⟨E, 0, none⟩)] 97)).alloc (.map #[] 0)).heap.size = w.heap.size + 1 + 1 + 1 := by simp
  have e4 : ((((w.alloc (.cells #[.pointer (some ⟨Y, 0, none⟩)] 56)).alloc (.cells #[.pointer (some ⟨E, 0, none⟩)] 97)).alloc (.map #[] 0)).alloc (.cells #[.map (some (w.heap.size + 1 + 1))] 132)).heap.size = w.heap.size + 1 + 1 + 1 + 1 := by simp
  have old : ∀ (ww : World) (o o' : Obj) (k : Nat), ww.heap[k]? = some o → (ww.alloc o').heap[k]? = some o := fun ww o o' k hk => (Lib.alloc_old _ o' _ (Array.getElem?_eq_some_iff.1 hk).1).trans hk
  have p5 := old _ _ attrRow _ (old _ _ (.cells #[.map (some (w.heap.size + 1 + 1))] 132) _ (old _ _ (.map #[] 0) _ (old _ _ (.cells #[.pointer (some ⟨E, 0, none⟩)] 97) _ (heap_alloc_new w (.cells #[.pointer (some ⟨Y, 0, none⟩)] 56)))))
  have q2 := heap_alloc_new (w.alloc (.cells #[.pointer (some ⟨Y, 0, none⟩)] 56)) (.cells #[.pointer (some ⟨E, 0, none⟩)] 97)
  rw [e1] at q2
  have q5 := old _ _ attrRow _ (old _ _ (.cells #[.map (some (w.heap.size + 1 + 1))] 132) _ (old _ _ (.map #[] 0) _ q2))
  have m3 := heap_alloc_new ((w.alloc (.cells #[.pointer (some ⟨Y, 0, none⟩)] 56)).alloc (.cells #[.pointer (some ⟨E, 0, none⟩)] 97)) (.map #[] 0)
  rw [e2] at m3
  have m5 := old _ _ attrRow _ (old _ _ (.cells #[.map (some (w.heap.size + 1 + 1))] 132) _ m3)
  have n4 := heap_alloc_new (((w.alloc (.cells #[.pointer (some ⟨Y, 0, none⟩)] 56)).alloc (.cells #[.pointer (some ⟨E, 0, none⟩)] 97)).alloc (.map #[] 0)) (.cells #[.map (some (w.heap.size + 1 + 1))] 132)
  rw [e3] at n4
  have n5 := old _ _ attrRow _ n4
  have r5 := heap_alloc_new ((((w.alloc (.cells #[.pointer (some ⟨Y, 0, none⟩)] 56)).alloc (.cells #[.pointer (some ⟨E, 0, none⟩)] 97)).alloc (.map #[] 0)).alloc (.cells #[.map (some (w.heap.size + 1 + 1))] 132)) attrRow
  rw [e4] at r5
  clear q2 m3 n4 b1 b2 b3 b4 e1 e2 e3 e4 old
  go_enter Tryz.func54, Tryz.ntmps54
  go_wp2_with (go_at_call 78; (with_reducible refine (attrs_walk _).mono ?_); rintro rr ww ⟨rfl, rfl⟩)
  generalize ((((w.alloc (.cells #[.pointer (some ⟨Y, 0, none⟩)] 56)).alloc (.cells #[.pointer (some ⟨E, 0, none⟩)] 97)).alloc (.map #[] 0)).alloc (.cells #[.map (some (w.heap.size + 1 + 1))] 132)).alloc attrRow = wA at b5 p5 q5 m5 n5 r5 ⊢
  have lt1 : w.heap.size + 1 + 1 < w.heap.size + 1 + 1 + 1 + 1 := by omega
  have lt2 : w.heap.size + 1 + 1 < w.heap.size + 1 + 1 + 1 := by omega
  have lt3 : w.heap.size + 1 < w.heap.size + 1 + 1 := by omega
  have lt4 : w.heap.size < w.heap.size + 1 := by omega
  generalize w.heap.size + 1 + 1 + 1 + 1 = R at r5 lt1 ⊢
  generalize w.heap.size + 1 + 1 + 1 = Bw at n5 lt2 ⊢
  generalize w.heap.size + 1 + 1 = Q at m5 n5 lt1 lt2 lt3 ⊢
  generalize w.heap.size + 1 = Be at q5 lt3 lt4 ⊢
  have H0 := shut (And.intro h (And.intro hE (And.intro hA (And.intro h22 (And.intro hok (And.intro hoA (And.intro hr8 hpos)))))))
  clear h hE hA h22 hok hoA hr8 hpos
  go_loopg [11] 22 (fun g s11 wr => ∃ k : Nat, k ≤ 22 ∧ g = 22 - k ∧ s11 = .int .i64 (k : Nat) ∧ Below w.heap.size w wr ∧ wr.heap[w.heap.size]? = some (.cells #[.pointer (some ⟨Y, 0, none⟩)] 56 (0, 0)) ∧ wr.heap[Be]? = some (.cells #[.pointer (some ⟨E, 0, none⟩)] 97 (0, 0)) ∧ wr.heap[Q]? = some (.map (wEs k) k) ∧ wr.heap[Bw]? = some (.cells #[.map (some Q)] 132 (0, 0)) ∧ wr.heap[R]? = some attrRow)
  case atStart => exact ⟨0, by omega, rfl, rfl, b5, p5, q5, m5, n5, r5⟩
  case round =>
    clear b5 p5 q5 m5 n5 r5
    obtain ⟨k, hk, hg, rfl, bb, hp, hq, hm, hn, hr⟩ := hrel
    by_cases hlt : k < 22
    · have hlt' : (k : Int) < 22 := by omega
      have hk0 : (0 : Int) ≤ (k : Int) := by omega
      have m1 : IntKind.i64.wrap ((k : Int) + 1) = (k : Int) + 1 := IntWalk.i64_in _ (by omega)
      have cR : wr.cell? ⟨R, k, none⟩ = some (.string (attrB k)) := by rw [Lib.cell_of_heap hr]; simp [attr_get hlt]
      have cW : wr.cell? ⟨Bw, 0, none⟩ = some (.map (some Q)) := by rw [Lib.cell_of_heap hn]; rfl
      have hput := put_str_at hm (attrB k) (.int .i64 (k : Nat)) (attr_missed hlt)
      rw [wEs_succ] at hput
      generalize attrB k = tx at cR hput
      go_wp2
      go_roundg (22 - (k + 1))
      case measure => omega
      case rel =>
        exact ⟨k + 1, by omega, rfl, by simp, below_newer bb (by omega) _, set_ne hp (by omega), set_ne hq (by omega), set_eq hm, set_ne hn (by omega), set_ne hr (by omega)⟩
    · have hkl : k = 22 := by omega
      subst hkl
      obtain ⟨h, hE, hA, h22, hok, hoA, hr8, hpos⟩ := H0.out
      have bl := bb.alloc bb.size (.cells #[.int .i64 (-1)] 3)
      have szr := bb.size
      have old : ∀ (o : Obj) (k : Nat), wr.heap[k]? = some o → (wr.alloc (.cells #[.int .i64 (-1)] 3)).heap[k]? = some o := fun o k hk => (Lib.alloc_old _ _ _ (Array.getElem?_eq_some_iff.1 hk).1).trans hk
      have V : Cl Bw w.heap.size wr.heap.size Be Q E Y M tv toks pos line col free ls ln es clk (-1) kd lg dt hv gv lv A w (wr.alloc (.cells #[.int .i64 (-1)] 3)) :=
        ⟨h.step bl, old _ _ hn, old _ _ hp, heap_alloc_new wr _, old _ _ hq, old _ _ hm, (bl.block _ (Array.getElem?_eq_some_iff.1 hE).1).trans hE, Away.of_below bl, szr⟩
      have xs := several_words V i r hA h22 hok hoA hr8 hpos
      have cP : (wr.alloc (.cells #[.int .i64 (-1)] 3)).cell? ⟨w.heap.size, 0, none⟩ = some (.pointer (some ⟨Y, 0, none⟩)) := by rw [Lib.cell_of_heap (old _ _ hp)]; rfl
      clear V bl old hp hq hm hn hr bb h hE hA h22 hok hoA hr8 hpos
      go_wp2_with (go_at_call 79; (with_reducible refine xs.mono ?_))
      rintro rr w5 ⟨v, l', rfl, V5⟩
      go_wp2
      go_end0
      exact ⟨rfl, V5.prs, V5.hE, V5.aw⟩
end
end Go.Proofs.YtholnnabakaliaaGreatDoor

namespace Go.Proofs.YtholnnabakaliaaGreatDoor
open Go.RowKit

theorem Els.frame {w w' : World} {s : Nat} {v : Value} {rows : List (Array Value)} (h : Els w s v rows) (hb : ∀ k, v.ownBlock = some k → w'.heap[k]? = w.heap[k]?) : Els w' s v rows := by
  rcases h with h | ⟨g, o, cap, rfl, hr⟩
  · exact .inl h
  · refine .inr ⟨g, o, cap, rfl, fun j r hj => ?_⟩
    obtain ⟨h1, h2, h3⟩ := hr j r hj
    refine ⟨h1, h2, fun k u hk => ?_⟩
    rw [← h3 k u hk]
    unfold World.cell?
    rw [hb g rfl]

/-- The event lies at E, its result's block at R. -/
structure EvS (b R E Y M : Nat) (tv : Value) (toks : List Tok) (pos : Nat) (line col ls ln : Int) (es : Array MapEntry) (clk : Nat) (kd lg dt : Int) (hv gv lv : Value) (A : A5) (hs gs : List (Array Value)) (w0 w : World) : Prop where
  prs : Prs Y M tv toks pos line col 0 true ls ln es clk w
  hR : w.heap[R]? = some (.cells (evC 0 0 0 (.slice none 0 0) (.slice none 0 0) ⟨0, 0, 0, 0, 0⟩ (.slice none 0 0)) 30 (0, 0))
  hE : w.heap[E]? = some (.cells (evC kd lg dt hv gv A lv) 30 (0, 0))
  tab : Tabs b w
  aw : Away [Y] w0 w
  y7 : 7 ≤ Y
  yR : Y < w0.heap.size
  bR : w0.heap.size ≤ R
  ne : R < E
  eh : Els w 5 hv hs
  eg : Els w 5 gv gs
  kh : ∀ k, hv.ownBlock = some k → E < k
  kg : ∀ k, gv.ownBlock = some k → E < k

section
variable {b R E Y M : Nat} {tv : Value} {toks : List Tok} {pos pos' : Nat} {line col ls ln : Int} {es : Array MapEntry} {clk : Nat} {kd lg dt : Int} {hv gv lv : Value} {A : A5} {hs gs : List (Array Value)} {w0 w w' : World} {t : Tok}

theorem EvS.step (h : EvS b R E Y M tv toks pos line col ls ln es clk kd lg dt hv gv lv A hs gs w0 w) (bl : Below w.heap.size w w') : EvS b R E Y M tv toks pos line col ls ln es clk kd lg dt hv gv lv A hs gs w0 w' :=
  ⟨h.prs.step bl, (bl.block _ (Array.getElem?_eq_some_iff.1 h.hR).1).trans h.hR, (bl.block _ (Array.getElem?_eq_some_iff.1 h.hE).1).trans h.hE, h.tab.step bl, h.aw.step bl, h.y7, h.yR, h.bR, h.ne, h.eh.step bl, h.eg.step bl, h.kh, h.kg⟩
theorem els_lt {v : Value} {s : Nat} {rows : List (Array Value)} (h : Els w s v rows) (hr : rows ≠ []) (hs : ∀ r ∈ rows, 0 < r.size) : ∀ k, v.ownBlock = some k → k < w.heap.size := by
  intro k hk
  rcases h with h | ⟨g, o, cap, rfl, hc⟩
  · exact absurd h.1 hr
  · obtain rfl : g = k := by simpa [Value.ownBlock] using hk
    cases rows with
    | nil => exact absurd rfl hr
    | cons r rs =>
      have h0 := hs r List.mem_cons_self
      obtain ⟨_, _, h3⟩ := hc 0 r rfl
      exact World.block_lt_of_cell? w _ (h3 0 r[0] (by simp [h0]))
theorem EvS.away (h : EvS b R E Y M tv toks pos line col ls ln es clk kd lg dt hv gv lv A hs gs w0 w) (a : Away [Y] w w') (hS : Prs Y M tv toks pos' line col 0 true ls ln es clk w') : EvS b R E Y M tv toks pos' line col ls ln es clk kd lg dt hv gv lv A hs gs w0 w' := by
  have n : ∀ k, w0.heap.size ≤ k → k ∉ [Y] := fun k hk => by have := h.yR; simp; omega
  have fr : ∀ (v : Value) (rows : List (Array Value)), Els w 5 v rows → (∀ k, v.ownBlock = some k → E < k) → Els w' 5 v rows := fun v rows hv hk => by
    rcases hv with hv | ⟨g, o, cap, rfl, hr⟩
    · exact .inl hv
    · refine .inr ⟨g, o, cap, rfl, fun j r hj => ?_⟩
      obtain ⟨h1, h2, h3⟩ := hr j r hj
      refine ⟨h1, h2, fun k u hku => ?_⟩
      have hc := h3 k u hku
      have lg := World.block_lt_of_cell? w _ hc
      simp only at lg
      have hg := hk g rfl
      rw [← hc]
      unfold World.cell?
      rw [a.block g lg (n g (by have := h.bR; have := h.ne; omega))]
  exact ⟨hS, a.heap h.hR (n _ h.bR), a.heap h.hE (n _ (by have := h.bR; have := h.ne; omega)), h.tab.away a (by have := h.y7; simp; exact this), h.aw.trans a, h.y7, h.yR, h.bR, h.ne, fr _ _ h.eh h.kh, fr _ _ h.eg h.kg, h.kh, h.kg⟩
/-- The event's block changes; nothing else but the parser. -/
theorem EvS.other (h : EvS b R E Y M tv toks pos line col ls ln es clk kd lg dt hv gv lv A hs gs w0 w) (a : Away [Y, E] w w') (hS : Prs Y M tv toks pos' line col 0 true ls ln es clk w') {kd' lg' dt' : Int} {hv' gv' lv' : Value} {A' : A5} (hE' : w'.heap[E]? = some (.cells (evC kd' lg' dt' hv' gv' A' lv') 30 (0, 0))) {hs' gs' : List (Array Value)}
    (eh : Els w 5 hv' hs') (eg : Els w 5 gv' gs') (kh : ∀ k, hv'.ownBlock = some k → E < k) (kg : ∀ k, gv'.ownBlock = some k → E < k) : EvS b R E Y M tv toks pos' line col ls ln es clk kd' lg' dt' hv' gv' lv' A' hs' gs' w0 w' := by
  have n : ∀ k, E < k ∨ k = R → k ∉ [Y, E] := fun k hk => by have := h.yR; have := h.bR; have := h.ne; simp; omega
  have fr : ∀ (v : Value) (rows : List (Array Value)), Els w 5 v rows → (∀ k, v.ownBlock = some k → E < k) → Els w' 5 v rows := fun v rows hv hk => by
    rcases hv with hv | ⟨g, o, cap, rfl, hr⟩
    · exact .inl hv
    · refine .inr ⟨g, o, cap, rfl, fun j r hj => ?_⟩
      obtain ⟨h1, h2, h3⟩ := hr j r hj
      refine ⟨h1, h2, fun k u hku => ?_⟩
      have hc := h3 k u hku
      have lg := World.block_lt_of_cell? w _ hc
      simp only at lg
      rw [← hc]
      unfold World.cell?
      rw [a.block g lg (n g (.inl (hk g rfl)))]
  have t7 : ∀ k o, k < 7 → w.heap[k]? = some o → w'.heap[k]? = some o := fun k o hk ho => a.heap ho (by have := h.y7; have := h.yR; have := h.bR; have := h.ne; simp; omega)
  have hbR := h.bR
  have hne := h.ne
  exact ⟨hS, a.heap h.hR (n _ (.inr rfl)), hE', ⟨t7 _ _ (by omega) h.tab.t0, t7 _ _ (by omega) h.tab.t2, t7 _ _ (by omega) h.tab.t5, t7 _ _ (by omega) h.tab.t6⟩,
    ⟨a.os.trans h.aw.os, a.tape.trans h.aw.tape, a.output.trans h.aw.output, Nat.le_trans h.aw.size a.size, fun k hk hb => (a.block k (Nat.lt_of_lt_of_le hk h.aw.size) (by simp at hb ⊢; omega)).trans (h.aw.block k hk hb)⟩,
    h.y7, h.yR, h.bR, h.ne, fr _ _ eh kh, fr _ _ eg kg, kh, kg⟩
theorem EvS.kept (h : EvS b R E Y M tv toks pos line col ls ln es clk kd lg dt hv gv lv A hs gs w0 w) (a : Away [Y, E] w w') {v : Value} {rows : List (Array Value)} (hv : Els w 5 v rows) (hk : ∀ k, v.ownBlock = some k → E < k) : Els w' 5 v rows := by
  rcases hv with hv | ⟨g, o, cap, rfl, hr⟩
  · exact .inl hv
  · refine .inr ⟨g, o, cap, rfl, fun j r hj => ?_⟩
    obtain ⟨h1, h2, h3⟩ := hr j r hj
    refine ⟨h1, h2, fun k u hku => ?_⟩
    have hc := h3 k u hku
    have lg := World.block_lt_of_cell? w _ hc
    simp only at lg
    have hg := hk g rfl
    have := h.yR; have := h.bR; have := h.ne
    rw [← hc]
    unfold World.cell?
    rw [a.block g lg (by simp; omega)]
theorem EvS.other2 (h : EvS b R E Y M tv toks pos line col ls ln es clk kd lg dt hv gv lv A hs gs w0 w) (a : Away [Y, E] w w') (hS : Prs Y M tv toks pos' line col 0 true ls ln es clk w') {kd' lg' dt' : Int} {hv' gv' lv' : Value} {A' : A5} (hE' : w'.heap[E]? = some (.cells (evC kd' lg' dt' hv' gv' A' lv') 30 (0, 0))) {hs' gs' : List (Array Value)}
    (eh : Els w' 5 hv' hs') (eg : Els w' 5 gv' gs') (kh : ∀ k, hv'.ownBlock = some k → E < k) (kg : ∀ k, gv'.ownBlock = some k → E < k) : EvS b R E Y M tv toks pos' line col ls ln es clk kd' lg' dt' hv' gv' lv' A' hs' gs' w0 w' := by
  have n : ∀ k, E < k ∨ k = R → k ∉ [Y, E] := fun k hk => by have := h.yR; have := h.bR; have := h.ne; simp; omega
  have t7 : ∀ k o, k < 7 → w.heap[k]? = some o → w'.heap[k]? = some o := fun k o hk ho => a.heap ho (by have := h.y7; have := h.yR; have := h.bR; have := h.ne; simp; omega)
  have hbR := h.bR
  have hne := h.ne
  exact ⟨hS, a.heap h.hR (n _ (.inr rfl)), hE', ⟨t7 _ _ (by omega) h.tab.t0, t7 _ _ (by omega) h.tab.t2, t7 _ _ (by omega) h.tab.t5, t7 _ _ (by omega) h.tab.t6⟩,
    ⟨a.os.trans h.aw.os, a.tape.trans h.aw.tape, a.output.trans h.aw.output, Nat.le_trans h.aw.size a.size, fun k hk hb => (a.block k (Nat.lt_of_lt_of_le hk h.aw.size) (by simp at hb ⊢; omega)).trans (h.aw.block k hk hb)⟩,
    h.y7, h.yR, h.bR, h.ne, eh, eg, kh, kg⟩
theorem EvS.put (h : EvS b R E Y M tv toks pos line col ls ln es clk kd lg dt hv gv lv A hs gs w0 w) (i : Nat) (u : Value) {kd' lg' dt' : Int} {hv' gv' lv' : Value} {A' : A5} (hc : (evC kd lg dt hv gv A lv).setIfInBounds i u = evC kd' lg' dt' hv' gv' A' lv') {hs' gs' : List (Array Value)}
    (eh : Els w 5 hv' hs') (eg : Els w 5 gv' gs') (kh : ∀ k, hv'.ownBlock = some k → E < k) (kg : ∀ k, gv'.ownBlock = some k → E < k) : EvS b R E Y M tv toks pos line col ls ln es clk kd' lg' dt' hv' gv' lv' A' hs' gs' w0 (w.setCell ⟨E, i, none⟩ u) :=
  h.other (Away.setCell (Away.refl _ _) (p := ⟨E, i, none⟩) (.inl (by simp)) u) (h.prs.elsewhere h.hE (by decide) (by decide) i u) (by rw [Lib.heap_setCell_same h.hE u, hc]) eh eg kh kg
theorem EvS.cells (h : EvS b R E Y M tv toks pos line col ls ln es clk kd lg dt hv gv lv A hs gs w0 w) : w.cell? ⟨E, 2, none⟩ = some (.int .i64 kd) ∧ w.cell? ⟨E, 3, none⟩ = some (.int .i64 lg) ∧ w.cell? ⟨E, 4, none⟩ = some (.int .i64 dt) ∧ w.cell? ⟨E, 5, none⟩ = some hv ∧ w.cell? ⟨E, 6, none⟩ = some gv ∧ w.cell? ⟨E, 10, none⟩ = some lv ∧ ∀ i, w.frozen? ⟨E, i, none⟩ = false := by
  refine ⟨?_, ?_, ?_, ?_, ?_, ?_, fun i => Lib.frozen_of_heap h.hE i⟩ <;> (rw [Lib.cell_of_heap h.hE]; rfl)

/-- The first token of an event's body. -/
theorem body_first {x : EvV} (hx : EvOk x) {r : List Piece} (h : At toks pos (bodyPs x ++ r)) : ∃ t, toks[pos]? = some t ∧ IsTok t ⟨#[64]⟩ = false ∧ IsTok t ⟨#[103, 114, 97, 99, 101]⟩ = false ∧
    IsTok t ⟨#[82]⟩ = decide (x.kind = 3) ∧ IsTok t ⟨#[114]⟩ = decide (x.kind = 2) ∧ IsTok t ⟨#[115]⟩ = decide (x.kind = 4) ∧ IsTok t ⟨#[60]⟩ = (decide (x.kind = 1) && decide (x.heads.length ≠ 1)) := by
  have hk := hx.kd
  have h0 := h.left
  unfold bodyPs at h0
  rcases hk with hk | hk | hk | hk
  · simp only [hk, Int.reduceEq, if_false] at h0 ⊢
    unfold headsPs at h0
    by_cases h1 : x.heads.length = 1
    · obtain ⟨y, hy⟩ := List.length_eq_one_iff.1 h1
      rw [if_pos h1, hy] at h0
      obtain ⟨t, ht, hi⟩ := At.first (p := wordP [32] (wordOfP y.p)) h0
      have hp : pitchE y.p = 0 := (hx.hok y (by rw [hy]; simp)).1
      have n1 : wordOfP y.p ≠ [64] := word_ne hp (by decide)
      have n2 : wordOfP y.p ≠ [82] := word_ne' hp (by decide)
      have n3 : wordOfP y.p ≠ [114] := word_ne' hp (by decide)
      have n4 : wordOfP y.p ≠ [115] := word_ne' hp (by decide)
      have n5 : wordOfP y.p ≠ [60] := word_ne hp (by decide)
      have n6 : wordOfP y.p ≠ [103, 114, 97, 99, 101] := by
        have hf := List.all_eq_true.1 word_first y.p (mem_allP hp)
        intro e
        rw [e] at hf
        revert hf
        decide
      refine ⟨t, ht, (isTok_of hi [64]).trans ?_, (isTok_of hi [103, 114, 97, 99, 101]).trans ?_, (isTok_of hi [82]).trans ?_, (isTok_of hi [114]).trans ?_, (isTok_of hi [115]).trans ?_, (isTok_of hi [60]).trans ?_⟩ <;> simp [wordP, n1, n2, n3, n4, n5, n6, h1]
    · rw [if_neg h1] at h0
      obtain ⟨t, ht, hi⟩ := At.first (p := symP [32] 60) h0
      exact ⟨t, ht, (isTok_of hi [64]).trans (by decide), (isTok_of hi [103, 114, 97, 99, 101]).trans (by decide), (isTok_of hi [82]).trans (by decide), (isTok_of hi [114]).trans (by decide), (isTok_of hi [115]).trans (by decide), (isTok_of hi [60]).trans (by simp [symP, h1])⟩
  · simp only [hk, Int.reduceEq, if_false, if_true] at h0 ⊢
    obtain ⟨t, ht, hi⟩ := At.first (p := wordP [32] [114]) h0
    exact ⟨t, ht, (isTok_of hi [64]).trans (by decide), (isTok_of hi [103, 114, 97, 99, 101]).trans (by decide), (isTok_of hi [82]).trans (by decide), (isTok_of hi [114]).trans (by decide), (isTok_of hi [115]).trans (by decide), (isTok_of hi [60]).trans (by simp [wordP])⟩
  · simp only [hk, if_true, Int.reduceEq] at h0 ⊢
    obtain ⟨t, ht, hi⟩ := At.first (p := wordP [32] [82]) h0
    exact ⟨t, ht, (isTok_of hi [64]).trans (by decide), (isTok_of hi [103, 114, 97, 99, 101]).trans (by decide), (isTok_of hi [82]).trans (by decide), (isTok_of hi [114]).trans (by decide), (isTok_of hi [115]).trans (by decide), (isTok_of hi [60]).trans (by simp [wordP])⟩
  · simp only [hk, Int.reduceEq, if_false, if_true] at h0 ⊢
    obtain ⟨t, ht, hi⟩ := At.first (p := wordP [32] [115]) h0
    exact ⟨t, ht, (isTok_of hi [64]).trans (by decide), (isTok_of hi [103, 114, 97, 99, 101]).trans (by decide), (isTok_of hi [82]).trans (by decide), (isTok_of hi [114]).trans (by decide), (isTok_of hi [115]).trans (by decide), (isTok_of hi [60]).trans (by simp [wordP])⟩

/-- The token behind an event's body. -/
theorem after_body {x : EvV} (_hx : EvOk x) (h : At toks pos (attrPs (wordsB x.ar x.orn x.dy x.stem x.beam) ++ (sepPs syllPs [32] x.lyr ++ [endP []]))) : ∃ t, toks[pos]? = some t ∧ Joins false (dotL.map mk) t = false ∧ IsTok t ⟨#[91]⟩ = decide (wordsB x.ar x.orn x.dy x.stem x.beam ≠ []) := by
  unfold attrPs at h
  split at h
  · rename_i hw
    rw [List.nil_append] at h
    cases hl : x.lyr with
    | nil =>
      rw [hl] at h
      obtain ⟨t, ht, hi⟩ := At.first (r := []) h
      exact ⟨t, ht, (joins_of hi false dotL).trans (by decide), (isTok_of hi [91]).trans (by simp [hw, endP])⟩
    | cons y r =>
      rw [hl, sep_head, List.append_assoc] at h
      have h0 := h.left
      unfold syllPs at h0
      split at h0
      · obtain ⟨t, ht, hi⟩ := h0.first
        exact ⟨t, ht, (joins_of hi false dotL).trans (by decide), (isTok_of hi [91]).trans (by simp [hw, symP])⟩
      · obtain ⟨t, ht, hi⟩ := h0.first
        exact ⟨t, ht, (joins_of hi false dotL).trans (by simp [JoinsP, strP]), (isTok_of hi [91]).trans (by simp [hw, strP])⟩
  · rename_i hw
    obtain ⟨t, ht, hi⟩ := At.first (p := symP [32] 91) h
    exact ⟨t, ht, (joins_of hi false dotL).trans (by decide), (isTok_of hi [91]).trans (by simp [hw, symP])⟩
end
end Go.Proofs.YtholnnabakaliaaGreatDoor
