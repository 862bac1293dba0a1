/- Towards the law ParserEvents, true for every text (no condition): one part of the proof. -/
import Derived.Test.YtgkhemnmcgicnaaGreatDoorG01
import Derived.Test.YtgkhemnmcgicnaaGreatDoorG30
namespace Go.Proofs.YtgkhemnmcgicnaaGreatDoor
set_option maxHeartbeats 16000000
set_option maxRecDepth 100000
open Go.RowKit
theorem word_ok2 {T : List Tok} {s : Stt} {p : Nat} (h : (wordF T attrWL s).2 = .ok p) : ∃ q, s = .ok q /\ p = q + 1 := by
 rcases wordF_cases T s with ⟨h1, h2⟩ | ⟨i, h1, h2, h3, h4⟩
 ·rw [h] at h2; cases h2
 ·rw [h3] at h; exact next_ok h
theorem attrStep_prog (T : List Tok) (last : Int) (A : A5) (p p' : Nat) (h : (attrStep T last A (.ok p)).2.2 = .ok p') : p < p' := by
 rw [attrStep_eq] at h
 simp only at h
 obtain ⟨q, h1, h2⟩ := word_ok2 h
 unfold Stt.orFail at h1
 split at h1
 ·exact absurd h1 (failS_ok T 13 _ q)
 ·injection h1 with h1; omega
theorem need_at {T : List Tok} {p k : Nat} {s2 : Stt} (hp : p < T.length) (h2 : ∀ p', s2 = .ok p' -> p < p') (h : need T (.ok p) <= k + 1) : need T s2 <= k := by
 cases s2 with
 | bad e l c => exact Nat.zero_le _
 | ok p' =>
  have := h2 p' rfl
  unfold need at h ⊢
  simp only at h ⊢
  omega
theorem attrMore_bad (T : List Tok) (k : Nat) (last : Int) (A : A5) (e l c : Int) : attrMore T k last A (.bad e l c) = (A, .bad e l c) := by
 cases k with
 | zero => rfl
 | succ k => rw [attrMore, if_neg (by simp [Stt.good])]
theorem Tryz.infoInt3 : (Tryz.prog.info? 3).map (fun i => (i.zero.map fun z => z.cells.size, i.size, i.bytes)) = some (some 1, 1, 8) := by kernel_rfl
section
variable {T : List Tok} {Bw Bp Bl Be Q E Y M : Nat} {free : Bool} {st st' : Stt} {last : Int} {F : EF} {A : A5} {w0 w w' : World}
theorem Cl.grown (h : Cl T Bw Bp Bl Be Q E Y M free st last F A w0 w) {row : Option Nat} (hg : w.grownBy w' row) {B : Nat} (hB : Bw < B /\ Bp < B /\ Bl < B /\ Be < B /\ Q < B /\ E < B /\ Y < B /\ M < B /\ w0.heap.size <= B) (hr : ∀ k, row = some k -> B <= k) (hn : ∀ k, row = some k -> ∃ cur e, w.heap[k]? = some (.cells cur e (0, 0)) /\ e ≠ 59) : Cl T Bw Bp Bl Be Q E Y M free st last F A w0 w' := by
 obtain ⟨b1, b2, b3, b4, b5, b6, b7, b8, b9⟩ := hB
 have o : ∀ k o, w.heap[k]? = some o -> k < B -> w'.heap[k]? = some o := fun k o hk hl => (hg.block k (heap_lt hk) fun e => by have := hr k e.symm; omega).trans hk
 exact ⟨h.prs.grown hg fun k hk => ⟨by have := hr k hk; omega, by have := hr k hk; omega, hn k hk⟩, o _ _ h.hw b1, o _ _ h.hp b2, o _ _ h.hl b3, o _ _ h.he b4, o _ _ h.hq b5, o _ _ h.hE b6, h.aw.grown hg fun k hk => by have := hr k hk; omega, h.bl, h.ne⟩
theorem several_words (h : Cl T Bw Bp Bl Be Q E Y M free st last F A w0 w) (hI : InvA last A st) :
  Calls Tryz.prog 106 #[.pointer (some ⟨Y, 0, none⟩), .func (.func 107) #[] #[.pointer (some ⟨Bw, 0, none⟩), .pointer (some ⟨Bp, 0, none⟩), .pointer (some ⟨Bl, 0, none⟩), .pointer (some ⟨Be, 0, none⟩)], .string ⟨#[93]⟩] w fun rr w' => ∃ v l', rr = .returned v /\ Cl T Bw Bp Bl Be Q E Y M free (expS T ⟨#[93]⟩ (attrMore T T.length (attrStep T last A st).1 (attrStep T last A st).2.1 (attrStep T last A st).2.2).2) l' F (attrMore T T.length (attrStep T last A st).1 (attrStep T last A st).2.1 (attrStep T last A st).2.2).1 w0 w' := by
 obtain ⟨i0, zz, hi0, hzz, hzc, hz1, hz2⟩ : ∃ i z, Tryz.prog.info? 3 = some i /\ i.zero = some z /\ z.cells.size = 1 /\ i.size = 1 /\ i.bytes = 8 := by
  have := Tryz.infoInt3
  cases hi : Tryz.prog.info? 3 with
  | none => rw [hi] at this; cases this
  | some i =>
   rw [hi] at this
   simp only [Option.map_some, Option.some.injEq, Prod.mk.injEq] at this
   cases hz : i.zero with
   | none => rw [hz] at this; cases this.1
   | some z => rw [hz] at this; exact ⟨i, z, rfl, hz, by simpa using this.1, this.2.1, this.2.2⟩
 have hB : Bw < w.heap.size /\ Bp < w.heap.size /\ Bl < w.heap.size /\ Be < w.heap.size /\ Q < w.heap.size /\ E < w.heap.size /\ Y < w.heap.size /\ M < w.heap.size /\ w0.heap.size <= w.heap.size :=
  ⟨heap_lt h.hw, heap_lt h.hp, heap_lt h.hl, heap_lt h.he, heap_lt h.hq, heap_lt h.hE, h.prs.lt, h.prs.ltM, h.aw.size⟩
 have hm := h.prs.good.max
 have x1 := word_closure h hI
 have hI1 := hI.step (T := T)
 have hn0 : need T (attrStep T last A st).2.2 <= T.length := by
  cases (attrStep T last A st).2.2 with
  | ok p => exact Nat.sub_le _ _
  | bad e l c => exact Nat.zero_le _
 obtain ⟨tot, htot⟩ : ∃ tot, tot = attrMore T T.length (attrStep T last A st).1 (attrStep T last A st).2.1 (attrStep T last A st).2.2 := ⟨_, rfl⟩
 rw [<- htot]
 generalize attrStep T last A st = q1 at x1 htot hn0 hI1
 obtain ⟨l1, A1, s1⟩ := q1
 simp only at x1 htot hn0 hI1
 have c9 := fun w' (h : PS T Y M free tot.2 w') => expect_s h ⟨#[93]⟩
 generalize expS T ⟨#[93]⟩ tot.2 = s9 at c9 ⊢
 obtain ⟨N, hN⟩ : ∃ N, Shut (T.length = N) := ⟨_, rfl⟩
 have hN4 : N <= 4001 := by rw [<- hN.out]; exact hm
 rw [hN.out] at htot hn0
 have HT := shut (And.intro htot hn0)
 clear h htot hn0 hm hI
 go_enter Tryz.func106, Tryz.ntmps106
 go_wp2_with (go_at_call 107; refine x1.mono ?_)
 intro rr w1; first | (intro he V1 a1; subst he) | rintro ⟨rfl, V1, a1⟩
 have sz1 := a1.size
 have V2 := V1.step ((Below.refl _ w1).alloc (Nat.le_refl _) (.cells #[I l1] 3))
 have ho2 : (w1.alloc (.cells #[I l1] 3)).ownsRow w.heap.size 3 1 (.slice (some ⟨w1.heap.size, 0, none⟩) 1 1) 1 [I l1] := World.ownsRow_lit (size := 1) w1 #[I l1] 1 sz1 (by decide) rfl
 have sz2 : w.heap.size <= (w1.alloc (.cells #[I l1] 3)).heap.size := by simp; omega
 clear x1 V1 a1
 go_wp2
 go_loopg [7] N (fun gk s7 wr => ∃ (k : Nat) (last : Int) (xs : List Value) (A2 : A5) (s : Stt), k + gk = N /\ need T s <= gk /\ attrMore T gk last A2 s = tot /\ wr.ownsRow w.heap.size 3 1 s7 (k + 1) xs /\ InvA last A2 s /\ Cl T Bw Bp Bl Be Q E Y M free s last F A2 w0 wr /\ w.heap.size <= wr.heap.size)
 case atStart => exact ⟨0, l1, _, A1, s1, by omega, HT.out.2, HT.out.1.symm, ho2, hI1, V2, sz2⟩
 case round =>
  clear V2 ho2 sz2 hI1
  obtain ⟨k, last, xs, A2, s, hlen, hneed, htotal, hown, hI, V, szr⟩ := hrel
  have hN1 : (k : Int) <= 4001 := by omega
  obtain ⟨ao, cp, rfl⟩ := own_is hown
  have hlo : ∀ j, (Value.slice ao (k + 1) cp).ownBlock = some j -> w.heap.size <= j := fun j hj => (hown.lt j hj).1
  have hx9 : ∀ w', Cl T Bw Bp Bl Be Q E Y M free s last F A2 w0 w' -> s = tot.2 -> Calls Tryz.prog 54 #[.pointer (some ⟨Y, 0, none⟩), .string ⟨#[93]⟩] w' fun r w'' => r = .returned (.tuple #[]) /\ PS T Y M free s9 w'' /\ Away [Y, M] w' w'' := fun w' b e => c9 w' (by rw [<- e]; exact b.prs)
  have HT2 := shut (And.intro hlen (And.intro hneed htotal))
  have fin0 : attrMore T gk last A2 s = (A2, s) -> A2 = tot.1 /\ s = tot.2 := fun e => by
   rw [e] at htotal
   exact ⟨congrArg (·.1) htotal, congrArg (·.2) htotal⟩
  clear htotal hlen hneed
  cases s with
  | bad ee el ec =>
   obtain ⟨c4, hee⟩ := V.prs.errCell
   obtain ⟨hl, hs⟩ := fin0 (attrMore_bad _ _ _ _ _ _ _)
   have xe := hx9 wr V hs
   clear fin0 hx9
   go_wp2_with (go_at_call 54; refine xe.mono ?_)
   intro r w4; first | (intro he hS4 a4; subst he) | rintro ⟨rfl, hS4, a4⟩
   have V4 := V.away a4 hS4
   clear xe hown V a4 c4
   go_wp2
   go_ret
   exact ⟨_, last, rfl, by rw [<- hl]; exact V4⟩
  | ok p =>
   have c4 := V.prs.okCell
   have hpl := V.prs.atCell.2.2
   have xi := is_s V.prs ⟨#[93]⟩
   cases hb : isS T ⟨#[93]⟩ (.ok p) with
   | true =>
    rw [hb] at xi
    obtain ⟨hl, hs⟩ := fin0 (by
     cases gk with
     | zero => rfl
     | succ k => rw [attrMore, if_neg (by rw [hb]; simp)])
    clear fin0
    go_wp2_with (go_at_call 76; refine xi.mono ?_)
    intro rr w3; first | (intro he b3; subst he) | rintro ⟨rfl, b3⟩
    have V3 := V.step b3
    have xe := hx9 w3 V3 hs
    clear xi hx9 hown V b3 c4
    go_wp2_with (go_at_call 54; refine xe.mono ?_)
    intro rr w4; first | (intro he hS4 a4; subst he) | rintro ⟨rfl, hS4, a4⟩
    have V4 := V3.away a4 hS4
    clear xe V3 a4
    go_wp2
    go_ret
    exact ⟨_, last, rfl, by rw [<- hl]; exact V4⟩
   | false =>
    rw [hb] at xi
    obtain ⟨g, hgk⟩ : ∃ g, gk = g + 1 := by
     have := HT2.out.2.1
     unfold need at this
     exact ⟨gk - 1, by simp only at this; omega⟩
    have hmore : attrMore T gk last A2 (.ok p) = attrMore T g (attrStep T last A2 (.ok p)).1 (attrStep T last A2 (.ok p)).2.1 (attrStep T last A2 (.ok p)).2.2 := by
     rw [hgk, attrMore, if_pos ⟨rfl, hb⟩]
    have hnx : need T (attrStep T last A2 (.ok p)).2.2 <= g := need_at hpl (attrStep_prog T last A2 p) (by have := HT2.out.2.1; omega)
    have htot2 := HT2.out.2.2
    rw [hmore] at htot2
    have hlen2 := HT2.out.1
    have hI2 := hI.step (T := T)
    have xr := fun W (bW : Below wr.heap.size wr W) => word_closure (V.step bW) hI
    generalize attrStep T last A2 (.ok p) = qq at xr hnx htot2 hI2
    obtain ⟨l3, A3, s3⟩ := qq
    simp only at xr hnx htot2 hI2
    have HA := shut (And.intro hnx (And.intro htot2 (And.intro hlen2 (And.intro hgk hI2))))
    clear fin0 hx9 hmore hnx htot2 hlen2 hb HT2 hI hI2
    go_wp2_with (go_at_call 76; refine xi.mono ?_)
    intro rr w3; first | (intro he b3; subst he) | rintro ⟨rfl, b3⟩
    have xr3 := xr w3 b3
    have hown3 := own_step hown fun j hj => b3.block j (hown.lt j hj).2
    have sz3 := b3.size
    clear xr xi c4 hown b3 V
    go_wp2_with (go_at_call 107; refine xr3.mono ?_)
    intro rr w4; first | (intro he V4 a4; subst he) | rintro ⟨rfl, V4, a4⟩
    have hown4 := own_step hown3 fun j hj => a4.block j (hown3.lt j hj).2 (by
     have := hlo j hj
     obtain ⟨b1, b2, b3, b4, b5, b6, b7, b8, b9⟩ := hB
     simp; omega)
    have sz4 := a4.size
    clear xr3 hown3 a4
    go_wp2_with (at_builtin; refine wpList_append_lies _ rfl _ _ 106 rfl w.heap.size 3 i0 _ 1 8 Tryz.underlying106 hi0 hzz hz1 hz2 hzc (by omega) _ (k + 1) _ rfl (hown4.alloc _) ⟨w4.heap.size, 0, none⟩ 1 1 [I l3] rfl rfl (World.news_of_block (cs := #[I l3]) (t := 3) (fr := (0, 0)) (heap_alloc_new _ _)) (by simp [Value.oneCell']) (by omega) (by unfold maxLen; omega) (by omega) (by simp; omega) (w4.heap.size + 1) (by simp) ?_; intro gg wcap w5 hown5 hgrow hat hgl)
    go_roundg (gk - 1)
    case measure => have := HA.out.2.2.2.1; omega
    case rel =>
     obtain ⟨q1, q2, q3, q4, q5⟩ := HA.out
     have e1 : gk - 1 = g := by omega
     rw [e1]
     exact ⟨k + 1, l3, _, A3, s3, by omega, q1, q2, hown5, q5, (V4.step ((Below.refl _ w4).alloc (Nat.le_refl _) _)).grown hgrow hB hlo (fun j hj => by
      obtain ⟨cur', hc'⟩ := own_at hown4 hj
      exact ⟨cur', 3, (Lib.alloc_old w4 _ _ (heap_lt hc')).trans hc', by decide⟩), by have := hgrow.size; simp at this; omega⟩
end
section
variable {T : List Tok} {E Y M : Nat} {free : Bool} {st : Stt} {F : EF} {w w' : World}
theorem below_newer {B : Nat} {a w : World} (h : Below B a w) {Q : Nat} (hQ : B <= Q) (o : Obj) : Below B a { w with heap := w.heap.setIfInBounds Q o } :=
 ⟨h.os, h.tape, h.output, by simpa using h.size, fun k hk => by
  show (w.heap.setIfInBounds Q o)[k]? = _
  rw [Array.getElem?_setIfInBounds_ne (by omega)]; exact h.block k hk⟩
theorem set_ne {w : World} {Q k : Nat} {o o' : Obj} (h : w.heap[k]? = some o) (hk : Q ≠ k) : ({ w with heap := w.heap.setIfInBounds Q o' } : World).heap[k]? = some o := by
 show (w.heap.setIfInBounds Q o')[k]? = _
 rw [Array.getElem?_setIfInBounds_ne hk]; exact h
theorem set_eq {w : World} {Q : Nat} {o o' : Obj} (h : w.heap[Q]? = some o) : ({ w with heap := w.heap.setIfInBounds Q o' } : World).heap[Q]? = some o' := by
 show (w.heap.setIfInBounds Q o')[Q]? = _
 rw [Array.getElem?_setIfInBounds_self_of_lt (Array.getElem?_eq_some_iff.1 h).1]
theorem attributes_s (h : PS T Y M free st w) (hE : w.heap[E]? = some (.cells (F.c ⟨0, 0, 0, 0, 0⟩) 31 (0, 0))) (hEY : E ≠ Y) (hEM : E ≠ M) :
  Calls Tryz.prog 60 #[.pointer (some ⟨Y, 0, none⟩), .pointer (some ⟨E, 0, none⟩)] w fun rr w' => rr = .returned (.tuple #[]) /\ PS T Y M free (attrF T st).2 w' /\ w'.heap[E]? = some (.cells (F.c (attrF T st).1) 31 (0, 0)) /\ Away [Y, M, E] w w' := by
 have hYl := h.lt
 have hMl := h.ltM
 have hEl := heap_lt hE
 have hres : attrF T st = ((attrMore T T.length (attrStep T (-1) ⟨0, 0, 0, 0, 0⟩ st).1 (attrStep T (-1) ⟨0, 0, 0, 0, 0⟩ st).2.1 (attrStep T (-1) ⟨0, 0, 0, 0, 0⟩ st).2.2).1, expS T ⟨#[93]⟩ (attrMore T T.length (attrStep T (-1) ⟨0, 0, 0, 0, 0⟩ st).1 (attrStep T (-1) ⟨0, 0, 0, 0, 0⟩ st).2.1 (attrStep T (-1) ⟨0, 0, 0, 0, 0⟩ st).2.2).2) := rfl
 rw [hres]
 clear hres
 have xsv := fun (Bw Bp Bl Be Q : Nat) (w1 : World) (V : Cl T Bw Bp Bl Be Q E Y M free st (-1) F ⟨0, 0, 0, 0, 0⟩ w w1) => several_words V (InvA.start st)
 generalize (attrMore T T.length (attrStep T (-1) ⟨0, 0, 0, 0, 0⟩ st).1 (attrStep T (-1) ⟨0, 0, 0, 0, 0⟩ st).2.1 (attrStep T (-1) ⟨0, 0, 0, 0, 0⟩ st).2.2).1 = A9 at xsv ⊢
 generalize expS T ⟨#[93]⟩ (attrMore T T.length (attrStep T (-1) ⟨0, 0, 0, 0, 0⟩ st).1 (attrStep T (-1) ⟨0, 0, 0, 0, 0⟩ st).2.1 (attrStep T (-1) ⟨0, 0, 0, 0, 0⟩ st).2.2).2 = s9 at xsv ⊢
 have hmk : ∀ ww : World, (Instr.makeMap 164 none).run Tryz.prog ww = .ok (.map (some ww.heap.size)) (ww.alloc (.map #[] 0)) := fun ww => by
  simp [Instr.makeMap, newObj, Sem.run]
 have b1 := (Below.refl w.heap.size w).alloc (Nat.le_refl _) (.cells #[.pointer (some ⟨Y, 0, none⟩)] 69)
 have b2 := b1.alloc b1.size (.cells #[.pointer (some ⟨E, 0, none⟩)] 84)
 have b3 := b2.alloc b2.size (.map #[] 0)
 have b4 := b3.alloc b3.size (.cells #[.map (some (w.heap.size + 1 + 1))] 164)
 have b5 := b4.alloc b4.size attrRow
 have e1 : (w.alloc (.cells #[.pointer (some ⟨Y, 0, none⟩)] 69)).heap.size = w.heap.size + 1 := by simp
 have e2 : ((w.alloc (.cells #[.pointer (some ⟨Y, 0, none⟩)] 69)).alloc (.cells #[.pointer (some ⟨E, 0, none⟩)] 84)).heap.size = w.heap.size + 1 + 1 := by simp
 have e3 : (((w.alloc (.cells #[.pointer (some ⟨Y, 0, none⟩)] 69)).alloc (.cells #[.pointer (some ⟨E, 0, none⟩)] 84)).alloc (.map #[] 0)).heap.size = w.heap.size + 1 + 1 + 1 := by simp
 have e4 : ((((w.alloc (.cells #[.pointer (some ⟨Y, 0, none⟩)] 69)).alloc (.cells #[.pointer (some ⟨E, 0, none⟩)] 84)).alloc (.map #[] 0)).alloc (.cells #[.map (some (w.heap.size + 1 + 1))] 164)).heap.size = w.heap.size + 1 + 1 + 1 + 1 := by simp
 have old : ∀ (ww : World) (o o' : Obj) (k : Nat), ww.heap[k]? = some o -> (ww.alloc o').heap[k]? = some o := fun ww o o' k hk => (Lib.alloc_old _ o' _ (Array.getElem?_eq_some_iff.1 hk).1).trans hk
 have p5 := old _ _ attrRow _ (old _ _ (.cells #[.map (some (w.heap.size + 1 + 1))] 164) _ (old _ _ (.map #[] 0) _ (old _ _ (.cells #[.pointer (some ⟨E, 0, none⟩)] 84) _ (heap_alloc_new w (.cells #[.pointer (some ⟨Y, 0, none⟩)] 69)))))
 have q2 := heap_alloc_new (w.alloc (.cells #[.pointer (some ⟨Y, 0, none⟩)] 69)) (.cells #[.pointer (some ⟨E, 0, none⟩)] 84)
 rw [e1] at q2
 have q5 := old _ _ attrRow _ (old _ _ (.cells #[.map (some (w.heap.size + 1 + 1))] 164) _ (old _ _ (.map #[] 0) _ q2))
 have m3 := heap_alloc_new ((w.alloc (.cells #[.pointer (some ⟨Y, 0, none⟩)] 69)).alloc (.cells #[.pointer (some ⟨E, 0, none⟩)] 84)) (.map #[] 0)
 rw [e2] at m3
 have m5 := old _ _ attrRow _ (old _ _ (.cells #[.map (some (w.heap.size + 1 + 1))] 164) _ m3)
 have n4 := heap_alloc_new (((w.alloc (.cells #[.pointer (some ⟨Y, 0, none⟩)] 69)).alloc (.cells #[.pointer (some ⟨E, 0, none⟩)] 84)).alloc (.map #[] 0)) (.cells #[.map (some (w.heap.size + 1 + 1))] 164)
 rw [e3] at n4
 have n5 := old _ _ attrRow _ n4
 have r5 := heap_alloc_new ((((w.alloc (.cells #[.pointer (some ⟨Y, 0, none⟩)] 69)).alloc (.cells #[.pointer (some ⟨E, 0, none⟩)] 84)).alloc (.map #[] 0)).alloc (.cells #[.map (some (w.heap.size + 1 + 1))] 164)) attrRow
 rw [e4] at r5
 clear q2 m3 n4 b1 b2 b3 b4 e1 e2 e3 e4 old
 go_enter Tryz.func60, Tryz.ntmps60
 go_wp2_with (go_at_call 105; (with_reducible refine (attrs_walk _).mono ?_); rintro rr ww ⟨rfl, rfl⟩)
 generalize ((((w.alloc (.cells #[.pointer (some ⟨Y, 0, none⟩)] 69)).alloc (.cells #[.pointer (some ⟨E, 0, none⟩)] 84)).alloc (.map #[] 0)).alloc (.cells #[.map (some (w.heap.size + 1 + 1))] 164)).alloc attrRow = wA at b5 p5 q5 m5 n5 r5 ⊢
 have lt1 : w.heap.size + 1 + 1 < w.heap.size + 1 + 1 + 1 + 1 := by omega
 have lt2 : w.heap.size + 1 + 1 < w.heap.size + 1 + 1 + 1 := by omega
 have lt3 : w.heap.size + 1 < w.heap.size + 1 + 1 := by omega
 have lt4 : w.heap.size < w.heap.size + 1 := by omega
 generalize w.heap.size + 1 + 1 + 1 + 1 = R at r5 lt1 ⊢
 generalize w.heap.size + 1 + 1 + 1 = Bw at n5 lt2 ⊢
 generalize w.heap.size + 1 + 1 = Q at m5 n5 lt1 lt2 lt3 ⊢
 generalize w.heap.size + 1 = Be at q5 lt3 lt4 ⊢
 have H0 := shut (And.intro h (And.intro hE (And.intro hYl (And.intro hMl hEl))))
 have lt5 : w.heap.size < w.heap.size + 1 + 1 + 1 := by omega
 clear h hE hYl hMl hEl
 go_loopg [11] 22 (fun g s11 wr => ∃ k : Nat, k <= 22 /\ g = 22 - k /\ s11 = I (k : Nat) /\ Below w.heap.size w wr /\ wr.heap[w.heap.size]? = some (.cells #[.pointer (some ⟨Y, 0, none⟩)] 69 (0, 0)) /\ wr.heap[Be]? = some (.cells #[.pointer (some ⟨E, 0, none⟩)] 84 (0, 0)) /\ wr.heap[Q]? = some (.map (wEs k) k) /\ wr.heap[Bw]? = some (.cells #[.map (some Q)] 164 (0, 0)) /\ wr.heap[R]? = some attrRow)
 case atStart => exact ⟨0, by omega, rfl, rfl, b5, p5, q5, m5, n5, r5⟩
 case round =>
  clear b5 p5 q5 m5 n5 r5
  obtain ⟨k, hk, hg, rfl, bb, hp, hq, hm, hn, hr⟩ := hrel
  by_cases hlt : k < 22
  ·have hlt' : (k : Int) < 22 := by omega
   have hk0 : (0 : Int) <= (k : Int) := by omega
   have m1 : IntKind.i64.wrap ((k : Int) + 1) = (k : Int) + 1 := IntWalk.i64_in _ (by omega)
   have cR : wr.cell? ⟨R, k, none⟩ = some (.string (attrB k)) := by rw [Lib.cell_of_heap hr]; simp [attr_get hlt]
   have cW : wr.cell? ⟨Bw, 0, none⟩ = some (.map (some Q)) := by rw [Lib.cell_of_heap hn]; rfl
   have hput := put_str_at hm (attrB k) (I (k : Nat)) (attr_missed hlt)
   rw [wEs_succ hlt] at hput
   generalize attrB k = tx at cR hput
   go_wp2
   go_roundg (22 - (k + 1))
   case measure => omega
   case rel =>
    exact ⟨k + 1, by omega, rfl, by simp, below_newer bb (by omega) _, set_ne hp (by omega), set_ne hq (by omega), set_eq hm, set_ne hn (by omega), set_ne hr (by omega)⟩
  ·have hkl : k = 22 := by omega
   subst hkl
   obtain ⟨h, hE, hYl, hMl, hEl⟩ := H0.out
   have bl := bb.alloc bb.size (.cells #[I (-1)] 3)
   have szr := bb.size
   have old : ∀ (o : Obj) (k : Nat), wr.heap[k]? = some o -> (wr.alloc (.cells #[I (-1)] 3)).heap[k]? = some o := fun o k hk => (Lib.alloc_old _ _ _ (Array.getElem?_eq_some_iff.1 hk).1).trans hk
   have V : Cl T Bw w.heap.size wr.heap.size Be Q E Y M free st (-1) F ⟨0, 0, 0, 0, 0⟩ w (wr.alloc (.cells #[I (-1)] 3)) :=
    ⟨h.step bl, old _ _ hn, old _ _ hp, heap_alloc_new wr _, old _ _ hq, old _ _ hm, (bl.block _ hEl).trans hE, Away.of_below bl, szr, fun k hk => by
     simp only [List.mem_cons, List.not_mem_nil, or_false] at hk
     rcases hk with rfl | rfl | rfl | rfl | rfl | rfl
     ·exact ⟨by omega, by omega⟩
     ·exact ⟨by omega, by omega⟩
     ·exact ⟨by omega, by omega⟩
     ·exact ⟨by omega, by omega⟩
     ·exact ⟨by omega, by omega⟩
     ·exact ⟨hEY, hEM⟩⟩
   have xs := xsv _ _ _ _ _ _ V
   have cP : (wr.alloc (.cells #[I (-1)] 3)).cell? ⟨w.heap.size, 0, none⟩ = some (.pointer (some ⟨Y, 0, none⟩)) := by rw [Lib.cell_of_heap (old _ _ hp)]; rfl
   clear V bl old hp hq hm hn hr bb h hE xsv
   go_wp2_with (go_at_call 106; (with_reducible refine xs.mono ?_))
   rintro rr w5 ⟨v, l', rfl, V5⟩
   go_wp2
   go_end0
   exact ⟨rfl, V5.prs, V5.hE, V5.aw⟩
end
theorem Tryz.infosyll : (Tryz.prog.info? 147).map (fun i => (i.zero.map fun z => z.cells.size, i.size, i.bytes)) = some (some 2, 2, 24) := by kernel_rfl
theorem lyrF_no (T : List Tok) (k : Nat) (s : Stt) (h : syllB T s = false) : lyrF T k s = ([], s) := by
 cases k with
 | zero => rfl
 | succ k => rw [lyrF, if_neg (by rw [h]; decide)]
theorem lyrF_yes (T : List Tok) (k : Nat) (s : Stt) (h : syllB T s = true) : lyrF T (k + 1) s = ((syllF T s).1 :: (lyrF T k (syllF T s).2).1, (lyrF T k (syllF T s).2).2) := by
 rw [lyrF, if_pos h]
theorem syllB_ok {T : List Tok} {s : Stt} (h : syllB T s = true) : ∃ p, s = .ok p := by
 cases s with
 | ok p => exact ⟨p, rfl⟩
 | bad e l c => exact absurd h (by simp [syllB, isS, IsTok, tokS, noTok])
theorem isS_kind3 {T : List Tok} {s : Stt} (h : (tokS T s).kind = 3) (x : ByteArray) : isS T x s = false := by
 unfold isS IsTok
 rw [h]; rfl
theorem str_go {T : List Tok} {s : Stt} {p' : Nat} (h3 : (tokS T s).kind = 3) (h : (strF T s).2 = .ok p') : ∃ q, s = .ok q /\ p' = q + 1 := by
 unfold strF at h
 rw [if_pos h3] at h
 exact next_ok h
theorem syll_prog {T : List Tok} {p p' : Nat} (hb : syllB T (.ok p) = true) (h : (syllF T (.ok p)).2 = .ok p') : p < p' := by
 unfold syllF at h
 by_cases hu : isS T ⟨#[95]⟩ (.ok p) = true
 ·rw [if_pos hu] at h
  obtain ⟨q, h1, h2⟩ := next_ok (k := 1) (s := .ok p) h
  injection h1 with h1; omega
 ·rw [if_neg hu] at h
  have h3 : (tokS T (.ok p)).kind = 3 := by
   unfold syllB at hb
   rw [Bool.eq_false_iff.2 hu, Bool.or_false] at hb
   exact of_decide_eq_true hb
  have key : ∀ q, (strF T (.ok p)).2 = .ok q -> p < q := fun q hq => by
   obtain ⟨q2, h1, h2⟩ := str_go h3 hq
   injection h1 with h1; omega
  simp only at h
  repeat' split at h
  all_goals first
   | exact key _ h
   | (obtain ⟨q, h1, h2⟩ := next_ok (k := 1) (s := (strF T (.ok p)).2) h; have := key q h1; omega)
section
variable {T : List Tok} {Y M : Nat} {free : Bool} {st : Stt} {w : World}
theorem lyrics_s (h : PS T Y M free st w) :
  Calls Tryz.prog 61 #[.pointer (some ⟨Y, 0, none⟩)] w fun rr w' => ∃ v, rr = .returned v /\ w'.ownsRow w.heap.size 147 2 v (lyrF T T.length st).1.length (flatC SyllV.cells (lyrF T T.length st).1) /\ PS T Y M free (lyrF T T.length st).2 w' /\ Away [Y, M] w w' := by
 obtain ⟨i0, zz, hi0, hzz, hzc, hz1, hz2⟩ : ∃ i z, Tryz.prog.info? 147 = some i /\ i.zero = some z /\ z.cells.size = 2 /\ i.size = 2 /\ i.bytes = 24 := by
  have := Tryz.infosyll
  cases hi : Tryz.prog.info? 147 with
  | none => rw [hi] at this; cases this
  | some i =>
   rw [hi] at this
   simp only [Option.map_some, Option.some.injEq, Prod.mk.injEq] at this
   cases hz : i.zero with
   | none => rw [hz] at this; cases this.1
   | some z => rw [hz] at this; exact ⟨i, z, rfl, hz, by simpa using this.1, this.2.1, this.2.2⟩
 have hm := h.good.max
 have lY := h.lt
 have lM := h.ltM
 have hn0 : need T st <= T.length := by
  cases st with
  | ok p => exact Nat.sub_le _ _
  | bad e l c => exact Nat.zero_le _
 obtain ⟨tot, htot⟩ : ∃ tot, tot = lyrF T T.length st := ⟨_, rfl⟩
 rw [<- htot]
 obtain ⟨N, hN⟩ : ∃ N, Shut (T.length = N) := ⟨_, rfl⟩
 have hN4 : N <= 4001 := by rw [<- hN.out]; exact hm
 rw [hN.out] at htot hn0
 have HT := shut (And.intro htot.symm hn0)
 have hS0 := h
 have a0 := Away.refl [Y, M] w
 have ho0 : w.ownsRow w.heap.size 147 2 (.slice none 0 0) 0 (flatC SyllV.cells []) := World.ownsRow_nil w _ _ _
 clear h htot hn0 hm
 go_enter Tryz.func61, Tryz.ntmps61
 go_wp2
 go_loopg [3] N (fun gk s3 wr => ∃ (l : List SyllV) (s : Stt), l.length + gk = N /\ need T s <= gk /\ (l ++ (lyrF T gk s).1, (lyrF T gk s).2) = tot /\ wr.ownsRow w.heap.size 147 2 s3 l.length (flatC SyllV.cells l) /\ PS T Y M free s wr /\ Away [Y, M] w wr)
 case atStart => exact ⟨[], st, by simp, HT.out.2, by rw [HT.out.1]; rfl, ho0, hS0, a0⟩
 case round =>
  clear hS0 a0 ho0
  obtain ⟨l, s, hlen, hneed, htotal, hown, hS, aw⟩ := hrel
  have hN1 : (l.length : Int) <= 4001 := by omega
  obtain ⟨ao, cp, rfl⟩ := own_is hown
  have hlo : ∀ j, (Value.slice ao l.length cp).ownBlock = some j -> w.heap.size <= j := fun j hj => (hown.lt j hj).1
  have fin0 : syllB T s = false -> l = tot.1 /\ s = tot.2 := fun e => by
   rw [lyrF_no T gk s e, List.append_nil] at htotal
   exact ⟨congrArg (·.1) htotal, congrArg (·.2) htotal⟩
  have more : syllB T s = true -> ∃ g, gk = g + 1 /\ (l ++ [(syllF T s).1]).length + g = N /\ need T (syllF T s).2 <= g /\ ((l ++ [(syllF T s).1]) ++ (lyrF T g (syllF T s).2).1, (lyrF T g (syllF T s).2).2) = tot := fun e => by
   obtain ⟨p, rfl⟩ := syllB_ok e
   have hpl := hS.atCell.2.2
   obtain ⟨g, rfl⟩ : ∃ g, gk = g + 1 := ⟨gk - 1, by unfold need at hneed; simp only at hneed; omega⟩
   refine ⟨g, rfl, by simp only [List.length_append, List.length_cons, List.length_nil]; omega, need_at hpl (fun p' hp' => syll_prog e hp') hneed, ?_⟩
   rw [lyrF_yes T g _ e] at htotal
   rw [<- htotal]
   simp
  have xp := peek_s hS
  have xi := fun w' (b : Below wr.heap.size wr w') => is_s (hS.step b) ⟨#[95]⟩
  have xa := fun w' (b : Below wr.heap.size wr w') => accept_s (hS.step b) ⟨#[95]⟩
  have hsb : syllB T s = (decide ((tokS T s).kind = 3) || isS T ⟨#[95]⟩ s) := rfl
  have hs3 := fun h3 : (tokS T s).kind = 3 => isS_kind3 h3 ⟨#[95]⟩
  have hau : isS T ⟨#[95]⟩ s = true -> syllF T s = (⟨ByteArray.empty, 2⟩, s.next 1) /\ accS T ⟨#[95]⟩ s = s.next 1 := fun e => ⟨by unfold syllF; rw [if_pos e], by unfold accS; rw [if_pos e]⟩
  have han : isS T ⟨#[95]⟩ s = false -> accS T ⟨#[95]⟩ s = s /\ ((tokS T (strF T s).2).joined = false -> syllF T s = (⟨(strF T s).1, 0⟩, (strF T s).2)) /\ ((tokS T (strF T s).2).joined = true -> isS T ⟨#[45]⟩ (strF T s).2 = true -> syllF T s = (⟨(strF T s).1, 1⟩, (strF T s).2.next 1)) /\ ((tokS T (strF T s).2).joined = true -> isS T ⟨#[45]⟩ (strF T s).2 = false -> isS T ⟨#[95]⟩ (strF T s).2 = true -> syllF T s = (⟨(strF T s).1, 2⟩, (strF T s).2.next 1)) /\ ((tokS T (strF T s).2).joined = true -> isS T ⟨#[45]⟩ (strF T s).2 = false -> isS T ⟨#[95]⟩ (strF T s).2 = false -> syllF T s = (⟨(strF T s).1, 0⟩, (strF T s).2)) := fun e => by
   refine ⟨by unfold accS; rw [e]; rfl, fun j => ?_, fun j h1 => ?_, fun j h1 h2 => ?_, fun j h1 h2 => ?_⟩
   ·unfold syllF; rw [e]; simp only [j]; rfl
   ·unfold syllF; rw [e]; simp only [j, h1]; rfl
   ·unfold syllF; rw [e]; simp only [j, h1, h2]; rfl
   ·unfold syllF; rw [e]; simp only [j, h1, h2]; rfl
  have xstr := fun w' (hh : PS T Y M free s w') => str_s hh
  generalize strF T s = qs at han xstr
  obtain ⟨y, s1⟩ := qs
  simp only at han xstr
  have xp1 := fun w' (hh : PS T Y M free s1 w') => peek_s hh
  have xm := fun w' (hh : PS T Y M free s1 w') => accept_s hh ⟨#[45]⟩
  have xu := fun w' (hh : PS T Y M free s1 w') => accept_s hh ⟨#[95]⟩
  have hm1 : isS T ⟨#[45]⟩ s1 = true -> accS T ⟨#[45]⟩ s1 = s1.next 1 := fun e => by unfold accS; rw [if_pos e]
  have hm0 : isS T ⟨#[45]⟩ s1 = false -> accS T ⟨#[45]⟩ s1 = s1 := fun e => by unfold accS; rw [e]; rfl
  have hu1 : isS T ⟨#[95]⟩ s1 = true -> accS T ⟨#[95]⟩ s1 = s1.next 1 := fun e => by unfold accS; rw [if_pos e]
  have hu0 : isS T ⟨#[95]⟩ s1 = false -> accS T ⟨#[95]⟩ s1 = s1 := fun e => by unfold accS; rw [e]; rfl
  generalize accS T ⟨#[45]⟩ s1 = sm at xm hm1 hm0
  generalize accS T ⟨#[95]⟩ s1 = su at xu hu1 hu0
  generalize accS T ⟨#[95]⟩ s = sa at xa hau han
  generalize isS T ⟨#[45]⟩ s1 = bm at xm hm1 hm0 han
  generalize isS T ⟨#[95]⟩ s1 = bu at xu hu1 hu0 han
  generalize isS T ⟨#[95]⟩ s = ba at xi xa hsb hs3 hau han
  unfold tokV at xp xp1
  generalize tokS T s = t at xp hsb hs3
  obtain ⟨kd, text, v, bt, lin, cln, j⟩ := t
  generalize tokS T s1 = t1 at xp1 han
  obtain ⟨kd1, text1, v1, bt1, lin1, cln1, j1⟩ := t1
  simp only at xp hsb hs3 xp1 han
  have hfd := ftok0 kd v lin cln text bt j
  have hfd6 := ftok6 kd1 v1 lin1 cln1 text1 bt1 j1
  clear htotal hlen hneed
  by_cases hk : kd = 3
  ·subst hk
   obtain rfl : ba = false := hs3 rfl
   obtain ⟨g, hgk, q1, q2, q3⟩ := more (by rw [hsb]; rfl)
   obtain ⟨rfl, hj0, hj1, hj2, hj3⟩ := han rfl
   clear hsb hs3 hau han more fin0 xi hS
   go_wp2_with (go_at_call 62; refine xp.mono ?_)
   intro rr w1; first | (intro he b1; subst he) | rintro ⟨rfl, b1⟩
   have xa1 := xa _ b1
   have hown1 := own_step hown fun j hj => b1.block j (hown.lt j hj).2
   have aw1 := aw.step b1
   clear xp xa hown aw b1
   go_wp2_with (go_at_call 53; refine xa1.mono ?_)
   intro rr w2; first | (intro he hS2 a2; subst he) | rintro ⟨rfl, hS2, a2⟩
   have xs := xstr _ hS2
   have hown2 := own_step hown1 fun j hj => a2.block j (hown1.lt j hj).2 (by have := hlo j hj; simp; omega)
   have aw2 := aw1.trans a2
   clear xa1 xstr hown1 aw1 a2 hS2
   go_wp2_with (go_at_call 91; refine xs.mono ?_)
   intro rr w3; first | (intro he hS3 a3; subst he) | rintro ⟨rfl, hS3, a3⟩
   have hown3 := own_step hown2 fun j hj => a3.block j (hown2.lt j hj).2 (by have := hlo j hj; simp; omega)
   have aw3 := aw2.trans a3
   have sz3 := aw3.size
   have bK := (Below.refl _ w3).alloc (Nat.le_refl _) (.cells #[.string y, I 0] 147)
   have hK := heap_alloc_new w3 (.cells #[.string y, I 0] 147)
   have hS3a := hS3.step bK
   have hown3a := hown3.alloc (.cells #[.string y, I 0] 147)
   have aw3a := aw3.step bK
   have xp3 := xp1 _ hS3a
   have hKn : ∀ j, (Value.slice ao l.length cp).ownBlock = some j -> j ≠ w3.heap.size := fun j hj => by have := (hown3.lt j hj).2; omega
   clear xs xp1 hown2 aw2 a3 hS3 hown3 bK
   go_wp2_with (go_at_call 62; refine xp3.mono ?_)
   intro rr w4; first | (intro he b4; subst he) | rintro ⟨rfl, b4⟩
   have hS4 := hS3a.step b4
   have hown4 := own_step hown3a fun j hj => b4.block j (hown3a.lt j hj).2
   have aw4 := aw3a.step b4
   have hK4 := (b4.block _ (heap_lt hK)).trans hK
   clear xp3 hS3a hown3a aw3a b4 hK aw3
   generalize hKK : w3.heap.size = K at hK4 hKn sz3 ⊢
   have hKY : K ≠ Y := by omega
   have hKM : K ≠ M := by omega
   cases j1 with
   | false =>
    have hr := hj0 (by trivial)
    rw [hr] at q1 q2 q3
    have cK0 : w4.cell? ⟨K, 0, none⟩ = some (.string y) := by rw [Lib.cell_of_heap hK4]; rfl
    have cK1 : w4.cell? ⟨K, 1, none⟩ = some (I 0) := by rw [Lib.cell_of_heap hK4]; rfl
    clear hj0 hj1 hj2 hj3 hr xm xu hm1 hm0 hu1 hu0
    have szw := aw4.size
    have hnew : (w4.alloc (.cells #[.string y, I 0] 147)).heap[w4.heap.size]? = some (.cells #[.string y, I 0] 147 (0, 0)) := heap_alloc_new _ _
    have HQ := shut (And.intro hgk (And.intro q1 (And.intro q2 q3)))
    have HC := shut (flatC_snoc SyllV.cells l ⟨y, 0⟩)
    generalize flatC SyllV.cells l = cur at hown4 HC
    clear hgk q1 q2 q3
    go_wp2_with (at_builtin; refine wpList_append_lies _ rfl _ _ 29 rfl w.heap.size 147 i0 _ 2 24 Tryz.underlying29 hi0 hzz hz1 hz2 hzc (by omega) _ l.length _ rfl (hown4.alloc _) ⟨w4.heap.size, 0, none⟩ 1 1 #[.string y, I 0].toList rfl rfl (World.news_of_block (cs := #[.string y, I 0]) (t := 147) (fr := (0, 0)) hnew) (by simp [Value.oneCell']) (by omega) (by unfold maxLen; omega) (by omega) (by simp; omega) (w4.heap.size + 1) (by simp) ?_; intro gg wcap w9 hown9 hgrow hat hgl)
    go_roundg (gk - 1)
    case measure => have := HQ.out.1; omega
    case rel =>
     obtain ⟨r1, r2, r3, r4⟩ := HQ.out
     have e1 : gk - 1 = g := by omega
     rw [e1]
     refine ⟨l ++ [⟨y, 0⟩], _, r2, r3, r4, ?_, (hS4.step ((Below.refl _ w4).alloc (Nat.le_refl _) _)).grown hgrow (fun j hj => ?_), (aw4.alloc _).grown hgrow hlo⟩
     ·rw [HC.out, List.length_append]; exact hown9
     ·have h1 := hlo j hj
      obtain ⟨cur', hc'⟩ := own_at hown4 hj
      exact ⟨by omega, by omega, cur', 147, (Lib.alloc_old w4 _ _ (heap_lt hc')).trans hc', by decide⟩
   | true =>
    have xm4 := xm _ hS4
    clear xm
    go_wp2_with (go_at_call 53; refine xm4.mono ?_)
    intro rr w5; first | (intro he hS5 a5; subst he) | rintro ⟨rfl, hS5, a5⟩
    have hown5 := own_step hown4 fun j hj => a5.block j (hown4.lt j hj).2 (by have := hlo j hj; simp; omega)
    have aw5 := aw4.trans a5
    have hK5 := a5.at hK4 (by simp; omega)
    clear xm4 hown4 aw4 a5 hK4 hS4
    cases bm with
    | true =>
     have hr := hj1 (by trivial) (by trivial)
     rw [hr] at q1 q2 q3
     rw [hm1 (by trivial)] at hS5
     have cK0 : w5.cell? ⟨K, 0, none⟩ = some (.string y) := by rw [Lib.cell_of_heap hK5]; rfl
     have cK1 : w5.cell? ⟨K, 1, none⟩ = some (I 0) := by rw [Lib.cell_of_heap hK5]; rfl
     have fK1 := Lib.frozen_of_heap hK5 1
     have nKK : K ≠ w5.heap.size := by have := heap_lt hK5; omega
     have oK : ∀ j, j ≠ K -> (w5.setCell ⟨K, 1, none⟩ (I 1)).heap[j]? = w5.heap[j]? := fun j hj => set_other w5 K 1 _ j hj
     have hS8 := hS5.put hKY hKM hK5 (by decide) oK
     have hown8 := own_step hown5 fun j hj => oK j (hKn j hj)
     have aw8 := aw5.setCell (p := ⟨K, 1, none⟩) (.inr sz3) (I 1)
     have sz8 : (w5.setCell ⟨K, 1, none⟩ (I 1)).heap.size = w5.heap.size := by simp [World.setCell]
     clear hj0 hj1 hj2 hj3 hr hm1 hm0 hu1 hu0 hown5 aw5 hK5 hS5 oK
     have szw := aw8.size
     have hnew : ((w5.setCell ⟨K, 1, none⟩ (I 1)).alloc (.cells #[.string y, I 1] 147)).heap[w5.heap.size]? = some (.cells #[.string y, I 1] 147 (0, 0)) := by rw [<- sz8]; exact heap_alloc_new _ _
     have HQ := shut (And.intro hgk (And.intro q1 (And.intro q2 q3)))
     have HC := shut (flatC_snoc SyllV.cells l ⟨y, 1⟩)
     generalize flatC SyllV.cells l = cur at hown8 HC
     clear hgk q1 q2 q3
     go_wp2_with (at_builtin; refine wpList_append_lies _ rfl _ _ 29 rfl w.heap.size 147 i0 _ 2 24 Tryz.underlying29 hi0 hzz hz1 hz2 hzc (by omega) _ l.length _ rfl (hown8.alloc _) ⟨w5.heap.size, 0, none⟩ 1 1 #[.string y, I 1].toList rfl rfl (World.news_of_block (cs := #[.string y, I 1]) (t := 147) (fr := (0, 0)) hnew) (by simp [Value.oneCell']) (by omega) (by unfold maxLen; omega) (by omega) (by simp; omega) (w5.heap.size + 1) (by simp) ?_; intro gg wcap w9 hown9 hgrow hat hgl)
     go_roundg (gk - 1)
     case measure => have := HQ.out.1; omega
     case rel =>
      obtain ⟨r1, r2, r3, r4⟩ := HQ.out
      have e1 : gk - 1 = g := by omega
      rw [e1]
      refine ⟨l ++ [⟨y, 1⟩], _, r2, r3, r4, ?_, (hS8.step ((Below.refl _ (w5.setCell ⟨K, 1, none⟩ (I 1))).alloc (Nat.le_refl _) _)).grown hgrow (fun j hj => ?_), (aw8.alloc _).grown hgrow hlo⟩
      ·rw [HC.out, List.length_append]; exact hown9
      ·have h1 := hlo j hj
       obtain ⟨cur', hc'⟩ := own_at hown8 hj
       exact ⟨by omega, by omega, cur', 147, (Lib.alloc_old (w5.setCell ⟨K, 1, none⟩ (I 1)) _ _ (heap_lt hc')).trans hc', by decide⟩
    | false =>
     rw [hm0 (by trivial)] at hS5
     have xu5 := xu _ hS5
     clear xu
     go_wp2_with (go_at_call 53; refine xu5.mono ?_)
     intro rr w6; first | (intro he hS6 a6; subst he) | rintro ⟨rfl, hS6, a6⟩
     have hown6 := own_step hown5 fun j hj => a6.block j (hown5.lt j hj).2 (by have := hlo j hj; simp; omega)
     have aw6 := aw5.trans a6
     have hK6 := a6.at hK5 (by simp; omega)
     clear xu5 hown5 aw5 a6 hK5 hS5
     cases bu with
     | true =>
      have hr := hj2 (by trivial) (by trivial) (by trivial)
      rw [hr] at q1 q2 q3
      rw [hu1 (by trivial)] at hS6
      have cK0 : w6.cell? ⟨K, 0, none⟩ = some (.string y) := by rw [Lib.cell_of_heap hK6]; rfl
      have cK1 : w6.cell? ⟨K, 1, none⟩ = some (I 0) := by rw [Lib.cell_of_heap hK6]; rfl
      have fK1 := Lib.frozen_of_heap hK6 1
      have nKK : K ≠ w6.heap.size := by have := heap_lt hK6; omega
      have oK : ∀ j, j ≠ K -> (w6.setCell ⟨K, 1, none⟩ (I 2)).heap[j]? = w6.heap[j]? := fun j hj => set_other w6 K 1 _ j hj
      have hS8 := hS6.put hKY hKM hK6 (by decide) oK
      have hown8 := own_step hown6 fun j hj => oK j (hKn j hj)
      have aw8 := aw6.setCell (p := ⟨K, 1, none⟩) (.inr sz3) (I 2)
      have sz8 : (w6.setCell ⟨K, 1, none⟩ (I 2)).heap.size = w6.heap.size := by simp [World.setCell]
      clear hj0 hj1 hj2 hj3 hr hm1 hm0 hu1 hu0 hown6 aw6 hK6 hS6 oK
      have szw := aw8.size
      have hnew : ((w6.setCell ⟨K, 1, none⟩ (I 2)).alloc (.cells #[.string y, I 2] 147)).heap[w6.heap.size]? = some (.cells #[.string y, I 2] 147 (0, 0)) := by rw [<- sz8]; exact heap_alloc_new _ _
      have HQ := shut (And.intro hgk (And.intro q1 (And.intro q2 q3)))
      have HC := shut (flatC_snoc SyllV.cells l ⟨y, 2⟩)
      generalize flatC SyllV.cells l = cur at hown8 HC
      clear hgk q1 q2 q3
      go_wp2_with (at_builtin; refine wpList_append_lies _ rfl _ _ 29 rfl w.heap.size 147 i0 _ 2 24 Tryz.underlying29 hi0 hzz hz1 hz2 hzc (by omega) _ l.length _ rfl (hown8.alloc _) ⟨w6.heap.size, 0, none⟩ 1 1 #[.string y, I 2].toList rfl rfl (World.news_of_block (cs := #[.string y, I 2]) (t := 147) (fr := (0, 0)) hnew) (by simp [Value.oneCell']) (by omega) (by unfold maxLen; omega) (by omega) (by simp; omega) (w6.heap.size + 1) (by simp) ?_; intro gg wcap w9 hown9 hgrow hat hgl)
      go_roundg (gk - 1)
      case measure => have := HQ.out.1; omega
      case rel =>
       obtain ⟨r1, r2, r3, r4⟩ := HQ.out
       have e1 : gk - 1 = g := by omega
       rw [e1]
       refine ⟨l ++ [⟨y, 2⟩], _, r2, r3, r4, ?_, (hS8.step ((Below.refl _ (w6.setCell ⟨K, 1, none⟩ (I 2))).alloc (Nat.le_refl _) _)).grown hgrow (fun j hj => ?_), (aw8.alloc _).grown hgrow hlo⟩
       ·rw [HC.out, List.length_append]; exact hown9
       ·have h1 := hlo j hj
        obtain ⟨cur', hc'⟩ := own_at hown8 hj
        exact ⟨by omega, by omega, cur', 147, (Lib.alloc_old (w6.setCell ⟨K, 1, none⟩ (I 2)) _ _ (heap_lt hc')).trans hc', by decide⟩
     | false =>
      have hr := hj3 (by trivial) (by trivial) (by trivial)
      rw [hr] at q1 q2 q3
      rw [hu0 (by trivial)] at hS6
      have cK0 : w6.cell? ⟨K, 0, none⟩ = some (.string y) := by rw [Lib.cell_of_heap hK6]; rfl
      have cK1 : w6.cell? ⟨K, 1, none⟩ = some (I 0) := by rw [Lib.cell_of_heap hK6]; rfl
      clear hj0 hj1 hj2 hj3 hr hm1 hm0 hu1 hu0
      have szw := aw6.size
      have hnew : (w6.alloc (.cells #[.string y, I 0] 147)).heap[w6.heap.size]? = some (.cells #[.string y, I 0] 147 (0, 0)) := heap_alloc_new _ _
      have HQ := shut (And.intro hgk (And.intro q1 (And.intro q2 q3)))
      have HC := shut (flatC_snoc SyllV.cells l ⟨y, 0⟩)
      generalize flatC SyllV.cells l = cur at hown6 HC
      clear hgk q1 q2 q3
      go_wp2_with (at_builtin; refine wpList_append_lies _ rfl _ _ 29 rfl w.heap.size 147 i0 _ 2 24 Tryz.underlying29 hi0 hzz hz1 hz2 hzc (by omega) _ l.length _ rfl (hown6.alloc _) ⟨w6.heap.size, 0, none⟩ 1 1 #[.string y, I 0].toList rfl rfl (World.news_of_block (cs := #[.string y, I 0]) (t := 147) (fr := (0, 0)) hnew) (by simp [Value.oneCell']) (by omega) (by unfold maxLen; omega) (by omega) (by simp; omega) (w6.heap.size + 1) (by simp) ?_; intro gg wcap w9 hown9 hgrow hat hgl)
      go_roundg (gk - 1)
      case measure => have := HQ.out.1; omega
      case rel =>
       obtain ⟨r1, r2, r3, r4⟩ := HQ.out
       have e1 : gk - 1 = g := by omega
       rw [e1]
       refine ⟨l ++ [⟨y, 0⟩], _, r2, r3, r4, ?_, (hS6.step ((Below.refl _ w6).alloc (Nat.le_refl _) _)).grown hgrow (fun j hj => ?_), (aw6.alloc _).grown hgrow hlo⟩
       ·rw [HC.out, List.length_append]; exact hown9
       ·have h1 := hlo j hj
        obtain ⟨cur', hc'⟩ := own_at hown6 hj
        exact ⟨by omega, by omega, cur', 147, (Lib.alloc_old w6 _ _ (heap_lt hc')).trans hc', by decide⟩
  ·have hk3 : (kd == 3) = false := by simp [hk]
   have hsb' : syllB T s = ba := by rw [hsb, decide_eq_false hk]; rfl
   clear xstr xp1 xm xu hm1 hm0 hu1 hu0 han hs3 hsb
   go_wp2_with (go_at_call 62; refine xp.mono ?_)
   intro rr w1; first | (intro he b1; subst he) | rintro ⟨rfl, b1⟩
   have xi1 := xi _ b1
   clear xi xp
   go_wp2_with (go_at_call 76; refine xi1.mono ?_)
   intro rr w2; first | (intro he b2; subst he) | rintro ⟨rfl, b2⟩
   have b12 := b1.trans (b2.mono b1.size)
   clear xi1
   cases ba with
   | false =>
    obtain ⟨hl, hs⟩ := fin0 hsb'
    have hown2 := own_step hown fun j hj => b12.block j (hown.lt j hj).2
    have aw2 := aw.step b12
    have hS2 := hS.step b12
    have HE := shut (And.intro hl hs)
    clear hau xa more fin0 hown hS aw hsb' hl hs
    go_wp2
    go_ret
    rw [<- HE.out.1, <- HE.out.2]
    exact ⟨_, rfl, hown2, hS2, aw2⟩
   | true =>
    obtain ⟨g, hgk, q1, q2, q3⟩ := more hsb'
    obtain ⟨hr, rfl⟩ := hau rfl
    rw [hr] at q1 q2 q3
    have xa2 := xa _ b12
    have hown2 := own_step hown fun j hj => b12.block j (hown.lt j hj).2
    have aw2 := aw.step b12
    clear hau xa more fin0 hown hS aw hsb' hr
    go_wp2_with (go_at_call 53; refine xa2.mono ?_)
    intro rr w5; first | (intro he hS5 a5; subst he) | rintro ⟨rfl, hS5, a5⟩
    have hown5 := own_step hown2 fun j hj => a5.block j (hown2.lt j hj).2 (by have := hlo j hj; simp; omega)
    have aw5 := aw2.trans a5
    clear xa2 hown2 aw2 a5
    have szw := aw5.size
    have hnew : (w5.alloc (.cells #[.string ByteArray.empty, I 2] 147)).heap[w5.heap.size]? = some (.cells #[.string ByteArray.empty, I 2] 147 (0, 0)) := heap_alloc_new _ _
    have HQ := shut (And.intro hgk (And.intro q1 (And.intro q2 q3)))
    have HC := shut (flatC_snoc SyllV.cells l ⟨ByteArray.empty, 2⟩)
    generalize flatC SyllV.cells l = cur at hown5 HC
    clear hgk q1 q2 q3
    go_wp2_with (at_builtin; refine wpList_append_lies _ rfl _ _ 29 rfl w.heap.size 147 i0 _ 2 24 Tryz.underlying29 hi0 hzz hz1 hz2 hzc (by omega) _ l.length _ rfl (hown5.alloc _) ⟨w5.heap.size, 0, none⟩ 1 1 #[.string ByteArray.empty, I 2].toList rfl rfl (World.news_of_block (cs := #[.string ByteArray.empty, I 2]) (t := 147) (fr := (0, 0)) hnew) (by simp [Value.oneCell']) (by omega) (by unfold maxLen; omega) (by omega) (by simp; omega) (w5.heap.size + 1) (by simp) ?_; intro gg wcap w9 hown9 hgrow hat hgl)
    go_roundg (gk - 1)
    case measure => have := HQ.out.1; omega
    case rel =>
     obtain ⟨r1, r2, r3, r4⟩ := HQ.out
     have e1 : gk - 1 = g := by omega
     rw [e1]
     refine ⟨l ++ [⟨ByteArray.empty, 2⟩], _, r2, r3, r4, ?_, (hS5.step ((Below.refl _ w5).alloc (Nat.le_refl _) _)).grown hgrow (fun j hj => ?_), (aw5.alloc _).grown hgrow hlo⟩
     ·rw [HC.out, List.length_append]; exact hown9
     ·have h1 := hlo j hj
      obtain ⟨cur', hc'⟩ := own_at hown5 hj
      exact ⟨by omega, by omega, cur', 147, (Lib.alloc_old w5 _ _ (heap_lt hc')).trans hc', by decide⟩
end
section
variable {T : List Tok} {X : Nat} {free : Bool} {lv iv : Value} {st st0 : Stt} {w w0 w' : World}
theorem MS.grown (h : MS T X free lv iv st w) (h0 : MS T X free lv iv st0 w0) {row : Option Nat} (hg : w.grownBy w' row) (hr : ∀ k, row = some k -> w0.heap.size <= k) : MS T X free lv iv st w' := by
 have l1 := h0.lt
 have l2 := h.lt
 obtain ⟨_, pos0, is0, im0, n0, xs0, e0, line0, col0, m1, m2, m3⟩ := h0
 obtain ⟨g, pos, is, im, n, xs, e, line, col, h1, h2, h3⟩ := h
 have hi : ∀ k, iv.ownBlock = some k -> some k ≠ row := fun k hk e => by have := (m1.ids.lt k hk).2; have := hr k e.symm; omega
 have hl : ∀ k, lv.ownBlock = some k -> some k ≠ row := fun k hk e => by have := m1.lvB k hk; have := hr k e.symm; omega
 exact ⟨g, pos, is, im, n, xs, e, line, col, ⟨(hg.block X l2 fun e => by have := hr X e.symm; omega).trans h1.blk, fun he => own_step (h1.row he) fun k hk => hg.block k ((h1.row he).lt k hk).2 (hl k hk), own_step h1.ids fun k hk => hg.block k (h1.ids.lt k hk).2 (hi k hk), fun g hg' => Nat.lt_of_lt_of_le (h1.lvB g hg') hg.size⟩, h2, h3⟩
theorem MS.okCell {p : Nat} (h : MS T X free lv iv (.ok p) w) : w.cell? ⟨X, 6, none⟩ = some (I 0) := by
 obtain ⟨g, pos, is, im, n, xs, e, line, col, h1, h2, h3⟩ := h
 obtain ⟨rfl, rfl, rfl, rfl, hlt⟩ := h2
 exact h1.c6
theorem MS.errCell {e l c : Int} (h : MS T X free lv iv (.bad e l c) w) : w.cell? ⟨X, 6, none⟩ = some (I e) /\ ¬ e = 0 := by
 obtain ⟨g, pos, is, im, n, xs, e', line, col, h1, h2, h3⟩ := h
 obtain ⟨rfl, he, rfl, rfl, hlt⟩ := h2
 exact ⟨h1.c6, he⟩
theorem own_len {w : World} {B : Nat} {e : TypeId} {size : Nat} {v : Value} {n : Nat} {xs : List Value} (h : w.ownsRow B e size v n xs) {ao : Option Addr} {m c : Nat} (hv : v = .slice ao m c) : n = m := by
 rcases h.2 with ⟨h1, h0⟩ | ⟨g, cap, cur, h1, _⟩
 ·rw [hv] at h1; injection h1 with _ h2 _; rw [h0, h2]
 ·rw [hv] at h1; injection h1 with _ h2 _; exact h2.symm
theorem MS.back {p q : Nat} (h : MS T X free lv iv (.ok q) w) (h0 : MS T X free lv iv (.ok p) w0) : MS T X free lv iv (.ok p) (w.setCell ⟨X, 1, none⟩ (I (p : Nat))) := by
 obtain ⟨_, pos0, is0, im0, n0, xs0, e0, line0, col0, m1, m2, m3, m4⟩ := h0
 obtain ⟨g, pos, is, im, n, xs, e, line, col, h1, h2, h3, h4⟩ := h
 obtain ⟨rfl, rfl, rfl, rfl, hlt⟩ := h2
 obtain ⟨rfl, rfl, rfl, rfl, hlt0⟩ := m2
 obtain ⟨ao, c, hv⟩ := own_is m1.ids
 have hn := own_len h1.ids hv
 have hn0 := m4 rfl
 exact ⟨g, p, is, im, n, xs, 0, 0, 0, h1.put 1 _ (fun h => h) rfl, ⟨rfl, rfl, rfl, rfl, hlt0⟩, h3, fun _ => by rw [hn]; exact hn0⟩
end
theorem attr_two (T : List Tok) (last : Int) (A : A5) (q : Nat) :
  ((wordF T attrWL (.ok q)).1 = none /\ (∃ e l c, (wordF T attrWL (.ok q)).2 = .bad e l c) /\ attrStep T last A (.ok q) = (0, A, (wordF T attrWL (.ok q)).2))
  \/ (∃ i : Nat, i < 22 /\ (wordF T attrWL (.ok q)).1 = some i /\ (wordF T attrWL (.ok q)).2 = .ok (q + 1) /\ (attrBad last i = true -> attrStep T last A (.ok q) = (0, A, failS T 13 (.ok q))) /\ (attrBad last i = false -> attrStep T last A (.ok q) = ((i : Int), setA A i, .ok (q + 1)))) := by
 unfold attrStep
 rcases wordF_cases T (.ok q) with ⟨h1, h2⟩ | ⟨i, h1, h2, h3, h4⟩
 ·refine .inl ⟨h1, ?_, ?_⟩
  ·cases hq : (wordF T attrWL (.ok q)).2 with
   | ok p => rw [hq] at h2; cases h2
   | bad e l c => exact ⟨e, l, c, rfl⟩
  ·generalize wordF T attrWL (.ok q) = r at h1
   obtain ⟨o, s'⟩ := r
   simp only at h1
   subst h1
   rfl
 ·refine .inr ⟨i, h2, h1, h3, fun hb => ?_, fun hb => ?_⟩
  ·generalize wordF T attrWL (.ok q) = r at h1
   obtain ⟨o, s'⟩ := r
   simp only at h1
   subst h1
   simp only
   rw [if_pos hb]
  ·generalize wordF T attrWL (.ok q) = r at h1 h3
   obtain ⟨o, s'⟩ := r
   simp only at h1 h3
   subst h1 h3
   simp only
   rw [if_neg (by rw [hb]; decide)]
   rfl
def AttrAt (T : List Tok) (tot : A5 × Stt) (last : Int) (A : A5) (q : Nat) : Prop := ∃ k, (last = -1 \/ 0 <= last) /\ InvA last A (.ok q) /\
 ((last = -1 \/ isS T ⟨#[93]⟩ (.ok q) = false) -> attrMore T k (attrStep T last A (.ok q)).1 (attrStep T last A (.ok q)).2.1 (attrStep T last A (.ok q)).2.2 = tot /\ need T (attrStep T last A (.ok q)).2.2 <= k)
 /\ (0 <= last -> isS T ⟨#[93]⟩ (.ok q) = true -> (A, .ok q) = tot)
theorem AttrAt.start {T : List Tok} {q : Nat} : AttrAt T (attrMore T T.length (attrStep T (-1) ⟨0, 0, 0, 0, 0⟩ (.ok q)).1 (attrStep T (-1) ⟨0, 0, 0, 0, 0⟩ (.ok q)).2.1 (attrStep T (-1) ⟨0, 0, 0, 0, 0⟩ (.ok q)).2.2) (-1) ⟨0, 0, 0, 0, 0⟩ q :=
 ⟨T.length, .inl rfl, InvA.start _, fun _ => ⟨rfl, by
  cases (attrStep T (-1) ⟨0, 0, 0, 0, 0⟩ (.ok q)).2.2 with
  | ok p => exact Nat.sub_le _ _
  | bad e l c => exact Nat.zero_le _⟩, fun h => absurd h (by decide)⟩
theorem AttrAt.step {T : List Tok} {tot : A5 × Stt} {last : Int} {A : A5} {q i : Nat} (h : AttrAt T tot last A q) (hl : last = -1 \/ isS T ⟨#[93]⟩ (.ok q) = false) (he : attrStep T last A (.ok q) = ((i : Int), setA A i, .ok (q + 1))) (hq : q + 1 < T.length) : AttrAt T tot i (setA A i) (q + 1) := by
 obtain ⟨k, h1, h2, h3, h4⟩ := h
 obtain ⟨h5, h6⟩ := h3 hl
 have hI := h2.step (T := T)
 rw [he] at h5 h6 hI
 simp only at h5 h6 hI
 refine ⟨k - 1, .inr (by omega), hI, fun hh => ?_, fun _ hb => ?_⟩
 ·have hb : isS T ⟨#[93]⟩ (.ok (q + 1)) = false := by
   rcases hh with e | e
   ·omega
   ·exact e
  obtain ⟨g, rfl⟩ : ∃ g, k = g + 1 := ⟨k - 1, by unfold need at h6; simp only at h6; omega⟩
  rw [attrMore, if_pos ⟨rfl, hb⟩] at h5
  exact ⟨h5, need_at hq (attrStep_prog T _ _ _) h6⟩
 ·cases k with
  | zero => exact h5
  | succ g => rw [attrMore, if_neg (by rw [hb]; simp)] at h5; exact h5
theorem AttrAt.stop {T : List Tok} {tot : A5 × Stt} {last : Int} {A A' : A5} {q : Nat} {n e l c : Int} (h : AttrAt T tot last A q) (hl : last = -1 \/ isS T ⟨#[93]⟩ (.ok q) = false) (he : attrStep T last A (.ok q) = (n, A', .bad e l c)) : tot = (A', .bad e l c) := by
 obtain ⟨k, h1, h2, h3, h4⟩ := h
 have h5 := (h3 hl).1
 rw [he] at h5
 simp only at h5
 rw [attrMore_bad] at h5
 exact h5.symm
theorem syll_of_text {T : List Tok} {s : Stt} (hk : (tokS T s).kind = 3) : syllF T s =
  if (tokS T (s.next 1)).joined = true then
   (if isS T ⟨#[45]⟩ (s.next 1) = true then (⟨(tokS T s).bytes, 1⟩, (s.next 1).next 1) else if isS T ⟨#[95]⟩ (s.next 1) = true then (⟨(tokS T s).bytes, 2⟩, (s.next 1).next 1) else (⟨(tokS T s).bytes, 0⟩, s.next 1))
  else (⟨(tokS T s).bytes, 0⟩, s.next 1) := by
 have h1 : strF T s = ((tokS T s).bytes, s.next 1) := by unfold strF; rw [if_pos hk]
 unfold syllF
 rw [if_neg (by rw [isS_kind3 hk]; decide), h1]
end Go.Proofs.YtgkhemnmcgicnaaGreatDoor
