/- Towards the law ParserVoices, true for every text (no condition): one part of the proof. -/
import Derived.Test.YtgkhemnmcgicnaaGreatDoorG01
import Derived.Test.YtgkhemnmcgicnaaGreatDoorG35
namespace Go.Proofs.YtgkhemnmcgicnaaGreatDoor
set_option maxHeartbeats 16000000
set_option maxRecDepth 100000
open Go.RowKit
theorem JP {T : List bD} {s : aU} {p : Nat} (h : (bU T aP s).2 = .ok p) : ∃ q, s = .ok q /\ p = q + 1 := by
 rcases lU T s with ⟨h1, h2⟩ | ⟨i, h1, h2, h3, h4⟩
 ·rw [h] at h2; cases h2
 ·rw [h3] at h; exact iZ h
theorem uB (T : List bD) (last : Int) (A : A5) (p p' : Nat) (h : (aJ T last A (.ok p)).2.2 = .ok p') : p < p' := by
 rw [rT] at h
 simp only at h
 obtain ⟨q, h1, h2⟩ := JP h
 unfold aU.orFail at h1
 split at h1
 ·exact absurd h1 (jG T 13 _ q)
 ·injection h1 with h1; omega
theorem BG {T : List bD} {p k : Nat} {s2 : aU} (hp : p < T.length) (h2 : ∀ p', s2 = .ok p' -> p < p') (h : need T (.ok p) <= k + 1) : need T s2 <= k := by
 cases s2 with
 | bad e l c => exact qn _
 | ok p' =>
  have := h2 p' rfl
  unfold need at h |-
  simp only at h |-
  omega
theorem vV (T : List bD) (k : Nat) (last : Int) (A : A5) (e l c : Int) : dB T k last A (.bad e l c) = (A, .bad e l c) := by
 cases k with
 | zero => rfl
 | succ k => rw [dB, if_neg (by simp [aU.good])]
theorem Tryz.infoInt3 : (Tryz.prog.info? 3).map (fun i => (i.zero.map fun z => z.cells.size, i.size, i.bytes)) = some (some 1, 1, 8) := by kernel_rfl
section
variable {T : List bD} {Bw Bp Bl Be Q E Y M : Nat} {free : Bool} {st st' : aU} {last : Int} {F : EF} {A : A5} {w0 w w' : World}
theorem Cl.grown (h : Cl T Bw Bp Bl Be Q E Y M free st last F A w0 w) {row : Option Nat} (hg : w.grownBy w' row) {B : Nat} (hB : Bw < B /\ Bp < B /\ Bl < B /\ Be < B /\ Q < B /\ E < B /\ Y < B /\ M < B /\ w0.heap.size <= B) (hr : ∀ k, row = some k -> B <= k) (hn : ∀ k, row = some k -> ∃ cur e, w.heap[k]? = some (.cells cur e (0, 0)) /\ e ≠ 59) : Cl T Bw Bp Bl Be Q E Y M free st last F A w0 w' := by
 obtain ⟨b1, b2, b3, b4, b5, b6, b7, b8, b9⟩ := hB
 have o : ∀ k o, w.heap[k]? = some o -> k < B -> w'.heap[k]? = some o := fun k o hk hl => (hg.block k (aA hk) fun e => by have := hr k e.symm; omega).trans hk
 exact ⟨h.prs.grown hg fun k hk => ⟨by have := hr k hk; omega, by have := hr k hk; omega, hn k hk⟩, o _ _ h.hw b1, o _ _ h.hp b2, o _ _ h.hl b3, o _ _ h.he b4, o _ _ h.hq b5, o _ _ h.hE b6, h.aw.grown hg fun k hk => by have := hr k hk; omega, h.bl, h.ne⟩
theorem DQ (h : Cl T Bw Bp Bl Be Q E Y M free st last F A w0 w) (hI : BP last A st) :
  Calls Tryz.prog 106 #[.pointer (some ⟨Y, 0, none⟩), .func (.func 107) #[] #[.pointer (some ⟨Bw, 0, none⟩), .pointer (some ⟨Bp, 0, none⟩), .pointer (some ⟨Bl, 0, none⟩), .pointer (some ⟨Be, 0, none⟩)], .string ⟨#[93]⟩] w fun rr w' => ∃ v l', rr = .returned v /\ Cl T Bw Bp Bl Be Q E Y M free (bE T ⟨#[93]⟩ (dB T T.length (aJ T last A st).1 (aJ T last A st).2.1 (aJ T last A st).2.2).2) l' F (dB T T.length (aJ T last A st).1 (aJ T last A st).2.1 (aJ T last A st).2.2).1 w0 w' := by
 obtain ⟨i0, zz, hi0, hzz, hzc, hz1, hz2⟩ : ∃ i z, Tryz.prog.info? 3 = some i /\ i.zero = some z /\ z.cells.size = 1 /\ i.size = 1 /\ i.bytes = 8 := by
  have := Tryz.infoInt3
  cases hi : Tryz.prog.info? 3 with
  | none => rw [hi] at this; cases this
  | some i =>
   rw [hi] at this
   simp only [qqh, qm, qz] at this
   cases hz : i.zero with
   | none => rw [hz] at this; cases this.1
   | some z => rw [hz] at this; exact ⟨i, z, rfl, hz, by simpa using this.1, this.2.1, this.2.2⟩
 have hB : Bw < w.heap.size /\ Bp < w.heap.size /\ Bl < w.heap.size /\ Be < w.heap.size /\ Q < w.heap.size /\ E < w.heap.size /\ Y < w.heap.size /\ M < w.heap.size /\ w0.heap.size <= w.heap.size :=
  ⟨aA h.hw, aA h.hp, aA h.hl, aA h.he, aA h.hq, aA h.hE, h.prs.lt, h.prs.ltM, h.aw.size⟩
 have hm := h.prs.good.max
 have x1 := vU h hI
 have hI1 := hI.step (T := T)
 have hn0 : need T (aJ T last A st).2.2 <= T.length := by
  cases (aJ T last A st).2.2 with
  | ok p => exact Nat.sub_le _ _
  | bad e l c => exact qn _
 obtain ⟨tot, htot⟩ : ∃ tot, tot = dB T T.length (aJ T last A st).1 (aJ T last A st).2.1 (aJ T last A st).2.2 := ⟨_, rfl⟩
 rw [<- htot]
 generalize aJ T last A st = q1 at x1 htot hn0 hI1
 obtain ⟨l1, A1, s1⟩ := q1
 simp only at x1 htot hn0 hI1
 have c9 := fun w' (h : PS T Y M free tot.2 w') => iR h ⟨#[93]⟩
 generalize bE T ⟨#[93]⟩ tot.2 = s9 at c9 |-
 obtain ⟨N, hN⟩ : ∃ N, Shut (T.length = N) := ⟨_, rfl⟩
 have hN4 : N <= 4001 := by rw [<- hN.out]; exact hm
 rw [hN.out] at htot hn0
 have HT := aQ (And.intro htot hn0)
 clear h htot hn0 hm hI
 go_enter Tryz.func106, Tryz.ntmps106
 go_wp2_with (go_at_call 107; refine x1.mono ?_)
 intro rr w1; first | (intro he V1 a1; subst he) | rintro ⟨rfl, V1, a1⟩
 have sz1 := a1.size
 have V2 := V1.step ((qa _ w1).alloc (qb _) (.cells #[I l1] 3))
 have ho2 : (w1.alloc (.cells #[I l1] 3)).ownsRow w.heap.size 3 1 (.slice (some ⟨w1.heap.size, 0, none⟩) 1 1) 1 [I l1] := World.ownsRow_lit (size := 1) w1 #[I l1] 1 sz1 (by decide) rfl
 have sz2 : w.heap.size <= (w1.alloc (.cells #[I l1] 3)).heap.size := by simp; omega
 clear x1 V1 a1
 go_wp2
 go_loopg [7] N (fun gk s7 wr => ∃ (k : Nat) (last : Int) (xs : List Value) (A2 : A5) (s : aU), k + gk = N /\ need T s <= gk /\ dB T gk last A2 s = tot /\ wr.ownsRow w.heap.size 3 1 s7 (k + 1) xs /\ BP last A2 s /\ Cl T Bw Bp Bl Be Q E Y M free s last F A2 w0 wr /\ w.heap.size <= wr.heap.size)
 case atStart => exact ⟨0, l1, _, A1, s1, by omega, HT.out.2, HT.out.1.symm, ho2, hI1, V2, sz2⟩
 case round =>
  clear V2 ho2 sz2 hI1
  obtain ⟨k, last, xs, A2, s, hlen, hneed, htotal, hown, hI, V, szr⟩ := hrel
  have hN1 : (k : Int) <= 4001 := by omega
  obtain ⟨ao, cp, rfl⟩ := bX hown
  have hlo : ∀ j, (Value.slice ao (k + 1) cp).ownBlock = some j -> w.heap.size <= j := fun j hj => (hown.lt j hj).1
  have hx9 : ∀ w', Cl T Bw Bp Bl Be Q E Y M free s last F A2 w0 w' -> s = tot.2 -> Calls Tryz.prog 54 #[.pointer (some ⟨Y, 0, none⟩), .string ⟨#[93]⟩] w' fun r w'' => r = .returned (.tuple #[]) /\ PS T Y M free s9 w'' /\ aB [Y, M] w' w'' := fun w' b e => c9 w' (by rw [<- e]; exact b.prs)
  have HT2 := aQ (And.intro hlen (And.intro hneed htotal))
  have fin0 : dB T gk last A2 s = (A2, s) -> A2 = tot.1 /\ s = tot.2 := fun e => by
   rw [e] at htotal
   exact ⟨congrArg (·.1) htotal, congrArg (·.2) htotal⟩
  clear htotal hlen hneed
  cases s with
  | bad ee el ec =>
   obtain ⟨c4, hee⟩ := V.prs.errCell
   obtain ⟨hl, hs⟩ := fin0 (vV _ _ _ _ _ _ _)
   have xe := hx9 wr V hs
   clear fin0 hx9
   go_wp2_with (go_at_call 54; refine xe.mono ?_)
   intro r w4; first | (intro he hS4 a4; subst he) | rintro ⟨rfl, hS4, a4⟩
   have V4 := V.away a4 hS4
   clear xe hown V a4 c4
   go_wp2
   go_ret
   exact ⟨_, last, rfl, by rw [<- hl]; exact V4⟩
  | ok p =>
   have c4 := V.prs.okCell
   have hpl := V.prs.atCell.2.2
   have xi := LY V.prs ⟨#[93]⟩
   cases hb : isS T ⟨#[93]⟩ (.ok p) with
   | true =>
    rw [hb] at xi
    obtain ⟨hl, hs⟩ := fin0 (by
     cases gk with
     | zero => rfl
     | succ k => rw [dB, if_neg (by rw [hb]; simp)])
    clear fin0
    go_wp2_with (go_at_call 76; refine xi.mono ?_)
    intro rr w3; first | (intro he b3; subst he) | rintro ⟨rfl, b3⟩
    have V3 := V.step b3
    have xe := hx9 w3 V3 hs
    clear xi hx9 hown V b3 c4
    go_wp2_with (go_at_call 54; refine xe.mono ?_)
    intro rr w4; first | (intro he hS4 a4; subst he) | rintro ⟨rfl, hS4, a4⟩
    have V4 := V3.away a4 hS4
    clear xe V3 a4
    go_wp2
    go_ret
    exact ⟨_, last, rfl, by rw [<- hl]; exact V4⟩
   | false =>
    rw [hb] at xi
    obtain ⟨g, hgk⟩ : ∃ g, gk = g + 1 := by
     have := HT2.out.2.1
     unfold need at this
     exact ⟨gk - 1, by simp only at this; omega⟩
    have hmore : dB T gk last A2 (.ok p) = dB T g (aJ T last A2 (.ok p)).1 (aJ T last A2 (.ok p)).2.1 (aJ T last A2 (.ok p)).2.2 := by
     rw [hgk, dB, if_pos ⟨rfl, hb⟩]
    have hnx : need T (aJ T last A2 (.ok p)).2.2 <= g := BG hpl (uB T last A2 p) (by have := HT2.out.2.1; omega)
    have htot2 := HT2.out.2.2
    rw [hmore] at htot2
    have hlen2 := HT2.out.1
    have hI2 := hI.step (T := T)
    have xr := fun W (bW : Below wr.heap.size wr W) => vU (V.step bW) hI
    generalize aJ T last A2 (.ok p) = qq at xr hnx htot2 hI2
    obtain ⟨l3, A3, s3⟩ := qq
    simp only at xr hnx htot2 hI2
    have HA := aQ (And.intro hnx (And.intro htot2 (And.intro hlen2 (And.intro hgk hI2))))
    clear fin0 hx9 hmore hnx htot2 hlen2 hb HT2 hI hI2
    go_wp2_with (go_at_call 76; refine xi.mono ?_)
    intro rr w3; first | (intro he b3; subst he) | rintro ⟨rfl, b3⟩
    have xr3 := xr w3 b3
    have hown3 := aC hown fun j hj => b3.block j (hown.lt j hj).2
    have sz3 := b3.size
    clear xr xi c4 hown b3 V
    go_wp2_with (go_at_call 107; refine xr3.mono ?_)
    intro rr w4; first | (intro he V4 a4; subst he) | rintro ⟨rfl, V4, a4⟩
    have hown4 := aC hown3 fun j hj => a4.block j (hown3.lt j hj).2 (by
     have := hlo j hj
     obtain ⟨b1, b2, b3, b4, b5, b6, b7, b8, b9⟩ := hB
     simp; omega)
    have sz4 := a4.size
    clear xr3 hown3 a4
    go_wp2_with (at_builtin; refine wpList_append_lies _ rfl _ _ 106 rfl w.heap.size 3 i0 _ 1 8 Tryz.underlying106 hi0 hzz hz1 hz2 hzc (by omega) _ (k + 1) _ rfl (hown4.alloc _) ⟨w4.heap.size, 0, none⟩ 1 1 [I l3] rfl rfl (World.news_of_block (cs := #[I l3]) (t := 3) (fr := (0, 0)) (qc _ _)) (by simp [Value.oneCell']) (by omega) (by unfold maxLen; omega) (by omega) (by simp; omega) (w4.heap.size + 1) (by simp) ?_; intro gg wcap w5 hown5 hgrow hat hgl)
    go_roundg (gk - 1)
    case measure => have := HA.out.2.2.2.1; omega
    case rel =>
     obtain ⟨q1, q2, q3, q4, q5⟩ := HA.out
     have e1 : gk - 1 = g := by omega
     rw [e1]
     exact ⟨k + 1, l3, _, A3, s3, by omega, q1, q2, hown5, q5, (V4.step ((qa _ w4).alloc (qb _) _)).grown hgrow hB hlo (fun j hj => by
      obtain ⟨cur', hc'⟩ := cA hown4 hj
      exact ⟨cur', 3, (Lib.alloc_old w4 _ _ (aA hc')).trans hc', by decide⟩), by have := hgrow.size; simp at this; omega⟩
end
section
variable {T : List bD} {E Y M : Nat} {free : Bool} {st : aU} {F : EF} {w w' : World}
theorem JQ {B : Nat} {a w : World} (h : Below B a w) {Q : Nat} (hQ : B <= Q) (o : Obj) : Below B a { w with heap := w.heap.setIfInBounds Q o } :=
 ⟨h.os, h.tape, h.output, by simpa using h.size, fun k hk => by
  show (w.heap.setIfInBounds Q o)[k]? = _
  rw [qqs (by omega)]; exact h.block k hk⟩
theorem F5 {w : World} {Q k : Nat} {o o' : Obj} (h : w.heap[k]? = some o) (hk : Q ≠ k) : ({ w with heap := w.heap.setIfInBounds Q o' } : World).heap[k]? = some o := by
 show (w.heap.setIfInBounds Q o')[k]? = _
 rw [qqs hk]; exact h
theorem X0 {w : World} {Q : Nat} {o o' : Obj} (h : w.heap[Q]? = some o) : ({ w with heap := w.heap.setIfInBounds Q o' } : World).heap[Q]? = some o' := by
 show (w.heap.setIfInBounds Q o')[Q]? = _
 rw [Array.getElem?_setIfInBounds_self_of_lt (qd.1 h).1]
theorem F6 (h : PS T Y M free st w) (hE : w.heap[E]? = some (.cells (F.c ⟨0, 0, 0, 0, 0⟩) 31 (0, 0))) (hEY : E ≠ Y) (hEM : E ≠ M) :
  Calls Tryz.prog 60 #[.pointer (some ⟨Y, 0, none⟩), .pointer (some ⟨E, 0, none⟩)] w fun rr w' => rr = .returned (.tuple #[]) /\ PS T Y M free (FN T st).2 w' /\ w'.heap[E]? = some (.cells (F.c (FN T st).1) 31 (0, 0)) /\ aB [Y, M, E] w w' := by
 have hYl := h.lt
 have hMl := h.ltM
 have hEl := aA hE
 have hres : FN T st = ((dB T T.length (aJ T (-1) ⟨0, 0, 0, 0, 0⟩ st).1 (aJ T (-1) ⟨0, 0, 0, 0, 0⟩ st).2.1 (aJ T (-1) ⟨0, 0, 0, 0, 0⟩ st).2.2).1, bE T ⟨#[93]⟩ (dB T T.length (aJ T (-1) ⟨0, 0, 0, 0, 0⟩ st).1 (aJ T (-1) ⟨0, 0, 0, 0, 0⟩ st).2.1 (aJ T (-1) ⟨0, 0, 0, 0, 0⟩ st).2.2).2) := rfl
 rw [hres]
 clear hres
 have xsv := fun (Bw Bp Bl Be Q : Nat) (w1 : World) (V : Cl T Bw Bp Bl Be Q E Y M free st (-1) F ⟨0, 0, 0, 0, 0⟩ w w1) => DQ V (BP.start st)
 generalize (dB T T.length (aJ T (-1) ⟨0, 0, 0, 0, 0⟩ st).1 (aJ T (-1) ⟨0, 0, 0, 0, 0⟩ st).2.1 (aJ T (-1) ⟨0, 0, 0, 0, 0⟩ st).2.2).1 = A9 at xsv |-
 generalize bE T ⟨#[93]⟩ (dB T T.length (aJ T (-1) ⟨0, 0, 0, 0, 0⟩ st).1 (aJ T (-1) ⟨0, 0, 0, 0, 0⟩ st).2.1 (aJ T (-1) ⟨0, 0, 0, 0, 0⟩ st).2.2).2 = s9 at xsv |-
 have hmk : ∀ ww : World, (Instr.makeMap 164 none).run Tryz.prog ww = .ok (.map (some ww.heap.size)) (ww.alloc (.map #[] 0)) := fun ww => by
  simp [Instr.makeMap, newObj, Sem.run]
 have b1 := (qa w.heap.size w).alloc (qb _) (.cells #[.pointer (some ⟨Y, 0, none⟩)] 69)
 have b2 := b1.alloc b1.size (.cells #[.pointer (some ⟨E, 0, none⟩)] 84)
 have b3 := b2.alloc b2.size (.map #[] 0)
 have b4 := b3.alloc b3.size (.cells #[.map (some (w.heap.size + 1 + 1))] 164)
 have b5 := b4.alloc b4.size dG
 have e1 : (w.alloc (.cells #[.pointer (some ⟨Y, 0, none⟩)] 69)).heap.size = w.heap.size + 1 := by simp
 have e2 : ((w.alloc (.cells #[.pointer (some ⟨Y, 0, none⟩)] 69)).alloc (.cells #[.pointer (some ⟨E, 0, none⟩)] 84)).heap.size = w.heap.size + 1 + 1 := by simp
 have e3 : (((w.alloc (.cells #[.pointer (some ⟨Y, 0, none⟩)] 69)).alloc (.cells #[.pointer (some ⟨E, 0, none⟩)] 84)).alloc (.map #[] 0)).heap.size = w.heap.size + 1 + 1 + 1 := by simp
 have e4 : ((((w.alloc (.cells #[.pointer (some ⟨Y, 0, none⟩)] 69)).alloc (.cells #[.pointer (some ⟨E, 0, none⟩)] 84)).alloc (.map #[] 0)).alloc (.cells #[.map (some (w.heap.size + 1 + 1))] 164)).heap.size = w.heap.size + 1 + 1 + 1 + 1 := by simp
 have old : ∀ (ww : World) (o o' : Obj) (k : Nat), ww.heap[k]? = some o -> (ww.alloc o').heap[k]? = some o := fun ww o o' k hk => (Lib.alloc_old _ o' _ (qd.1 hk).1).trans hk
 have p5 := old _ _ dG _ (old _ _ (.cells #[.map (some (w.heap.size + 1 + 1))] 164) _ (old _ _ (.map #[] 0) _ (old _ _ (.cells #[.pointer (some ⟨E, 0, none⟩)] 84) _ (qc w (.cells #[.pointer (some ⟨Y, 0, none⟩)] 69)))))
 have q2 := qc (w.alloc (.cells #[.pointer (some ⟨Y, 0, none⟩)] 69)) (.cells #[.pointer (some ⟨E, 0, none⟩)] 84)
 rw [e1] at q2
 have q5 := old _ _ dG _ (old _ _ (.cells #[.map (some (w.heap.size + 1 + 1))] 164) _ (old _ _ (.map #[] 0) _ q2))
 have m3 := qc ((w.alloc (.cells #[.pointer (some ⟨Y, 0, none⟩)] 69)).alloc (.cells #[.pointer (some ⟨E, 0, none⟩)] 84)) (.map #[] 0)
 rw [e2] at m3
 have m5 := old _ _ dG _ (old _ _ (.cells #[.map (some (w.heap.size + 1 + 1))] 164) _ m3)
 have n4 := qc (((w.alloc (.cells #[.pointer (some ⟨Y, 0, none⟩)] 69)).alloc (.cells #[.pointer (some ⟨E, 0, none⟩)] 84)).alloc (.map #[] 0)) (.cells #[.map (some (w.heap.size + 1 + 1))] 164)
 rw [e3] at n4
 have n5 := old _ _ dG _ n4
 have r5 := qc ((((w.alloc (.cells #[.pointer (some ⟨Y, 0, none⟩)] 69)).alloc (.cells #[.pointer (some ⟨E, 0, none⟩)] 84)).alloc (.map #[] 0)).alloc (.cells #[.map (some (w.heap.size + 1 + 1))] 164)) dG
 rw [e4] at r5
 clear q2 m3 n4 b1 b2 b3 b4 e1 e2 e3 e4 old
 go_enter Tryz.func60, Tryz.ntmps60
 go_wp2_with (go_at_call 105; (with_reducible refine (MF _).mono ?_); rintro rr ww ⟨rfl, rfl⟩)
 generalize ((((w.alloc (.cells #[.pointer (some ⟨Y, 0, none⟩)] 69)).alloc (.cells #[.pointer (some ⟨E, 0, none⟩)] 84)).alloc (.map #[] 0)).alloc (.cells #[.map (some (w.heap.size + 1 + 1))] 164)).alloc dG = wA at b5 p5 q5 m5 n5 r5 |-
 have lt1 : w.heap.size + 1 + 1 < w.heap.size + 1 + 1 + 1 + 1 := by omega
 have lt2 : w.heap.size + 1 + 1 < w.heap.size + 1 + 1 + 1 := by omega
 have lt3 : w.heap.size + 1 < w.heap.size + 1 + 1 := by omega
 have lt4 : w.heap.size < w.heap.size + 1 := by omega
 generalize w.heap.size + 1 + 1 + 1 + 1 = R at r5 lt1 |-
 generalize w.heap.size + 1 + 1 + 1 = Bw at n5 lt2 |-
 generalize w.heap.size + 1 + 1 = Q at m5 n5 lt1 lt2 lt3 |-
 generalize w.heap.size + 1 = Be at q5 lt3 lt4 |-
 have H0 := aQ (And.intro h (And.intro hE (And.intro hYl (And.intro hMl hEl))))
 have lt5 : w.heap.size < w.heap.size + 1 + 1 + 1 := by omega
 clear h hE hYl hMl hEl
 go_loopg [11] 22 (fun g s11 wr => ∃ k : Nat, k <= 22 /\ g = 22 - k /\ s11 = I (k : Nat) /\ Below w.heap.size w wr /\ wr.heap[w.heap.size]? = some (.cells #[.pointer (some ⟨Y, 0, none⟩)] 69 (0, 0)) /\ wr.heap[Be]? = some (.cells #[.pointer (some ⟨E, 0, none⟩)] 84 (0, 0)) /\ wr.heap[Q]? = some (.map (SG k) k) /\ wr.heap[Bw]? = some (.cells #[.map (some Q)] 164 (0, 0)) /\ wr.heap[R]? = some dG)
 case atStart => exact ⟨0, by omega, rfl, rfl, b5, p5, q5, m5, n5, r5⟩
 case round =>
  clear b5 p5 q5 m5 n5 r5
  obtain ⟨k, hk, hg, rfl, bb, hp, hq, hm, hn, hr⟩ := hrel
  by_cases hlt : k < 22
  ·have hlt' : (k : Int) < 22 := by omega
   have hk0 : (0 : Int) <= (k : Int) := by omega
   have m1 : IntKind.i64.wrap ((k : Int) + 1) = (k : Int) + 1 := IntWalk.i64_in _ (by omega)
   have cR : wr.cell? ⟨R, k, none⟩ = some (.string (pB k)) := by rw [Lib.cell_of_heap hr]; simp [rQ hlt]
   have cW : wr.cell? ⟨Bw, 0, none⟩ = some (.map (some Q)) := by rw [Lib.cell_of_heap hn]; rfl
   have hput := MH hm (pB k) (I (k : Nat)) (JM hlt)
   rw [SJ hlt] at hput
   generalize pB k = tx at cR hput
   go_wp2
   go_roundg (22 - (k + 1))
   case measure => omega
   case rel =>
    exact ⟨k + 1, by omega, rfl, by simp, JQ bb (by omega) _, F5 hp (by omega), F5 hq (by omega), X0 hm, F5 hn (by omega), F5 hr (by omega)⟩
  ·have hkl : k = 22 := by omega
   subst hkl
   obtain ⟨h, hE, hYl, hMl, hEl⟩ := H0.out
   have bl := bb.alloc bb.size (.cells #[I (-1)] 3)
   have szr := bb.size
   have old : ∀ (o : Obj) (k : Nat), wr.heap[k]? = some o -> (wr.alloc (.cells #[I (-1)] 3)).heap[k]? = some o := fun o k hk => (Lib.alloc_old _ _ _ (qd.1 hk).1).trans hk
   have V : Cl T Bw w.heap.size wr.heap.size Be Q E Y M free st (-1) F ⟨0, 0, 0, 0, 0⟩ w (wr.alloc (.cells #[I (-1)] 3)) :=
    ⟨h.step bl, old _ _ hn, old _ _ hp, qc wr _, old _ _ hq, old _ _ hm, (bl.block _ hEl).trans hE, aB.of_below bl, szr, fun k hk => by
     simp only [qqj, qqv, or_false] at hk
     rcases hk with rfl | rfl | rfl | rfl | rfl | rfl
     ·exact ⟨by omega, by omega⟩
     ·exact ⟨by omega, by omega⟩
     ·exact ⟨by omega, by omega⟩
     ·exact ⟨by omega, by omega⟩
     ·exact ⟨by omega, by omega⟩
     ·exact ⟨hEY, hEM⟩⟩
   have xs := xsv _ _ _ _ _ _ V
   have cP : (wr.alloc (.cells #[I (-1)] 3)).cell? ⟨w.heap.size, 0, none⟩ = some (.pointer (some ⟨Y, 0, none⟩)) := by rw [Lib.cell_of_heap (old _ _ hp)]; rfl
   clear V bl old hp hq hm hn hr bb h hE xsv
   go_wp2_with (go_at_call 106; (with_reducible refine xs.mono ?_))
   rintro rr w5 ⟨v, l', rfl, V5⟩
   go_wp2
   go_end0
   exact ⟨rfl, V5.prs, V5.hE, V5.aw⟩
end
end Go.Proofs.YtgkhemnmcgicnaaGreatDoor
