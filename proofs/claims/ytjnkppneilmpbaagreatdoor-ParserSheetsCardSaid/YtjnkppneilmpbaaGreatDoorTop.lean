/-
  A part of the proof that the law ParserSheets (chapter 19) returns true for every sheet: walks of the program's functions, and runs of them in the kernel by the own evaluator.
-/
import Derived.Test.YtjnkppneilmpbaaGreatDoorLsw
import Derived.Test.YtjnkppneilmpbaaGreatDoorShw
import Derived.Test.YtjnkppneilmpbaaGreatDoorTks
import Derived.Test.YtjnkppneilmpbaaGreatDoorTxw
namespace Go.Proofs.YtjnkppneilmpbaaGreatDoor
open Go.RowKit

theorem ScoreIs.shape {w : World} {t : ByteArray} {l : List (List (Option UInt8) × Int)} {v : Value} (h : ScoreIs w t l v) : ∃ cs, v = .agg cs ∧ cs.size = 6 ∧ cs.all (·.oneCell') = true := by
  obtain ⟨pv, mv, lv, sv, rs, rfl, h1, h2, h3, h4, h5⟩ := h
  obtain ⟨a1, b1, rfl⟩ := own_isS h1
  obtain ⟨a2, b2, rfl⟩ := own_isS h3
  obtain ⟨a3, b3, rfl⟩ := own_isS h5
  exact ⟨_, rfl, rfl, by simp [Value.oneCell']⟩
theorem mk_toList (T : ByteArray) : mk T.data.toList = T := by
  obtain ⟨d⟩ := T
  simp [mk]
/-- A struct is loaded under a guard that holds. -/
theorem wpList_load_row_g {P : Program} {ops : Array Oper} {rest : List Oper} {o : Oper} {a : Act} {w : World} {Q : Exit → Act → World → Prop} (hw : Region.wanted o (yielded ops a.tmps) = true) (ty : TypeId) (x : Operand) (ho : o.op = .load ty x)
    (g : Nat) (hx : a.eval x = .pointer (some ⟨g, 0, none⟩)) (t : TypeId) (cs : Array Value) (fr : Nat × Nat) (d : TypeDesc) (hg : w.heap[g]? = some (.cells cs t fr))
    (hu : P.underlying ty = some d) (hd : (match d with | .struct _ | .array _ _ => true | _ => false) = true) (hi : (P.info? ty).map (·.size) = some cs.size)
    (h : wpList P ops Q rest (a.put o.dst (.agg cs)) w) : wpList P ops Q (o :: rest) a w := by
  rw [wpList, if_pos hw]
  exact .inl (wp_load_row ty x ho g hx t cs fr d hg hu hd hi h)
theorem Tryz.sizeSheet : (Tryz.prog.info? 25).map (·.size) = some 3 := by kernel_rfl

set_option maxHeartbeats 32000000 in
set_option maxRecDepth 1000000 in
theorem law_walk (T0 : ByteArray) (mo ko : Option Addr) (mc kc : Nat) (xs : List (List UInt8)) (ks : List UInt8) (w : World) (hx : RsIs w mo xs) (hk : SlIs w ko ks)
    (hkn : ∀ w, Calls Tryz.prog 8 #[] w fun e w' => e = .returned (.bool true) ∧ Below w.heap.size w w') :
    Calls Tryz.prog 3 #[.agg #[.string T0, .slice mo xs.length mc, .slice ko ks.length kc]] w fun e w' => e = .returned (.bool true) ∧ Below w.heap.size w w' := by
  go_enter Tryz.func3, Tryz.ntmps3
  have b0 := (Below.refl w.heap.size w).alloc (Nat.le_refl _) (.cells #[.string T0, .slice mo xs.length mc, .slice ko ks.length kc] 25)
  have hX0 := heap_alloc_new w (.cells #[.string T0, .slice mo xs.length mc, .slice ko ks.length kc] 25)
  have hs0 := short_walk T0 mo ko mc kc xs ks w (w.alloc (.cells #[.string T0, .slice mo xs.length mc, .slice ko ks.length kc] 25)) b0 hx hk
  have sz0 : (w.alloc (.cells #[.string T0, .slice mo xs.length mc, .slice ko ks.length kc] 25)).heap.size = w.heap.size + 1 := by simp
  go_upto_region 1 with fail
  generalize w.alloc (.cells #[.string T0, .slice mo xs.length mc, .slice ko ks.length kc] 25) = w0 at b0 hX0 hs0 sz0 ⊢
  have hz0 : (Tryz.prog.info? 25).map (·.size) = some (#[.string T0, .slice mo xs.length mc, .slice ko ks.length kc] : Array Value).size := Tryz.sizeSheet
  generalize hro : (#[.string T0, .slice mo xs.length mc, .slice ko ks.length kc] : Array Value) = ro at hX0 hs0 hz0
  have hro3 : ro.size = 3 := by rw [← hro]; rfl
  clear hro
  go_wp2_with (first
    | (refine wpList_load_row rfl 25 _ rfl w.heap.size rfl 25 ro (0, 0) _ hX0 Tryz.underlying25 rfl hz0 ?_)
    | (go_at_call 4; refine hs0.mono ?_))
  rintro r w1 ⟨b1, T, l, mo', ko', mc', kc', rfl, hT, hl, hm, hsh⟩
  have hX1 := (b1.block w.heap.size (by omega)).trans hX0
  have hone1 : (#[.string T, .slice mo' l.length mc', .slice ko' l.length kc'] : Array Value).all (·.oneCell') = true := by simp [Value.oneCell']
  have hz1 : (Tryz.prog.info? 25).map (·.size) = some (#[.string T, .slice mo' l.length mc', .slice ko' l.length kc'] : Array Value).size := Tryz.sizeSheet
  have hX2 := setRow_heap w1 w.heap.size ro #[.string T, .slice mo' l.length mc', .slice ko' l.length kc'] 25 (0, 0) hX1
  have b2 : Below w.heap.size w (w1.setRow w.heap.size #[.string T, .slice mo' l.length mc', .slice ko' l.length kc']) :=
    ((Away.of_below (bs := []) (b0.trans (b1.mono b0.size))).setRow (Nat.le_refl _) #[.string T, .slice mo' l.length mc', .slice ko' l.length kc']).below
  have sh2 := hsh _ b2 (Same.of_setRow hX1 (by decide) _)
  go_upto_region 2 with (refine wpList_store_row rfl 25 _ _ rfl w.heap.size #[.string T, .slice mo' l.length mc', .slice ko' l.length kc'] rfl rfl 25 ro hX1 hz1 hro3 hone1 ?_)
  generalize w1.setRow w.heap.size #[.string T, .slice mo' l.length mc', .slice ko' l.length kc'] = w2 at hX2 b2 sh2 ⊢
  have hT' : T.data.toList.length ≤ 40 := by rw [size_list]; exact hT
  have h6 : ∀ m ∈ l, m.1.length ≤ 6 := fun m h => (hm m h).1
  have sS := lscore_walk T mo' ko' mc' kc' l w2 hl h6 sh2
  have lX2 := (Array.getElem?_eq_some_iff.1 hX2).1
  have xT : ∀ ids wn, Below w2.heap.size w2 wn → Calls Tryz.prog 7 #[.agg #[.string T, .slice mo' l.length mc', .slice ko' l.length kc'], .bool ids] wn fun r w' => Below wn.heap.size wn w' ∧ r = .returned (.string (mk (textL ids T.data.toList l))) :=
    fun ids wn b => text_walk ids T mo' ko' mc' kc' l wn hT hl h6 (sh2.step b)
  have xR : ∀ ids wn, Calls Tryz.prog 6 #[.string (mk (textL ids T.data.toList l))] wn fun r w' => Below wn.heap.size wn w' ∧ ∃ v, r = .returned (.tuple #[v, .int .i64 0, .int .i64 0, .int .i64 0]) ∧ ScoreIs w' T (l.map conv) v := fun ids wn => by
    have := read_text ids T.data.toList l hT' hl hm wn
    rw [mk_toList] at this
    exact this
  have xE : ∀ (a b : Value) wn, ScoreIs wn T (l.map conv) a → ScoreIs wn T (l.map conv) b → Calls Tryz.prog 9 #[a, b] wn fun e w' => e = .returned (.bool true) ∧ Below wn.heap.size wn w' := fun a b wn ha hb =>
    score_eq (by rw [List.length_map]; omega) (fun p hp => by
      obtain ⟨m, hmm, rfl⟩ := List.mem_map.1 hp
      have := h6 m hmm
      simp [conv]
      omega) ha hb
  clear hsh hx hk hs0 hX1 hX0 b0 b1 sz0 hz0 hro3 hone1 sh2
  generalize hrn : (#[.string T, .slice mo' l.length mc', .slice ko' l.length kc'] : Array Value) = rn at hX2 hz1 sS xT
  clear hrn
  go_wp2_with (first
    | (refine wpList_load_row rfl 25 _ rfl w.heap.size rfl 25 rn (0, 0) _ hX2 Tryz.underlying25 rfl hz1 ?_)
    | (go_at_call 5; refine sS.mono ?_))
  rintro r w3 ⟨b3, v1, rfl, hv1⟩
  obtain ⟨c1, rfl, n1, o1⟩ := hv1.shape
  have hi1 : (Tryz.prog.info? 32).map (·.size) = some c1.size := by rw [n1]; exact Tryz.sizeScore
  have hold1 : (#[.string ByteArray.empty, .bool false, .slice none 0 0, .slice none 0 0, .slice none 0 0, .slice none 0 0] : Array Value).size = c1.size := by rw [n1]; rfl
  have bA := (Below.refl _ w3).alloc (Nat.le_refl _) (.cells c1 32)
  have hA := heap_alloc_new w3 (.cells c1 32)
  have szA : (w3.alloc (.cells c1 32)).heap.size = w3.heap.size + 1 := by simp
  have hvA := hv1.step bA
  have l3 := b3.size
  have b4 := (b2.trans (b3.mono b2.size)).trans (bA.mono (Nat.le_trans b2.size b3.size))
  have b24 := b3.trans (bA.mono b3.size)
  have hX4 := (b24.block w.heap.size lX2).trans hX2
  have nX4 : w.heap.size < w3.heap.size := by omega
  have t1 := xT false (w3.alloc (.cells c1 32)) b24
  go_upto_region 3 with (refine wpList_store_new (w := w3) rfl 32 _ _ rfl c1 _ _ rfl rfl rfl hi1 hold1 o1 ?_)
  generalize w3.alloc (.cells c1 32) = w4 at bA hA hvA szA b4 b24 hX4 t1 ⊢
  generalize hA1 : w3.heap.size = A1 at hA szA nX4 ⊢
  clear bA hv1 b3 l3 sS
  go_wp2_with (first
    | (refine wpList_load_row rfl 25 _ rfl w.heap.size rfl 25 rn (0, 0) _ hX4 Tryz.underlying25 rfl hz1 ?_)
    | (go_at_call 7; refine t1.mono ?_))
  rintro r w5 ⟨b5, rfl⟩
  go_wp2_with (go_at_call 6; refine (xR false w5).mono ?_)
  rintro r w6 ⟨b6, v2, rfl, hv2⟩
  obtain ⟨c2, rfl, n2, o2⟩ := hv2.shape
  have hi2 : (Tryz.prog.info? 32).map (·.size) = some c2.size := by rw [n2]; exact Tryz.sizeScore
  have hold2 : (#[.string ByteArray.empty, .bool false, .slice none 0 0, .slice none 0 0, .slice none 0 0, .slice none 0 0] : Array Value).size = c2.size := by rw [n2]; rfl
  have b46 := b5.trans (b6.mono b5.size)
  have bB := (Below.refl _ w6).alloc (Nat.le_refl _) (.cells c2 32)
  have hB := heap_alloc_new w6 (.cells c2 32)
  have szB : (w6.alloc (.cells c2 32)).heap.size = w6.heap.size + 1 := by simp
  have hvB := hv2.step bB
  have b47 := b46.trans (bB.mono b46.size)
  have b27 := b24.trans (b47.mono b24.size)
  have b7 := b4.trans (b47.mono b4.size)
  have hX7 := (b27.block w.heap.size lX2).trans hX2
  have lA4 := (Array.getElem?_eq_some_iff.1 hA).1
  have hA7 := (b47.block A1 lA4).trans hA
  have hvA7 := hvA.step b47
  have t2 := xT true (w6.alloc (.cells c2 32)) b27
  go_upto_region 4 with (refine wpList_store_new (w := w6) rfl 32 _ _ rfl c2 _ _ rfl rfl rfl hi2 hold2 o2 ?_)
  generalize w6.alloc (.cells c2 32) = w7 at bB hB hvB szB b47 b27 b7 hX7 hA7 hvA7 t2 ⊢
  generalize hB1 : w6.heap.size = B1 at hB szB ⊢
  clear bB hv2 b5 b6 t1 b46 hA hvA hX4 b4 b24 b47
  go_wp2_with (first
    | (refine wpList_load_row rfl 25 _ rfl w.heap.size rfl 25 rn (0, 0) _ hX7 Tryz.underlying25 rfl hz1 ?_)
    | (go_at_call 7; refine t2.mono ?_))
  rintro r w8 ⟨b8, rfl⟩
  go_wp2_with (go_at_call 6; refine (xR true w8).mono ?_)
  rintro r w9 ⟨b9, v3, rfl, hv3⟩
  obtain ⟨c3, rfl, n3, o3⟩ := hv3.shape
  have hi3 : (Tryz.prog.info? 32).map (·.size) = some c3.size := by rw [n3]; exact Tryz.sizeScore
  have hold3 : (#[.string ByteArray.empty, .bool false, .slice none 0 0, .slice none 0 0, .slice none 0 0, .slice none 0 0] : Array Value).size = c3.size := by rw [n3]; rfl
  have b79 := b8.trans (b9.mono b8.size)
  have bC := (Below.refl _ w9).alloc (Nat.le_refl _) (.cells c3 32)
  have hC := heap_alloc_new w9 (.cells c3 32)
  have hvC := hv3.step bC
  have b7x := b79.trans (bC.mono b79.size)
  have b10 := b7.trans (b7x.mono b7.size)
  have lA7 := (Array.getElem?_eq_some_iff.1 hA7).1
  have lB7 := (Array.getElem?_eq_some_iff.1 hB).1
  have hA10 := (b7x.block A1 lA7).trans hA7
  have hB10 := (b7x.block B1 lB7).trans hB
  have hvA10 := hvA7.step b7x
  have hvB10 := hvB.step b7x
  go_upto_region 5 with (refine wpList_store_new (w := w9) rfl 32 _ _ rfl c3 _ _ rfl rfl rfl hi3 hold3 o3 ?_)
  generalize w9.alloc (.cells c3 32) = w10 at bC hC hvC b7x b10 hA10 hB10 hvA10 hvB10 ⊢
  generalize hC1 : w9.heap.size = C1 at hC ⊢
  clear bC hv3 b8 b9 t2 b79 hA7 hB hvA7 hvB hX7 b7 b27 b7x
  go_wp2_with (go_at_call 8; refine (hkn w10).mono ?_)
  rintro r w11 ⟨rfl, b11⟩
  have hA11 := (b11.block A1 (Array.getElem?_eq_some_iff.1 hA10).1).trans hA10
  have hB11 := (b11.block B1 (Array.getElem?_eq_some_iff.1 hB10).1).trans hB10
  have hC11 := (b11.block C1 (Array.getElem?_eq_some_iff.1 hC).1).trans hC
  have hvA11 := hvA10.step b11
  have hvB11 := hvB10.step b11
  have hvC11 := hvC.step b11
  go_wp2_with (first
    | (refine wpList_load_row_g (by rfl) 32 _ rfl B1 rfl 32 c2 (0, 0) _ hB11 Tryz.underlying32 rfl hi2 ?_)
    | (refine wpList_load_row_g (by rfl) 32 _ rfl A1 rfl 32 c1 (0, 0) _ hA11 Tryz.underlying32 rfl hi1 ?_)
    | (go_at_call 9; refine (xE _ _ w11 hvB11 hvA11).mono ?_))
  rintro r w12 ⟨rfl, b12⟩
  have hA12 := (b12.block A1 (Array.getElem?_eq_some_iff.1 hA11).1).trans hA11
  have hC12 := (b12.block C1 (Array.getElem?_eq_some_iff.1 hC11).1).trans hC11
  have hvA12 := hvA11.step b12
  have hvC12 := hvC11.step b12
  go_wp2_with (first
    | (refine wpList_load_row_g (by rfl) 32 _ rfl C1 rfl 32 c3 (0, 0) _ hC12 Tryz.underlying32 rfl hi3 ?_)
    | (refine wpList_load_row_g (by rfl) 32 _ rfl A1 rfl 32 c1 (0, 0) _ hA12 Tryz.underlying32 rfl hi1 ?_)
    | (go_at_call 9; refine (xE _ _ w12 hvC12 hvA12).mono ?_))
  rintro r w13 ⟨rfl, b13⟩
  have bel := b10.trans ((b11.trans ((b12.trans (b13.mono b12.size)).mono b11.size)).mono b10.size)
  go_wp2
  go_ret
  exact ⟨rfl, bel⟩
end Go.Proofs.YtjnkppneilmpbaaGreatDoor
