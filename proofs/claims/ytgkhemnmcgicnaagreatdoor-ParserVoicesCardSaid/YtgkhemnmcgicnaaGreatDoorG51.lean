/- Towards the law ParserVoices, true for every text (no condition): one part of the proof. -/
import Derived.Test.YtgkhemnmcgicnaaGreatDoorG01
import Derived.Test.YtgkhemnmcgicnaaGreatDoorG46
import Derived.Test.YtgkhemnmcgicnaaGreatDoorG47
import Derived.Test.YtgkhemnmcgicnaaGreatDoorG50
import Derived.Test.YtgkhemnmcgicnaaGreatDoorRows
import Derived.Test.YtgkhemnmcgicnaaGreatDoorG24
import Derived.LaidMore
import Derived.Stop.LaidErr
import Derived.Lib.LaidTab
import Derived.Lay
import Derived.Test.YtgkhemnmcgicnaaGreatDoorTie
import Derived.ProofKit
import Derived.OpenShut
import Derived.Stop.Joined
import Derived.Lib.SmallJoins
import Derived.SevenTiedAt
import Derived.Test.YtgkhemnmcgicnaaGreatDoorCards
namespace Go.Proofs.YtgkhemnmcgicnaaGreatDoor
set_option maxHeartbeats 32000000
set_option maxRecDepth 100000
open Go.RowKit
theorem qT (O : A7) (T : List bD) (q : Int) : ∀ (k : Nat) (v : gJ) (least n : Int) (s : aU), (∀ x ∈ v.evs, x.heads.length <= T.length + 1 /\ x.graces.length <= T.length + 1 /\ x.lyr.length <= T.length + 1) ->
  ∀ x ∈ (bP O T q k v least n s).1.evs, x.heads.length <= T.length + 1 /\ x.graces.length <= T.length + 1 /\ x.lyr.length <= T.length + 1
 | 0, _, _, _, _, h => h
 | k + 1, v, least, n, s, h => by
  rw [bP]
  split
  ·exact h
  ·split
   ·simp only
    refine qT O T q k _ _ _ _ fun x hx => ?_
    refine qT O T q k _ _ _ _ ?_ x hx
    exact h
   ·split
    ·refine qT O T q k _ _ _ _ fun x hx => ?_
     rcases qqb.1 hx with hx | hx
     ·exact h x hx
     ·obtain rfl := qqw.1 hx
      exact XN O T q s
    ·exact h
theorem Y6.form {v : gJ} {s : aU} {r : Ending} {w : World} (h : Y6 v s r w) : ∃ (B : Nat) (y : gJ) (a1 a2 : Option Addr) (c1 c2 : Nat) (cs : List Value) (l c e : Int),
  r = .returned (.tuple #[.agg #[.slice a1 y.evs.length c1, .slice a2 y.tups.length c2], I l, I c, I e]) /\
  JH B (.slice a1 y.evs.length c1) (.slice a2 y.tups.length c2) cs y w /\ ((∃ p, s = .ok p /\ y = v /\ l = 0 /\ c = 0 /\ e = 0) \/ (s = .bad e l c /\ y = ⟨[], []⟩)) := by
 cases s with
 | ok p =>
  obtain ⟨B, ev, tv, cs, rfl, V⟩ := h
  obtain ⟨a1, c1, rfl⟩ := bX V.oe
  obtain ⟨a2, c2, rfl⟩ := bX V.ot
  exact ⟨B, v, a1, a2, c1, c2, cs, 0, 0, 0, rfl, V, .inl ⟨p, rfl, rfl, rfl, rfl, rfl⟩⟩
 | bad e l c =>
  obtain rfl := h
  exact ⟨0, ⟨[], []⟩, none, none, 0, 0, [], l, c, e, rfl, JH.nil 0 w, .inr ⟨rfl, rfl⟩⟩
theorem PL (s : ByteArray) (w : World) (gl : FR w) : Calls Tryz.prog 4 #[.string s] w fun r w' => r = .returned (.bool true) /\ Below w.heap.size w w' := by
 obtain ⟨T, st, hg, hsc⟩ := Z3 (UY s) (by have := UZ s; omega)
 have hmax := hg.max
 have hnd : need T st <= T.length := by
  cases st with
  | ok p => exact Nat.sub_le _ _
  | bad e l c => exact qn _
 have xc := (U0 s w).mono (fun r w' h => (⟨h.1, h.2.symm⟩ : r = .returned (.string (UY s)) /\ w = w'))
 have xp := PE hg hsc gl
 have xo := fun w' => W4 hg hsc w'
 have xv := fun W0 X V B lv w' (h : xJ W0 T X V B lv (.slice none 0 0) (.slice none 0 0) (.slice none 0 0) [] ⟨[], []⟩ st w') => T6 T.length st ⟨[], []⟩ 0 (.slice none 0 0) (.slice none 0 0) (.slice none 0 0) [] w' hnd (by simp only [qqi]; omega) (by simp only [qqi]; omega) h
 have hl7 := qT aD T 7 T.length ⟨[], []⟩ 0 0 st (by simp)
 have hn7 := j6 aD T 7 T.length ⟨[], []⟩ 0 0 st
 have hlike := qN (O := aD) (T := T) 7 0 T.length ⟨[], []⟩ 0 0 st
 have hst := mG (O := aD) (T := T) 7 0 T.length ⟨[], []⟩ ⟨[], []⟩ 0 0 st
 generalize bP aD T 7 T.length ⟨[], []⟩ 0 0 st = q7 at xp hl7 hn7 hlike hst
 generalize bP aD T 0 T.length ⟨[], []⟩ 0 0 st = q0 at xv hlike hst
 obtain ⟨v7, s7⟩ := q7
 obtain ⟨v0, s0⟩ := q0
 simp only [qqi] at xp xv hl7 hn7 hlike hst
 subst hst
 have xm := fun X lv iv w' (h : MS T X true lv iv s7 w') => YX h
 have HGD : Shut (∀ p, JA T s7 = .ok p -> v7 = v0) := fun p hp => hlike (by
  cases s7 with
  | ok p => rfl
  | bad e l c => exact absurd (show JA T (.bad e l c) = .bad e l c from rfl) (by rw [hp]; intro h; cases h))
 generalize JA T s7 = s9 at xp xm HGD
 have HL : Shut ((∀ x ∈ v7.evs, x.heads.length <= 1000000 /\ x.graces.length <= 1000000 /\ x.lyr.length <= 1000000) /\ v7.evs.length <= 1000000 /\ v7.tups.length <= 1000000) := ⟨fun x hx => by have := hl7 x hx; omega, by omega, by omega⟩
 clear hlike hl7 hn7 hsc hnd hmax
 go_enter Tryz.func4, Tryz.ntmps4
 go_wp2_with (go_at_call 6; (with_reducible refine xc.mono ?_); rintro r w' ⟨rfl, rfl⟩)
 refine xp.mono ?_
 rintro r w2 ⟨hres, b2⟩
 obtain ⟨B, y, a1, a2, c1, c2, cs, l, c, e, rfl, VR, hcase⟩ := hres.form
 have HC := aQ hcase
 clear hres hcase xp xc
 have bA := b2.alloc b2.size (.cells #[.slice a1 y.evs.length c1, .slice a2 y.tups.length c2] 48)
 have hA := qc w2 (.cells #[.slice a1 y.evs.length c1, .slice a2 y.tups.length c2] 48)
 have VR3 := VR.step ((qa w2.heap.size w2).alloc (qb _) (.cells #[.slice a1 y.evs.length c1, .slice a2 y.tups.length c2] 48))
 have gl3 := gl.stay bA
 have xo3 := xo (w2.alloc (.cells #[.slice a1 y.evs.length c1, .slice a2 y.tups.length c2] 48))
 clear VR b2 xo
 go_wp2_with (go_at_call 8; (with_reducible refine xo3.mono ?_))
 rintro r w4 ⟨X, lv, rfl, hX, b4, hS4⟩
 clear xo3
 have lA := aA hA
 generalize hW3 : w2.alloc (.cells #[.slice a1 y.evs.length c1, .slice a2 y.tups.length c2] 48) = W3 at b4 hX hA VR3 gl3 lA bA
 clear hW3
 generalize w2.heap.size = A at hA lA |-
 have hlX := hS4.lt
 have b4a := (qa w4.heap.size w4).alloc (qb _) (.cells #[.slice none 0 0, .slice none 0 0] 48)
 have hV4 := qc w4 (.cells #[.slice none 0 0, .slice none 0 0] 48)
 have sz4 : (w4.alloc (.cells #[.slice none 0 0, .slice none 0 0] 48)).heap.size = w4.heap.size + 1 := by simp
 have H4 : xJ W3 T X w4.heap.size (w4.heap.size + 1) lv (.slice none 0 0) (.slice none 0 0) (.slice none 0 0) [] ⟨[], []⟩ st (w4.alloc (.cells #[.slice none 0 0, .slice none 0 0] 48)) :=
  ⟨hS4.step b4a, ⟨gl3, b4.trans (b4a.mono b4.size), fun k hk => by
   rcases qqj.1 hk with h | h
   ·rw [h]; exact hX
   ·simp [Value.ownBlock] at h⟩, ⟨hV4, qqe _ _ _ _, qqe _ _ _ _, rfl, Nat.lt_succ_self _, qe sz4.symm⟩, by omega, by omega, b4.size⟩
 have xv4 := xv _ _ _ _ _ _ H4
 clear xv hS4 b4 b4a hV4 sz4 H4 hlX hX
 go_wp2_with (go_at_call 14; (with_reducible refine xv4.mono ?_))
 rintro r w5 ⟨rfl, iv', ev', tv', cs', H5, -⟩
 have xm5 := xm _ _ _ _ H5.ms
 clear xm xv4
 go_wp2_with (go_at_call 10; (with_reducible refine xm5.mono ?_))
 rintro r w6 ⟨rfl, hS6, a6⟩
 have H6 := H5.call1 hS6 a6
 clear xm5 H5 hS6 a6
 have xk := PJ w6
 go_wp2_with (go_at_call 11; (with_reducible refine xk.mono ?_))
 rintro r w7 ⟨rfl, b7⟩
 have H7 := H6.step b7
 clear H6 b7 xk
 have VR7 := VR3.step H7.bas.bel
 have hA7 := (H7.bas.bel.block _ lA).trans hA
 have HB := aQ (bA.trans (H7.bas.bel.mono bA.size))
 have hV7 := H7.vo.hV
 have VB7 := H7.vo.r
 have hS7 := H7.ms
 clear VR3 hA lA bA gl3 H7
 obtain ⟨d1, k1, rfl⟩ := bX VB7.oe
 obtain ⟨d2, k2, rfl⟩ := bX VB7.ot
 obtain ⟨l1, l2, l3⟩ := HL.out
 obtain ⟨p0, p1, f0, f1⟩ := aZ hA7
 obtain ⟨q0, q1, g0, g1⟩ := aZ hV7
 rcases HC.out with ⟨p, rfl, rfl, rfl, rfl, rfl⟩ | ⟨rfl, rfl⟩
 ·obtain rfl := HGD.out p rfl
  have xe := CX l2 l3 l1 VR7 VB7
  have c6 := hS7.okCell
  clear l1 l2 l3 VR7 VB7 hS7 hA7 hV7 HC HGD HL
  go_wp2_with (go_at_call 15; (with_reducible refine xe.mono ?_))
  rintro r w9 ⟨rfl, b9⟩
  go_wp2
  go_ret
  exact ⟨rfl, HB.out.trans (b9.mono HB.out.size)⟩
 ·obtain ⟨c6, c7, c8, he⟩ := hS7.errCells
  have xe := CX (c1' := 0) (c2' := 0) (by simp) (by simp) (by simp) VR7 (JH.nil 0 w7)
  simp only [qqi] at xe p0 p1
  clear l1 l2 l3 VR7 VB7 hS7 hA7 hV7 HC HGD HL
  go_wp2_with (go_at_call 15; (with_reducible refine xe.mono ?_))
  rintro r w9 ⟨rfl, b9⟩
  go_wp2
  go_ret
  exact ⟨rfl, HB.out.trans (b9.mono HB.out.size)⟩
open Go.ChangeShapes Go.WideShapes Go.ChangeAt Go.RowKit Go.Joins Go.Deep
def laid : List (String × DataW Unit) := Rows.parserEventsRow.laid
theorem xC {W : World} (hs : W.ShapedOpen Tryz.prog) {name : String} {g ty : Nat} {cs : Array Value} (hg : Tryz.prog.globalNamed name = some g) (hn : Nat.blt g Tryz.prog.globals.size = true)
  (hw : (((begin Tryz.prog (fun _ _ => 0) default).world.heap[g]?).bind Obj.row?).map (·.2) = some ty) (hv : W.var? Tryz.prog name = some cs) : W.heap[g]? = some (.cells cs ty (0, 0)) := by
 obtain ⟨zero, ty', hz, hty⟩ : ∃ zero ty', ((begin Tryz.prog (fun _ _ => 0) default).world.heap[g]?).bind Obj.row? = some (zero, ty') /\ ty' = ty := by
  cases hx : ((begin Tryz.prog (fun _ _ => 0) default).world.heap[g]?).bind Obj.row? with
  | none => rw [hx] at hw; cases hw
  | some x => rw [hx] at hw; exact ⟨x.1, x.2, rfl, qqz hw⟩
 subst hty
 obtain ⟨cs', hh, _, _⟩ := hs.1 g zero ty' (qqo hn) hz
 unfold World.var? at hv
 rw [hg] at hv
 simp only [Option.bind_some, hh, qm] at hv
 rw [hh, hv]
theorem g0 : Tryz.prog.globalNamed "strconv.ErrSyntax" = some 0 := by kernel_rfl
theorem g1 : Tryz.prog.globalNamed "strconv.ErrRange" = some 1 := by kernel_rfl
theorem b0 : Nat.blt 0 Tryz.prog.globals.size = true := by kernel_rfl
theorem b1 : Nat.blt 1 Tryz.prog.globals.size = true := by kernel_rfl
theorem w0 : (((begin Tryz.prog (fun _ _ => 0) default).world.heap[0]?).bind Obj.row?).map (·.2) = some 195 := by kernel_rfl
theorem w1 : (((begin Tryz.prog (fun _ _ => 0) default).world.heap[1]?).bind Obj.row?).map (·.2) = some 195 := by kernel_rfl
theorem t0 : (Tryz.prog.globals[0]?).map (·.type) = some 195 := by kernel_rfl
theorem t1 : (Tryz.prog.globals[1]?).map (·.type) = some 195 := by kernel_rfl
theorem ZX : Tryz.prog.underlying 195 = some (.interface #[("Error", 87)]) := by kernel_rfl
theorem ZY : Tryz.prog.underlying 308 = some (.pointer 310) := by kernel_rfl
def aAK : Field := { name := "s", type := 9, offset := 0, embedded := false, tag := "", pkgPath := "errors", byteOffset := 0 }
theorem ZZ : Tryz.prog.underlying 310 = some (.struct #[aAK]) := by kernel_rfl
theorem Z0 : Tryz.prog.cellsOf 310 = 1 := by kernel_rfl
theorem n9 : Tryz.prog.cellsOf 9 = 1 := by kernel_rfl
theorem v9 : Tryz.prog.underlying 9 = some .string := by kernel_rfl
theorem TJ (u : TypeId) (h : Tryz.prog.typeName? 3 u = some "*errors.errorString") : u = 308 :=
 typeName_ptr_named (nm := "errors.errorString") (by kernel_rfl) (by kernel_rfl) (by decide) u h
noncomputable def gp : Nat := (Tryz.prog.globalNamed "internal/strconv.uint64pow10").getD 0
theorem g2 : Tryz.prog.globalNamed "internal/strconv.uint64pow10" = some gp := by kernel_rfl
theorem t2 : (Tryz.prog.globals[gp]?).map (·.type) = some 317 := by kernel_rfl
theorem aAL : Tryz.prog.underlying 317 = some (.array 20 276) := by kernel_rfl
theorem aAM : Tryz.prog.underlying 276 = some (.int .u64) := by kernel_rfl
theorem aAN : Tryz.prog.cellsOf 276 = 1 := by kernel_rfl
theorem aAP : Tryz.prog.cellsOf 317 = 20 := by kernel_rfl
theorem YM : (Rows.laid_internal_strconv_uint64pow10 : DataW Unit) = Lib.tabData .u64 Lib.pow10Tab := by kernel_rfl
theorem WN {W : World} (hs : W.ShapedOpen Tryz.prog) (h : laidMetH Tryz.prog laid W) : FR W := by
 rw [MakeChecks.laidMetH_plain _ _ _ (by kernel_rfl)] at h
 have h2 : laidMet Tryz.prog [("internal/strconv.uint64pow10", Rows.laid_internal_strconv_uint64pow10), ("unicode/utf8.acceptRanges", Rows.laid_unicode_utf8_acceptRanges), ("strconv.ErrRange", Rows.laid_strconv_ErrRange), ("strconv.ErrSyntax", Rows.laid_strconv_ErrSyntax), ("unicode/utf8.first", Rows.laid_unicode_utf8_first)] W := laidMet.tail (laidMet.tail h)
 have h4 := laidMet.tail (laidMet.tail h2)
 have h5 := laidMet.tail h4
 rw [YM] at h2
 have q2 := Lib.tabIs_of_head g2 t2 aAL aAM aAN aAP h2
 obtain ⟨a, s, hv, _, _, _⟩ := laid_sentinel h4 g1 t1 ZX TJ ZY ZZ rfl rfl v9 Z0 n9
 obtain ⟨a', s', hv', _, _, _⟩ := laid_sentinel h5 g0 t0 ZX TJ ZY ZZ rfl rfl v9 Z0 n9
 have k0 := xC hs g0 b0 w0 hv'
 have k1 := xC hs g1 b1 w1 hv
 exact ⟨⟨_, by rw [Lib.cell_of_heap k0]; rfl, .inr ⟨_, _, rfl⟩⟩, ⟨_, by rw [Lib.cell_of_heap k1]; rfl, .inr ⟨_, _, rfl⟩⟩, q2⟩
theorem n8 {H : Type} {enc : TypeId × Value -> H} {a : Assume} {C : Checked} {os : Os} {f : FuncId} {fn : Func} {s : ChangeSpec} {conds : List PathCond} {apart fresh handsOn again : Bool} {X : World -> Array Value -> Prop}
  (hX : ∀ (w w' : World) (args : Array Value), w.heap = w'.heap -> X w args -> X w' args)
  (own : ownKnob C.prog.godebug = none) (started : os.Started) (noInit : C.prog.inits.idxOf? f = none) (hfn : C.prog.funcs[f]? = some fn)
  (witness : ∃ (w : World) (tape : Tape) (i : Input), w.os = os /\ (w.forCall tape i).Shaped C.prog /\ i.vars = [] /\ Input.okWide C.prog (w.forCall tape i) .any w.heap.size f i /\
   ((s.pre enc C.prog fn conds apart (w.forCall tape i).memory i.args /\ X (w.forCall tape i).memory i.args) /\ sizedMet enc C.prog fn (OpenSpec.ofChange s) apart (w.forCall tape i).memory i.args) /\ a.holds C.prog (lone (Frame.enter C.prog f i.args .normal) [] (w.forCall tape i)))
  (contract : ∀ (W : World) (base : Nat) (args : Array Value) (ds gs : List (DataW H)) (before : List MemPlace),
   W.ShapedOpen C.prog ->
   (∀ (j : Nat) t v, fn.params[j]? = some t -> args[j]? = some v -> Value.okWide C.prog W .any base t v) ->
   DataW.Whole enc C.prog fn.params.toList s.vars apart W args.toList ds gs before -> X W args ->
   Calls C.prog f args W fun e W' => ∃ v, e = .returned v /\ s.post enc C.prog fn apart fresh handsOn again W args v W') :
  ReturnsInHanded a C os f .any (fun w args => (s.pre enc C.prog fn conds apart w args /\ X w args) /\ sizedMet enc C.prog fn (OpenSpec.ofChange s) apart w args) (s.post enc C.prog fn apart fresh handsOn again) := by
 refine returnsInHanded_of_calls own started noInit witness ?_
 intro w tape i _ hsh _ hok hpre _
 obtain ⟨_, _, _, fn', hfn', _, _, _, _, hval⟩ := hok
 have e : fn' = fn := qqz (hfn'.symm.trans hfn)
 subst e
 obtain ⟨⟨⟨ds, gs, before, hw, _⟩, hx⟩, _⟩ := hpre
 have hw' := DataW.Whole.of_heap (w' := w.forCall tape i) (by rfl) hw
 refine (contract (w.forCall tape i) w.heap.size i.args ds gs before hsh hval hw' (hX _ _ _ (by rfl) hx)).mono fun e W' ⟨v, he, hp⟩ => ?_
 subst he
 exact ChangeSpec.post_blind hp
theorem own : ownKnob Tryz.prog.godebug = none := by kernel_rfl
theorem v4 : Tryz.prog.underlying 4 = some .bool := by kernel_rfl
theorem U9 (os : Os) (args : Array Value) : laidMetH Tryz.prog laid ((World.laidAll Tryz.prog os laid).forCall (fun _ _ => 0) ⟨#[], args, []⟩).memory := by
 rw [MakeChecks.laidMetH_plain _ _ _ (by kernel_rfl)]
 exact laidMet_laidAll _ (by kernel_rfl) (by kernel_rfl)
section
variable {H : Type} {enc : TypeId × Value -> H} {P : Program} {w : World} {base : Nat} {spare : Nat -> Bool} {held : Bool}
theorem VA {r : Reach} {b0 : Nat} {t : TypeId} {v : Value} {d : DataW H} {ps : List MemPlace} (ht : P.underlying t = some .string) (hval : Value.okWide P w r b0 t v) (hd : DataW.Trod enc P w base spare held t v d ps) :
  ∃ s, v = .string s /\ d = .lit (.string s.data.toList) /\ ps = [] /\ s.size <= maxLen := by
 obtain ⟨s, rfl⟩ := okWide_string ht hval
 obtain ⟨fuel, hf⟩ := hd
 obtain ⟨s', h, hx, hw⟩ := DataW.trod_string ht hf
 simp [Value.cells] at h
 subst h
 simp only [qz] at hx
 exact ⟨s, rfl, hx.1, hx.2, hw⟩
theorem VB {t : TypeId} {s : ByteArray} (ht : P.underlying t = some .string) (hw : s.size <= maxLen) : DataW.Trod enc P w base spare held t (.string s) (.lit (.string s.data.toList)) [] :=
 ⟨1, by simp [DataW.trod, Value.cells, ht, hw]⟩
end
end Go.Proofs.YtgkhemnmcgicnaaGreatDoor
