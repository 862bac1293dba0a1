/- Towards the law ParserEvents, true for every text (no condition): one part of the proof. -/
import Derived.Test.YtgkhemnmcgicnaaGreatDoorRows
import Derived.Test.YtgkhemnmcgicnaaGreatDoorG21
import Derived.LaidMore
import Derived.Stop.LaidErr
import Derived.Lib.LaidTab
import Derived.Lay
import Derived.Test.YtgkhemnmcgicnaaGreatDoorTie
import Derived.ProofKit
import Derived.OpenShut
import Derived.Stop.Joined
import Derived.Lib.SmallJoins
import Derived.SevenTiedAt
import Derived.Test.YtgkhemnmcgicnaaGreatDoorCards
namespace Go.Proofs.YtgkhemnmcgicnaaGreatDoor
open Go.ChangeShapes Go.WideShapes Go.ChangeAt Go.RowKit Go.Joins Go.Deep
def laid : List (String × DataW Unit) := Rows.parserEventsRow.laid
theorem block_of_var {W : World} (hs : W.ShapedOpen Tryz.prog) {name : String} {g ty : Nat} {cs : Array Value} (hg : Tryz.prog.globalNamed name = some g) (hn : Nat.blt g Tryz.prog.globals.size = true)
  (hw : (((begin Tryz.prog (fun _ _ => 0) default).world.heap[g]?).bind Obj.row?).map (·.2) = some ty) (hv : W.var? Tryz.prog name = some cs) : W.heap[g]? = some (.cells cs ty (0, 0)) := by
 obtain ⟨zero, ty', hz, hty⟩ : ∃ zero ty', ((begin Tryz.prog (fun _ _ => 0) default).world.heap[g]?).bind Obj.row? = some (zero, ty') /\ ty' = ty := by
  cases hx : ((begin Tryz.prog (fun _ _ => 0) default).world.heap[g]?).bind Obj.row? with
  | none => rw [hx] at hw; cases hw
  | some x => rw [hx] at hw; exact ⟨x.1, x.2, rfl, Option.some.inj hw⟩
 subst hty
 obtain ⟨cs', hh, _, _⟩ := hs.1 g zero ty' (Nat.le_of_ble_eq_true hn) hz
 unfold World.var? at hv
 rw [hg] at hv
 simp only [Option.bind_some, hh, Option.some.injEq] at hv
 rw [hh, hv]
theorem g0 : Tryz.prog.globalNamed "strconv.ErrSyntax" = some 0 := by kernel_rfl
theorem g1 : Tryz.prog.globalNamed "strconv.ErrRange" = some 1 := by kernel_rfl
theorem b0 : Nat.blt 0 Tryz.prog.globals.size = true := by kernel_rfl
theorem b1 : Nat.blt 1 Tryz.prog.globals.size = true := by kernel_rfl
theorem w0 : (((begin Tryz.prog (fun _ _ => 0) default).world.heap[0]?).bind Obj.row?).map (·.2) = some 195 := by kernel_rfl
theorem w1 : (((begin Tryz.prog (fun _ _ => 0) default).world.heap[1]?).bind Obj.row?).map (·.2) = some 195 := by kernel_rfl
theorem t0 : (Tryz.prog.globals[0]?).map (·.type) = some 195 := by kernel_rfl
theorem t1 : (Tryz.prog.globals[1]?).map (·.type) = some 195 := by kernel_rfl
theorem u195 : Tryz.prog.underlying 195 = some (.interface #[("Error", 87)]) := by kernel_rfl
theorem u308 : Tryz.prog.underlying 308 = some (.pointer 310) := by kernel_rfl
def fErr : Field := { name := "s", type := 9, offset := 0, embedded := false, tag := "", pkgPath := "errors", byteOffset := 0 }
theorem u310 : Tryz.prog.underlying 310 = some (.struct #[fErr]) := by kernel_rfl
theorem c310 : Tryz.prog.cellsOf 310 = 1 := by kernel_rfl
theorem n9 : Tryz.prog.cellsOf 9 = 1 := by kernel_rfl
theorem v9 : Tryz.prog.underlying 9 = some .string := by kernel_rfl
theorem row308 (u : TypeId) (h : Tryz.prog.typeName? 3 u = some "*errors.errorString") : u = 308 :=
 typeName_ptr_named (nm := "errors.errorString") (by kernel_rfl) (by kernel_rfl) (by decide) u h
noncomputable def gp : Nat := (Tryz.prog.globalNamed "internal/strconv.uint64pow10").getD 0
theorem g2 : Tryz.prog.globalNamed "internal/strconv.uint64pow10" = some gp := by kernel_rfl
theorem t2 : (Tryz.prog.globals[gp]?).map (·.type) = some 317 := by kernel_rfl
theorem u317 : Tryz.prog.underlying 317 = some (.array 20 276) := by kernel_rfl
theorem u276 : Tryz.prog.underlying 276 = some (.int .u64) := by kernel_rfl
theorem c276 : Tryz.prog.cellsOf 276 = 1 := by kernel_rfl
theorem c317 : Tryz.prog.cellsOf 317 = 20 := by kernel_rfl
theorem pow_eq : (Rows.laid_internal_strconv_uint64pow10 : DataW Unit) = Lib.tabData .u64 Lib.pow10Tab := by kernel_rfl
theorem of_laid {W : World} (hs : W.ShapedOpen Tryz.prog) (h : laidMetH Tryz.prog laid W) : Glo W := by
 rw [MakeChecks.laidMetH_plain _ _ _ (by kernel_rfl)] at h
 have h2 : laidMet Tryz.prog [("internal/strconv.uint64pow10", Rows.laid_internal_strconv_uint64pow10), ("unicode/utf8.acceptRanges", Rows.laid_unicode_utf8_acceptRanges), ("strconv.ErrRange", Rows.laid_strconv_ErrRange), ("strconv.ErrSyntax", Rows.laid_strconv_ErrSyntax), ("unicode/utf8.first", Rows.laid_unicode_utf8_first)] W := laidMet.tail (laidMet.tail h)
 have h4 := laidMet.tail (laidMet.tail h2)
 have h5 := laidMet.tail h4
 rw [pow_eq] at h2
 have q2 := Lib.tabIs_of_head g2 t2 u317 u276 c276 c317 h2
 obtain ⟨a, s, hv, _, _, _⟩ := laid_sentinel h4 g1 t1 u195 row308 u308 u310 rfl rfl v9 c310 n9
 obtain ⟨a', s', hv', _, _, _⟩ := laid_sentinel h5 g0 t0 u195 row308 u308 u310 rfl rfl v9 c310 n9
 have k0 := block_of_var hs g0 b0 w0 hv'
 have k1 := block_of_var hs g1 b1 w1 hv
 exact ⟨⟨_, by rw [Lib.cell_of_heap k0]; rfl, .inr ⟨_, _, rfl⟩⟩, ⟨_, by rw [Lib.cell_of_heap k1]; rfl, .inr ⟨_, _, rfl⟩⟩, q2⟩
theorem returnsInHanded_of_shaped {H : Type} {enc : TypeId × Value -> H} {a : Assume} {C : Checked} {os : Os} {f : FuncId} {fn : Func} {s : ChangeSpec} {conds : List PathCond} {apart fresh handsOn again : Bool} {X : World -> Array Value -> Prop}
  (hX : ∀ (w w' : World) (args : Array Value), w.heap = w'.heap -> X w args -> X w' args)
  (own : ownKnob C.prog.godebug = none) (started : os.Started) (noInit : C.prog.inits.idxOf? f = none) (hfn : C.prog.funcs[f]? = some fn)
  (witness : ∃ (w : World) (tape : Tape) (i : Input), w.os = os /\ (w.forCall tape i).Shaped C.prog /\ i.vars = [] /\ Input.okWide C.prog (w.forCall tape i) .any w.heap.size f i /\
   ((s.pre enc C.prog fn conds apart (w.forCall tape i).memory i.args /\ X (w.forCall tape i).memory i.args) /\ sizedMet enc C.prog fn (OpenSpec.ofChange s) apart (w.forCall tape i).memory i.args) /\ a.holds C.prog (lone (Frame.enter C.prog f i.args .normal) [] (w.forCall tape i)))
  (contract : ∀ (W : World) (base : Nat) (args : Array Value) (ds gs : List (DataW H)) (before : List MemPlace),
   W.ShapedOpen C.prog ->
   (∀ (j : Nat) t v, fn.params[j]? = some t -> args[j]? = some v -> Value.okWide C.prog W .any base t v) ->
   DataW.Whole enc C.prog fn.params.toList s.vars apart W args.toList ds gs before -> X W args ->
   Calls C.prog f args W fun e W' => ∃ v, e = .returned v /\ s.post enc C.prog fn apart fresh handsOn again W args v W') :
  ReturnsInHanded a C os f .any (fun w args => (s.pre enc C.prog fn conds apart w args /\ X w args) /\ sizedMet enc C.prog fn (OpenSpec.ofChange s) apart w args) (s.post enc C.prog fn apart fresh handsOn again) := by
 refine returnsInHanded_of_calls own started noInit witness ?_
 intro w tape i _ hsh _ hok hpre _
 obtain ⟨_, _, _, fn', hfn', _, _, _, _, hval⟩ := hok
 have e : fn' = fn := Option.some.inj (hfn'.symm.trans hfn)
 subst e
 obtain ⟨⟨⟨ds, gs, before, hw, _⟩, hx⟩, _⟩ := hpre
 have hw' := DataW.Whole.of_heap (w' := w.forCall tape i) (by rfl) hw
 refine (contract (w.forCall tape i) w.heap.size i.args ds gs before hsh hval hw' (hX _ _ _ (by rfl) hx)).mono fun e W' ⟨v, he, hp⟩ => ?_
 subst he
 exact ChangeSpec.post_blind hp
theorem own : ownKnob Tryz.prog.godebug = none := by kernel_rfl
theorem v4 : Tryz.prog.underlying 4 = some .bool := by kernel_rfl
theorem door_met (os : Os) (args : Array Value) : laidMetH Tryz.prog laid ((World.laidAll Tryz.prog os laid).forCall (fun _ _ => 0) ⟨#[], args, []⟩).memory := by
 rw [MakeChecks.laidMetH_plain _ _ _ (by kernel_rfl)]
 exact laidMet_laidAll _ (by kernel_rfl) (by kernel_rfl)
section
variable {H : Type} {enc : TypeId × Value -> H} {P : Program} {w : World} {base : Nat} {spare : Nat -> Bool} {held : Bool}
theorem open_str {r : Reach} {b0 : Nat} {t : TypeId} {v : Value} {d : DataW H} {ps : List MemPlace} (ht : P.underlying t = some .string) (hval : Value.okWide P w r b0 t v) (hd : DataW.Trod enc P w base spare held t v d ps) :
  ∃ s, v = .string s /\ d = .lit (.string s.data.toList) /\ ps = [] /\ s.size <= maxLen := by
 obtain ⟨s, rfl⟩ := okWide_string ht hval
 obtain ⟨fuel, hf⟩ := hd
 obtain ⟨s', h, hx, hw⟩ := DataW.trod_string ht hf
 simp [Value.cells] at h
 subst h
 simp only [Prod.mk.injEq] at hx
 exact ⟨s, rfl, hx.1, hx.2, hw⟩
theorem shut_str {t : TypeId} {s : ByteArray} (ht : P.underlying t = some .string) (hw : s.size <= maxLen) : DataW.Trod enc P w base spare held t (.string s) (.lit (.string s.data.toList)) [] :=
 ⟨1, by simp [DataW.trod, Value.cells, ht, hw]⟩
end
end Go.Proofs.YtgkhemnmcgicnaaGreatDoor
