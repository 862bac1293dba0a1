/-
  The law InterchangeTexts (chapter 22) returns true for every loss, and its argument reads as before: the row, and its card.
-/
import Derived.Test.YtionfcmmfbecfaaGreatDoorRows
import Derived.Test.YtionfcmmfbecfaaGreatDoorTie
import Derived.Test.YtionfcmmfbecfaaGreatDoorTop
import Derived.Test.YtionfcmmfbecfaaGreatDoorClo
import Derived.ProofKit
import Derived.LaidMore
import Derived.OpenShut
import Derived.Stop.Joined
import Derived.Stop.LaidErr
import Derived.Lib.SmallJoins
import Derived.Lib.LaidTab
import Derived.Deep.Strs
import Derived.SevenTiedAt
import Derived.Lay
import Derived.Test.YtionfcmmfbecfaaGreatDoorCards
namespace Go.Proofs.YtionfcmmfbecfaaGreatDoor
open Go.ChangeShapes Go.WideShapes Go.ChangeAt Go.RowKit Go.Joins Go.Deep

/-- As 'returnsInHanded_of_change_and', but the contract is also handed the shape of the world at the start. -/
theorem returnsInHanded_of_shaped {H : Type} {enc : TypeId × Value → H} {a : Assume} {C : Checked} {os : Os} {f : FuncId} {fn : Func} {s : ChangeSpec} {conds : List PathCond} {apart fresh handsOn again : Bool} {X : World → Array Value → Prop}
    (hX : ∀ (w w' : World) (args : Array Value), w.heap = w'.heap → X w args → X w' args)
    (own : ownKnob C.prog.godebug = none) (started : os.Started) (noInit : C.prog.inits.idxOf? f = none) (hfn : C.prog.funcs[f]? = some fn)
    (witness : ∃ (w : World) (tape : Tape) (i : Input), w.os = os ∧ (w.forCall tape i).Shaped C.prog ∧ i.vars = [] ∧ Input.okWide C.prog (w.forCall tape i) .any w.heap.size f i ∧
      ((s.pre enc C.prog fn conds apart (w.forCall tape i).memory i.args ∧ X (w.forCall tape i).memory i.args) ∧ sizedMet enc C.prog fn (OpenSpec.ofChange s) apart (w.forCall tape i).memory i.args) ∧ a.holds C.prog (lone (Frame.enter C.prog f i.args .normal) [] (w.forCall tape i)))
    (contract : ∀ (W : World) (base : Nat) (args : Array Value) (ds gs : List (DataW H)) (before : List MemPlace),
      W.ShapedOpen C.prog →
      (∀ (j : Nat) t v, fn.params[j]? = some t → args[j]? = some v → Value.okWide C.prog W .any base t v) →
      DataW.Whole enc C.prog fn.params.toList s.vars apart W args.toList ds gs before → X W args →
      Calls C.prog f args W fun e W' => ∃ v, e = .returned v ∧ s.post enc C.prog fn apart fresh handsOn again W args v W') :
    ReturnsInHanded a C os f .any (fun w args => (s.pre enc C.prog fn conds apart w args ∧ X w args) ∧ sizedMet enc C.prog fn (OpenSpec.ofChange s) apart w args) (s.post enc C.prog fn apart fresh handsOn again) := by
  refine returnsInHanded_of_calls own started noInit witness ?_
  intro w tape i _ hsh _ hok hpre _
  obtain ⟨_, _, _, fn', hfn', _, _, _, _, hval⟩ := hok
  have e : fn' = fn := Option.some.inj (hfn'.symm.trans hfn)
  subst e
  obtain ⟨⟨⟨ds, gs, before, hw, _⟩, hx⟩, _⟩ := hpre
  have hw' := DataW.Whole.of_heap (w' := w.forCall tape i) (by rfl) hw
  refine (contract (w.forCall tape i) w.heap.size i.args ds gs before hsh hval hw' (hX _ _ _ (by rfl) hx)).mono fun e W' ⟨v, he, hp⟩ => ?_
  subst he
  exact ChangeSpec.post_blind hp

theorem own : ownKnob Tryz.prog.godebug = none := by kernel_rfl
theorem cells25 : Tryz.prog.cellsOf 25 = 4 := by kernel_rfl
theorem cells23 : Tryz.prog.cellsOf 23 = 2 := by kernel_rfl
theorem cells3 : Tryz.prog.cellsOf 3 = 1 := by kernel_rfl
theorem cells9 : Tryz.prog.cellsOf 9 = 1 := by kernel_rfl
def fKind : Field := { name := "Kind", type := 3, offset := 0, embedded := false, tag := "", pkgPath := "", byteOffset := 0 }
def fObject : Field := { name := "Object", type := 23, offset := 1, embedded := false, tag := "", pkgPath := "", byteOffset := 8 }
def fField : Field := { name := "Field", type := 9, offset := 3, embedded := false, tag := "", pkgPath := "", byteOffset := 24 }
def fSite : Field := { name := "Site", type := 3, offset := 0, embedded := false, tag := "", pkgPath := "", byteOffset := 0 }
def fNumber : Field := { name := "Number", type := 3, offset := 1, embedded := false, tag := "", pkgPath := "", byteOffset := 8 }
theorem u25 : Tryz.prog.underlying 25 = some (.struct #[fKind, fObject, fField]) := by kernel_rfl
theorem u23 : Tryz.prog.underlying 23 = some (.struct #[fSite, fNumber]) := by kernel_rfl
theorem u3 : Tryz.prog.underlying 3 = some (.int .i64) := by kernel_rfl
theorem u9 : Tryz.prog.underlying 9 = some .string := by kernel_rfl
theorem u4 : Tryz.prog.underlying 4 = some .bool := by kernel_rfl

section
variable {H : Type} {enc : TypeId × Value → H} {P : Program} {w : World} {base : Nat} {spare : Nat → Bool} {held : Bool}
theorem id_open (c3 : P.cellsOf 3 = 1) (p3 : P.underlying 3 = some (.int .i64)) (p23 : P.underlying 23 = some (.struct #[fSite, fNumber])) {n : Nat} {a b : Value} {y : DataW H × List MemPlace} (h : DataW.trod enc P w base spare held n 23 [a, b] = some y) :
    ∃ (i j : Int), a = .int .i64 i ∧ b = .int .i64 j ∧ y = (.agg [.lit (.int .i64 i), .lit (.int .i64 j)], []) ∧ (Lit.int .i64 i).wf = true ∧ (Lit.int .i64 j).wf = true := by
  obtain ⟨y0, y1, m, hx, _, h0, h1⟩ := trod_struct2 p23 h
  have h0' : DataW.trod enc P w base spare held m 3 [a] = some y0 := by
    have := h0
    rw [show P.cellsOf fSite.type = 1 from c3] at this
    exact this
  have h1' : DataW.trod enc P w base spare held m 3 [b] = some y1 := by
    have := h1
    rw [show P.cellsOf fNumber.type = 1 from c3] at this
    exact this
  obtain ⟨i, e0, rfl, w0⟩ := DataW.trod_int p3 h0'
  obtain ⟨j, e1, rfl, w1⟩ := DataW.trod_int p3 h1'
  simp at e0 e1
  exact ⟨i, j, e0, e1, by simpa using hx, w0, w1⟩

theorem loss_open (c3 : P.cellsOf 3 = 1) (c9 : P.cellsOf 9 = 1) (c23 : P.cellsOf 23 = 2) (c25 : P.cellsOf 25 = 4) (p3 : P.underlying 3 = some (.int .i64)) (p9 : P.underlying 9 = some .string) (p23 : P.underlying 23 = some (.struct #[fSite, fNumber])) (p25 : P.underlying 25 = some (.struct #[fKind, fObject, fField]))
    {r : Reach} {b0 : Nat} {v : Value} {d : DataW H} {p : List MemPlace} (hv : Value.okWide P w r b0 25 v) (h : DataW.Trod enc P w base spare held 25 v d p) :
    ∃ (k i j : Int) (f : ByteArray), v = .agg #[.int .i64 k, .int .i64 i, .int .i64 j, .string f] ∧ d = .agg [.lit (.int .i64 k), .agg [.lit (.int .i64 i), .lit (.int .i64 j)], .lit (.string f.data.toList)] ∧ p = [] ∧
      (Lit.int .i64 k).wf = true ∧ (Lit.int .i64 i).wf = true ∧ (Lit.int .i64 j).wf = true ∧ f.size ≤ maxLen := by
  obtain ⟨cs, rfl, hsz⟩ := okWide_struct p25 hv
  obtain ⟨c0, c1, c2, c3v, rfl⟩ := array4 (hsz.trans c25)
  obtain ⟨fuel, hf⟩ := h
  obtain ⟨y0, y1, y2, n, hx, _, h0, h1, h2⟩ := trod_struct3 p25 hf
  have h0' : DataW.trod enc P w base spare held n 3 [c0] = some y0 := by
    have := h0
    rw [show P.cellsOf fKind.type = 1 from c3] at this
    exact this
  have h1' : DataW.trod enc P w base spare held n 23 [c1, c2] = some y1 := by
    have := h1
    rw [show P.cellsOf fObject.type = 2 from c23] at this
    exact this
  have h2' : DataW.trod enc P w base spare held n 9 [c3v] = some y2 := by
    have := h2
    rw [show P.cellsOf fField.type = 1 from c9] at this
    exact this
  obtain ⟨k, e0, rfl, w0⟩ := DataW.trod_int p3 h0'
  obtain ⟨i, j, rfl, rfl, rfl, w1, w2⟩ := id_open c3 p3 p23 h1'
  obtain ⟨f, e3, rfl, w3⟩ := DataW.trod_string p9 h2'
  simp at e0 e3
  subst e0 e3
  simp only [Prod.mk.injEq, List.append_nil] at hx
  exact ⟨k, i, j, f, rfl, hx.1, hx.2, w0, w1, w2, w3⟩

theorem loss_shut (c3 : P.cellsOf 3 = 1) (c9 : P.cellsOf 9 = 1) (c23 : P.cellsOf 23 = 2) (c25 : P.cellsOf 25 = 4) (p3 : P.underlying 3 = some (.int .i64)) (p9 : P.underlying 9 = some .string) (p23 : P.underlying 23 = some (.struct #[fSite, fNumber])) (p25 : P.underlying 25 = some (.struct #[fKind, fObject, fField]))
    {k i j : Int} {f : ByteArray} (w0 : (Lit.int .i64 k).wf = true) (w1 : (Lit.int .i64 i).wf = true) (w2 : (Lit.int .i64 j).wf = true) (w3 : f.size ≤ maxLen) :
    DataW.Trod enc P w base spare held 25 (.agg #[.int .i64 k, .int .i64 i, .int .i64 j, .string f]) (.agg [.lit (.int .i64 k), .agg [.lit (.int .i64 i), .lit (.int .i64 j)], .lit (.string f.data.toList)]) [] := by
  have hi : ∀ (z : Int), (Lit.int .i64 z).wf = true → ∀ n, DataW.trod enc P w base spare held (n + 1) 3 [.int .i64 z] = some (.lit (.int .i64 z), []) := fun z hz n => by simp [DataW.trod, p3, hz]
  have hs : ∀ n, DataW.trod enc P w base spare held (n + 1) 9 [.string f] = some (.lit (.string f.data.toList), []) := fun n => by simp [DataW.trod, p9, w3]
  have h2 : DataW.trod enc P w base spare held 2 23 [.int .i64 i, .int .i64 j] = some (.agg [.lit (.int .i64 i), .lit (.int .i64 j)], []) := by
    have := trod_struct2_mk (enc := enc) (P := P) (w := w) (base := base) (spare := spare) (held := held) (n := 1) (t := 23) (cs := [.int .i64 i, .int .i64 j]) (y0 := (.lit (.int .i64 i), [])) (y1 := (.lit (.int .i64 j), [])) p23 (by rw [c23]; rfl)
      (by rw [show P.cellsOf fSite.type = 1 from c3]; exact hi i w1 0) (by rw [show P.cellsOf fNumber.type = 1 from c3]; exact hi j w2 0)
    simpa using this
  have h3 := trod_struct3_mk (enc := enc) (P := P) (w := w) (base := base) (spare := spare) (held := held) (n := 2) (t := 25) (cs := [.int .i64 k, .int .i64 i, .int .i64 j, .string f]) (y0 := (.lit (.int .i64 k), [])) (y1 := (.agg [.lit (.int .i64 i), .lit (.int .i64 j)], [])) (y2 := (.lit (.string f.data.toList), [])) p25 (by rw [c25]; rfl)
      (by rw [show P.cellsOf fKind.type = 1 from c3]; exact hi k w0 1) (by rw [show P.cellsOf fObject.type = 2 from c23]; exact h2) (by rw [show P.cellsOf fField.type = 1 from c9]; exact hs 1)
  exact ⟨_, by simpa [Value.cells] using h3⟩
end

theorem i64_of_wf {z : Int} (h : (Lit.int .i64 z).wf = true) : z ≤ 9223372036854775807 := by
  simp only [Lit.wf, Bool.and_eq_true, decide_eq_true_eq] at h
  have e2 : IntKind.i64.max = 9223372036854775807 := by rfl
  rw [e2] at h
  omega

def laid : List (String × DataW Unit) := Rows.interchangeTextsRow.laid
theorem tab_eq : (Rows.laid_internal_strconv_uint64pow10 : DataW Unit) = Lib.tabData .u64 Lib.pow10Tab := by kernel_rfl
theorem gTab : Tryz.prog.globalNamed "internal/strconv.uint64pow10" = some 0 := by kernel_rfl
theorem tTab : (Tryz.prog.globals[0]?).map (·.type) = some 281 := by kernel_rfl
theorem uTab : Tryz.prog.underlying 281 = some (.array 20 185) := by kernel_rfl
theorem u185 : Tryz.prog.underlying 185 = some (.int .u64) := by kernel_rfl
theorem c185 : Tryz.prog.cellsOf 185 = 1 := by kernel_rfl
theorem c281 : Tryz.prog.cellsOf 281 = 20 := by kernel_rfl

/-- What the condition gives the walk: the table of powers. -/
theorem of_laid {W : World} (h : laidMetH Tryz.prog laid W) : TabW W := by
  rw [MakeChecks.laidMetH_plain _ _ _ (by kernel_rfl)] at h
  have h1 : laidMet Tryz.prog (("internal/strconv.uint64pow10", Rows.laid_internal_strconv_uint64pow10) :: [("strconv.ErrRange", Rows.laid_strconv_ErrRange), ("strconv.ErrSyntax", Rows.laid_strconv_ErrSyntax)]) W := laidMet.tail (laidMet.tail h)
  rw [tab_eq] at h1
  exact Lib.tabIs_of_head gTab tTab uTab u185 c185 c281 h1

/-- The listed variables, laid. -/
theorem door_met (os : Os) (args : Array Value) : laidMetH Tryz.prog laid ((World.laidAll Tryz.prog os laid).forCall (fun _ _ => 0) ⟨#[], args, []⟩).memory := by
  rw [MakeChecks.laidMetH_plain _ _ _ (by kernel_rfl)]
  exact laidMet_laidAll _ (by kernel_rfl) (by kernel_rfl)

set_option maxRecDepth 100000 in
theorem lifted (os : Os) (started : os.Started) (H : Type) (enc : TypeId × Value → H) :
    ReturnsInHanded {} Tryz.checked os 3 .any (fun w args => (Rows.interchangeTextsSpec.pre enc Tryz.prog Tryz.f3 [] false w args ∧ laidMetH Tryz.prog laid w) ∧ sizedMet enc Tryz.prog Tryz.f3 (OpenSpec.ofChange Rows.interchangeTextsSpec) false w args)
      (Rows.interchangeTextsSpec.post enc Tryz.prog Tryz.f3 false true false false) := by
  refine returnsInHanded_of_shaped (C := Tryz.checked) (X := fun w _ => laidMetH Tryz.prog laid w) (fun _ _ _ hh h => h.of_heap hh) own started (by kernel_rfl) Tryz.func3
    (ChangeSpec.witness_shaped (enc := enc) (C := Tryz.checked) (os := os) (X := fun w _ => laidMetH Tryz.prog laid w) false (World.laidAll Tryz.prog os laid) #[.agg #[.int .i64 0, .int .i64 0, .int .i64 0, .string ⟨#[]⟩]] 8 (World.laidAll_os _ _ _) (World.shaped_of_ZipB (by kernel_rfl) (by kernel_rfl)) (by kernel_rfl) (by kernel_rfl) (by kernel_rfl) (door_met os _)) ?_
  intro W base args ds gs before hsh hval0 hW hL
  have hval : ∀ (j : Nat) t v, Tryz.f3.params[j]? = some t → args[j]? = some v → Value.okWide Tryz.prog W .any base t v := hval0
  have hW' := hW
  obtain ⟨p, q, hA0, hV, rfl, _, _⟩ := hW
  have hA : DataW.TrodAll enc Tryz.prog W 0 (fun _ => true) true Tryz.f3.params.toList args.toList ds p := hA0
  rw [Tryz.params3] at hA hval
  obtain ⟨v0, d0, rfl, rfl, h0⟩ := trodAll_one hA
  obtain ⟨rfl, rfl⟩ := trodVars_none hV
  obtain ⟨k, i, j, f, rfl, rfl, rfl, w0, w1, w2, w3⟩ := loss_open cells3 cells9 cells23 cells25 u3 u9 u23 u25 (hval 0 25 v0 rfl rfl) h0
  clear hA0 hval0
  simp only [List.append_nil] at hW'
  refine (top_walk k i j f (i64_of_wf w1) (i64_of_wf w2) W (of_laid hL)).mono fun e W' ⟨he, hb⟩ => ?_
  subst he
  refine ⟨_, rfl, _, _, _, [], [], [], hW', ?_, ?_, ?_, hb.frame _, fun h => by cases h⟩
  · exact trodAll_mk1 (shut_bool u4 true)
  · exact trodAll_mk1 (loss_shut cells3 cells9 cells23 cells25 u3 u9 u23 u25 w0 w1 w2 w3)
  · rfl

theorem interchangeTexts_row : Rows.InterchangeTextsSaid :=
  OpenClaim.holds_of_wide 3 Tryz.f3 rfl rfl rfl rfl rfl rfl rfl ⟨rfl, rfl, rfl, rfl, rfl⟩ rfl rfl rfl rfl rfl (by kernel_rfl) Tryz.func3 closed_ok
    (of_decide_eq_true (by kernel_rfl)) (by unfold Func.isWrapper; first | (rw [if_pos (by decide +kernel)]; kernel_rfl) | (rw [if_neg (by decide +kernel)]; exact ⟨rfl, rfl⟩))
    (fun os started H enc _ => lifted os started H enc)

end Go.Proofs.YtionfcmmfbecfaaGreatDoor
