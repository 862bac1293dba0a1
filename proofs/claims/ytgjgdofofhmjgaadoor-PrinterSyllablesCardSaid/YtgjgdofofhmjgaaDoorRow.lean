/-
  Proved here: for every syllable, the law PrinterSyllables (chapter 20) returns true and leaves its argument as it was (theorem printerSyllables_holds; the tied card).
  Conditions: none beyond the card's own (the listed package variables start as the program's text lays them).
-/
import Derived.Test.YtgjgdofofhmjgaaDoorRows
import Derived.Test.YtgjgdofofhmjgaaDoorTie
import Derived.Test.YtgjgdofofhmjgaaDoorTop
import Derived.ProofKit
import Derived.LaidMore
import Derived.OpenShut
import Derived.Stop.Joined
import Derived.Lib.SmallJoins
import Derived.SevenTiedAt
import Derived.Test.YtgjgdofofhmjgaaDoorCards
namespace Go.Proofs.YtgjgdofofhmjgaaDoor
open Go.ChangeShapes Go.WideShapes Go.ChangeAt Go.RowKit Go.Joins

/-- As 'returnsInHanded_of_change_and', but the contract is also handed the shape of the world at the start. -/
theorem returnsInHanded_of_shaped {H : Type} {enc : TypeId × Value → H} {a : Assume} {C : Checked} {os : Os} {f : FuncId} {fn : Func} {s : ChangeSpec} {conds : List PathCond} {apart fresh handsOn again : Bool} {X : World → Array Value → Prop}
    (hX : ∀ (w w' : World) (args : Array Value), w.heap = w'.heap → X w args → X w' args)
    (own : ownKnob C.prog.godebug = none) (started : os.Started) (noInit : C.prog.inits.idxOf? f = none) (hfn : C.prog.funcs[f]? = some fn)
    (witness : ∃ (w : World) (tape : Tape) (i : Input), w.os = os ∧ (w.forCall tape i).Shaped C.prog ∧ i.vars = [] ∧ Input.okWide C.prog (w.forCall tape i) .any w.heap.size f i ∧
      ((s.pre enc C.prog fn conds apart (w.forCall tape i).memory i.args ∧ X (w.forCall tape i).memory i.args) ∧ sizedMet enc C.prog fn (OpenSpec.ofChange s) apart (w.forCall tape i).memory i.args) ∧ a.holds C.prog (lone (Frame.enter C.prog f i.args .normal) [] (w.forCall tape i)))
    (contract : ∀ (W : World) (base : Nat) (args : Array Value) (ds gs : List (DataW H)) (before : List MemPlace),
      W.ShapedOpen C.prog →
      (∀ (j : Nat) t v, fn.params[j]? = some t → args[j]? = some v → Value.okWide C.prog W .any base t v) →
      DataW.Whole enc C.prog fn.params.toList s.vars apart W args.toList ds gs before → X W args →
      Calls C.prog f args W fun e W' => ∃ v, e = .returned v ∧ s.post enc C.prog fn apart fresh handsOn again W args v W') :
    ReturnsInHanded a C os f .any (fun w args => (s.pre enc C.prog fn conds apart w args ∧ X w args) ∧ sizedMet enc C.prog fn (OpenSpec.ofChange s) apart w args) (s.post enc C.prog fn apart fresh handsOn again) := by
  refine returnsInHanded_of_calls own started noInit witness ?_
  intro w tape i _ hsh _ hok hpre _
  obtain ⟨_, _, _, fn', hfn', _, _, _, _, hval⟩ := hok
  have e : fn' = fn := Option.some.inj (hfn'.symm.trans hfn)
  subst e
  obtain ⟨⟨⟨ds, gs, before, hw, _⟩, hx⟩, _⟩ := hpre
  have hw' := DataW.Whole.of_heap (w' := w.forCall tape i) (by rfl) hw
  refine (contract (w.forCall tape i) w.heap.size i.args ds gs before hsh hval hw' (hX _ _ _ (by rfl) hx)).mono fun e W' ⟨v, he, hp⟩ => ?_
  subst he
  exact ChangeSpec.post_blind hp

/-- An array of integers, read as a datum: its cells. -/
theorem ints_of_array {H : Type} {enc : TypeId × Value → H} {P : Program} {w : World} {base : Nat} {sp : Nat → Bool} {held : Bool} {fuel : Nat} {t e : TypeId} {n : Nat} {k : IntKind} {cs : List Value} {ns : List Int} {p : List MemPlace}
    (ht : P.underlying t = some (.array n e)) (he : P.underlying e = some (.int k)) (hc : P.cellsOf e = 1) (hct : P.cellsOf t = n)
    (h : DataW.trod enc P w base sp held fuel t cs = some (.agg (ns.map fun z => .lit (.int k z)), p)) : cs = ns.map (.int k ·) := by
  obtain ⟨xs, m, rfl, hx, hlen, hn, hel⟩ := DataW.trod_array ht h
  have hx1 : ns.map (fun z => DataW.lit (H := H) (.int k z)) = xs.map (·.1) := by
    have := congrArg Prod.fst hx
    simpa using this
  refine List.ext_getElem? fun i => ?_
  by_cases hi : i < n
  · have h1 := hel i hi
    rw [hc, Nat.mul_one] at h1
    obtain ⟨c, hcs⟩ : ∃ c, cs[i]? = some c := by
      have : i < cs.length := by omega
      exact ⟨_, List.getElem?_eq_getElem this⟩
    have ht1 : (cs.drop i).take 1 = [c] := by
      have hl : i < cs.length := by omega
      rw [List.drop_eq_getElem_cons hl]
      simp only [List.take_succ_cons, List.take_zero]
      rw [List.getElem?_eq_getElem hl] at hcs
      rw [Option.some.inj hcs]
    obtain ⟨x, hxi⟩ : ∃ x, xs[i]? = some x := ⟨_, List.getElem?_eq_getElem (by omega)⟩
    rw [ht1, hxi] at h1
    obtain ⟨z, hz, rfl, _⟩ := DataW.trod_int he h1
    have h2 := congrArg (fun l => l[i]?) hx1
    simp only [List.getElem?_map, hxi, Option.map_some] at h2
    cases hns : ns[i]? with
    | none => rw [hns] at h2; cases h2
    | some y =>
      rw [hns] at h2
      simp only [Option.map_some, Option.some.injEq, DataW.lit.injEq, Lit.int.injEq, true_and] at h2
      subst h2
      rw [hcs, List.getElem?_map, hns]
      simpa using hz
  · rw [List.getElem?_eq_none (by omega), List.getElem?_eq_none]
    have := congrArg List.length hx1
    simp at this
    simp; omega

def spaceInts : List Int := (List.range 256).map fun i => if (9 ≤ i ∧ i ≤ 13) ∨ i = 32 then 1 else 0

theorem own : ownKnob Tryd.prog.godebug = none := by kernel_rfl
theorem gSpace : Tryd.prog.globalNamed "strings.asciiSpace" = some 0 := by kernel_rfl
theorem tSpace : (Tryd.prog.globals[0]?).map (·.type) = some 96 := by kernel_rfl
theorem uSpace : Tryd.prog.underlying 96 = some (.array 256 5) := by kernel_rfl
theorem uByte : Tryd.prog.underlying 5 = some (.int .u8) := by kernel_rfl
theorem cByte : Tryd.prog.cellsOf 5 = 1 := by kernel_rfl
theorem cSpace : Tryd.prog.cellsOf 96 = 256 := by kernel_rfl
theorem cells23 : Tryd.prog.cellsOf 23 = 2 := by kernel_rfl
theorem wSpace : (((begin Tryd.prog (fun _ _ => 0) default).world.heap[0]?).bind Obj.row?).map (·.2) = some 96 := by kernel_rfl
theorem nGlob : Nat.blt 0 Tryd.prog.globals.size = true := by kernel_rfl

def laid : List (String × DataW Unit) := Rows.printerSyllablesRow.laid

theorem laid_eq : (Rows.laid_strings_asciiSpace : DataW Unit) = .agg (spaceInts.map fun z => .lit (.int .u8 z)) := by kernel_rfl
theorem block_eq : Obj.cells ⟨spaceInts.map (.int .u8 ·)⟩ 96 (0, 0) = spaceBlock := by kernel_rfl

/-- What the condition gives the walk: the table's block, whole. -/
theorem of_laid {W : World} (hs : W.ShapedOpen Tryd.prog) (h : laidMetH Tryd.prog laid W) : W.heap[0]? = some spaceBlock := by
  rw [MakeChecks.laidMetH_plain _ _ _ (by kernel_rfl)] at h
  obtain ⟨ps, hv, _, _⟩ := h
  obtain ⟨_, _, _, _, _, _, _, _, _, _, ⟨_, _, _, _, _, _, _, _, _, _, ⟨_, _, _, _, _, _, _, _, _, _, ⟨_, _, _, _, _, _, _, _, _, _, ⟨g, t, cs, fu, p, q, hg, ht, hvar, hd, _, _⟩, _⟩, _⟩, _⟩, _⟩ := hv
  obtain rfl := Option.some.inj (gSpace.symm.trans hg)
  obtain rfl := Option.some.inj (tSpace.symm.trans ht)
  have hd' : DataW.trod (fun _ => ()) Tryd.prog W 0 (fun _ => true) false fu 96 cs.toList = some (.agg (spaceInts.map fun z => .lit (.int .u8 z)), p) := hd.trans (congrArg (fun d => some (d, p)) laid_eq)
  have hcs := ints_of_array uSpace uByte cByte cSpace hd'
  obtain ⟨zero, ty, hz, hty⟩ : ∃ zero ty, ((begin Tryd.prog (fun _ _ => 0) default).world.heap[0]?).bind Obj.row? = some (zero, ty) ∧ ty = 96 := by
    cases hx : ((begin Tryd.prog (fun _ _ => 0) default).world.heap[0]?).bind Obj.row? with
    | none => have := wSpace; rw [hx] at this; cases this
    | some x => have := wSpace; rw [hx] at this; exact ⟨x.1, x.2, rfl, Option.some.inj this⟩
  subst hty
  obtain ⟨cs', hh, _, _⟩ := hs.1 0 zero 96 (Nat.le_of_ble_eq_true nGlob) hz
  have hvar' := hvar
  unfold World.var? at hvar'
  rw [gSpace] at hvar'
  simp only [Option.bind_some, hh, Option.some.injEq] at hvar'
  subst hvar'
  rw [hh]
  have : cs' = ⟨spaceInts.map (.int .u8 ·)⟩ := Array.ext' hcs
  rw [this]
  exact congrArg some block_eq

/-- The door's own heap meets the condition. -/
theorem door_met (os : Os) (args : Array Value) : laidMetH Tryd.prog laid ((World.doorLaid Tryd.prog 400 os).forCall (fun _ _ => 0) ⟨#[], args, []⟩).memory :=
  laidMetH_of_parts3 (fuel := 8) (laidMet_of_run' 8 (by kernel_rfl) (by kernel_rfl)) (by kernel_rfl) (by kernel_rfl)

set_option maxRecDepth 100000 in
theorem lifted (os : Os) (started : os.Started) (H : Type) (enc : TypeId × Value → H) :
    ReturnsInHanded {} Tryd.checked os 3 .any (fun w args => (Rows.printerSyllablesSpec.pre enc Tryd.prog Tryd.f3 [] false w args ∧ laidMetH Tryd.prog laid w) ∧ sizedMet enc Tryd.prog Tryd.f3 (OpenSpec.ofChange Rows.printerSyllablesSpec) false w args)
      (Rows.printerSyllablesSpec.post enc Tryd.prog Tryd.f3 false true false false) := by
  refine returnsInHanded_of_shaped (C := Tryd.checked) (X := fun w _ => laidMetH Tryd.prog laid w) (fun _ _ _ hh h => h.of_heap hh) own started (by kernel_rfl) Tryd.func3
    (ChangeSpec.witness_shaped (enc := enc) (C := Tryd.checked) (os := os) (X := fun w _ => laidMetH Tryd.prog laid w) false (World.doorLaid Tryd.prog 400 os) #[.agg #[.string ⟨#[]⟩, .int .i64 0]] 8 rfl (World.shaped_of_RefB (by kernel_rfl) (by kernel_rfl)) (by kernel_rfl) (by kernel_rfl) (by kernel_rfl) (door_met os _)) ?_
  intro W base args ds gs before hsh hval0 hW hL
  have hval : ∀ (j : Nat) t v, Tryd.f3.params[j]? = some t → args[j]? = some v → Value.okWide Tryd.prog W .any base t v := hval0
  have hW' := hW
  obtain ⟨p, q, hA0, hV, rfl, _, _⟩ := hW
  have hA : DataW.TrodAll enc Tryd.prog W 0 (fun _ => true) true Tryd.f3.params.toList args.toList ds p := hA0
  rw [Tryd.params3] at hA hval
  obtain ⟨v0, d0, rfl, rfl, h0⟩ := trodAll_one hA
  obtain ⟨rfl, rfl⟩ := trodVars_none hV
  obtain ⟨c0, c1, y0, y1, m, rfl, rfl, rfl, hy0, hy1⟩ := open_agg2 Tryd.underlying23 (by kernel_rfl) cells23 (hval 0 23 v0 rfl rfl) h0
  obtain ⟨s, e0, rfl, ws⟩ := DataW.trod_string Tryd.underlying9 hy0
  obtain ⟨l, e1, rfl, wl⟩ := DataW.trod_int (k := .i64) (by kernel_rfl) hy1
  simp at e0 e1
  subst e0 e1
  clear hA0 hval0
  simp only [List.append_nil] at hW'
  have structReads : ∀ (W' : World) (sp : Nat → Bool), DataW.Trod enc Tryd.prog W' 0 sp true 23 (.agg #[.string s, .int .i64 l]) (.agg [.lit (.string s.data.toList), .lit (.int .i64 l)]) [] := fun W' sp =>
    shut_agg2 (y0 := (.lit (.string s.data.toList), [])) (y1 := (.lit (.int .i64 l), [])) Tryd.underlying23 (by kernel_rfl) cells23 ⟨1, by simp [DataW.trod, Tryd.underlying9, ws]⟩ ⟨1, by simp [DataW.trod, wl]⟩
  refine (top_walk s l W (of_laid hsh hL)).mono fun e W' ⟨he, hb⟩ => ?_
  subst he
  refine ⟨_, rfl, _, _, _, [], [], [], hW', ?_, ?_, ?_, hb.frame _, fun h => by cases h⟩
  · exact trodAll_mk1 (shut_bool Tryd.underlying4 true)
  · exact trodAll_mk1 (structReads _ _)
  · rfl

theorem printerSyllables_row : Rows.PrinterSyllablesSaid :=
  OpenClaim.holds_of_wide 3 Tryd.f3 rfl rfl rfl rfl rfl rfl rfl ⟨rfl, rfl, rfl, rfl, rfl⟩ rfl rfl rfl rfl rfl (by kernel_rfl) Tryd.func3 (by kernel_rfl)
    (of_decide_eq_true (by kernel_rfl)) (by unfold Func.isWrapper; first | (rw [if_pos (by decide +kernel)]; kernel_rfl) | (rw [if_neg (by decide +kernel)]; exact ⟨rfl, rfl⟩))
    (fun os started H enc _ => lifted os started H enc)

theorem printerSyllables_holds : Rows.PrinterSyllablesCardSaid :=
  Claim7.holds_tied_plain_at .later [] [.data, .data, .data, .listed, .data] true (true, "5ea56463badccd983d389a450352038ca30251cd6b6a90ac0c7686a27f2a1832") false
    printerSyllables_row (fun _ h => by cases h) (by kernel_rfl) (fun _ h => by cases h) printerSyllables_row_tie rfl ⟨rfl, rfl⟩ (by kernel_rfl) rfl
    (fun f fn hf hfn => by
      obtain rfl : f = 3 := Option.some.inj ((show Tryd.prog.funcNamed "hemiola/hemiolalaw20.PrinterSyllables" = some 3 by kernel_rfl).symm.trans hf) |>.symm
      obtain rfl : fn = Tryd.f3 := (Option.some.inj (Tryd.func3.symm.trans hfn)).symm
      exact ⟨by kernel_rfl, fun j t ht => by
        rw [Tryd.params3] at ht
        have hm : t ∈ [23] := by simpa using Array.mem_of_getElem? ht
        have hall : ([23].all fun u => !Tryd.prog.wantsStandIn u) = true := by kernel_rfl
        exact (show Tryd.prog.wantsStandIn t = false by simpa using List.all_eq_true.1 hall t hm)⟩)
    (by kernel_rfl)
#print axioms printerSyllables_holds
end Go.Proofs.YtgjgdofofhmjgaaDoor
