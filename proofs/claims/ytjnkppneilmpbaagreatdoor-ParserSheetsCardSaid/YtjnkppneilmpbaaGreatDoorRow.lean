/-
  The law ParserSheets (chapter 19) returns true for every sheet (title, rows of notes, keys), and its argument reads as before: the row, and its card.
-/
import Derived.Test.YtjnkppneilmpbaaGreatDoorRows
import Derived.Test.YtjnkppneilmpbaaGreatDoorTie
import Derived.Test.YtjnkppneilmpbaaGreatDoorTop
import Derived.Test.YtjnkppneilmpbaaGreatDoorScb
import Derived.Deep.Slices
import Derived.Test.YtjnkppneilmpbaaGreatDoorClo
import Derived.ProofKit
import Derived.LaidMore
import Derived.OpenShut
import Derived.Stop.Joined
import Derived.Lib.SmallJoins
import Derived.SevenTiedAt
import Derived.Stop.LaidErr
import Derived.Lay
import Derived.Test.YtjnkppneilmpbaaGreatDoorCards
namespace Go.Proofs.YtjnkppneilmpbaaGreatDoor
open Go.ChangeShapes Go.WideShapes Go.ChangeAt Go.RowKit Go.Joins

/-- As 'returnsInHanded_of_change_and', but the contract is also handed the shape of the world at the start. -/
theorem returnsInHanded_of_shaped {H : Type} {enc : TypeId × Value → H} {a : Assume} {C : Checked} {os : Os} {f : FuncId} {fn : Func} {s : ChangeSpec} {conds : List PathCond} {apart fresh handsOn again : Bool} {X : World → Array Value → Prop}
    (hX : ∀ (w w' : World) (args : Array Value), w.heap = w'.heap → X w args → X w' args)
    (own : ownKnob C.prog.godebug = none) (started : os.Started) (noInit : C.prog.inits.idxOf? f = none) (hfn : C.prog.funcs[f]? = some fn)
    (witness : ∃ (w : World) (tape : Tape) (i : Input), w.os = os ∧ (w.forCall tape i).Shaped C.prog ∧ i.vars = [] ∧ Input.okWide C.prog (w.forCall tape i) .any w.heap.size f i ∧
      ((s.pre enc C.prog fn conds apart (w.forCall tape i).memory i.args ∧ X (w.forCall tape i).memory i.args) ∧ sizedMet enc C.prog fn (OpenSpec.ofChange s) apart (w.forCall tape i).memory i.args) ∧ a.holds C.prog (lone (Frame.enter C.prog f i.args .normal) [] (w.forCall tape i)))
    (contract : ∀ (W : World) (base : Nat) (args : Array Value) (ds gs : List (DataW H)) (before : List MemPlace),
      W.ShapedOpen C.prog →
      (∀ (j : Nat) t v, fn.params[j]? = some t → args[j]? = some v → Value.okWide C.prog W .any base t v) →
      DataW.Whole enc C.prog fn.params.toList s.vars apart W args.toList ds gs before → X W args →
      Calls C.prog f args W fun e W' => ∃ v, e = .returned v ∧ s.post enc C.prog fn apart fresh handsOn again W args v W') :
    ReturnsInHanded a C os f .any (fun w args => (s.pre enc C.prog fn conds apart w args ∧ X w args) ∧ sizedMet enc C.prog fn (OpenSpec.ofChange s) apart w args) (s.post enc C.prog fn apart fresh handsOn again) := by
  refine returnsInHanded_of_calls own started noInit witness ?_
  intro w tape i _ hsh _ hok hpre _
  obtain ⟨_, _, _, fn', hfn', _, _, _, _, hval⟩ := hok
  have e : fn' = fn := Option.some.inj (hfn'.symm.trans hfn)
  subst e
  obtain ⟨⟨⟨ds, gs, before, hw, _⟩, hx⟩, _⟩ := hpre
  have hw' := DataW.Whole.of_heap (w' := w.forCall tape i) (by rfl) hw
  refine (contract (w.forCall tape i) w.heap.size i.args ds gs before hsh hval hw' (hX _ _ _ (by rfl) hx)).mono fun e W' ⟨v, he, hp⟩ => ?_
  subst he
  exact ChangeSpec.post_blind hp

theorem own : ownKnob Tryz.prog.godebug = none := by kernel_rfl
theorem underI64 : Tryz.prog.underlying 3 = some (.int .i64) := by kernel_rfl
theorem underBool : Tryz.prog.underlying 4 = some .bool := by kernel_rfl
theorem underU8 : Tryz.prog.underlying 5 = some (.int .u8) := by kernel_rfl

theorem u8_of_wf {z : Int} (h : (Lit.int .u8 z).wf = true) : 0 ≤ z ∧ z ≤ 255 := by
  simp only [Lit.wf, Bool.and_eq_true, decide_eq_true_eq] at h
  have e1 : IntKind.u8.min = 0 := by rfl
  have e2 : IntKind.u8.max = 255 := by rfl
  rw [e1, e2] at h
  omega
theorem i64_of_wf {z : Int} (h : (Lit.int .i64 z).wf = true) : -9223372036854775808 ≤ z ∧ z ≤ 9223372036854775807 := by
  simp only [Lit.wf, Bool.and_eq_true, decide_eq_true_eq] at h
  have e1 : IntKind.i64.min = -9223372036854775808 := by rfl
  have e2 : IntKind.i64.max = 9223372036854775807 := by rfl
  rw [e1, e2] at h
  omega

theorem under22 : Tryz.prog.underlying 22 = some (.slice 23) := by kernel_rfl
theorem under23 : Tryz.prog.underlying 23 = some (.slice 5) := by kernel_rfl
theorem under9 : Tryz.prog.underlying 9 = some .string := by kernel_rfl
theorem under25 : Tryz.prog.underlying 25 = some (.struct #[{ name := "Title", type := 9, offset := 0, embedded := false, tag := "", pkgPath := "", byteOffset := 0 }, { name := "Measures", type := 22, offset := 1, embedded := false, tag := "", pkgPath := "", byteOffset := 16 }, { name := "Keys", type := 23, offset := 2, embedded := false, tag := "", pkgPath := "", byteOffset := 40 }]) := by kernel_rfl
theorem cells5 : Tryz.prog.cellsOf 5 = 1 := by kernel_rfl
theorem cells23 : Tryz.prog.cellsOf 23 = 1 := by kernel_rfl
theorem cells25 : Tryz.prog.cellsOf 25 = 3 := by kernel_rfl
theorem laidOut : laidOutB Tryz.prog = true := by kernel_rfl

/-- A slice of bytes that came in. -/
theorem sl_opened {H : Type} {enc : TypeId × Value → H} {W : World} {fuel : Nat} {v : Value} {x : DataW H × List MemPlace}
    (h : DataW.trod enc Tryz.prog W 0 (fun _ => true) true fuel 23 [v] = some x) :
    ∃ (r : List UInt8) (ao : Option Addr) (c : Nat), v = .slice ao r.length c ∧ r.length ≤ c ∧ SlIs W ao r := by
  rcases open_ints under23 underU8 cells5 h with ⟨hcs, _⟩ | ⟨a, len, cap, zs, hcs, _, hl, _, hz, _, hcell, hwz⟩
  · injection hcs with hcs _
    exact ⟨[], none, 0, hcs, Nat.le_refl _, fun k y hy => by simp at hy⟩
  · injection hcs with hcs _
    simp only [if_true] at hz
    have hlen : ((zs.take len).map fun z => UInt8.ofNat z.toNat).length = len := by simp; omega
    refine ⟨(zs.take len).map fun z => UInt8.ofNat z.toNat, some a, cap, by rw [hlen]; exact hcs, by rw [hlen]; exact hl, fun k y hy => ⟨a, rfl, ?_⟩⟩
    have hk : k < len := by
      have := (List.getElem?_eq_some_iff.1 hy).1
      omega
    have hk2 : k < zs.length := by omega
    rw [List.getElem?_map, List.getElem?_take, if_pos hk, List.getElem?_eq_getElem hk2] at hy
    simp only [Option.map_some, Option.some.injEq] at hy
    have hm := u8_of_wf (hwz _ (List.getElem_mem hk2))
    have hd : zs.getD k 0 = zs[k] := by simp [List.getD, hk2]
    rw [hcell k hk2, hd]
    have e : ((y.toNat : Nat) : Int) = zs[k] := by
      rw [← hy, UInt8.toNat_ofNat']
      omega
    rw [e]

/-- The rows that came in. -/
theorem rs_opened {H : Type} {enc : TypeId × Value → H} {W : World} {fuel : Nat} {v : Value} {x : DataW H × List MemPlace}
    (h : DataW.trod enc Tryz.prog W 0 (fun _ => true) true fuel 22 [v] = some x) :
    ∃ (xs : List (List UInt8)) (mo : Option Addr) (mc : Nat), v = .slice mo xs.length mc ∧ RsIs W mo xs := by
  rcases Go.Deep.open_slice1 under22 cells23 h with ⟨hcs, _⟩ | ⟨a, len, cap, m, n, V, D, Pl, hcs, _, hl, _, hm, _, hcell⟩
  · injection hcs with hcs _
    exact ⟨[], none, 0, hcs, fun k y hy => by simp at hy⟩
  · injection hcs with hcs _
    simp only [if_true] at hm
    have hex : ∀ i, ∃ r : List UInt8, i < len → ∃ (ao : Option Addr) (c : Nat), V i = .slice ao r.length c ∧ r.length ≤ c ∧ SlIs W ao r := fun i => by
      by_cases hi : i < len
      · obtain ⟨r, ao, c, h1⟩ := sl_opened (hcell i (by omega)).2
        exact ⟨r, fun _ => ⟨ao, c, h1⟩⟩
      · exact ⟨[], fun h => absurd h hi⟩
    obtain ⟨f, hf⟩ : ∃ f : Nat → List UInt8, ∀ i, i < len → ∃ (ao : Option Addr) (c : Nat), V i = .slice ao (f i).length c ∧ (f i).length ≤ c ∧ SlIs W ao (f i) := ⟨fun i => Classical.choose (hex i), fun i => Classical.choose_spec (hex i)⟩
    have hlen : ((List.range len).map f).length = len := by simp
    refine ⟨(List.range len).map f, some a, cap, by rw [hlen]; exact hcs, fun i r hr => ?_⟩
    have hi : i < len := by
      have := (List.getElem?_eq_some_iff.1 hr).1
      omega
    rw [List.getElem?_map, List.getElem?_range hi] at hr
    simp only [Option.map_some, Option.some.injEq] at hr
    subst hr
    obtain ⟨ao, c, e1, e2, e3⟩ := hf i hi
    exact ⟨a, ao, c, rfl, by rw [← e1]; exact (hcell i (by omega)).1, e2, e3⟩

def laid : List (String × DataW Unit) := Rows.parserSheetsRow.laid

/-- The listed variables, laid. -/
theorem door_met (os : Os) (args : Array Value) : laidMetH Tryz.prog laid ((World.laidAll Tryz.prog os laid).forCall (fun _ _ => 0) ⟨#[], args, []⟩).memory := by
  rw [MakeChecks.laidMetH_plain _ _ _ (by kernel_rfl)]
  exact laidMet_laidAll _ (by kernel_rfl) (by kernel_rfl)

set_option maxRecDepth 100000 in
theorem lifted (os : Os) (started : os.Started) (H : Type) (enc : TypeId × Value → H) :
    ReturnsInHanded {} Tryz.checked os 3 .any (fun w args => (Rows.parserSheetsSpec.pre enc Tryz.prog Tryz.f3 [] false w args ∧ laidMetH Tryz.prog laid w) ∧ sizedMet enc Tryz.prog Tryz.f3 (OpenSpec.ofChange Rows.parserSheetsSpec) false w args)
      (Rows.parserSheetsSpec.post enc Tryz.prog Tryz.f3 false true false false) := by
  refine returnsInHanded_of_shaped (C := Tryz.checked) (X := fun w _ => laidMetH Tryz.prog laid w) (fun _ _ _ hh h => h.of_heap hh) own started (by kernel_rfl) Tryz.func3
    (ChangeSpec.witness_shaped (enc := enc) (C := Tryz.checked) (os := os) (X := fun w _ => laidMetH Tryz.prog laid w) false (World.laidAll Tryz.prog os laid) #[.agg #[.string ByteArray.empty, .slice none 0 0, .slice none 0 0]] 8 (World.laidAll_os _ _ _) (World.shaped_of_ZipB (by kernel_rfl) (by kernel_rfl)) (by kernel_rfl) (by kernel_rfl) (by kernel_rfl) (door_met os _)) ?_
  intro W base args ds gs before hsh hval0 hW hL
  have hval : ∀ (j : Nat) t v, Tryz.f3.params[j]? = some t → args[j]? = some v → Value.okWide Tryz.prog W .any base t v := hval0
  have hW' := hW
  obtain ⟨p, q, hA0, hV, rfl, _, _⟩ := hW
  have hA : DataW.TrodAll enc Tryz.prog W 0 (fun _ => true) true Tryz.f3.params.toList args.toList ds p := hA0
  rw [Tryz.params3] at hA hval
  obtain ⟨v0, d0, rfl, rfl, h0⟩ := trodAll_one hA
  obtain ⟨rfl, rfl⟩ := trodVars_none hV
  obtain ⟨vt, vm, vk, y0, y1, y2, n, rfl, hd, hp, t0, t1, t2⟩ := open_agg3 under25 (by kernel_rfl) cells25 (hval 0 25 v0 rfl rfl) h0
  obtain ⟨T, hT, _⟩ := DataW.trod_string under9 t0
  injection hT with hT _
  subst hT
  obtain ⟨xs, mo, mc, rfl, hrs⟩ := rs_opened t1
  obtain ⟨ks, ko, kc, rfl, _, hks⟩ := sl_opened t2
  clear hA0 hval0
  simp only [List.append_nil] at hW'
  have hlt : ∀ x ∈ p, x.block < W.heap.size := fun x hx => hW'.lt x (by simpa using hx)
  have hargs : ∀ (W' : World), Below W.heap.size W W' → DataW.Trod enc Tryz.prog W' 0 (fun b => decide (b < W.heap.size)) true 25 (.agg #[.string T, .slice mo xs.length mc, .slice ko ks.length kc]) d0 p :=
    fun W' hn => Below.trod laidOut (by kernel_rfl) (of_decide_eq_true (by kernel_rfl)) h0 hn hlt
  refine (law_walk T mo ko mc kc xs ks W hrs hks known_walk).mono fun e W' ⟨he, hb⟩ => ?_
  subst he
  refine ⟨_, rfl, _, _, _, [], p, [], hW', ?_, ?_, ?_, hb.frame _, fun h => by cases h⟩
  · exact trodAll_mk1 (shut_bool underBool true)
  · exact trodAll_mk1 (hargs _ hb)
  · rfl

theorem parserSheets_row : Rows.ParserSheetsSaid :=
  OpenClaim.holds_of_wide 3 Tryz.f3 rfl rfl rfl rfl rfl rfl rfl ⟨rfl, rfl, rfl, rfl, rfl⟩ rfl rfl rfl rfl rfl (by kernel_rfl) Tryz.func3 closed_ok
    (of_decide_eq_true (by kernel_rfl)) (by unfold Func.isWrapper; first | (rw [if_pos (by decide +kernel)]; kernel_rfl) | (rw [if_neg (by decide +kernel)]; exact ⟨rfl, rfl⟩))
    (fun os started H enc _ => lifted os started H enc)

end Go.Proofs.YtjnkppneilmpbaaGreatDoor
