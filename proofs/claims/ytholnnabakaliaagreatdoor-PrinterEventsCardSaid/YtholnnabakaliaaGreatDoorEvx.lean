/-
  A part of the proof that the law PrinterEvents (chapter 20) returns true for every event: walks of the program's functions, and runs of them in the kernel by the own evaluator.
-/
import Derived.Test.YtholnnabakaliaaGreatDoorEvw
namespace Go.Proofs.YtholnnabakaliaaGreatDoor
open Go.RowKit Go.Dam

noncomputable def runsN (f : FuncId) (args : List Value) (v : Value) : Bool := match evCall noOrc Tryz.prog fsAll 2000 30 (.func f) args ⟨numRows, 100⟩ with
  | some (u, S) => veq v u && sameRows S.heap numRows
  | none => false
theorem num_rows {w : World} (t2 : w.heap[2]? = some powBlock) (t5 : w.heap[5]? = some brBlock) : ∀ n o, getB numRows n = some o → w.heap[n / 2]? = some o := by
  intro n o hn
  unfold numRows at hn
  simp only [getB] at hn
  repeat' split at hn
  · rename_i h1; obtain rfl := Nat.eq_of_beq_eq_true h1; obtain rfl := Option.some.inj hn; exact t2
  · rename_i h1; obtain rfl := Nat.eq_of_beq_eq_true h1; obtain rfl := Option.some.inj hn; exact t5
  · cases hn
theorem numRows_ok' : rowsOk Tryz.prog.globals.size numRows = true := by rw [globs_ok]; exact numRows_ok
theorem runsNum_says {f : FuncId} {args : List Value} {v : Value} (ha : args.all plain = true) (hv : plain v = true) (h : runsN f args v = true) {w : World} (t2 : w.heap[2]? = some powBlock) (t5 : w.heap[5]? = some brBlock) :
    Calls Tryz.prog f args.toArray w fun e w' => e = .returned v ∧ Below w.heap.size w w' := by
  unfold runsN at h
  split at h
  · rename_i u S he
    simp only [Bool.and_eq_true] at h
    obtain ⟨hu, hs⟩ := h
    obtain rfl := veq_spec hu
    exact closed (args := args) noOrc_ok mixed_ok (namesOk_of names_ok) funcs_ok (h := numRows) (nx := 100) numRows_ok' (by decide) (Nat.le_of_ble_eq_true small_ok) (fun x hx => List.all_eq_true.1 ha x hx) hv he hs (num_rows t2 t5)
  · cases h
set_option maxRecDepth 1000000 in
theorem text8n : vals8.all (fun v => runsN 61 [aggV v] (textVal v)) = true := by kernel_rfl

def told8 : List (FuncId × List Value × Value) := vals8.map fun v => (61, [aggV v], textVal v)
def orcAll : FuncId → List Value → St → Option (Value × St) := fun f args S => match find0 f args told6 with
  | some v => some (v, S)
  | none => if sameRows S.heap numRows = true then (match find0 f args told8 with
    | some v => some (v, S)
    | none => none) else none

theorem tab_of {E : Env} {A : Nat → Prop} {h : List (Nat × Obj)} {w : World} (hg : Glb Tryz.prog E A) (H : Holds Tryz.prog E A h w) {n : Nat} {o : Obj} (hn : getB h n = some o) (hp : getB numRows n = some o) : w.heap[n / 2]? = some o := by
  obtain ⟨h1, h2, c, e, fz, rfl, h4⟩ := rowsOk_spec numRows_ok n o hp
  obtain ⟨_, _, oc, hoc, hrel⟩ := H.blk n _ hn
  have hr : isRow n = false := by unfold isRow; rw [h1]; rfl
  simp only [BlkRel, hr, Bool.false_eq_true, if_false] at hrel
  obtain ⟨_, rfl⟩ := hrel
  have hcc : c.map (ren E) = c := by
    have : c.map (ren E) = c.map id := Array.map_congr_left fun x hx => plain_ren _ (plain_of_plain1 (plainAll_mem h4 x (by simpa using hx)))
    rw [this]; simp
  have hb := (hg (n / 2) (by rw [globs_ok]; omega)).1
  rw [show 2 * (n / 2) = n by omega] at hb
  rw [hb, hcc] at hoc
  exact hoc

theorem orcAll_ok : OrcOk Tryz.prog orcAll := by
  intro f args S v S' h E A w hg hev hargs H hA
  have hren : (∀ x ∈ args, plain x = true) → (args.map (ren E)).toArray = args.toArray := by
    intro hp
    have : args.map (ren E) = args.map id := List.map_congr_left fun x hx => plain_ren _ (hp x hx)
    rw [this]; simp
  unfold orcAll at h
  split at h
  · rename_i v0 hf
    simp only [Option.some.injEq, Prod.mk.injEq] at h
    obtain ⟨rfl, rfl⟩ := h
    obtain ⟨k1, k2, k3⟩ := told6_ok _ (find0_spec hf)
    rw [hren k1]
    refine (k3 w).mono ?_
    rintro e w' ⟨rfl, hb⟩
    exact ⟨E, by rw [plain_ren _ k2], Post.of_below hb H, Sc_or (plain_Sc A k2)⟩
  · split at h
    · rename_i hs
      split at h
      · rename_i v0 hf
        simp only [Option.some.injEq, Prod.mk.injEq] at h
        obtain ⟨rfl, rfl⟩ := h
        have hm := find0_spec hf
        obtain ⟨u, hu, he⟩ := List.mem_map.1 hm
        simp only [Prod.mk.injEq] at he
        obtain ⟨rfl, rfl, rfl⟩ := he
        have t2 : w.heap[2]? = some powBlock := tab_of hg H (n := 4) (sameRows_spec hs 4 _ rfl) rfl
        have t5 : w.heap[5]? = some brBlock := tab_of hg H (n := 10) (sameRows_spec hs 10 _ rfl) rfl
        rw [hren (fun x hx => by obtain rfl := List.mem_singleton.1 hx; rfl)]
        refine (runsNum_says (args := [aggV u]) rfl rfl (List.all_eq_true.1 text8n u hu) t2 t5).mono ?_
        rintro e w' ⟨rfl, hb⟩
        exact ⟨E, by rw [plain_ren _ rfl], Post.of_below hb H, Sc_or (plain_Sc A rfl)⟩
      · cases h
    · cases h

noncomputable def readRun8 (v : Int × Int) : Bool := match evCall orcAll Tryz.prog fsV 400 14 (.func 76) [.string (mkB (valueL v.1 v.2))] ⟨numRows, 100⟩ with
  | some (u, S) => veq (readVal v) u && sameRows S.heap numRows
  | none => false
theorem readRun8_says {v : Int × Int} (h : readRun8 v = true) {w : World} (t2 : w.heap[2]? = some powBlock) (t5 : w.heap[5]? = some brBlock) :
    Calls Tryz.prog 76 #[.string (mkB (valueL v.1 v.2))] w fun e w' => e = .returned (readVal v) ∧ Below w.heap.size w w' := by
  unfold readRun8 at h
  split at h
  · rename_i u S he
    simp only [Bool.and_eq_true] at h
    obtain ⟨hu, hs⟩ := h
    obtain rfl := veq_spec hu
    exact closed (args := [.string (mkB (valueL v.1 v.2))]) orcAll_ok mixed_ok (namesOk_of names_ok) (ok_any _) (h := numRows) (nx := 100) numRows_ok' (by decide) (Nat.le_of_ble_eq_true small_ok) (fun x hx => by obtain rfl := List.mem_singleton.1 hx; rfl) rfl he hs (num_rows t2 t5)
  · cases h
set_option maxRecDepth 1000000 in
theorem read8 : vals8.all readRun8 = true := by kernel_rfl
end Go.Proofs.YtholnnabakaliaaGreatDoor
