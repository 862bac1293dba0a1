/- Towards the law ParserEvents, true for every text (no condition): one part of the proof. -/
import Derived.Test.YtgkhemnmcgicnaaGreatDoorG18
import Derived.Below
import Derived.Test.YtgkhemnmcgicnaaGreatDoorProg
import Derived.KernelRfl
namespace Go.Dam
open Go.RowKit
def sameObj : Obj -> Obj -> Bool
 | .cells c e fz, .cells c' e' fz' => veqL c.toList c'.toList && Nat.beq e e' && (Nat.beq fz.1 fz'.1 && Nat.beq fz.2 fz'.2)
 | _, _ => false
def sameRows (h' : List (Nat × Obj)) : List (Nat × Obj) -> Bool
 | [] => true
 | (n, o) :: r => (match getB h' n with | some o' => sameObj o o' | none => false) && sameRows h' r
def rowsOk (size : Nat) : List (Nat × Obj) -> Bool
 | [] => true
 | (n, o) :: r => Nat.beq (n % 2) 0 && Nat.blt n (2 * size) && (match o with | .cells c _ _ => plainAll c.toList | _ => false) && rowsOk size r
theorem sameObj_spec {o o' : Obj} (h : sameObj o o' = true) : o = o' := by
 unfold sameObj at h
 split at h
 ·rename_i c e fz c' e' fz'
  simp only [Bool.and_eq_true] at h
  obtain ⟨⟨h1, h2⟩, h3, h4⟩ := h
  have := veqL_spec h1
  congr 1
  ·exact Array.ext' this
  ·exact Nat.eq_of_beq_eq_true h2
  ·exact Prod.ext (Nat.eq_of_beq_eq_true h3) (Nat.eq_of_beq_eq_true h4)
 ·simp at h
theorem sameRows_spec {h' : List (Nat × Obj)} : ∀ {h : List (Nat × Obj)}, sameRows h' h = true -> ∀ n o, getB h n = some o -> getB h' n = some o
 | [], _, n, o, hg => by simp [getB] at hg
 | (m, x) :: r, hs, n, o, hg => by
  simp only [sameRows, Bool.and_eq_true] at hs
  simp only [getB] at hg
  split at hg
  ·rename_i hm
   obtain rfl := Nat.eq_of_beq_eq_true hm
   obtain rfl := Option.some.inj hg
   have := hs.1
   split at this
   ·rename_i o' ho'
    rw [ho', sameObj_spec this]
   ·cases this
  ·exact sameRows_spec hs.2 n o hg
theorem rowsOk_spec {size : Nat} : ∀ {h : List (Nat × Obj)}, rowsOk size h = true -> ∀ n o, getB h n = some o -> n % 2 = 0 /\ n < 2 * size /\ ∃ c e fz, o = .cells c e fz /\ plainAll c.toList = true
 | [], _, n, o, hg => by simp [getB] at hg
 | (m, x) :: r, hs, n, o, hg => by
  simp only [rowsOk, Bool.and_eq_true] at hs
  obtain ⟨⟨⟨h1, h2⟩, h3⟩, h4⟩ := hs
  simp only [getB] at hg
  split at hg
  ·rename_i hm
   obtain rfl := Nat.eq_of_beq_eq_true hm
   obtain rfl := Option.some.inj hg
   refine ⟨Nat.eq_of_beq_eq_true h1, (blt_iff _ _).1 h2, ?_⟩
   split at h3
   ·exact ⟨_, _, _, rfl, h3⟩
   ·cases h3
  ·exact rowsOk_spec h4 n o hg
def startEnv : Env := { β := fun n => n / 2, σ := fun _ => 0, κ := fun _ => 0 }
theorem plain_of_plain1 {x : Value} (h : plain1 x = true) : plain x = true := by
 cases x <;> first | exact h | simp [plain1] at h
theorem closed {P : Program} {orc : FuncId -> List Value -> St -> Option (Value × St)} (horc : OrcOk P orc) {fs fuel d : Nat} {f : FuncId} {args : List Value} {h : List (Nat × Obj)} {nx : Nat} {v : Value} {S' : St} (hm : P.follows .mixedOrders = true) (hnm : NamesOk P) (hok : okFuncs P P.funcs.size fs = true)
  (hrows : rowsOk P.globals.size h = true) (hnx : nx % 2 = 0) (hnx2 : 2 * P.globals.size <= nx) (hargs : ∀ x ∈ args, plain x = true) (hv : plain v = true) (hev : evCall orc P fs fuel d (.func f) args ⟨h, nx⟩ = some (v, S')) (hsame : sameRows S'.heap h = true)
  {w : World} (hw : ∀ n o, getB h n = some o -> w.heap[n / 2]? = some o) : Calls P f args.toArray w fun e w' => e = .returned v /\ Below w.heap.size w w' := by
 have hH : Holds P startEnv (fun n => n < 2 * P.globals.size /\ n % 2 = 0) h w := by
  refine ⟨fun n o hn => ?_, fun n m o o' hn hm' e => ?_⟩
  ·obtain ⟨h1, h2, c, e, fz, rfl, h3⟩ := rowsOk_spec hrows n o hn
   refine ⟨⟨h2, h1⟩, fun x hx => plain_Sc _ (plain_of_plain1 (plainAll_mem h3 x (by simpa using hx))), _, hw n _ hn, ?_⟩
   have hr : isRow n = false := by unfold isRow; rw [h1]; rfl
   simp only [BlkRel, hr, Bool.false_eq_true, if_false]
   refine ⟨rfl, ?_⟩
   congr 1
   have : c.map (ren startEnv) = c.map id := Array.map_congr_left fun x hx => plain_ren _ (plain_of_plain1 (plainAll_mem h3 x (by simpa using hx)))
   rw [this]; simp
  ·obtain ⟨h1, _⟩ := rowsOk_spec hrows n o hn
   obtain ⟨h2, _⟩ := rowsOk_spec hrows m o' hm'
   simp only [startEnv] at e
   omega
 have hg : Glb P startEnv (fun n => n < 2 * P.globals.size /\ n % 2 = 0) := by
  intro g hg
  refine ⟨?_, rfl, ?_, ?_⟩
  ·simp only [startEnv]; omega
  ·omega
  ·omega
 have := evCall_sound hm hnm horc hok fuel d (.func f) args ⟨h, nx⟩ v S' hev startEnv _ w hg hnx (fun x hx => plain_Sc _ (hargs x hx)) hH (fun n hn hx => by have := hx.1; simp only at this; omega)
 have he : args.map (ren startEnv) = args := by
  have : args.map (ren startEnv) = args.map id := List.map_congr_left fun x hx => plain_ren _ (hargs x hx)
  rw [this]; simp
 rw [he] at this
 refine this.mono ?_
 rintro e w' ⟨E', rfl, p, _⟩
 refine ⟨by rw [plain_ren _ hv], p.os, p.tape, p.output, p.size, fun b hb => ?_⟩
 by_cases hex : ∃ n o, getB h n = some o /\ startEnv.β n = b
 ·obtain ⟨n, o, hn, e⟩ := hex
  have hn' := sameRows_spec hsame n o hn
  obtain ⟨h1, h2, c, t, fz, rfl, h3⟩ := rowsOk_spec hrows n o hn
  obtain ⟨_, _, oc, hc, hr⟩ := p.holds.blk n _ hn'
  have hrw : isRow n = false := by unfold isRow; rw [h1]; rfl
  simp only [BlkRel, hrw, Bool.false_eq_true, if_false] at hr
  obtain ⟨_, rfl⟩ := hr
  have hb' : E'.β n = b := by rw [<- e]; exact (p.agree n (by simp only; omega)).1
  have hcc : c.map (ren E') = c := by
   have : c.map (ren E') = c.map id := Array.map_congr_left fun x hx => plain_ren _ (plain_of_plain1 (plainAll_mem h3 x (by simpa using hx)))
   rw [this]; simp
  rw [hb', hcc] at hc
  have hwn := hw n _ hn
  have e' : n / 2 = b := e
  rw [e'] at hwn
  rw [hc, hwn]
 ·exact p.same b hb fun n o hn e => hex ⟨n, o, hn, e⟩
def noOrc : FuncId -> List Value -> St -> Option (Value × St) := fun _ _ _ => none
theorem noOrc_ok {P : Program} : OrcOk P noOrc := fun _ _ _ _ _ h => by cases h
def namesOkL (P : Program) : Bool := P.funcs.toList.all okName
theorem namesOk_of {P : Program} (h : namesOkL P = true) : NamesOk P := by
 intro g fn hg _
 exact List.all_eq_true.1 h fn (by have := Array.mem_of_getElem? hg; simpa using this)
end Go.Dam
namespace Go.Proofs.YtgkhemnmcgicnaaGreatDoor
open Go.RowKit Go.Dam
def fsAll : Nat := 2 ^ 260 - 1
set_option maxRecDepth 1000000
theorem funcs_ok : okFuncs Tryz.prog Tryz.prog.funcs.size fsAll = true := by kernel_rfl
theorem names_ok : namesOkL Tryz.prog = true := by kernel_rfl
theorem mixed_ok : Tryz.prog.follows .mixedOrders = true := by kernel_rfl
theorem small_ok : Nat.ble (2 * Tryz.prog.globals.size) 100 = true := by kernel_rfl
noncomputable def runsV (f : FuncId) (args : List Value) (v : Value) : Bool := match evCall noOrc Tryz.prog fsAll 400 14 (.func f) args ⟨[], 100⟩ with
 | some (u, _) => veq v u
 | none => false
theorem runsV_says {f : FuncId} {args : List Value} {v : Value} (ha : args.all plain = true) (hv : plain v = true) (h : runsV f args v = true) (w : World) :
  Calls Tryz.prog f args.toArray w fun e w' => e = .returned v /\ Below w.heap.size w w' := by
 unfold runsV at h
 split at h
 ·rename_i u S he
  obtain rfl := veq_spec h
  refine closed (args := args) noOrc_ok mixed_ok (namesOk_of names_ok) funcs_ok (h := []) (nx := 100) rfl (by decide) (Nat.le_of_ble_eq_true small_ok) ?_ hv he rfl ?_
  ·intro x hx; exact List.all_eq_true.1 ha x hx
  ·intro n o hn; cases hn
 ·cases h
end Go.Proofs.YtgkhemnmcgicnaaGreatDoor
