/-
  A part of the proof that the law InterchangeTexts (chapter 22) returns true for every loss: runs of the program's functions in the kernel, by the own evaluator, and walks.
-/
import Derived.Test.YtionfcmmfbecfaaGreatDoorProg
import Derived.Tactics
import Derived.Tactics2
import Derived.Defers
import Derived.Laws.Pointers
import Derived.Laws.LoneSync
import Derived.RegionTactic
import Derived.RegionCalls
import Derived.ChangeAlike
import Derived.Laws.NewBlocks
namespace Go.Proofs.YtionfcmmfbecfaaGreatDoor

theorem disable (w : World) : (callFunc 346 #[]).run Tryz.prog w = .ok (.value (.tuple #[])) w := run_call_mark0 Tryz.func346 (by kernel_rfl) (by kernel_rfl) (by kernel_rfl) .disable (by kernel_rfl) w
theorem enable (w : World) : (callFunc 348 #[]).run Tryz.prog w = .ok (.value (.tuple #[])) w := run_call_mark0 Tryz.func348 (by kernel_rfl) (by kernel_rfl) (by kernel_rfl) .enable (by kernel_rfl) w
theorem acquire (a : Addr) (w : World) : (callFunc 349 #[.pointer (some a)]).run Tryz.prog w = .ok (.value (.tuple #[])) w := run_call_marked Tryz.func349 (by kernel_rfl) (by kernel_rfl) (by kernel_rfl) .acquire (by kernel_rfl) a w
theorem releaseMerge (a : Addr) (w : World) : (callFunc 351 #[.pointer (some a)]).run Tryz.prog w = .ok (.value (.tuple #[])) w := run_call_marked Tryz.func351 (by kernel_rfl) (by kernel_rfl) (by kernel_rfl) .releaseMerge (by kernel_rfl) a w

set_option maxRecDepth 100000 in
theorem store_deferred (a : Addr) (x : Value) (u : FrameMode) (w : World) (hc : w.cell? a = some x) (hz : w.frozen? a = false) :
    CallsD Tryz.prog 311 #[.pointer (some a), .bool true] u w fun e u' w' => u' = u ∧ (e = .returned (.tuple #[]) ∧ w' = w.drew.setCell a (.int .u32 1)) := by
  have hc' : w.drew.cell? a = some x := by go_simp
  have hz' : w.drew.frozen? a = false := by go_simp
  have hst := run_call_store (P := Tryz.prog) Tryz.func329 (by kernel_rfl) (by kernel_rfl) (by kernel_rfl) (by kernel_rfl) (k := .u32) (y := 1) hc' hz'
  go_enter_d Tryz.func311, Tryz.ntmps311
  go_wp2
  go_region_calls
  all_goals (go_end0; exact ⟨rfl, rfl⟩)

set_option maxRecDepth 100000 in
theorem unlock_deferred (a : Addr) (u : FrameMode) (w : World) (hc : w.cell? a = some (.int .i32 1)) (hz : w.frozen? a = false) :
    CallsD Tryz.prog 310 #[.pointer (some a)] u w fun e u' w' => u' = u ∧ (e = .returned (.tuple #[]) ∧ w' = w.setCell a (.int .i32 0)) := by
  have hd := disable
  have he := enable
  have hr := releaseMerge
  have hadd := run_call_add (P := Tryz.prog) Tryz.func352 (by kernel_rfl) (by kernel_rfl) (by kernel_rfl) .i32 (by kernel_rfl) (y := -1) (s := 0) hc hz (by simp [go_sem]; rfl)
  have hcv := run_convert_to_unsafe (P := Tryz.prog) (src := 403) (dst := 260) Tryz.underlying403 Tryz.underlying260 (by kernel_rfl) hc
  go_enter_d Tryz.func310, Tryz.ntmps310
  go_wp2
  go_end0
  go_wp2
  go_end0
  exact ⟨rfl, rfl⟩

set_option maxRecDepth 100000 in
theorem lock_free (a : Addr) (w : World) (hc : w.cell? a = some (.int .i32 0)) (hz : w.frozen? a = false) :
    Calls Tryz.prog 309 #[.pointer (some a)] w fun e w' => e = .returned (.tuple #[]) ∧ w' = w.setCell a (.int .i32 1) := by
  have hd := disable
  have he := enable
  have ha := acquire
  have hcas := run_call_cas_hit (P := Tryz.prog) Tryz.func347 (by kernel_rfl) (by kernel_rfl) (by kernel_rfl) .i32 (by kernel_rfl) (y := 1) hc hz
  have hc' : (w.setCell a (.int .i32 1)).cell? a = some (.int .i32 1) := World.cell?_setCell_same w a _ hc
  have hcv := run_convert_to_unsafe (P := Tryz.prog) (src := 403) (dst := 260) Tryz.underlying403 Tryz.underlying260 (by kernel_rfl) hc'
  go_enter Tryz.func309, Tryz.ntmps309
  go_wp2
  first | go_end0 | (simp only [Exit.inBlock, Exit.then]; refine bodyPost_ret (results_none rfl _ _ _) rfl ?_) | refine bodyPost_ret (results_none rfl _ _ _) rfl ?_
  go_wp2
  go_end0
  exact ⟨rfl, rfl⟩

/-- What is asked of the world behind the function that is run once: the Once's cells are as they were. -/
def Kept (R : Ending → World → Prop) (b off : Nat) : Prop :=
  ∀ e w, R e w → e = .returned (.tuple #[]) ∧ w.cell? ⟨b, off, none⟩ = some (.int .u32 0) ∧ w.cell? ⟨b, off + 1, none⟩ = some (.int .i32 1) ∧ w.frozen? ⟨b, off, none⟩ = false ∧ w.frozen? ⟨b, off + 1, none⟩ = false

def Behind (R : Ending → World → Prop) (b off : Nat) (e : Ending) (w' : World) : Prop :=
  e = .returned (.tuple #[]) ∧ ∃ w2, R (.returned (.tuple #[])) w2 ∧ w' = (w2.drew.setCell ⟨b, off, none⟩ (.int .u32 1)).setCell ⟨b, off + 1, none⟩ (.int .i32 0)

set_option maxRecDepth 100000 in
set_option maxHeartbeats 1600000 in
theorem slow_any (b off : Nat) (p : Addr) (R : Ending → World → Prop) (hk : Kept R b off) (w : World)
    (h0 : w.cell? ⟨b, off, none⟩ = some (.int .u32 0)) (h1 : w.cell? ⟨b, off + 1, none⟩ = some (.int .i32 0))
    (f1 : w.frozen? ⟨b, off + 1, none⟩ = false) (hf : Calls Tryz.prog 203 #[.pointer (some p)] (w.setCell ⟨b, off + 1, none⟩ (.int .i32 1)) R) :
    Calls Tryz.prog 271 #[.pointer (some ⟨b, off, none⟩), .func (.func 203) #[.pointer (some p)] #[]] w (Behind R b off) := by
  have hl := run_call_load (P := Tryz.prog) Tryz.func308 (by kernel_rfl) (by kernel_rfl) (by kernel_rfl) .u32 (by kernel_rfl) (w := w.setCell ⟨b, off + 1, none⟩ (.int .i32 1)) (a := ⟨b, off, none⟩) (x := 0) ((World.cell?_setCell_other _ ⟨b, off + 1, none⟩ ⟨b, off, none⟩ _ (by simp)).trans h0)
  have hnot : ∀ (x : Bool) (w : World), (Op.unary .not (.bool x)).run Tryz.prog w = .ok (.bool (!x)) w := fun _ _ => rfl
  go_enter_defers Tryz.func271, Tryz.ntmps271
  go_wp2_with (first
    | (go_at_call 309; refine (lock_free ⟨b, off + 1, none⟩ _ (by go_simp) (by go_simp)).mono ?_; rintro e w' ⟨rfl, rfl⟩)
    | (go_at_call 203; refine hf.mono ?_; intro e w2 hr; obtain ⟨rfl, k0, k1, k2, k3⟩ := hk e w2 hr)
    | (go_at_call 270; go_in))
  refine leaves_cons (f := 311) (args := #[.pointer (some ⟨b, off, none⟩), .bool true]) (by simp) (by simp [go_sem]) ?_
  refine (store_deferred ⟨b, off, none⟩ (.int .u32 0) .returning _ k0 k2).mono ?_
  rintro e u' w'' ⟨rfl, rfl, rfl⟩
  refine leaves_cons (f := 310) (args := #[.pointer (some ⟨b, off + 1, none⟩)]) (by simp [settle]) (by simp [go_sem]) ?_
  refine (unlock_deferred ⟨b, off + 1, none⟩ _ _ ?_ (by simp [k3])).mono ?_
  · refine (World.cell?_setCell_other _ ⟨b, off, none⟩ ⟨b, off + 1, none⟩ _ (by simp)).trans ?_
    rw [World.cell?_drew]
    exact k1
  rintro e u' w'' ⟨rfl, rfl, rfl⟩
  simp [Leaves, settle, results, Tryz.results271]
  exact ⟨rfl, w2, hr, rfl⟩

set_option maxRecDepth 100000 in
set_option maxHeartbeats 1600000 in
/-- '(*sync.Once).Do' of buildOnce, not yet done, the lock free. -/
theorem do_first (b off : Nat) (p : Addr) (R : Ending → World → Prop) (hk : Kept R b off) (w : World)
    (h0 : w.cell? ⟨b, off, none⟩ = some (.int .u32 0)) (h1 : w.cell? ⟨b, off + 1, none⟩ = some (.int .i32 0))
    (f1 : w.frozen? ⟨b, off + 1, none⟩ = false) (hf : Calls Tryz.prog 203 #[.pointer (some p)] (w.setCell ⟨b, off + 1, none⟩ (.int .i32 1)) R) :
    Calls Tryz.prog 202 #[.pointer (some ⟨b, off, none⟩), .func (.func 203) #[.pointer (some p)] #[]] w (Behind R b off) := by
  have hl := run_call_load (P := Tryz.prog) Tryz.func308 (by kernel_rfl) (by kernel_rfl) (by kernel_rfl) .u32 (by kernel_rfl) h0
  have hnot : ∀ (x : Bool) (w : World), (Op.unary .not (.bool x)).run Tryz.prog w = .ok (.bool (!x)) w := fun _ _ => rfl
  go_enter Tryz.func202, Tryz.ntmps202
  go_wp2_with (first | (go_at_call 271; refine (slow_any b off p R hk _ h0 h1 f1 hf).mono ?_; rintro e w' ⟨rfl, w2, hr, rfl⟩) | (go_at_call 270; go_in))
  go_end0
  exact ⟨rfl, w2, hr, rfl⟩

end Go.Proofs.YtionfcmmfbecfaaGreatDoor
