/-
  A part of the proof that the law PrinterEvents (chapter 20) returns true for every event: walks of the program's functions, and runs of them in the kernel by the own evaluator.
-/
import Derived.Test.YtholnnabakaliaaGreatDoorEvo
import Derived.Test.YtholnnabakaliaaGreatDoorCkl
import Derived.Deep.LoopGhost
namespace Go.Proofs.YtholnnabakaliaaGreatDoor
open Go.RowKit

def sgnL : Nat → List UInt8
  | 0 => [98, 98]
  | 1 => [98]
  | 2 => []
  | 3 => [35]
  | _ => [35, 35]
def signsV : Value := .agg #[.string ⟨#[98, 98]⟩, .string ⟨#[98]⟩, .string ⟨#[]⟩, .string ⟨#[35]⟩, .string ⟨#[35, 35]⟩]
set_option maxRecDepth 1000000 in
theorem signs_run : runsV 59 [] signsV = true := by kernel_rfl
theorem signs_walk (w : World) : Calls Tryz.prog 59 #[] w fun e w' => e = .returned signsV ∧ Below w.heap.size w w' := runsV_says (args := []) rfl rfl signs_run w
set_option maxRecDepth 1000000 in
theorem sign_at0 (w : World) : (Instr.index 104 signsV (.int .i64 0)).run Tryz.prog w = .ok (.string ⟨#[98, 98]⟩) w := by kernel_rfl
set_option maxRecDepth 1000000 in
theorem sign_at1 (w : World) : (Instr.index 104 signsV (.int .i64 1)).run Tryz.prog w = .ok (.string ⟨#[98]⟩) w := by kernel_rfl
set_option maxRecDepth 1000000 in
theorem sign_at2 (w : World) : (Instr.index 104 signsV (.int .i64 2)).run Tryz.prog w = .ok (.string ⟨#[]⟩) w := by kernel_rfl
set_option maxRecDepth 1000000 in
theorem sign_at3 (w : World) : (Instr.index 104 signsV (.int .i64 3)).run Tryz.prog w = .ok (.string ⟨#[35]⟩) w := by kernel_rfl
set_option maxRecDepth 1000000 in
theorem sign_at4 (w : World) : (Instr.index 104 signsV (.int .i64 4)).run Tryz.prog w = .ok (.string ⟨#[35, 35]⟩) w := by kernel_rfl
theorem sign_at {k : Nat} (h : k < 5) (w : World) : (Instr.index 104 signsV (.int .i64 (k : Int))).run Tryz.prog w = .ok (.string (mkB (sgnL k))) w := by
  have hc : k = 0 ∨ k = 1 ∨ k = 2 ∨ k = 3 ∨ k = 4 := by omega
  rcases hc with rfl | rfl | rfl | rfl | rfl
  · exact sign_at0 w
  · exact sign_at1 w
  · exact sign_at2 w
  · exact sign_at3 w
  · exact sign_at4 w

theorem Tabs.step {b : Nat} {w w' : World} (T : Tabs b w) (h : Below w.heap.size w w') : Tabs b w' :=
  ⟨(h.block 0 (Array.getElem?_eq_some_iff.1 T.t0).1).trans T.t0, (h.block 2 (Array.getElem?_eq_some_iff.1 T.t2).1).trans T.t2, (h.block 5 (Array.getElem?_eq_some_iff.1 T.t5).1).trans T.t5, (h.block 6 (Array.getElem?_eq_some_iff.1 T.t6).1).trans T.t6⟩

theorem results_cell2 {P : Program} {fn : Func} {p t u : Tmp} {ty : TypeId} (h : fn.results = #[.cell p ty, .tmp t, .tmp u]) (tmps : Array Value) (w : World) (g : Nat) (T : TypeId) (cs : Array Value) (fr : Nat × Nat) (d : TypeDesc)
    (hp : tmps.getD p undef = .pointer (some ⟨g, 0, none⟩)) (hg : w.heap[g]? = some (.cells cs T fr))
    (hu : P.underlying ty = some d) (hd : (match d with | .struct _ | .array _ _ => true | _ => false) = true) (hi : (P.info? ty).map (·.size) = some cs.size) :
    (results fn tmps).run P w = .ok (.tuple #[.agg cs, tmps.getD t undef, tmps.getD u undef]) w := by
  have hp' : tmps[p]?.getD undef = .pointer (some ⟨g, 0, none⟩) := by simpa using hp
  simp [results, h, hp', asAddr, run_loadVar_row w g T ty cs fr d hg hu hd hi, Result.andThen]
theorem Tryz.sizePitch3 : (Tryz.prog.info? 44).map (·.size) = some 3 := by kernel_rfl

/-- Round k does not find it. -/
def NotYet (rest : ByteArray) (b k : Nat) : Prop := ∃ (ov : ByteArray) (is : Bool), (∀ w, Calls Tryz.prog 135 #[.string rest, .string (mkB (sgnL k))] w fun e w' => e = .returned (.tuple #[.string ov, .bool is]) ∧ Below w.heap.size w w') ∧
  ∀ w, Tabs b w → Calls Tryz.prog 128 #[.string ov] w fun e w' => (∃ (n : Int) (bd : Value), e = .returned (.tuple #[.int .i64 n, bd]) ∧ (is = false ∨ ∃ t v, bd = .iface t v)) ∧ Below w.heap.size w w'

set_option maxHeartbeats 8000000 in
set_option maxRecDepth 100000 in
theorem parse_walk (s rest os : ByteArray) (st al oc : Int) (r b : Nat) (hr : (r : Int) - 2 = al) (hr5 : r < 5) (hlen : (0 : Int) < (s.size : Int)) (hlen' : 0 < s.size) (hx : s.extract 1 s.size = rest)
    (hidx : ∀ w, Calls Tryz.prog 88 #[.string ⟨#[67, 68, 69, 70, 71, 65, 66]⟩, .int .u8 ((s[0]'hlen').toNat : Nat)] w fun e w' => e = .returned (.int .i64 st) ∧ w' = w)
    (hfail : ∀ k, k < r → NotYet rest b k)
    (hcut : ∀ w, Calls Tryz.prog 135 #[.string rest, .string (mkB (sgnL r))] w fun e w' => e = .returned (.tuple #[.string os, .bool true]) ∧ Below w.heap.size w w')
    (hat : ∀ w, Calls Tryz.prog 128 #[.string os] w fun e w' => e = .returned (.tuple #[.int .i64 oc, .nilIface]) ∧ Below w.heap.size w w')
    (hit : ∀ w, Tabs b w → Calls Tryz.prog 31 #[.int .i64 oc] w fun e w' => e = .returned (.string os) ∧ Below w.heap.size w w')
    (ho : -1 ≤ oc) (ho9 : oc ≤ 9) (hst : 0 ≤ st) (hck : pitchE ⟨st, al, oc⟩ = 0) (w : World) (T : Tabs b w) :
    Calls Tryz.prog 109 #[.string s] w fun e w' => e = .returned (.tuple #[.agg #[.int .i64 st, .int .i64 al, .int .i64 oc], .int .i64 0, .int .i64 0]) ∧ Below w.heap.size w w' := by
  have hne : s.toList.isEmpty = false := full_list s (by omega)
  have hsg := signs_walk
  have b0 := (Below.refl w.heap.size w).alloc (Nat.le_refl _) (.cells #[.int .i64 0, .int .i64 0, .int .i64 0] 44)
  have hst' : ¬ st < 0 := by omega
  go_enter Tryz.func109, Tryz.ntmps109
  go_wp2_with (first
    | (go_at_call 88; refine (hidx _).mono ?_; rintro e w' ⟨rfl, rfl⟩)
    | (go_at_call 59; refine (hsg _).mono ?_))
  intro e w1; first | (intro he b1; subst he) | rintro ⟨rfl, b1⟩
  have hR := (b1.block w.heap.size (by simp)).trans (heap_alloc_new w _)
  have bb := b0.trans (b1.mono (by first | omega | simp))
  clear b1 hidx hsg b0
  go_wp2
  go_loopg [22] (6 : Nat) (fun g v wr => ∃ k : Nat, k ≤ r ∧ g = 6 - k ∧ v = .int .i64 (k : Nat) ∧ Below w.heap.size w wr ∧ wr.heap[w.heap.size]? = some (.cells #[.int .i64 0, .int .i64 0, .int .i64 0] 44 (0, 0)))
  case atStart => exact ⟨0, Nat.zero_le _, rfl, rfl, bb, hR⟩
  case round =>
    clear bb hR
    obtain ⟨k, hk, hg, rfl, hb, hR⟩ := hrel
    have hk5 : (k : Int) < 5 := by omega
    have hsa := fun w => sign_at (k := k) (by omega) w
    have m1 : IntKind.i64.wrap ((k : Int) + 1) = (k : Int) + 1 := IntWalk.i64_in _ (by omega)
    by_cases hlt : k < r
    · obtain ⟨ov, is, q1, q2⟩ := hfail k hlt
      clear hfail hcut hat hit
      go_wp2_with (go_at_call 135; refine (q1 _).mono ?_)
      intro e w2; first | (intro he b2; subst he) | rintro ⟨rfl, b2⟩
      have hb2 := hb.trans (b2.mono hb.size)
      have hR2 := (b2.block _ (Array.getElem?_eq_some_iff.1 hR).1).trans hR
      have T2 := T.step hb2
      clear q1 b2 hR
      go_wp2_with (go_at_call 128; refine (q2 _ T2).mono ?_)
      rintro e w3 ⟨⟨n, bd, rfl, hbd⟩, b3⟩
      have hb3 := hb2.trans (b3.mono hb2.size)
      have hR3 := (b3.block _ (Array.getElem?_eq_some_iff.1 hR2).1).trans hR2
      clear q2 b3 hR2 T2
      rcases hbd with rfl | ⟨t, v, rfl⟩
      · go_wp2
        go_roundg (6 - (k + 1))
        case measure => omega
        case rel => exact ⟨k + 1, by omega, rfl, by simp, hb3, hR3⟩
      · cases is
        · go_wp2
          go_roundg (6 - (k + 1))
          case measure => omega
          case rel => exact ⟨k + 1, by omega, rfl, by simp, hb3, hR3⟩
        · go_wp2
          go_roundg (6 - (k + 1))
          case measure => omega
          case rel => exact ⟨k + 1, by omega, rfl, by simp, hb3, hR3⟩
    · have hkr : k = r := by omega
      subst hkr
      clear hfail
      have hw2 : IntKind.i64.wrap ((k : Int) - 2) = al := by rw [IntWalk.i64_in _ (by omega)]; exact hr
      go_wp2_with (go_at_call 135; refine (hcut _).mono ?_)
      intro e w2; first | (intro he b2; subst he) | rintro ⟨rfl, b2⟩
      have hb2 := hb.trans (b2.mono hb.size)
      have hR2 := (b2.block _ (Array.getElem?_eq_some_iff.1 hR).1).trans hR
      clear hcut b2 hR
      go_wp2_with (go_at_call 128; refine (hat _).mono ?_)
      intro e w3; first | (intro he b3; subst he) | rintro ⟨rfl, b3⟩
      have hb3 := hb2.trans (b3.mono hb2.size)
      have hR3 := (b3.block _ (Array.getElem?_eq_some_iff.1 hR2).1).trans hR2
      have T3 := T.step hb3
      have n1 : ¬ oc < -1 := by omega
      have n9 : ¬ 9 < oc := by omega
      clear hat b3 hR2
      go_wp2_with (go_at_call 31; refine (hit _ T3).mono ?_)
      intro e w4; first | (intro he b4; subst he) | rintro ⟨rfl, b4⟩
      have hb4 := hb3.trans (b4.mono hb3.size)
      have hR4 := (b4.block _ (Array.getElem?_eq_some_iff.1 hR3).1).trans hR3
      have r0 : w4.cell? ⟨w.heap.size, 0, none⟩ = some (.int .i64 0) := by rw [Lib.cell_of_heap hR4]; rfl
      have r1 : w4.cell? ⟨w.heap.size, 1, none⟩ = some (.int .i64 0) := by rw [Lib.cell_of_heap hR4]; rfl
      have r2 : w4.cell? ⟨w.heap.size, 2, none⟩ = some (.int .i64 0) := by rw [Lib.cell_of_heap hR4]; rfl
      have fr0 := Lib.frozen_of_heap hR4 0
      have fr1 := Lib.frozen_of_heap hR4 1
      have fr2 := Lib.frozen_of_heap hR4 2
      have hck' := check58 st al oc
      rw [hck] at hck'
      clear hit b4 hR3 T3
      have hR5 : (((w4.setCell ⟨w.heap.size, 0, none⟩ (.int .i64 st)).setCell ⟨w.heap.size, 1, none⟩ (.int .i64 al)).setCell ⟨w.heap.size, 2, none⟩ (.int .i64 oc)).heap[w.heap.size]? = some (.cells #[.int .i64 st, .int .i64 al, .int .i64 oc] 44 (0, 0)) :=
        Lib.heap_setCell_same (i := 2) (Lib.heap_setCell_same (i := 1) (Lib.heap_setCell_same (i := 0) hR4 (.int .i64 st)) (.int .i64 al)) (.int .i64 oc)
      have hb5 := ((hb4.setCell (p := ⟨w.heap.size, 0, none⟩) (Nat.le_refl _) (.int .i64 st)).setCell (p := ⟨w.heap.size, 1, none⟩) (Nat.le_refl _) (.int .i64 al)).setCell (p := ⟨w.heap.size, 2, none⟩) (Nat.le_refl _) (.int .i64 oc)
      have hck6 := fun W5 => (hck' W5)
      go_wp2_with (go_at_call 58; refine (hck6 _).mono ?_)
      intro e w5; first | (intro he b5; subst he) | rintro ⟨rfl, b5⟩
      have hR6 := (b5.block _ (by have := (Array.getElem?_eq_some_iff.1 hR5).1; first | exact this | simpa [World.setCell] using this)).trans hR5
      have hb6 := hb5.trans (b5.mono (by have := hb5.size; first | exact this | simpa [World.setCell] using this))
      clear hck' hck6 hb5 hR5 b5 r0 r1 r2 fr0 fr1 fr2 hR4
      have r0 : w5.cell? ⟨w.heap.size, 0, none⟩ = some (.int .i64 st) := by rw [Lib.cell_of_heap hR6]; rfl
      have r1 : w5.cell? ⟨w.heap.size, 1, none⟩ = some (.int .i64 al) := by rw [Lib.cell_of_heap hR6]; rfl
      have r2 : w5.cell? ⟨w.heap.size, 2, none⟩ = some (.int .i64 oc) := by rw [Lib.cell_of_heap hR6]; rfl
      have fr0 := Lib.frozen_of_heap hR6 0
      have fr1 := Lib.frozen_of_heap hR6 1
      have fr2 := Lib.frozen_of_heap hR6 2
      have hR7 := Lib.heap_setCell_same (i := 2) (Lib.heap_setCell_same (i := 1) (Lib.heap_setCell_same (i := 0) hR6 (.int .i64 st)) (.int .i64 al)) (.int .i64 oc)
      have hb7 := ((hb6.setCell (p := ⟨w.heap.size, 0, none⟩) (Nat.le_refl _) (.int .i64 st)).setCell (p := ⟨w.heap.size, 1, none⟩) (Nat.le_refl _) (.int .i64 al)).setCell (p := ⟨w.heap.size, 2, none⟩) (Nat.le_refl _) (.int .i64 oc)
      go_wp2
      exact bodyPost_ret (results_cell2 rfl _ _ w.heap.size 44 _ (0, 0) _ rfl hR7 Tryz.underlying44 rfl Tryz.sizePitch3) rfl ⟨rfl, hb7⟩
end Go.Proofs.YtholnnabakaliaaGreatDoor
