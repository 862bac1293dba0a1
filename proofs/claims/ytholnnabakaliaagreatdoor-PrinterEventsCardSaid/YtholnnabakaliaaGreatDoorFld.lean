/-
  A part of the proof that the law PrinterEvents (chapter 20) returns true for every event: walks of the program's functions, and runs of them in the kernel by the own evaluator.
-/
import Derived.Test.YtholnnabakaliaaGreatDoorCkl
import Derived.Test.YtholnnabakaliaaGreatDoorPps
namespace Go.Proofs.YtholnnabakaliaaGreatDoor
open Go.RowKit Go.Dam

/-- A row of texts of its own. -/
def strRow (l : List ByteArray) : Obj := .cells (l.map Value.string).toArray 9 (0, 0)
def rowIs (o : Option Obj) (l : List ByteArray) : Bool := match o with
  | some (.cells cs t (a, b)) => Nat.beq t 9 && (Nat.beq a 0 && (Nat.beq b 0 && veqL cs.toList (l.map Value.string)))
  | _ => false
theorem rowIs_spec {o : Option Obj} {l : List ByteArray} (h : rowIs o l = true) : o = some (strRow l) := by
  unfold rowIs at h
  split at h
  · rename_i cs t a b
    simp only [Bool.and_eq_true] at h
    obtain ⟨h1, h2, h3, h4⟩ := h
    obtain rfl := Nat.eq_of_beq_eq_true h1
    obtain rfl := Nat.eq_of_beq_eq_true h2
    obtain rfl := Nat.eq_of_beq_eq_true h3
    have := veqL_spec h4
    unfold strRow
    rw [show cs = (l.map Value.string).toArray from Array.ext' (by simpa using this)]
  · cases h
theorem strRow_ren (l : List ByteArray) (E : Env) : (l.map Value.string).toArray.map (ren E) = (l.map Value.string).toArray := by
  apply Array.ext'
  simp [ren]
noncomputable def fieldsRun (s : ByteArray) (l : List ByteArray) : Bool := match evCall cloneOrc Tryz.prog fsT 2000 30 (.func 65) [.string s] ⟨rowsOf spcRows, 204⟩ with
  | some (.slice (some ⟨m, 0, none⟩) n c, S) => (Nat.beq n l.length && Nat.beq c l.length) && (Nat.beq (m % 2) 0 && (tabOk spcRows S.heap && rowIs (getB S.heap m) l))
  | _ => false
theorem fieldsRun_says {s : ByteArray} {l : List ByteArray} (h : fieldsRun s l = true) {b : Nat} {w : World} (T : Tabs b w) :
    Calls Tryz.prog 65 #[.string s] w fun e w' => (∃ G, e = .returned (.slice (some ⟨G, 0, none⟩) l.length l.length) ∧ w'.heap[G]? = some (strRow l)) ∧ Below w.heap.size w w' := by
  unfold fieldsRun at h
  split at h
  · rename_i m n c S he
    simp only [Bool.and_eq_true] at h
    obtain ⟨⟨h1, h2⟩, h3, h4, h5⟩ := h
    obtain rfl := Nat.eq_of_beq_eq_true h1
    obtain rfl := Nat.eq_of_beq_eq_true h2
    have h3 := Nat.eq_of_beq_eq_true h3
    have hg := rowIs_spec h5
    have := runsR_full (pr := spcRows) (args := [.string s]) spcRows_ok rfl rfl he h4 T.t6 (fun n o hn => by
      unfold spcRows at hn
      simp only [getB] at hn
      split at hn
      · rename_i h1; obtain rfl := Nat.eq_of_beq_eq_true h1; obtain rfl := Option.some.inj hn; exact T.t0
      · cases hn)
    refine Calls.mono this ?_
    rintro e w' ⟨⟨E', rfl, hb⟩, bel⟩
    obtain ⟨oc, hoc, hrel⟩ := hb m _ hg
    have hr : isRow m = false := by unfold isRow; rw [h3]; rfl
    simp only [BlkRel, strRow, hr, Bool.false_eq_true, if_false] at hrel
    obtain ⟨hs, rfl⟩ := hrel
    refine ⟨⟨E'.β m, ?_, ?_⟩, bel⟩
    · simp [ren, Env.addr, hs, hr]
    · rw [hoc, strRow_ren l E']
      rfl
  · cases h

def artsT : ByteArray := ⟨#[115, 116, 97, 99, 99, 97, 116, 111, 32, 116, 101, 110, 117, 116, 111, 32, 97, 99, 99, 101, 110, 116, 32, 109, 97, 114, 99, 97, 116, 111, 32, 102, 101, 114, 109, 97, 116, 97]⟩
def ornsT : ByteArray := ⟨#[116, 114, 105, 108, 108, 32, 109, 111, 114, 100, 101, 110, 116, 32, 105, 110, 118, 101, 114, 115, 101, 32, 116, 117, 114, 110]⟩
def dynsT : ByteArray := ⟨#[112, 112, 112, 32, 112, 112, 32, 112, 32, 109, 112, 32, 109, 102, 32, 102, 32, 102, 102, 32, 102, 102, 102, 32, 115, 102, 122]⟩
def stemsT : ByteArray := ⟨#[117, 112, 32, 100, 111, 119, 110]⟩
def beamsT : ByteArray := ⟨#[97, 112, 97, 114, 116, 32, 106, 111, 105, 110]⟩
def artsW : List ByteArray := [⟨#[115, 116, 97, 99, 99, 97, 116, 111]⟩, ⟨#[116, 101, 110, 117, 116, 111]⟩, ⟨#[97, 99, 99, 101, 110, 116]⟩, ⟨#[109, 97, 114, 99, 97, 116, 111]⟩, ⟨#[102, 101, 114, 109, 97, 116, 97]⟩]
def ornsW : List ByteArray := [⟨#[116, 114, 105, 108, 108]⟩, ⟨#[109, 111, 114, 100, 101, 110, 116]⟩, ⟨#[105, 110, 118, 101, 114, 115, 101]⟩, ⟨#[116, 117, 114, 110]⟩]
def dynsW : List ByteArray := [⟨#[112, 112, 112]⟩, ⟨#[112, 112]⟩, ⟨#[112]⟩, ⟨#[109, 112]⟩, ⟨#[109, 102]⟩, ⟨#[102]⟩, ⟨#[102, 102]⟩, ⟨#[102, 102, 102]⟩, ⟨#[115, 102, 122]⟩]
def stemsW : List ByteArray := [⟨#[117, 112]⟩, ⟨#[100, 111, 119, 110]⟩]
def beamsW : List ByteArray := [⟨#[97, 112, 97, 114, 116]⟩, ⟨#[106, 111, 105, 110]⟩]
set_option maxRecDepth 1000000 in
theorem arts_run : fieldsRun artsT artsW = true := by kernel_rfl
set_option maxRecDepth 1000000 in
theorem orns_run : fieldsRun ornsT ornsW = true := by kernel_rfl
set_option maxRecDepth 1000000 in
theorem dyns_run : fieldsRun dynsT dynsW = true := by kernel_rfl
set_option maxRecDepth 1000000 in
theorem stems_run : fieldsRun stemsT stemsW = true := by kernel_rfl
set_option maxRecDepth 1000000 in
theorem beams_run : fieldsRun beamsT beamsW = true := by kernel_rfl
end Go.Proofs.YtholnnabakaliaaGreatDoor
