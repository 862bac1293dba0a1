/-
  A part of the proof that the law ParserIds (chapter 19) returns true for every site, number and count: walks of the program's functions, and runs of them in the kernel by the own evaluator.
-/
import Derived.Test.YtaimdnddmddbnaaGreatDoorOkf
import Derived.WalkKit
import Derived.Below
namespace Go.Proofs.YtaimdnddmddbnaaGreatDoor
open Go.RowKit Go.Dam

set_option maxHeartbeats 4000000 in
set_option maxRecDepth 100000 in
theorem keys_walk (M : Nat) (w : World) : Calls Tryz.prog 25 #[.map (some M)] w fun r w' => r = .returned (.func (.func 36) #[] #[.pointer (some ⟨w.heap.size, 0, none⟩)]) ∧ w' = w.alloc (.cells #[.map (some M)] 78) := by
  go_enter Tryz.func25, Tryz.ntmps25
  go_wp2
  go_ret
  exact ⟨rfl, rfl⟩

def sorted0 (S v : Int) : List (Nat × Obj) := [(200, .cells #[.map (some 202)] 78 (0, 0)), (202, .map #[⟨.int .i64 S, .int .i64 v, 0⟩] 1)]
def sorted1 (S v : Int) : List (Nat × Obj) := [(213, .cells #[.int .i64 S] 3 (0, 0)), (210, .cells #[.int .i64 S] 3 (0, 0)), (208, .mapIter (some 202) 1 #[0] 1), (204, .cells #[.slice (some ⟨213, 0, none⟩) 1 0] 99 (0, 0)), (200, .cells #[.map (some 202)] 78 (0, 0)), (202, .map #[⟨.int .i64 S, .int .i64 v, 0⟩] 1)]
set_option maxRecDepth 1000000 in
theorem sorted_ev (S v : Int) : evCall noOrc Tryz.prog fsAll 400 20 (.func 24) [.func (.func 36) #[] #[.pointer (some ⟨200, 0, none⟩)]] ⟨sorted0 S v, 204⟩ = some (.slice (some ⟨213, 0, none⟩) 1 0, ⟨sorted1 S v, 214⟩) := by kernel_rfl

theorem sorted_walk (S v : Int) (Bx M : Nat) (hne : Bx ≠ M) (w : World) (hB : w.heap[Bx]? = some (.cells #[.map (some M)] 78 (0, 0))) (hM : w.heap[M]? = some (.map #[⟨.int .i64 S, .int .i64 v, 0⟩] 1)) :
    Calls Tryz.prog 24 #[.func (.func 36) #[] #[.pointer (some ⟨Bx, 0, none⟩)]] w fun r w' => (∃ G off cap, r = .returned (.slice (some ⟨G, off, none⟩) 1 cap) ∧ w'.cell? ⟨G, off, none⟩ = some (.int .i64 S)) ∧ Below w.heap.size w w' := by
  have gs : Tryz.prog.globals.size = 8 := by kernel_rfl
  let E : Env := ⟨fun n => if n = 200 then Bx else if n = 202 then M else n / 2, fun _ => 0, fun _ => 0⟩
  let A : Nat → Prop := fun n => n < 16 ∨ n = 200 ∨ n = 202
  have H : Holds Tryz.prog E A (sorted0 S v) w := by
    refine ⟨fun n o hn => ?_, fun n m o o' hn hm e => ?_⟩
    · unfold sorted0 at hn
      simp only [getB] at hn
      split at hn
      · rename_i h1
        obtain rfl := Nat.eq_of_beq_eq_true h1
        obtain rfl := Option.some.inj hn
        refine ⟨.inr (.inl rfl), fun x hx => ?_, _, hB, ?_⟩
        · obtain rfl : x = .map (some 202) := by simpa using hx
          unfold Sc; exact .inr (.inr rfl)
        · have hr : isRow 200 = false := by decide
          simp only [BlkRel, hr, Bool.false_eq_true, if_false]
          refine ⟨rfl, ?_⟩
          simp [ren, E]
      · split at hn
        · rename_i h1
          obtain rfl := Nat.eq_of_beq_eq_true h1
          obtain rfl := Option.some.inj hn
          refine ⟨.inr (.inr rfl), fun x hx => ?_, _, hM, ?_⟩
          · obtain rfl : x = ⟨.int .i64 S, .int .i64 v, 0⟩ := by simpa using hx
            constructor <;> (unfold Sc; trivial)
          · have hl : loose #[⟨.int .i64 S, .int .i64 v, 0⟩] 1 = false := rfl
            simp only [BlkRel, hl, Bool.false_eq_true, if_false]
            simp [renEntry, ren]
        · cases hn
    · have hk : ∀ k x, getB (sorted0 S v) k = some x → k = 200 ∨ k = 202 := by
        intro k x hk
        unfold sorted0 at hk
        simp only [getB] at hk
        split at hk
        · rename_i h1; exact .inl (Nat.eq_of_beq_eq_true h1).symm
        · split at hk
          · rename_i h1; exact .inr (Nat.eq_of_beq_eq_true h1).symm
          · cases hk
      rcases hk _ _ hn with rfl | rfl <;> rcases hk _ _ hm with rfl | rfl
      · rfl
      · simp [E] at e; exact absurd e hne
      · simp [E] at e; exact absurd e.symm hne
      · rfl
  have hg : Glb Tryz.prog E A := by
    intro g hg
    rw [gs] at hg
    refine ⟨?_, rfl, .inl (by omega)⟩
    show (if 2 * g = 200 then Bx else if 2 * g = 202 then M else 2 * g / 2) = g
    rw [if_neg (by omega), if_neg (by omega)]; omega
  have := evCall_sound mixed_ok (namesOk_of names_ok) noOrc_ok (ok_any fsAll) 400 20 (.func 24) _ _ _ _ (sorted_ev S v) E A w hg (by show 204 % 2 = 0; decide) (fun x hx => by
    obtain rfl := List.mem_singleton.1 hx
    unfold Sc
    refine ⟨trivial, fun x hx => by simp at hx, fun x hx => ?_⟩
    obtain rfl : x = .pointer (some ⟨200, 0, none⟩) := by simpa using hx
    unfold Sc; exact .inr (.inl rfl)) H (fun n hn hx => by
      have hx' : 204 ≤ n ∧ n < 214 := hx
      rcases hn with h | h | h <;> omega)
  have he : ([Value.func (.func 36) #[] #[.pointer (some ⟨200, 0, none⟩)]].map (ren E)).toArray = #[.func (.func 36) #[] #[.pointer (some ⟨Bx, 0, none⟩)]] := by
    simp [ren, renFn, E, Env.addr]
  rw [he] at this
  refine Calls.mono this ?_
  rintro r w' ⟨E', rfl, p, _⟩
  refine ⟨?_, ⟨p.os, p.tape, p.output, p.size, fun b hb => ?_⟩⟩
  · obtain ⟨_, _, oc, hoc, hrel⟩ := p.holds.blk 213 _ rfl
    have hr : isRow 213 = true := by decide
    simp only [BlkRel, hr, if_true] at hrel
    obtain ⟨cc, fzc, s, rfl, hs, hc, _⟩ := hrel
    refine ⟨E'.β 213, E'.σ 213 + 0, E'.κ 213 - 0, ?_, ?_⟩
    · simp [ren, Env.addr, hr]
    · have h0 := hc 0 (.int .i64 S) rfl
      simp only [World.cell?, hoc]
      have e : ren E' (.int .i64 S) = .int .i64 S := by simp [ren]
      rw [e] at h0
      exact h0
  · by_cases h1 : b = Bx
    · subst h1
      obtain ⟨_, _, oc, hoc, hrel⟩ := p.holds.blk 200 _ rfl
      have hr : isRow 200 = false := by decide
      simp only [BlkRel, hr, Bool.false_eq_true, if_false] at hrel
      obtain ⟨_, rfl⟩ := hrel
      have hb' : E'.β 200 = b := (p.agree 200 (by show ¬ (204 ≤ 200 ∧ 200 < 214); decide)).1
      have hm' : E'.β 202 = M := by
        rw [(p.agree 202 (by show ¬ (204 ≤ 202 ∧ 202 < 214); decide)).1]; rfl
      rw [hb'] at hoc
      rw [hoc, hB]
      simp [ren, hm']
    · by_cases h2 : b = M
      · subst h2
        obtain ⟨_, _, oc, hoc, hrel⟩ := p.holds.blk 202 _ rfl
        have hl : loose #[⟨.int .i64 S, .int .i64 v, 0⟩] 1 = false := rfl
        simp only [BlkRel, hl, Bool.false_eq_true, if_false] at hrel
        subst hrel
        have hb' : E'.β 202 = b := by
          rw [(p.agree 202 (by show ¬ (204 ≤ 202 ∧ 202 < 214); decide)).1]; rfl
        rw [hb'] at hoc
        rw [hoc, hM]
        simp [ren, renEntry]
      · refine p.same b hb fun n o hn => ?_
        have hk : n = 200 ∨ n = 202 := by
          unfold sorted0 at hn
          simp only [getB] at hn
          split at hn
          · rename_i h1; exact .inl (Nat.eq_of_beq_eq_true h1).symm
          · split at hn
            · rename_i h1; exact .inr (Nat.eq_of_beq_eq_true h1).symm
            · cases hn
        rcases hk with rfl | rfl
        · exact fun e => h1 e.symm
        · exact fun e => h2 e.symm
end Go.Proofs.YtaimdnddmddbnaaGreatDoor

namespace Go.Proofs.YtaimdnddmddbnaaGreatDoor
open Go.RowKit Go.Dam

def lexCells (m : Nat) (c : Int) : Array Value := #[.slice none 0 0, .int .i64 0, .int .i64 1, .int .i64 c, .int .i64 5, .bool false, .int .i64 0, .int .i64 0, .map (some m)]
def lex0 (c : Int) : List (Nat × Obj) := [(200, .cells (lexCells 202 c) 83 (0, 0)), (202, .map #[] 0)]
def noScore : Value := .agg #[.string ByteArray.empty, .bool false, .slice none 0 0, .slice none 0 0, .slice none 0 0, .slice none 0 0]
noncomputable def lexRun (c : Int) : Option (Value × St) := evCall noOrc Tryz.prog fsAll 400 20 (.func 10) [.pointer (some ⟨200, 0, none⟩)] ⟨lex0 c, 204⟩
noncomputable def lexSt (c : Int) : St := match lexRun c with
  | some (_, S) => S
  | none => ⟨[], 0⟩
set_option maxRecDepth 1000000 in
theorem lex_ev (c : Int) : lexRun c = some (noScore, lexSt c) := by kernel_rfl
set_option maxRecDepth 1000000 in
theorem lex_next (c : Int) : (lexSt c).next = 250 := by kernel_rfl
set_option maxRecDepth 1000000 in
theorem lex_200 (c : Int) : getB (lexSt c).heap 200 = some (.cells (lexCells 202 c) 83 (0, 0)) := by kernel_rfl
set_option maxRecDepth 1000000 in
theorem lex_202 (c : Int) : getB (lexSt c).heap 202 = some (.map #[] 0) := by kernel_rfl

theorem score_lex (c : Int) (Y M : Nat) (hne : Y ≠ M) (w : World) (hB : w.heap[Y]? = some (.cells (lexCells M c) 83 (0, 0))) (hM : w.heap[M]? = some (.map #[] 0)) :
    Calls Tryz.prog 10 #[.pointer (some ⟨Y, 0, none⟩)] w fun r w' => r = .returned noScore ∧ Below w.heap.size w w' := by
  have gs : Tryz.prog.globals.size = 8 := by kernel_rfl
  let E : Env := ⟨fun n => if n = 200 then Y else if n = 202 then M else n / 2, fun _ => 0, fun _ => 0⟩
  let A : Nat → Prop := fun n => n < 16 ∨ n = 200 ∨ n = 202
  have H : Holds Tryz.prog E A (lex0 c) w := by
    refine ⟨fun n o hn => ?_, fun n m o o' hn hm e => ?_⟩
    · unfold lex0 at hn
      simp only [getB] at hn
      split at hn
      · rename_i h1
        obtain rfl := Nat.eq_of_beq_eq_true h1
        obtain rfl := Option.some.inj hn
        refine ⟨.inr (.inl rfl), fun x hx => ?_, _, hB, ?_⟩
        · have hx' : x ∈ (lexCells 202 c).toList := by simpa using hx
          simp only [lexCells, List.mem_cons, List.not_mem_nil, or_false] at hx'
          rcases hx' with rfl | rfl | rfl | rfl | rfl | rfl | rfl | rfl | rfl
          all_goals unfold Sc
          all_goals first | trivial | exact .inr (.inr rfl)
        · have hr : isRow 200 = false := by decide
          simp only [BlkRel, hr, Bool.false_eq_true, if_false]
          refine ⟨rfl, ?_⟩
          simp [lexCells, ren, E]
      · split at hn
        · rename_i h1
          obtain rfl := Nat.eq_of_beq_eq_true h1
          obtain rfl := Option.some.inj hn
          refine ⟨.inr (.inr rfl), fun x hx => ?_, _, hM, ?_⟩
          · simp at hx
          · have hl : loose #[] 0 = false := rfl
            simp only [BlkRel, hl, Bool.false_eq_true, if_false]
            simp
        · cases hn
    · have hk : ∀ k x, getB (lex0 c) k = some x → k = 200 ∨ k = 202 := by
        intro k x hk
        unfold lex0 at hk
        simp only [getB] at hk
        split at hk
        · rename_i h1; exact .inl (Nat.eq_of_beq_eq_true h1).symm
        · split at hk
          · rename_i h1; exact .inr (Nat.eq_of_beq_eq_true h1).symm
          · cases hk
      rcases hk _ _ hn with rfl | rfl <;> rcases hk _ _ hm with rfl | rfl
      · rfl
      · simp [E] at e; exact absurd e hne
      · simp [E] at e; exact absurd e.symm hne
      · rfl
  have hg : Glb Tryz.prog E A := by
    intro g hg
    rw [gs] at hg
    refine ⟨?_, rfl, .inl (by omega)⟩
    show (if 2 * g = 200 then Y else if 2 * g = 202 then M else 2 * g / 2) = g
    rw [if_neg (by omega), if_neg (by omega)]; omega
  have := evCall_sound mixed_ok (namesOk_of names_ok) noOrc_ok (ok_any fsAll) 400 20 (.func 10) _ _ _ _ (lex_ev c) E A w hg (by show 204 % 2 = 0; decide) (fun x hx => by
    obtain rfl := List.mem_singleton.1 hx
    unfold Sc; exact .inr (.inl rfl)) H (fun n hn hx => by
      have hx' : 204 ≤ n ∧ n < 250 := by rw [← lex_next c]; exact hx
      rcases hn with h | h | h <;> omega)
  have he : ([Value.pointer (some ⟨200, 0, none⟩)].map (ren E)).toArray = #[.pointer (some ⟨Y, 0, none⟩)] := by
    simp [ren, E, Env.addr]
  rw [he] at this
  refine Calls.mono this ?_
  rintro r w' ⟨E', rfl, p, _⟩
  refine ⟨?_, ⟨p.os, p.tape, p.output, p.size, fun b hb => ?_⟩⟩
  · simp [ren, noScore]
  · by_cases h1 : b = Y
    · subst h1
      obtain ⟨_, _, oc, hoc, hrel⟩ := p.holds.blk 200 _ (lex_200 c)
      have hr : isRow 200 = false := by decide
      simp only [BlkRel, hr, Bool.false_eq_true, if_false] at hrel
      obtain ⟨_, rfl⟩ := hrel
      have hb' : E'.β 200 = b := (p.agree 200 (by show ¬ (204 ≤ 200 ∧ _); omega)).1
      have hm' : E'.β 202 = M := by
        rw [(p.agree 202 (by show ¬ (204 ≤ 202 ∧ _); omega)).1]; rfl
      rw [hb'] at hoc
      rw [hoc, hB]
      simp [lexCells, ren, hm']
    · by_cases h2 : b = M
      · subst h2
        obtain ⟨_, _, oc, hoc, hrel⟩ := p.holds.blk 202 _ (lex_202 c)
        have hl : loose #[] 0 = false := rfl
        simp only [BlkRel, hl, Bool.false_eq_true, if_false] at hrel
        subst hrel
        have hb' : E'.β 202 = b := by
          rw [(p.agree 202 (by show ¬ (204 ≤ 202 ∧ _); omega)).1]; rfl
        rw [hb'] at hoc
        rw [hoc, hM]
        simp
      · refine p.same b hb fun n o hn => ?_
        have hk : n = 200 ∨ n = 202 := by
          unfold lex0 at hn
          simp only [getB] at hn
          split at hn
          · rename_i h1; exact .inl (Nat.eq_of_beq_eq_true h1).symm
          · split at hn
            · rename_i h1; exact .inr (Nat.eq_of_beq_eq_true h1).symm
            · cases hn
        rcases hk with rfl | rfl
        · exact fun e => h1 e.symm
        · exact fun e => h2 e.symm
end Go.Proofs.YtaimdnddmddbnaaGreatDoor
