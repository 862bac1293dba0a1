/-
  A part of the proof that the law ParserSheets (chapter 19) returns true for every sheet: walks of the program's functions, and runs of them in the kernel by the own evaluator.
-/
import Derived.Test.YtjnkppneilmpbaaGreatDoorDamH
import Derived.Test.YtjnkppneilmpbaaGreatDoorOkf
import Derived.Test.YtjnkppneilmpbaaGreatDoorTol
import Derived.Test.YtjnkppneilmpbaaGreatDoorCh1
import Derived.Test.YtjnkppneilmpbaaGreatDoorCh2
import Derived.Test.YtjnkppneilmpbaaGreatDoorCh3
import Derived.Test.YtjnkppneilmpbaaGreatDoorCh4
import Derived.Test.YtjnkppneilmpbaaGreatDoorCh5
import Derived.Test.YtjnkppneilmpbaaGreatDoorCh6
namespace Go.Proofs.YtjnkppneilmpbaaGreatDoor
open Go.RowKit Go.Dam

noncomputable def c62 : Code := bodyOf 24
noncomputable def c84 : Code := bodyOf 47
noncomputable def b84 : Code := loopIn (bodyOf 47)
noncomputable def ops10 : Array Oper := opsC (headC (tailC 4 c62))
noncomputable def rest62 : Code := tailC 5 c62
noncomputable def callO : Oper := ops10.getD 1 default
noncomputable def callC : Call := match callO.op with
  | .call c => c
  | _ => default
noncomputable def x62 : Value := nth scanL.tm 6
noncomputable def tm62a : List Value := putD scanL.tm (some 36) x62
noncomputable def tm62b : List Value := putD tm62a (some 37) (.tuple #[])
noncomputable def args62 : List Value := [.string scanText] ++ List.replicate (62 - 1) undef
noncomputable def args84 : List Value := [x62] ++ List.replicate (53 - 1) undef

set_option maxRecDepth 1000000 in
theorem pre62 : preOk CF Tryz.prog 400 4 c62 args62 ⟨[], 106⟩ scanL = true := by kernel_rfl
set_option maxRecDepth 1000000 in
theorem pre84 : preOk CF Tryz.prog 400 2 c84 args84 scanL.st loopL0 = true := by kernel_rfl
set_option maxRecDepth 1000000 in
theorem end84 : endOk CF Tryz.prog 400 (.loop b84) loopL6.tm loopL6.st scanE = true := by kernel_rfl
theorem shape84 : tailC 2 c84 = .block 0 (.loop b84) := by kernel_rfl
theorem shape62 : tailC 4 c62 = .seq (.region 10 ops10 false) rest62 := by kernel_rfl
theorem ok84 : okCode Tryz.prog c84 = true := by kernel_rfl
theorem okb84 : okCode Tryz.prog b84 = true := by kernel_rfl
theorem ok62 : okCode Tryz.prog c62 = true := by kernel_rfl
theorem okr62 : okCode Tryz.prog rest62 = true := by kernel_rfl
theorem okops : okOps Tryz.prog ops10.toList = true := by kernel_rfl
theorem body84 : Tryz.f47.body = some c84 := by kernel_rfl
theorem body62 : Tryz.f24.body = some c62 := by kernel_rfl
theorem ntmps84 : Tryz.f47.ntmps = 53 := by kernel_rfl
theorem ntmps62 : Tryz.f24.ntmps = 62 := by kernel_rfl
theorem opsplit : ops10.toList = ops10.toList.take 1 ++ callO :: [] := by kernel_rfl
theorem callop : callO.op = .call callC := by kernel_rfl
theorem callguard : callO.guard = none := by kernel_rfl
theorem calldst : callO.dst = some 37 := by kernel_rfl
theorem callcallee : callC.callee = .value (.func 47) := by kernel_rfl
theorem callbody : hasBody Tryz.prog 47 = true := by kernel_rfl
theorem res84 : Tryz.f47.results.toList = [] := by kernel_rfl
set_option maxRecDepth 1000000 in
theorem first10 : evOps CF Tryz.prog ops10.toList (ops10.toList.take 1) scanL.tm scanL.st = some (tm62a, scanL.st) := by kernel_rfl
theorem args10 : callC.args.toList.map (aeval tm62a) = [x62] := by kernel_rfl
theorem evens : (Nat.beq (scanL.next % 2) 0 && Nat.beq (loopL0.next % 2) 0 && Nat.beq (loopL1.next % 2) 0 && Nat.beq (loopL2.next % 2) 0 && Nat.beq (loopL3.next % 2) 0 && Nat.beq (loopL4.next % 2) 0 && Nat.beq (loopL5.next % 2) 0 && Nat.beq (loopL6.next % 2) 0 && Nat.ble loopL6.next scanE.next && Nat.beq (scanE.next % 2) 0 && Nat.ble scanL.next loopL0.next && Nat.ble scanE.next scanF.next) = true := by kernel_rfl

theorem cf_ok : CallOk Tryz.prog CF := evCall_sound mixed_ok (namesOk_of names_ok) noOrc_ok (ok_any fsAll) 400 12

theorem evens' : scanL.next % 2 = 0 ∧ loopL0.next % 2 = 0 ∧ loopL1.next % 2 = 0 ∧ loopL2.next % 2 = 0 ∧ loopL3.next % 2 = 0 ∧ loopL4.next % 2 = 0 ∧ loopL5.next % 2 = 0 ∧ loopL6.next % 2 = 0 ∧ loopL6.next ≤ scanE.next ∧ scanE.next % 2 = 0 ∧ scanL.next ≤ loopL0.next ∧ scanE.next ≤ scanF.next := by
  have h := evens
  simp only [Bool.and_eq_true] at h
  obtain ⟨⟨⟨⟨⟨⟨⟨⟨⟨⟨⟨h1, h2⟩, h3⟩, h4⟩, h5⟩, h6⟩, h7⟩, h8⟩, h9⟩, h10⟩, h11⟩, h12⟩ := h
  exact ⟨Nat.eq_of_beq_eq_true h1, Nat.eq_of_beq_eq_true h2, Nat.eq_of_beq_eq_true h3, Nat.eq_of_beq_eq_true h4, Nat.eq_of_beq_eq_true h5, Nat.eq_of_beq_eq_true h6, Nat.eq_of_beq_eq_true h7, Nat.eq_of_beq_eq_true h8, Nat.le_of_ble_eq_true h9, Nat.eq_of_beq_eq_true h10, Nat.le_of_ble_eq_true h11, Nat.le_of_ble_eq_true h12⟩

theorem pieces84 : ∃ n, Pieces CF Tryz.prog 400 b84 n loopL0 scanE := by
  obtain ⟨_, e0, e1, e2, e3, e4, e5, e6, hle, _, _, _⟩ := evens'
  exact ⟨_, .more 10 chunk1 e1 (.more 10 chunk2 e2 (.more 10 chunk3 e3 (.more 10 chunk4 e4 (.more 10 chunk5 e5 (.more 1 chunk6 e6 (.last end84 hle))))))⟩

/-- The scanner's loop. -/
theorem scan84 (E : Env) (A : Nat → Prop) (w : World) (hg : Glb Tryz.prog E A) (hev : scanL.st.next % 2 = 0) (hargs : ∀ x ∈ [x62], Sc A x) (H : Holds Tryz.prog E A scanL.st.heap w) (hA : ∀ n, A n → n < scanL.st.next) :
    Calls Tryz.prog 47 ([x62].map (ren E)).toArray w fun e w' => ∃ (_ : Unit) (E' : Env), e = .returned (ren E' (oneOf [])) ∧ Post Tryz.prog E A scanL.st.heap scanL.st.next w E' scanE.st.heap scanE.st.next w' ∧ Sc (fun n => A n ∨ (scanL.st.next ≤ n ∧ n < scanE.st.next)) (oneOf []) := by
  refine calls_nd (C := Unit) (E := E) (w := w) (S := scanL.st) (tmR := fun _ => scanE.tm) (SR := fun _ => scanE.st) (vs := fun _ => []) Tryz.func47 body84 hargs (fun _ => by rw [res84]; rfl) ?_
  intro a ht _ Q hQ
  obtain ⟨_, e0, _, _, _, _, _, _, hle, _, hle0, _⟩ := evens'
  rw [ntmps84] at ht
  refine preOk_sound mixed_ok cf_ok (namesOk_of names_ok) pre84 ok84 ht hg hev H hA ?_
  intro E1 a1 w1 p1 ht1 hd1
  rw [shape84]
  obtain ⟨n, pc⟩ := pieces84
  have b1 : ∀ n, A n → ¬ (scanL.st.next ≤ n ∧ n < loopL0.st.next) := fun n hn hx => by have := hA n hn; omega
  refine wpIn_block (wpIn_loop_rounds n (pc.sound mixed_ok cf_ok (namesOk_of names_ok) okb84 ht1 (hg.next (p1.agreeA b1) fun n hn => .inl hn) e0 p1.holds ?_ ?_))
  · rintro n (hn | hn)
    · have h1 := hA n hn
      have h2 : scanL.st.next = scanL.next := rfl
      omega
    · exact hn.2
  · intro E2 a2 w2 p2 ht2 hd2
    exact ((hQ ()).trans p1 hd1 pc.le E2 a2 w2 p2 ht2 hd2).2

end Go.Proofs.YtjnkppneilmpbaaGreatDoor
