/-
  A part of the proof that the law ParserNests (chapter 19) returns true for every depth and every list of notes: walks of the program's functions, and runs of them in the kernel by the own evaluator.
-/
import Derived.Test.YtmoddgkjaimpfaaGreatDoorDamJ
import Derived.Test.YtmoddgkjaimpfaaGreatDoorOkf
import Derived.Test.YtmoddgkjaimpfaaGreatDoorTol
import Derived.Test.YtmoddgkjaimpfaaGreatDoorCh1
import Derived.Test.YtmoddgkjaimpfaaGreatDoorCh2
import Derived.Test.YtmoddgkjaimpfaaGreatDoorCh3
import Derived.Test.YtmoddgkjaimpfaaGreatDoorCh4
import Derived.Test.YtmoddgkjaimpfaaGreatDoorCh5
import Derived.Test.YtmoddgkjaimpfaaGreatDoorCh6
import Derived.Test.YtmoddgkjaimpfaaGreatDoorKnw
namespace Go.Proofs.YtmoddgkjaimpfaaGreatDoor
open Go.RowKit Go.Dam

noncomputable def c62 : Code := bodyOf 12
noncomputable def c84 : Code := bodyOf 21
noncomputable def b84 : Code := loopIn (bodyOf 21)
noncomputable def ops10 : Array Oper := opsC (headC (tailC 4 c62))
noncomputable def rest62 : Code := tailC 5 c62
noncomputable def callO : Oper := ops10.getD 1 default
noncomputable def callC : Call := match callO.op with
  | .call c => c
  | _ => default
noncomputable def x62 : Value := nth scanL.tm 6
noncomputable def tm62a : List Value := putD scanL.tm (some 36) x62
noncomputable def tm62b : List Value := putD tm62a (some 37) (.tuple #[])
noncomputable def args62 : List Value := [.string scanText] ++ List.replicate (62 - 1) undef
noncomputable def args84 : List Value := [x62] ++ List.replicate (53 - 1) undef

set_option maxRecDepth 1000000 in
theorem pre62 : preOk CF Tryz.prog 400 4 c62 args62 ⟨[], 106⟩ scanL = true := by kernel_rfl
set_option maxRecDepth 1000000 in
theorem pre84 : preOk CF Tryz.prog 400 2 c84 args84 scanL.st loopL0 = true := by kernel_rfl
set_option maxRecDepth 1000000 in
theorem end84 : endOk CF Tryz.prog 400 (.loop b84) loopL6.tm loopL6.st scanE = true := by kernel_rfl
theorem shape84 : tailC 2 c84 = .block 0 (.loop b84) := by kernel_rfl
theorem shape62 : tailC 4 c62 = .seq (.region 10 ops10 false) rest62 := by kernel_rfl
theorem ok84 : okCode Tryz.prog c84 = true := by kernel_rfl
theorem okb84 : okCode Tryz.prog b84 = true := by kernel_rfl
theorem ok62 : okCode Tryz.prog c62 = true := by kernel_rfl
theorem okr62 : okCode Tryz.prog rest62 = true := by kernel_rfl
theorem okops : okOps Tryz.prog ops10.toList = true := by kernel_rfl
theorem body84 : Tryz.f21.body = some c84 := by kernel_rfl
theorem body62 : Tryz.f12.body = some c62 := by kernel_rfl
theorem ntmps84 : Tryz.f21.ntmps = 53 := by kernel_rfl
theorem ntmps62 : Tryz.f12.ntmps = 62 := by kernel_rfl
theorem opsplit : ops10.toList = ops10.toList.take 1 ++ callO :: [] := by kernel_rfl
theorem callop : callO.op = .call callC := by kernel_rfl
theorem callguard : callO.guard = none := by kernel_rfl
theorem calldst : callO.dst = some 37 := by kernel_rfl
theorem callcallee : callC.callee = .value (.func 21) := by kernel_rfl
theorem callbody : hasBody Tryz.prog 21 = true := by kernel_rfl
theorem res84 : Tryz.f21.results.toList = [] := by kernel_rfl
set_option maxRecDepth 1000000 in
theorem first10 : evOps CF Tryz.prog ops10.toList (ops10.toList.take 1) scanL.tm scanL.st = some (tm62a, scanL.st) := by kernel_rfl
theorem args10 : callC.args.toList.map (aeval tm62a) = [x62] := by kernel_rfl
theorem evens : (Nat.beq (scanL.next % 2) 0 && Nat.beq (loopL0.next % 2) 0 && Nat.beq (loopL1.next % 2) 0 && Nat.beq (loopL2.next % 2) 0 && Nat.beq (loopL3.next % 2) 0 && Nat.beq (loopL4.next % 2) 0 && Nat.beq (loopL5.next % 2) 0 && Nat.beq (loopL6.next % 2) 0 && Nat.ble loopL6.next scanE.next && Nat.beq (scanE.next % 2) 0 && Nat.ble scanL.next loopL0.next && Nat.ble scanE.next scanF.next) = true := by kernel_rfl

theorem cf_ok : CallOk Tryz.prog CF := evCall_sound mixed_ok (namesOk_of names_ok) noOrc_ok (ok_any fsAll) 400 12

theorem evens' : scanL.next % 2 = 0 ∧ loopL0.next % 2 = 0 ∧ loopL1.next % 2 = 0 ∧ loopL2.next % 2 = 0 ∧ loopL3.next % 2 = 0 ∧ loopL4.next % 2 = 0 ∧ loopL5.next % 2 = 0 ∧ loopL6.next % 2 = 0 ∧ loopL6.next ≤ scanE.next ∧ scanE.next % 2 = 0 ∧ scanL.next ≤ loopL0.next ∧ scanE.next ≤ scanF.next := by
  have h := evens
  simp only [Bool.and_eq_true] at h
  obtain ⟨⟨⟨⟨⟨⟨⟨⟨⟨⟨⟨h1, h2⟩, h3⟩, h4⟩, h5⟩, h6⟩, h7⟩, h8⟩, h9⟩, h10⟩, h11⟩, h12⟩ := h
  exact ⟨Nat.eq_of_beq_eq_true h1, Nat.eq_of_beq_eq_true h2, Nat.eq_of_beq_eq_true h3, Nat.eq_of_beq_eq_true h4, Nat.eq_of_beq_eq_true h5, Nat.eq_of_beq_eq_true h6, Nat.eq_of_beq_eq_true h7, Nat.eq_of_beq_eq_true h8, Nat.le_of_ble_eq_true h9, Nat.eq_of_beq_eq_true h10, Nat.le_of_ble_eq_true h11, Nat.le_of_ble_eq_true h12⟩

theorem pieces84 : ∃ n, Pieces CF Tryz.prog 400 b84 n loopL0 scanE := by
  obtain ⟨_, e0, e1, e2, e3, e4, e5, e6, hle, _, _, _⟩ := evens'
  exact ⟨_, .more 10 chunk1 e1 (.more 10 chunk2 e2 (.more 10 chunk3 e3 (.more 10 chunk4 e4 (.more 10 chunk5 e5 (.more 1 chunk6 e6 (.last end84 hle))))))⟩

/-- The scanner's loop. -/
theorem scan84 (E : Env) (A : Nat → Prop) (w : World) (hg : Glb Tryz.prog E A) (hev : scanL.st.next % 2 = 0) (hargs : ∀ x ∈ [x62], Sc A x) (H : Holds Tryz.prog E A scanL.st.heap w) (hA : ∀ n, A n → n < scanL.st.next) :
    Calls Tryz.prog 21 ([x62].map (ren E)).toArray w fun e w' => ∃ (_ : Unit) (E' : Env), e = .returned (ren E' (oneOf [])) ∧ Post Tryz.prog E A scanL.st.heap scanL.st.next w E' scanE.st.heap scanE.st.next w' ∧ Sc (fun n => A n ∨ (scanL.st.next ≤ n ∧ n < scanE.st.next)) (oneOf []) := by
  refine calls_nd (C := Unit) (E := E) (w := w) (S := scanL.st) (tmR := fun _ => scanE.tm) (SR := fun _ => scanE.st) (vs := fun _ => []) Tryz.func21 body84 hargs (fun _ => by rw [res84]; rfl) ?_
  intro a ht _ Q hQ
  obtain ⟨_, e0, _, _, _, _, _, _, hle, _, hle0, _⟩ := evens'
  rw [ntmps84] at ht
  refine preOk_sound mixed_ok cf_ok (namesOk_of names_ok) pre84 ok84 ht hg hev H hA ?_
  intro E1 a1 w1 p1 ht1 hd1
  rw [shape84]
  obtain ⟨n, pc⟩ := pieces84
  have b1 : ∀ n, A n → ¬ (scanL.st.next ≤ n ∧ n < loopL0.st.next) := fun n hn hx => by have := hA n hn; omega
  refine wpIn_block (wpIn_loop_rounds n (pc.sound mixed_ok cf_ok (namesOk_of names_ok) okb84 ht1 (hg.next (p1.agreeA b1) fun n hn => .inl hn) e0 p1.holds ?_ ?_))
  · rintro n (hn | hn)
    · have h1 := hA n hn
      have h2 : scanL.st.next = scanL.next := rfl
      omega
    · exact hn.2
  · intro E2 a2 w2 p2 ht2 hd2
    exact ((hQ ()).trans p1 hd1 pc.le E2 a2 w2 p2 ht2 hd2).2

end Go.Proofs.YtmoddgkjaimpfaaGreatDoor

namespace Go.Proofs.YtmoddgkjaimpfaaGreatDoor
open Go.RowKit Go.Dam

noncomputable def tm62F : List Value := match evC CF Tryz.prog 400 rest62 tm62b scanE.st with
  | some (_, tm, _) => tm
  | none => []
noncomputable def lit62F : Go.Dam.Lit := ⟨tm62F, scanF.heap, scanF.next⟩
noncomputable def vs62 : List Value := match scanV with
  | .tuple vs => vs.toList
  | _ => []
set_option maxRecDepth 1000000 in
theorem end62 : endOk CF Tryz.prog 400 rest62 tm62b scanE.st lit62F = true := by kernel_rfl
set_option maxRecDepth 1000000 in
theorem res62 : aresults Tryz.prog scanF.heap tm62F Tryz.f12.results.toList = some vs62 := by kernel_rfl
theorem scanV_eq : scanV = oneOf vs62 := by kernel_rfl

theorem mem_of_getB {n : Nat} {o : Obj} : ∀ {h : List (Nat × Obj)}, getB h n = some o → ∃ x ∈ h, x.1 = n
  | [], h => by cases h
  | (m, y) :: r, h => by
    simp only [getB] at h
    split at h
    · rename_i he
      exact ⟨(m, y), by simp, Nat.eq_of_beq_eq_true he⟩
    · obtain ⟨x, hx, e⟩ := mem_of_getB h
      exact ⟨x, by simp [hx], e⟩

theorem names62 : (scanF.heap.all fun x => Nat.ble 106 x.1 && Nat.blt x.1 scanF.next) = true := by kernel_rfl
theorem globals62 : Nat.ble (2 * Tryz.prog.globals.size) 106 = true := by kernel_rfl
theorem start62 : Nat.ble 106 scanL.next = true := by kernel_rfl

theorem stL_next : scanL.st.next = scanL.next := rfl
theorem stE_next : scanE.st.next = scanE.next := rfl

set_option maxRecDepth 100000 in
set_option maxHeartbeats 1000000 in
theorem scan62 (E : Env) (A : Nat → Prop) (w : World) (hg : Glb Tryz.prog E A) (hA : ∀ n, A n → n < 106) :
    Calls Tryz.prog 12 ([Value.string scanText].map (ren E)).toArray w fun e w' => ∃ (_ : Unit) (E' : Env), e = .returned (ren E' (oneOf vs62)) ∧ Post Tryz.prog E A [] 106 w E' scanF.heap scanF.next w' ∧ Sc (fun n => A n ∨ (106 ≤ n ∧ n < scanF.next)) (oneOf vs62) := by
  obtain ⟨ev0, e0, _, _, _, _, _, _, hle, evE, hle0, hleF⟩ := evens'
  have hst := Nat.le_of_ble_eq_true start62
  have hH : Holds Tryz.prog E A [] w := ⟨fun n o hn => (by cases hn), fun n m o o' hn => (by cases hn)⟩
  refine calls_nd (C := Unit) (E := E) (w := w) (S := ⟨[], 106⟩) (tmR := fun _ => tm62F) (SR := fun _ => ⟨scanF.heap, scanF.next⟩) (vs := fun _ => vs62) Tryz.func12 body62 (by intro x hx; obtain rfl := List.mem_singleton.1 hx; exact Sc_string _ _) (fun _ => res62) ?_
  intro a ht _ Q hQ
  rw [ntmps62] at ht
  refine preOk_sound mixed_ok cf_ok (namesOk_of names_ok) pre62 ok62 ht hg rfl hH hA ?_
  intro E1 a1 w1 p1 ht1 hd1
  rw [shape62]
  have b1 : ∀ n, A n → ¬ (106 ≤ n ∧ n < scanL.st.next) := fun n hn hx => by have := hA n hn; omega
  have hg1 := hg.next (p1.agreeA b1) (B := fun n => A n ∨ (106 ≤ n ∧ n < scanL.st.next)) fun n hn => .inl hn
  have hA1 : ∀ n, (A n ∨ (106 ≤ n ∧ n < scanL.st.next)) → n < scanL.st.next := by
    rintro n (hn | hn)
    · have h1 := hA n hn
      rw [stL_next]
      omega
    · exact hn.2
  have h1 : ∀ o ∈ ops10.toList, ∀ x ∈ o.op.operands, okOpd Tryz.prog x = true := by
    intro o ho x hx
    obtain ⟨i, hi⟩ := List.mem_iff_getElem?.1 ho
    exact okOps_spec okops i o x hi hx
  refine wpIn_seq (region_nd cf_ok (namesOk_of names_ok) (C := Unit) (v := fun _ => oneOf []) (SR := fun _ => scanE.st) (tmR := fun _ => tm62b) (SE := fun _ => scanE.st) opsplit h1 callop callguard callcallee callbody first10 (fun _ => ?_) ?_ ht1 hg1 ev0 p1.holds hA1 ?_)
  · rw [calldst]; rfl
  · rw [args10]
    intro E2 A2 w2 hg2 hev2 hsc2 H2 hA2
    exact scan84 E2 A2 w2 hg2 hev2 hsc2 H2 hA2
  · intro _ E2 a2 w2 p2 ht2 hd2
    have hE : scanL.st.next ≤ scanE.st.next := p2.le
    have b2 : ∀ n, (A n ∨ (106 ≤ n ∧ n < scanL.st.next)) → ¬ (scanL.st.next ≤ n ∧ n < scanE.st.next) := fun n hn hx => by have := hA1 n hn; omega
    refine endOk_sound mixed_ok cf_ok (namesOk_of names_ok) end62 okr62 ht2 (hg1.next (p2.agreeA b2) fun n hn => .inl hn) evE p2.holds ?_ ?_
    · rintro n (hn | hn)
      · have := hA1 n hn; omega
      · exact hn.2
    · intro E3 a3 w3 p3 ht3 hd3
      have hF : scanE.st.next ≤ (lit62F.st).next := hleF
      exact (((hQ ()).trans p1 hd1 (Nat.le_trans hE hF)).trans p2 hd2 hF E3 a3 w3 p3 ht3 hd3).2

theorem scanT_ok : Told1 Tryz.prog scanT := by
  refine ⟨?_, ?_, ?_⟩
  · intro x hx
    obtain rfl := List.mem_singleton.1 hx
    rfl
  · intro n o hn
    obtain ⟨x, hx, rfl⟩ := mem_of_getB hn
    have := List.all_eq_true.1 names62 x hx
    simp only [Bool.and_eq_true] at this
    exact ⟨Nat.le_of_ble_eq_true this.1, Nat.le_of_ble_eq_true this.2⟩
  · intro E A w hg hev hA0
    have hgl := Nat.le_of_ble_eq_true globals62
    have hg' : Glb Tryz.prog E (fun n => A n ∧ n < 106) := by
      intro g hgs
      obtain ⟨h1, h2, h3⟩ := hg g hgs
      exact ⟨h1, h2, h3, by omega⟩
    have := scan62 E (fun n => A n ∧ n < 106) w hg' (fun n hn => hn.2)
    have he : ([Value.string scanText].map (ren E)).toArray = scanT.args.toArray := by
      simp only [List.map_cons, List.map_nil, ren_string]; rfl
    rw [he] at this
    refine Calls.mono this ?_
    rintro e w' ⟨_, E', rfl, p, hs⟩
    refine ⟨E', by rw [← scanV_eq]; rfl, ⟨p.le, p.even, p.agree, p.holds.mono ?_, p.os, p.tape, p.output, p.size, p.same, p.img⟩, ?_⟩
    · rintro n (hn | hn)
      · exact .inl hn.1
      · exact .inr hn
    · have hs' : Sc (fun n => A n ∨ (106 ≤ n ∧ n < scanF.next)) (oneOf vs62) := Sc_mono (by
        rintro n (hn | hn)
        · exact Or.inl hn.1
        · exact Or.inr hn) _ hs
      rw [← scanV_eq] at hs'
      exact hs'

theorem known_walk (w : World) : Calls Tryz.prog 5 #[] w fun e w' => e = .returned (.bool true) ∧ Below w.heap.size w w' := known_of scanT_ok w

end Go.Proofs.YtmoddgkjaimpfaaGreatDoor
