/-
  A part of the proof that the law ParserKeywords (chapter 19) returns true for every index: runs of the program's functions in the kernel, by the own evaluator, and walks.
-/
import Derived.Test.YtonojcpjdhbhoaaGreatDoorSca
import Derived.Test.YtonojcpjdhbhoaaGreatDoorKnw
namespace Go.Proofs.YtonojcpjdhbhoaaGreatDoor
open Go.RowKit Go.Dam

noncomputable def tm62F : List Value := match evC CF Tryz.prog 400 rest62 tm62b scanE.st with
  | some (_, tm, _) => tm
  | none => []
noncomputable def lit62F : Go.Dam.Lit := ⟨tm62F, scanF.heap, scanF.next⟩
noncomputable def vs62 : List Value := match scanV with
  | .tuple vs => vs.toList
  | _ => []
set_option maxRecDepth 1000000 in
theorem end62 : endOk CF Tryz.prog 400 rest62 tm62b scanE.st lit62F = true := by kernel_rfl
set_option maxRecDepth 1000000 in
theorem res62 : aresults Tryz.prog scanF.heap tm62F Tryz.f62.results.toList = some vs62 := by kernel_rfl
theorem scanV_eq : scanV = oneOf vs62 := by kernel_rfl

theorem mem_of_getB {n : Nat} {o : Obj} : ∀ {h : List (Nat × Obj)}, getB h n = some o → ∃ x ∈ h, x.1 = n
  | [], h => by cases h
  | (m, y) :: r, h => by
    simp only [getB] at h
    split at h
    · rename_i he
      exact ⟨(m, y), by simp, Nat.eq_of_beq_eq_true he⟩
    · obtain ⟨x, hx, e⟩ := mem_of_getB h
      exact ⟨x, by simp [hx], e⟩

theorem names62 : (scanF.heap.all fun x => Nat.ble 106 x.1 && Nat.blt x.1 scanF.next) = true := by kernel_rfl
theorem globals62 : Nat.ble (2 * Tryz.prog.globals.size) 106 = true := by kernel_rfl
theorem start62 : Nat.ble 106 scanL.next = true := by kernel_rfl

theorem stL_next : scanL.st.next = scanL.next := rfl
theorem stE_next : scanE.st.next = scanE.next := rfl

set_option maxRecDepth 100000 in
set_option maxHeartbeats 1000000 in
theorem scan62 (E : Env) (A : Nat → Prop) (w : World) (hg : Glb Tryz.prog E A) (hA : ∀ n, A n → n < 106) :
    Calls Tryz.prog 62 ([Value.string scanText].map (ren E)).toArray w fun e w' => ∃ (_ : Unit) (E' : Env), e = .returned (ren E' (oneOf vs62)) ∧ Post Tryz.prog E A [] 106 w E' scanF.heap scanF.next w' ∧ Sc (fun n => A n ∨ (106 ≤ n ∧ n < scanF.next)) (oneOf vs62) := by
  obtain ⟨ev0, e0, _, _, _, _, _, _, hle, evE, hle0, hleF⟩ := evens'
  have hst := Nat.le_of_ble_eq_true start62
  have hH : Holds Tryz.prog E A [] w := ⟨fun n o hn => (by cases hn), fun n m o o' hn => (by cases hn)⟩
  refine calls_nd (C := Unit) (E := E) (w := w) (S := ⟨[], 106⟩) (tmR := fun _ => tm62F) (SR := fun _ => ⟨scanF.heap, scanF.next⟩) (vs := fun _ => vs62) Tryz.func62 body62 (by intro x hx; obtain rfl := List.mem_singleton.1 hx; exact Sc_string _ _) (fun _ => res62) ?_
  intro a ht _ Q hQ
  rw [ntmps62] at ht
  refine preOk_sound mixed_ok cf_ok (namesOk_of names_ok) pre62 ok62 ht hg rfl hH hA ?_
  intro E1 a1 w1 p1 ht1 hd1
  rw [shape62]
  have b1 : ∀ n, A n → ¬ (106 ≤ n ∧ n < scanL.st.next) := fun n hn hx => by have := hA n hn; omega
  have hg1 := hg.next (p1.agreeA b1) (B := fun n => A n ∨ (106 ≤ n ∧ n < scanL.st.next)) fun n hn => .inl hn
  have hA1 : ∀ n, (A n ∨ (106 ≤ n ∧ n < scanL.st.next)) → n < scanL.st.next := by
    rintro n (hn | hn)
    · have h1 := hA n hn
      rw [stL_next]
      omega
    · exact hn.2
  have h1 : ∀ o ∈ ops10.toList, ∀ x ∈ o.op.operands, okOpd Tryz.prog x = true := by
    intro o ho x hx
    obtain ⟨i, hi⟩ := List.mem_iff_getElem?.1 ho
    exact okOps_spec okops i o x hi hx
  refine wpIn_seq (region_nd cf_ok (namesOk_of names_ok) (C := Unit) (v := fun _ => oneOf []) (SR := fun _ => scanE.st) (tmR := fun _ => tm62b) (SE := fun _ => scanE.st) opsplit h1 callop callguard callcallee callbody first10 (fun _ => ?_) ?_ ht1 hg1 ev0 p1.holds hA1 ?_)
  · rw [calldst]; rfl
  · rw [args10]
    intro E2 A2 w2 hg2 hev2 hsc2 H2 hA2
    exact scan84 E2 A2 w2 hg2 hev2 hsc2 H2 hA2
  · intro _ E2 a2 w2 p2 ht2 hd2
    have hE : scanL.st.next ≤ scanE.st.next := p2.le
    have b2 : ∀ n, (A n ∨ (106 ≤ n ∧ n < scanL.st.next)) → ¬ (scanL.st.next ≤ n ∧ n < scanE.st.next) := fun n hn hx => by have := hA1 n hn; omega
    refine endOk_sound mixed_ok cf_ok (namesOk_of names_ok) end62 okr62 ht2 (hg1.next (p2.agreeA b2) fun n hn => .inl hn) evE p2.holds ?_ ?_
    · rintro n (hn | hn)
      · have := hA1 n hn; omega
      · exact hn.2
    · intro E3 a3 w3 p3 ht3 hd3
      have hF : scanE.st.next ≤ (lit62F.st).next := hleF
      exact (((hQ ()).trans p1 hd1 (Nat.le_trans hE hF)).trans p2 hd2 hF E3 a3 w3 p3 ht3 hd3).2

theorem scanT_ok : Told1 Tryz.prog scanT := by
  refine ⟨?_, ?_, ?_⟩
  · intro x hx
    obtain rfl := List.mem_singleton.1 hx
    rfl
  · intro n o hn
    obtain ⟨x, hx, rfl⟩ := mem_of_getB hn
    have := List.all_eq_true.1 names62 x hx
    simp only [Bool.and_eq_true] at this
    exact ⟨Nat.le_of_ble_eq_true this.1, Nat.le_of_ble_eq_true this.2⟩
  · intro E A w hg hev hA0
    have hgl := Nat.le_of_ble_eq_true globals62
    have hg' : Glb Tryz.prog E (fun n => A n ∧ n < 106) := by
      intro g hgs
      obtain ⟨h1, h2, h3⟩ := hg g hgs
      exact ⟨h1, h2, h3, by omega⟩
    have := scan62 E (fun n => A n ∧ n < 106) w hg' (fun n hn => hn.2)
    have he : ([Value.string scanText].map (ren E)).toArray = scanT.args.toArray := by
      simp only [List.map_cons, List.map_nil, ren_string]; rfl
    rw [he] at this
    refine Calls.mono this ?_
    rintro e w' ⟨_, E', rfl, p, hs⟩
    refine ⟨E', by rw [← scanV_eq]; rfl, ⟨p.le, p.even, p.agree, p.holds.mono ?_, p.os, p.tape, p.output, p.size, p.same, p.img⟩, ?_⟩
    · rintro n (hn | hn)
      · exact .inl hn.1
      · exact .inr hn
    · have hs' : Sc (fun n => A n ∨ (106 ≤ n ∧ n < scanF.next)) (oneOf vs62) := Sc_mono (by
        rintro n (hn | hn)
        · exact Or.inl hn.1
        · exact Or.inr hn) _ hs
      rw [← scanV_eq] at hs'
      exact hs'

theorem known_walk (w : World) : Calls Tryz.prog 9 #[] w fun e w' => e = .returned (.bool true) ∧ Below w.heap.size w w' := known_of scanT_ok w

end Go.Proofs.YtonojcpjdhbhoaaGreatDoor
