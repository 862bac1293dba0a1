/- Towards the law ParserVoices, true for every text (no condition): one part of the proof. -/
import Derived.Test.YtgkhemnmcgicnaaGreatDoorG49
import Derived.Test.YtgkhemnmcgicnaaGreatDoorG01
import Derived.Test.YtgkhemnmcgicnaaGreatDoorG48
import Derived.Test.YtgkhemnmcgicnaaGreatDoorG43
namespace Go.Proofs.YtgkhemnmcgicnaaGreatDoor
set_option maxRecDepth 1000000
open Go.RowKit Go.Dam
theorem BF : qU (iM DJ [] []) ZJ oT = true := by kernel_rfl
theorem vK (s : ByteArray) (v : Value) (hv : plain v = true) (h : rU s v = true) : P6 Tryz.prog (67, [.string s], v) := by
 refine ⟨fun x hx => ?_, hv, fun w => ?_⟩
 ·obtain rfl := qqw.1 hx; rfl
 ·unfold rU at h
  split at h
  ·rename_i u S he
   obtain rfl := nJ h
   refine NE (args := [.string s]) CW kU (fX jE) (JE _) (h := []) (nx := 100) rfl (by decide) (qqo (by kernel_rfl)) ?_ hv he rfl ?_
   ·intro x hx; obtain rfl := qqw.1 hx; rfl
   ·intro n o hn; cases hn
  ·cases h
theorem mU : ∀ t ∈ DJ, P6 Tryz.prog t := by
 intro t ht
 simp only [DJ, qqj, qqv, or_false] at ht
 rcases ht with rfl | rfl | rfl
 ·exact vK _ _ rfl X7
 ·exact vK _ _ rfl X8
 ·exact vK _ _ rfl X9
theorem mE {orc : FuncId -> List Value -> St -> Option (Value × St)} (horc : CV Tryz.prog orc) {fs : Nat} {t : Go.Dam.Told} (h : qU orc fs t = true) : E4 Tryz.prog t :=
 TC kU (fX jE) horc (JE fs) h
theorem AG : ∀ t ∈ ([] : List CG), KH Tryz.prog t := fun _ h => by cases h
theorem FG : ∀ t ∈ ([] : List Go.Dam.Told), E4 Tryz.prog t := fun _ h => by cases h
theorem FH : ∀ t ∈ [qV, oP, oQ, oR, oS, oT], E4 Tryz.prog t := by
 intro t ht
 simp only [qqj, qqv, or_false] at ht
 rcases ht with rfl | rfl | rfl | rfl | rfl | rfl
 ·exact mE (fS mU AG FG) DH
 ·exact mE (fS mU AG FG) BA
 ·exact mE (fS mU AG FG) BC
 ·exact mE (fS mU AG FG) BD
 ·exact mE (fS mU AG FG) BE
 ·exact mE (fS mU AG FG) BF
theorem TG : ∀ t ∈ [tG, qW], E4 Tryz.prog t := by
 intro t ht
 simp only [qqj, qqv, or_false] at ht
 rcases ht with rfl | rfl
 ·exact mE (fS mU AG FH) A8
 ·exact mE (fS mU AG FH) yZ
theorem TH (hs : KH Tryz.prog QG) (w : World) : Calls Tryz.prog 11 #[] w fun e w' => e = .returned (.bool true) /\ Below w.heap.size w w' := by
 have hr := RJ
 unfold isTrue at hr
 split at hr
 ·rename_i S he
  refine NE (args := []) (fS mU (fun t ht => by obtain rfl := qqw.1 ht; exact hs) TG) kU (fX jE) (JE _) (h := []) (nx := 100) rfl (by decide) (qqo (by kernel_rfl)) (by simp) rfl he rfl ?_
  intro n o hn; cases hn
 ·cases hr
theorem X1 : sR CF Tryz.prog 400 (o9 (qP 41)) 10 sZ G5 = true := by kernel_rfl
theorem X2 : sR CF Tryz.prog 400 (o9 (qP 41)) 10 G5 G6 = true := by kernel_rfl
theorem X3 : sR CF Tryz.prog 400 (o9 (qP 41)) 10 G6 G7 = true := by kernel_rfl
theorem X4 : sR CF Tryz.prog 400 (o9 (qP 41)) 10 G7 G8 = true := by kernel_rfl
theorem X5 : sR CF Tryz.prog 400 (o9 (qP 41)) 10 G8 G9 = true := by kernel_rfl
theorem X6 : sR CF Tryz.prog 400 (o9 (qP 41)) 1 G9 vL = true := by kernel_rfl
noncomputable def c62 : Code := qP 16
noncomputable def c84 : Code := qP 41
noncomputable def b84 : Code := o9 (qP 41)
noncomputable def AR : Array Oper := aAJ (ZL (CL 4 c62))
noncomputable def JK : Code := CL 5 c62
noncomputable def L1 : Oper := AR.getD 1 default
noncomputable def VC : Call := match L1.op with
 | .call c => c
 | _ => default
noncomputable def Z6 : Value := tN fF.tm 6
noncomputable def VD : List Value := n7 fF.tm (some 36) Z6
noncomputable def VE : List Value := n7 VD (some 37) (.tuple #[])
noncomputable def Y7 : List Value := [.string cM] ++ List.replicate (62 - 1) undef
noncomputable def Y8 : List Value := [Z6] ++ List.replicate (53 - 1) undef
theorem Z7 : QA CF Tryz.prog 400 4 c62 Y7 ⟨[], 106⟩ fF = true := by kernel_rfl
theorem Z8 : QA CF Tryz.prog 400 2 c84 Y8 fF.st sZ = true := by kernel_rfl
theorem Z9 : CM CF Tryz.prog 400 (.loop b84) vL.tm vL.st kE = true := by kernel_rfl
theorem XF : CL 2 c84 = .block 0 (.loop b84) := by kernel_rfl
theorem XG : CL 4 c62 = .seq (.region 10 AR false) JK := by kernel_rfl
theorem aAR : dE Tryz.prog c84 = true := by kernel_rfl
theorem aAA : dE Tryz.prog b84 = true := by kernel_rfl
theorem aAS : dE Tryz.prog c62 = true := by kernel_rfl
theorem aAB : dE Tryz.prog JK = true := by kernel_rfl
theorem aAC : P3 Tryz.prog AR.toList = true := by kernel_rfl
theorem Y9 : Tryz.f41.body = some c84 := by kernel_rfl
theorem ZA : Tryz.f16.body = some c62 := by kernel_rfl
theorem ntmps84 : Tryz.f41.ntmps = 53 := by kernel_rfl
theorem ntmps62 : Tryz.f16.ntmps = 62 := by kernel_rfl
theorem XH : AR.toList = AR.toList.take 1 ++ L1 :: [] := by kernel_rfl
theorem ZB : L1.op = .call VC := by kernel_rfl
theorem R9 : L1.guard = none := by kernel_rfl
theorem XJ : L1.dst = some 37 := by kernel_rfl
theorem PG : VC.callee = .value (.func 41) := by kernel_rfl
theorem VF : tR Tryz.prog 41 = true := by kernel_rfl
theorem aAD : Tryz.f41.results.toList = [] := by kernel_rfl
theorem XK : nA CF Tryz.prog AR.toList (AR.toList.take 1) fF.tm fF.st = some (VD, fF.st) := by kernel_rfl
theorem ZC : VC.args.toList.map (aH VD) = [Z6] := by kernel_rfl
theorem aAE : (Nat.beq (fF.next % 2) 0 && Nat.beq (sZ.next % 2) 0 && Nat.beq (G5.next % 2) 0 && Nat.beq (G6.next % 2) 0 && Nat.beq (G7.next % 2) 0 && Nat.beq (G8.next % 2) 0 && Nat.beq (G9.next % 2) 0 && Nat.beq (vL.next % 2) 0 && Nat.ble vL.next kE.next && Nat.beq (kE.next % 2) 0 && Nat.ble fF.next sZ.next && Nat.ble kE.next nR.next) = true := by kernel_rfl
theorem L2 : gE Tryz.prog CF := mT kU (fX jE) CW (JE LS) 400 12
theorem PH : fF.next % 2 = 0 /\ sZ.next % 2 = 0 /\ G5.next % 2 = 0 /\ G6.next % 2 = 0 /\ G7.next % 2 = 0 /\ G8.next % 2 = 0 /\ G9.next % 2 = 0 /\ vL.next % 2 = 0 /\ vL.next <= kE.next /\ kE.next % 2 = 0 /\ fF.next <= sZ.next /\ kE.next <= nR.next := by
 have h := aAE
 simp only [qqx] at h
 obtain ⟨⟨⟨⟨⟨⟨⟨⟨⟨⟨⟨h1, h2⟩, h3⟩, h4⟩, h5⟩, h6⟩, h7⟩, h8⟩, h9⟩, h10⟩, h11⟩, h12⟩ := h
 exact ⟨qqq h1, qqq h2, qqq h3, qqq h4, qqq h5, qqq h6, qqq h7, qqq h8, qqo h9, qqq h10, qqo h11, qqo h12⟩
theorem VG : ∃ n, sS CF Tryz.prog 400 b84 n sZ kE := by
 obtain ⟨_, e0, e1, e2, e3, e4, e5, e6, hle, _, _, _⟩ := PH
 exact ⟨_, .more 10 X1 e1 (.more 10 X2 e2 (.more 10 X3 e3 (.more 10 X4 e4 (.more 10 X5 e5 (.more 1 X6 e6 (.last Z9 hle))))))⟩
theorem ZD (E : bV) (A : Nat -> Prop) (w : World) (hg : rM Tryz.prog E A) (hev : fF.st.next % 2 = 0) (hargs : ∀ x ∈ [Z6], Sc A x) (H : aV Tryz.prog E A fF.st.heap w) (hA : ∀ n, A n -> n < fF.st.next) :
  Calls Tryz.prog 41 ([Z6].map (aK E)).toArray w fun e w' => ∃ (_ : Unit) (E' : bV), e = .returned (aK E' (g8 [])) /\ aX Tryz.prog E A fF.st.heap fF.st.next w E' kE.st.heap kE.st.next w' /\ Sc (fun n => A n \/ (fF.st.next <= n /\ n < kE.st.next)) (g8 []) := by
 refine KG (C := Unit) (E := E) (w := w) (S := fF.st) (tmR := fun _ => kE.tm) (SR := fun _ => kE.st) (vs := fun _ => []) Tryz.func41 Y9 hargs (fun _ => by rw [aAD]; rfl) ?_
 intro a ht _ Q hQ
 obtain ⟨_, e0, _, _, _, _, _, _, hle, _, hle0, _⟩ := PH
 rw [ntmps84] at ht
 refine zY kU L2 (fX jE) Z8 aAR ht hg hev H hA ?_
 intro E1 a1 w1 p1 ht1 hd1
 rw [XF]
 obtain ⟨n, pc⟩ := VG
 have b1 : ∀ n, A n -> ¬ (fF.st.next <= n /\ n < sZ.st.next) := fun n hn hx => by have := hA n hn; omega
 refine wpIn_block (wpIn_loop_rounds n (pc.sound kU L2 (fX jE) aAA ht1 (hg.next (p1.agreeA b1) fun n hn => .inl hn) e0 p1.holds ?_ ?_))
 ·rintro n (hn | hn)
  ·have h1 := hA n hn
   have h2 : fF.st.next = fF.next := rfl
   omega
  ·exact hn.2
 ·intro E2 a2 w2 p2 ht2 hd2
  exact ((hQ ()).trans p1 hd1 pc.le E2 a2 w2 p2 ht2 hd2).2
set_option maxHeartbeats 1000000
noncomputable def VH : List Value := match Go.Dam.evC CF Tryz.prog 400 JK VE kE.st with
 | some (_, tm, _) => tm
 | none => []
noncomputable def VJ : Go.Dam.Lit := ⟨VH, nR.heap, nR.next⟩
noncomputable def SA : List Value := match TL with
 | .tuple vs => vs.toList
 | _ => []
theorem aAF : CM CF Tryz.prog 400 JK VE kE.st VJ = true := by kernel_rfl
theorem aAG : iE Tryz.prog nR.heap VH Tryz.f16.results.toList = some SA := by kernel_rfl
theorem L3 : TL = g8 SA := by kernel_rfl
theorem AS {n : Nat} {o : Obj} : ∀ {h : List (Nat × Obj)}, aL h n = some o -> ∃ x ∈ h, x.1 = n
 | [], h => by cases h
 | (m, y) :: r, h => by
  simp only [aL] at h
  split at h
  ·rename_i he
   exact ⟨(m, y), by simp, qqq he⟩
  ·obtain ⟨x, hx, e⟩ := AS h
   exact ⟨x, by simp [hx], e⟩
theorem XL : (nR.heap.all fun x => Nat.ble 106 x.1 && Nat.blt x.1 nR.next) = true := by kernel_rfl
theorem SB : Nat.ble (2 * Tryz.prog.globals.size) 106 = true := by kernel_rfl
theorem XM : Nat.ble 106 fF.next = true := by kernel_rfl
theorem VK : fF.st.next = fF.next := rfl
theorem ZE (E : bV) (A : Nat -> Prop) (w : World) (hg : rM Tryz.prog E A) (hA : ∀ n, A n -> n < 106) :
  Calls Tryz.prog 16 ([Value.string cM].map (aK E)).toArray w fun e w' => ∃ (_ : Unit) (E' : bV), e = .returned (aK E' (g8 SA)) /\ aX Tryz.prog E A [] 106 w E' nR.heap nR.next w' /\ Sc (fun n => A n \/ (106 <= n /\ n < nR.next)) (g8 SA) := by
 obtain ⟨ev0, e0, _, _, _, _, _, _, hle, evE, hle0, hleF⟩ := PH
 have hst := qqo XM
 have hH : aV Tryz.prog E A [] w := ⟨fun n o hn => (by cases hn), fun n m o o' hn => (by cases hn)⟩
 refine KG (C := Unit) (E := E) (w := w) (S := ⟨[], 106⟩) (tmR := fun _ => VH) (SR := fun _ => ⟨nR.heap, nR.next⟩) (vs := fun _ => SA) Tryz.func16 ZA (by intro x hx; obtain rfl := qqw.1 hx; exact k7 _ _) (fun _ => aAG) ?_
 intro a ht _ Q hQ
 rw [ntmps62] at ht
 refine zY kU L2 (fX jE) Z7 aAS ht hg rfl hH hA ?_
 intro E1 a1 w1 p1 ht1 hd1
 rw [XG]
 have b1 : ∀ n, A n -> ¬ (106 <= n /\ n < fF.st.next) := fun n hn hx => by have := hA n hn; omega
 have hg1 := hg.next (p1.agreeA b1) (B := fun n => A n \/ (106 <= n /\ n < fF.st.next)) fun n hn => .inl hn
 have hA1 : ∀ n, (A n \/ (106 <= n /\ n < fF.st.next)) -> n < fF.st.next := by
  rintro n (hn | hn)
  ·have h1 := hA n hn
   rw [VK]
   omega
  ·exact hn.2
 have h1 : ∀ o ∈ AR.toList, ∀ x ∈ o.op.operands, pD Tryz.prog x = true := by
  intro o ho x hx
  obtain ⟨i, hi⟩ := List.mem_iff_getElem?.1 ho
  exact vG aAC i o x hi hx
 refine wpIn_seq (RD L2 (fX jE) (C := Unit) (v := fun _ => g8 []) (SR := fun _ => kE.st) (tmR := fun _ => VE) (SE := fun _ => kE.st) XH h1 ZB R9 PG VF XK (fun _ => ?_) ?_ ht1 hg1 ev0 p1.holds hA1 ?_)
 ·rw [XJ]; rfl
 ·rw [ZC]
  intro E2 A2 w2 hg2 hev2 hsc2 H2 hA2
  exact ZD E2 A2 w2 hg2 hev2 hsc2 H2 hA2
 ·intro _ E2 a2 w2 p2 ht2 hd2
  have hE : fF.st.next <= kE.st.next := p2.le
  have b2 : ∀ n, (A n \/ (106 <= n /\ n < fF.st.next)) -> ¬ (fF.st.next <= n /\ n < kE.st.next) := fun n hn hx => by have := hA1 n hn; omega
  refine KL kU L2 (fX jE) aAF aAB ht2 (hg1.next (p2.agreeA b2) fun n hn => .inl hn) evE p2.holds ?_ ?_
  ·rintro n (hn | hn)
   ·have := hA1 n hn; omega
   ·exact hn.2
  ·intro E3 a3 w3 p3 ht3 hd3
   have hF : kE.st.next <= (VJ.st).next := hleF
   exact (((hQ ()).trans p1 hd1 (qv hE hF)).trans p2 hd2 hF E3 a3 w3 p3 ht3 hd3).2
theorem VL : KH Tryz.prog QG := by
 refine ⟨?_, ?_, ?_⟩
 ·intro x hx
  obtain rfl := qqw.1 hx
  rfl
 ·intro n o hn
  obtain ⟨x, hx, rfl⟩ := AS hn
  have := qqn.1 XL x hx
  simp only [qqx] at this
  exact ⟨qqo this.1, qqo this.2⟩
 ·intro E A w hg hev hA0
  have hgl := qqo SB
  have hg' : rM Tryz.prog E (fun n => A n /\ n < 106) := by
   intro g hgs
   obtain ⟨h1, h2, h3⟩ := hg g hgs
   exact ⟨h1, h2, h3, by omega⟩
  have := ZE E (fun n => A n /\ n < 106) w hg' (fun n hn => hn.2)
  have he : ([Value.string cM].map (aK E)).toArray = QG.args.toArray := by
   simp only [List.map_cons, List.map_nil, dV]; rfl
  rw [he] at this
  refine Calls.mono this ?_
  rintro e w' ⟨_, E', rfl, p, hs⟩
  refine ⟨E', by rw [<- L3]; rfl, ⟨p.le, p.even, p.agree, p.holds.mono ?_, p.os, p.tape, p.output, p.size, p.same, p.img⟩, ?_⟩
  ·rintro n (hn | hn)
   ·exact .inl hn.1
   ·exact .inr hn
  ·have hs' : Sc (fun n => A n \/ (106 <= n /\ n < nR.next)) (g8 SA) := gB (by
    rintro n (hn | hn)
    ·exact Or.inl hn.1
    ·exact Or.inr hn) _ hs
   rw [<- L3] at hs'
   exact hs'
theorem PJ (w : World) : Calls Tryz.prog 11 #[] w fun e w' => e = .returned (.bool true) /\ Below w.heap.size w w' := TH VL w
theorem MS.errCells {T : List bD} {X : Nat} {free : Bool} {lv iv : Value} {e l c : Int} {w : World} (h : MS T X free lv iv (.bad e l c) w) : w.cell? ⟨X, 6, none⟩ = some (I e) /\ w.cell? ⟨X, 7, none⟩ = some (I l) /\ w.cell? ⟨X, 8, none⟩ = some (I c) /\ e ≠ 0 := by
 obtain ⟨_, pos, is, im, n, xs, e', line, col, h1, h2, h3⟩ := h
 obtain ⟨rfl, he, rfl, rfl, _⟩ := h2
 exact ⟨h1.c6, h1.c7, h1.c8, he⟩
end Go.Proofs.YtgkhemnmcgicnaaGreatDoor
