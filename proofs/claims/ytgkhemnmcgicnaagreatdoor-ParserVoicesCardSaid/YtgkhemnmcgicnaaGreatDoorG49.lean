/- Towards the law ParserVoices, true for every text (no condition): one part of the proof. -/
import Derived.Test.YtgkhemnmcgicnaaGreatDoorG01
import Derived.Test.YtgkhemnmcgicnaaGreatDoorG48
namespace Go.Proofs.YtgkhemnmcgicnaaGreatDoor
open Go.RowKit Go.Dam
def DJ : List (FuncId × List Value × Value) :=
 [(67, [.string ⟨#[56]⟩], .tuple #[.agg #[I 3, I 0], I 0]),
  (67, [.string ⟨#[52]⟩], .tuple #[.agg #[I 2, I 0], I 0]),
  (67, [.string ⟨#[50, 46]⟩], .tuple #[.agg #[I 1, I 1], I 0])]
def ZJ : Nat := 2 ^ 286 - 1 - 2 ^ 67
def fsC : Nat := 2 ^ 286 - 1 - 2 ^ 67 - 2 ^ 20
def fsO : Nat := 2 ^ 286 - 1 - 2 ^ 67 - 2 ^ 20 - 2 ^ 136 - 2 ^ 16
noncomputable def qU (orc : FuncId -> List Value -> St -> Option (Value × St)) (fs : Nat) (t : Go.Dam.Told) : Bool :=
 match iF orc Tryz.prog fs 3000 40 (.func t.f) t.args ⟨t.heap, t.nx⟩ with
 | some (v, S') => VU t.v v && Nat.beq t.nx' S'.next && sB S'.heap t.out
 | none => false
noncomputable def tG : Go.Dam.Told :=
 ⟨136, [.pointer (some ⟨104, 0, none⟩)],
  [(613, .cells BJ.toArray 59 (0, 0)), (104, .cells #[.slice (some ⟨613, 0, none⟩) 52 0, I 14, I 0, I 0, I 0, .bool false, I 0, I 3, .map (some 102)] 133 (0, 0)), (102, .map #[⟨I 0, I 3, 0⟩] 1)], 870,
  .agg #[.slice none 0 0, .slice (some ⟨1816, 0, none⟩) 1 1],
  [(1816, .cells #[.slice (some ⟨1781, 0, none⟩) 5 0, .slice (some ⟨905, 0, none⟩) 1 0] 48 (0, 0)), (1781, .cells #[I 0, I 4, I 1, I 3, I 0, .slice (some ⟨1024, 0, none⟩) 1 1, .slice none 0 0, I 0, I 0, I 0, .slice none 0 0, I 0, I 0, I 0, I 5, I 1, I 3, I 0, .slice (some ⟨1182, 0, none⟩) 1 1, .slice none 0 0, I 0, I 0, I 0, .slice none 0 0, I 0, I 0, I 0, I 6, I 1, I 3, I 0, .slice (some ⟨1340, 0, none⟩) 1 1, .slice none 0 0, I 0, I 0, I 0, .slice none 0 0, I 0, I 0, I 0, I 7, I 1, I 2, I 0, .slice (some ⟨1583, 0, none⟩) 2 0, .slice none 0 0, I 4, I 0, I 5, .slice (some ⟨1689, 0, none⟩) 1 0, I 0, I 0, I 0, I 8, I 2, I 2, I 0, .slice none 0 0, .slice none 0 0, I 0, I 0, I 0, .slice none 0 0, I 0, I 0] 31 (0, 0)), (1689, .cells #[.string ⟨#[108, 97]⟩, I 0] 147 (0, 0)), (1583, .cells #[I 0, I 0, I 5, .bool true, I 0, I 2, I 0, I 5, .bool false, I 0] 80 (0, 0)), (1340, .cells #[I 6, I 0, I 4, .bool false, I 0] 80 (0, 0)), (1182, .cells #[I 5, I 0, I 4, .bool false, I 0] 80 (0, 0)), (1024, .cells #[I 4, I 0, I 4, .bool false, I 0] 80 (0, 0)), (905, .cells #[I 0, I 3, I 3, I 2] 100 (0, 0)), (613, .cells BJ.toArray 59 (0, 0)), (104, .cells #[.slice (some ⟨613, 0, none⟩) 52 0, I 43, I 0, I 0, I 0, .bool false, I 0, I 8, .map (some 102)] 133 (0, 0)), (102, .map #[⟨I 0, I 8, 0⟩] 1)], 1822⟩
noncomputable def qV : Go.Dam.Told :=
 ⟨20, [.pointer (some ⟨104, 0, none⟩)],
  [(613, .cells BJ.toArray 59 (0, 0)), (104, .cells #[.slice (some ⟨613, 0, none⟩) 52 0, I 18, I 0, I 0, I 0, .bool false, I 0, I 3, .map (some 102)] 133 (0, 0)), (102, .map #[⟨I 0, I 3, 0⟩] 1)], 940,
  .agg #[I 0, I 4, I 1, I 3, I 0, .slice (some ⟨1024, 0, none⟩) 1 1, .slice none 0 0, I 0, I 0, I 0, .slice none 0 0, I 0, I 0],
  [(1024, .cells #[I 4, I 0, I 4, .bool false, I 0] 80 (0, 0)), (613, .cells BJ.toArray 59 (0, 0)), (104, .cells #[.slice (some ⟨613, 0, none⟩) 52 0, I 21, I 0, I 0, I 0, .bool false, I 0, I 4, .map (some 102)] 133 (0, 0)), (102, .map #[⟨I 0, I 4, 0⟩] 1)], 1060⟩
noncomputable def oP : Go.Dam.Told :=
 ⟨20, [.pointer (some ⟨104, 0, none⟩)],
  [(613, .cells BJ.toArray 59 (0, 0)), (104, .cells #[.slice (some ⟨613, 0, none⟩) 52 0, I 21, I 0, I 0, I 0, .bool false, I 0, I 4, .map (some 102)] 133 (0, 0)), (102, .map #[⟨I 0, I 4, 0⟩] 1)], 1098,
  .agg #[I 0, I 5, I 1, I 3, I 0, .slice (some ⟨1182, 0, none⟩) 1 1, .slice none 0 0, I 0, I 0, I 0, .slice none 0 0, I 0, I 0],
  [(1182, .cells #[I 5, I 0, I 4, .bool false, I 0] 80 (0, 0)), (613, .cells BJ.toArray 59 (0, 0)), (104, .cells #[.slice (some ⟨613, 0, none⟩) 52 0, I 24, I 0, I 0, I 0, .bool false, I 0, I 5, .map (some 102)] 133 (0, 0)), (102, .map #[⟨I 0, I 5, 0⟩] 1)], 1218⟩
noncomputable def oQ : Go.Dam.Told :=
 ⟨20, [.pointer (some ⟨104, 0, none⟩)],
  [(613, .cells BJ.toArray 59 (0, 0)), (104, .cells #[.slice (some ⟨613, 0, none⟩) 52 0, I 24, I 0, I 0, I 0, .bool false, I 0, I 5, .map (some 102)] 133 (0, 0)), (102, .map #[⟨I 0, I 5, 0⟩] 1)], 1256,
  .agg #[I 0, I 6, I 1, I 3, I 0, .slice (some ⟨1340, 0, none⟩) 1 1, .slice none 0 0, I 0, I 0, I 0, .slice none 0 0, I 0, I 0],
  [(1340, .cells #[I 6, I 0, I 4, .bool false, I 0] 80 (0, 0)), (613, .cells BJ.toArray 59 (0, 0)), (104, .cells #[.slice (some ⟨613, 0, none⟩) 52 0, I 27, I 0, I 0, I 0, .bool false, I 0, I 6, .map (some 102)] 133 (0, 0)), (102, .map #[⟨I 0, I 6, 0⟩] 1)], 1376⟩
noncomputable def oR : Go.Dam.Told :=
 ⟨20, [.pointer (some ⟨104, 0, none⟩)],
  [(613, .cells BJ.toArray 59 (0, 0)), (104, .cells #[.slice (some ⟨613, 0, none⟩) 52 0, I 28, I 0, I 0, I 0, .bool false, I 0, I 6, .map (some 102)] 133 (0, 0)), (102, .map #[⟨I 0, I 6, 0⟩] 1)], 1436,
  .agg #[I 0, I 7, I 1, I 2, I 0, .slice (some ⟨1583, 0, none⟩) 2 0, .slice none 0 0, I 4, I 0, I 5, .slice (some ⟨1689, 0, none⟩) 1 0, I 0, I 0],
  [(1689, .cells #[.string ⟨#[108, 97]⟩, I 0] 147 (0, 0)), (1583, .cells #[I 0, I 0, I 5, .bool true, I 0, I 2, I 0, I 5, .bool false, I 0] 80 (0, 0)), (613, .cells BJ.toArray 59 (0, 0)), (104, .cells #[.slice (some ⟨613, 0, none⟩) 52 0, I 40, I 0, I 0, I 0, .bool false, I 0, I 7, .map (some 102)] 133 (0, 0)), (102, .map #[⟨I 0, I 7, 0⟩] 1)], 1696⟩
noncomputable def oS : Go.Dam.Told :=
 ⟨20, [.pointer (some ⟨104, 0, none⟩)],
  [(613, .cells BJ.toArray 59 (0, 0)), (104, .cells #[.slice (some ⟨613, 0, none⟩) 52 0, I 40, I 0, I 0, I 0, .bool false, I 0, I 7, .map (some 102)] 133 (0, 0)), (102, .map #[⟨I 0, I 7, 0⟩] 1)], 1722,
  .agg #[I 0, I 8, I 2, I 2, I 0, .slice none 0 0, .slice none 0 0, I 0, I 0, I 0, .slice none 0 0, I 0, I 0],
  [(613, .cells BJ.toArray 59 (0, 0)), (104, .cells #[.slice (some ⟨613, 0, none⟩) 52 0, I 43, I 0, I 0, I 0, .bool false, I 0, I 8, .map (some 102)] 133 (0, 0)), (102, .map #[⟨I 0, I 8, 0⟩] 1)], 1778⟩
noncomputable def qW : Go.Dam.Told :=
 ⟨136, [.pointer (some ⟨104, 0, none⟩)],
  [(613, .cells BJ.toArray 59 (0, 0)), (104, .cells #[.slice (some ⟨613, 0, none⟩) 52 0, I 46, I 0, I 0, I 0, .bool false, I 0, I 9, .map (some 102)] 133 (0, 0)), (102, .map #[⟨I 0, I 9, 0⟩] 1)], 1960,
  .agg #[.slice none 0 0, .slice (some ⟨2164, 0, none⟩) 1 1],
  [(2164, .cells #[.slice (some ⟨2129, 0, none⟩) 1 0, .slice none 0 0] 48 (0, 0)), (2129, .cells #[I 0, I 10, I 1, I 1, I 1, .slice (some ⟨2088, 0, none⟩) 1 1, .slice none 0 0, I 0, I 0, I 0, .slice none 0 0, I 0, I 0] 31 (0, 0)), (2088, .cells #[I 0, I 0, I 5, .bool false, I 0] 80 (0, 0)), (613, .cells BJ.toArray 59 (0, 0)), (104, .cells #[.slice (some ⟨613, 0, none⟩) 52 0, I 50, I 0, I 0, I 0, .bool false, I 0, I 10, .map (some 102)] 133 (0, 0)), (102, .map #[⟨I 0, I 10, 0⟩] 1)], 2170⟩
noncomputable def oT : Go.Dam.Told :=
 ⟨20, [.pointer (some ⟨104, 0, none⟩)],
  [(613, .cells BJ.toArray 59 (0, 0)), (104, .cells #[.slice (some ⟨613, 0, none⟩) 52 0, I 46, I 0, I 0, I 0, .bool false, I 0, I 9, .map (some 102)] 133 (0, 0)), (102, .map #[⟨I 0, I 9, 0⟩] 1)], 2004,
  .agg #[I 0, I 10, I 1, I 1, I 1, .slice (some ⟨2088, 0, none⟩) 1 1, .slice none 0 0, I 0, I 0, I 0, .slice none 0 0, I 0, I 0],
  [(2088, .cells #[I 0, I 0, I 5, .bool false, I 0] 80 (0, 0)), (613, .cells BJ.toArray 59 (0, 0)), (104, .cells #[.slice (some ⟨613, 0, none⟩) 52 0, I 50, I 0, I 0, I 0, .bool false, I 0, I 10, .map (some 102)] 133 (0, 0)), (102, .map #[⟨I 0, I 10, 0⟩] 1)], 2126⟩
set_option maxRecDepth 1000000
noncomputable def rU (s : ByteArray) (v : Value) : Bool := match iF QD Tryz.prog LS 400 12 (.func 67) [.string s] ⟨[], 100⟩ with
 | some (u, _) => VU v u
 | none => false
theorem X7 : rU ⟨#[56]⟩ (.tuple #[.agg #[I 3, I 0], I 0]) = true := by kernel_rfl
theorem X8 : rU ⟨#[52]⟩ (.tuple #[.agg #[I 2, I 0], I 0]) = true := by kernel_rfl
theorem X9 : rU ⟨#[50, 46]⟩ (.tuple #[.agg #[I 1, I 1], I 0]) = true := by kernel_rfl
noncomputable def QG : CG := ⟨16, [.string cM], 106, TL, nR.heap, nR.next⟩
noncomputable def isTrue (r : Option (Value × St)) : Bool := match r with | some (.bool true, _) => true | _ => false
theorem RJ : isTrue (iF (iM DJ [QG] [tG, qW]) Tryz.prog fsO 3000 40 (.func 11) [] ⟨[], 100⟩) = true := by kernel_rfl
theorem A8 : qU (iM DJ [] [qV, oP, oQ, oR, oS, oT]) fsC tG = true := by kernel_rfl
theorem yZ : qU (iM DJ [] [qV, oP, oQ, oR, oS, oT]) fsC qW = true := by kernel_rfl
theorem DH : qU (iM DJ [] []) ZJ qV = true := by kernel_rfl
theorem BA : qU (iM DJ [] []) ZJ oP = true := by kernel_rfl
theorem BC : qU (iM DJ [] []) ZJ oQ = true := by kernel_rfl
theorem BD : qU (iM DJ [] []) ZJ oR = true := by kernel_rfl
theorem BE : qU (iM DJ [] []) ZJ oS = true := by kernel_rfl
end Go.Proofs.YtgkhemnmcgicnaaGreatDoor
