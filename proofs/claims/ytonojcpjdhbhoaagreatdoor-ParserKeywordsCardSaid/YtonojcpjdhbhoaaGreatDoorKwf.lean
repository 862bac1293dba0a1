/-
  A part of the proof that the law ParserKeywords (chapter 19) returns true for every index: runs of the program's functions in the kernel, by the own evaluator, and walks.
-/
import Derived.Test.YtonojcpjdhbhoaaGreatDoorKr0
import Derived.Test.YtonojcpjdhbhoaaGreatDoorKr1
import Derived.Test.YtonojcpjdhbhoaaGreatDoorKr2
import Derived.Test.YtonojcpjdhbhoaaGreatDoorShf
namespace Go.Proofs.YtonojcpjdhbhoaaGreatDoor
open Go.RowKit Go.Dam Go.Sort

def kwSorted : List (List UInt8) := [[97, 99, 99, 101, 110, 116], [97, 112, 97, 114, 116], [98, 114, 101, 97, 107], [99, 108, 101, 102], [99, 111, 100, 97], [99, 114, 101, 115, 99, 101, 110, 100, 111], [100, 97, 99, 97, 112, 111], [100, 97, 99, 97, 112, 111, 99, 111, 100, 97], [100, 97, 99, 97, 112, 111, 102, 105, 110, 101], [100, 97, 108, 115, 101, 103, 110, 111], [100, 97, 108, 115, 101, 103, 110, 111, 99, 111, 100, 97], [100, 97, 108, 115, 101, 103, 110, 111, 102, 105, 110, 101], [100, 105, 109, 105, 110, 117, 101, 110, 100, 111], [100, 111, 119, 110], [101, 110, 100, 105, 110, 103, 115], [102], [102, 101, 114, 109, 97, 116, 97], [102, 102], [102, 102, 102], [102, 105, 110, 101], [103, 114, 97, 99, 101], [105, 110, 118, 101, 114, 115, 101], [106, 111, 105, 110], [106, 117, 109, 112], [107, 101, 121], [108, 97, 115, 116], [108, 101, 110, 103, 116, 104], [109, 97, 114, 99, 97, 116, 111], [109, 97, 114, 107], [109, 101, 97, 115, 117, 114, 101], [109, 101, 116, 114, 101], [109, 102], [109, 111, 114, 100, 101, 110, 116], [109, 112], [110, 101, 118, 101, 114], [111, 99, 116, 97, 118, 101, 100, 111, 119, 110], [111, 99, 116, 97, 118, 101, 117, 112], [112], [112, 97, 103, 101], [112, 97, 114, 116], [112, 101, 100, 97, 108], [112, 112], [112, 112, 112], [114, 97, 109, 112], [114, 101, 112, 101, 97, 116], [115, 99, 111, 114, 101], [115, 101, 103, 110, 111], [115, 102, 122], [115, 108, 117, 114], [115, 116, 97, 99, 99, 97, 116, 111], [115, 116, 97, 102, 102], [115, 119, 105, 110, 103], [115, 121, 115, 116, 101, 109], [116, 101, 109, 112, 111], [116, 101, 110, 117, 116, 111], [116, 105, 109, 101, 115], [116, 111, 99, 111, 100, 97], [116, 114, 97, 110, 115, 112, 111, 115, 101], [116, 114, 105, 108, 108], [116, 114, 105, 108, 108], [116, 117, 114, 110], [117, 112], [119, 114, 105, 116, 116, 101, 110]]
def kwWords : List (List UInt8) := [[97, 99, 99, 101, 110, 116], [97, 112, 97, 114, 116], [98, 114, 101, 97, 107], [99, 108, 101, 102], [99, 111, 100, 97], [99, 114, 101, 115, 99, 101, 110, 100, 111], [100, 97, 99, 97, 112, 111], [100, 97, 99, 97, 112, 111, 99, 111, 100, 97], [100, 97, 99, 97, 112, 111, 102, 105, 110, 101], [100, 97, 108, 115, 101, 103, 110, 111], [100, 97, 108, 115, 101, 103, 110, 111, 99, 111, 100, 97], [100, 97, 108, 115, 101, 103, 110, 111, 102, 105, 110, 101], [100, 105, 109, 105, 110, 117, 101, 110, 100, 111], [100, 111, 119, 110], [101, 110, 100, 105, 110, 103, 115], [102], [102, 101, 114, 109, 97, 116, 97], [102, 102], [102, 102, 102], [102, 105, 110, 101], [103, 114, 97, 99, 101], [105, 110, 118, 101, 114, 115, 101], [106, 111, 105, 110], [106, 117, 109, 112], [107, 101, 121], [108, 97, 115, 116], [108, 101, 110, 103, 116, 104], [109, 97, 114, 99, 97, 116, 111], [109, 97, 114, 107], [109, 101, 97, 115, 117, 114, 101], [109, 101, 116, 114, 101], [109, 102], [109, 111, 114, 100, 101, 110, 116], [109, 112], [110, 101, 118, 101, 114], [111, 99, 116, 97, 118, 101, 100, 111, 119, 110], [111, 99, 116, 97, 118, 101, 117, 112], [112], [112, 97, 103, 101], [112, 97, 114, 116], [112, 101, 100, 97, 108], [112, 112], [112, 112, 112], [114, 97, 109, 112], [114, 101, 112, 101, 97, 116], [115, 99, 111, 114, 101], [115, 101, 103, 110, 111], [115, 102, 122], [115, 108, 117, 114], [115, 116, 97, 99, 99, 97, 116, 111], [115, 116, 97, 102, 102], [115, 119, 105, 110, 103], [115, 121, 115, 116, 101, 109], [116, 101, 109, 112, 111], [116, 101, 110, 117, 116, 111], [116, 105, 109, 101, 115], [116, 111, 99, 111, 100, 97], [116, 114, 97, 110, 115, 112, 111, 115, 101], [116, 114, 105, 108, 108], [116, 117, 114, 110], [117, 112], [119, 114, 105, 116, 116, 101, 110]]
noncomputable def r7c : Code := headC (headC (tailC 3 c4))
noncomputable def rest4 : Code := tailC 4 c4
noncomputable def r12c : Code := headC rest4
noncomputable def ops13 : Array Oper := opsC (headC (tailC 1 rest4))
noncomputable def ops14 : Array Oper := opsC (headC (tailC 2 rest4))
noncomputable def o13 : Oper := ops13.getD 1 default
noncomputable def o14 : Oper := ops14.getD 1 default
noncomputable def c13 : Call := match o13.op with
  | .call c => c
  | _ => default
noncomputable def c14 : Call := match o14.op with
  | .call c => c
  | _ => default
def k0 : Nat → ByteArray := fun _ => .empty
set_option maxRecDepth 1000000
theorem shape4 : tailC 3 c4 = .seq (.seq r7c (.block 2 (.loop lb4))) rest4 := by kernel_rfl
theorem shapeR : rest4 = .seq r12c (.seq (.region 13 ops13 false) (.seq (.region 14 ops14 false) .ret)) := by kernel_rfl
theorem shape13 : ops13.toList = ops13.toList.take 1 ++ o13 :: [] := by kernel_rfl
theorem shape14 : ops14.toList = ops14.toList.take 1 ++ o14 :: ops14.toList.drop 2 := by kernel_rfl
theorem o13_op : o13.op = .call c13 := by kernel_rfl
theorem o13_guard : o13.guard = none := by kernel_rfl
theorem c13_callee : c13.callee = .value (.func 18) := by kernel_rfl
theorem c13_body : hasBody Tryz.prog 18 = true := by kernel_rfl
theorem o14_op : o14.op = .call c14 := by kernel_rfl
theorem o14_guard : o14.guard = none := by kernel_rfl
theorem c14_callee : c14.callee = .value (.func 19) := by kernel_rfl
theorem c14_body : hasBody Tryz.prog 19 = true := by kernel_rfl
theorem ok4 : okCode Tryz.prog c4 = true := by kernel_rfl
theorem okr7 : okCode Tryz.prog r7c = true := by kernel_rfl
theorem okr12 : okCode Tryz.prog r12c = true := by kernel_rfl
theorem ok13 : okOps Tryz.prog ops13.toList = true := by kernel_rfl
theorem ok14 : okOps Tryz.prog ops14.toList = true := by kernel_rfl
theorem body4 : Tryz.f4.body = some c4 := by kernel_rfl
theorem size9 : sizeT Tryz.prog 9 = some 1 := by kernel_rfl

noncomputable def args4 : List Value := [] ++ List.replicate (Tryz.f4.ntmps - ([] : List Value).length) undef
noncomputable def P0 := evPre CF Tryz.prog 394 3 c4 args4 ⟨[], 100⟩
noncomputable def P1 := evC CF Tryz.prog 394 r7c (tmP P0) (stP P0)
theorem cf_any : CallOk Tryz.prog CF := evCall_sound mixed_ok (namesOk_of names_ok) noOrc_ok (ok_any fsAll) 400 12
theorem p0 : P0.isSome = true := by kernel_rfl
theorem p1 : exX P1 = 1 := by kernel_rfl
theorem p1t : tmX P1 = (kwM0 k0).tm := by kernel_rfl
theorem p1n : (stX P1).next = (kwM0 k0).next := by kernel_rfl
theorem p1h0 : getB (stX P1).heap ((kwM0 k0).heap.getD 0 default).1 = some ((kwM0 k0).heap.getD 0 default).2 := by kernel_rfl
theorem p1h1 : getB (stX P1).heap ((kwM0 k0).heap.getD 1 default).1 = some ((kwM0 k0).heap.getD 1 default).2 := by kernel_rfl
theorem p1h2 : getB (stX P1).heap ((kwM0 k0).heap.getD 2 default).1 = some ((kwM0 k0).heap.getD 2 default).2 := by kernel_rfl
theorem p1h3 : getB (stX P1).heap ((kwM0 k0).heap.getD 3 default).1 = some ((kwM0 k0).heap.getD 3 default).2 := by kernel_rfl
theorem p1h4 : getB (stX P1).heap ((kwM0 k0).heap.getD 4 default).1 = some ((kwM0 k0).heap.getD 4 default).2 := by kernel_rfl
theorem p1hl : (kwM0 k0).heap.length = 5 := by kernel_rfl
noncomputable def E0 (k : Nat → ByteArray) := evC CF Tryz.prog 394 (.loop lb4) (kwM3 k).tm (kwM3 k).st
noncomputable def E1 (k : Nat → ByteArray) := evC CF Tryz.prog 394 r12c (tmX (E0 k)) (stX (E0 k))
theorem e0 (k : Nat → ByteArray) : exX (E0 k) = 5 := by kernel_rfl
theorem e0n (k : Nat → ByteArray) : (stX (E0 k)).next = (kwM3 k).next := by kernel_rfl
theorem e1 (k : Nat → ByteArray) : exX (E1 k) = 1 := by kernel_rfl
theorem e1t (k : Nat → ByteArray) : tmX (E1 k) = (kwM4 k).tm := by kernel_rfl
theorem e1n (k : Nat → ByteArray) : (stX (E1 k)).next = (kwM4 k).next := by kernel_rfl
noncomputable def cells4 (k : Nat → ByteArray) : Array Value := match getB (kwM4 k).heap 303 with
  | some (.cells c _ _) => c
  | _ => #[]
theorem e1h (k : Nat → ByteArray) : getB (stX (E1 k)).heap 303 = some (.cells (cells4 k) 9 (0, 0)) := by kernel_rfl
def bytesOf : Value → List UInt8
  | .string s => s.data.toList
  | _ => []
noncomputable def zs4 (k : Nat → ByteArray) : List (List UInt8) := (cells4 k).toList.map bytesOf
theorem cells4_eq (k : Nat → ByteArray) : (cells4 k).toList = (zs4 k).map encStr ++ [] := by kernel_rfl
theorem zs4_len (k : Nat → ByteArray) : (zs4 k).length = 63 := by kernel_rfl
theorem cells4_size (k : Nat → ByteArray) : (cells4 k).size = 63 := by kernel_rfl
noncomputable def S4 (k : Nat → ByteArray) : St := ⟨[(303, .cells (cells4 k) 9 (0, 0))], (kwM4 k).next⟩
noncomputable def tm4 : List Value := (kwM4 k0).tm
theorem tm4_eq (k : Nat → ByteArray) : (kwM4 k).tm = tm4 := by kernel_rfl
noncomputable def nx4 : Nat := (kwM4 k0).next
theorem nx4_eq (k : Nat → ByteArray) : (kwM4 k).next = nx4 := by kernel_rfl
def rowObj (l : List (List UInt8)) : Obj := .cells (l.map encStr).toArray 9 (0, 0)
noncomputable def S5 : St := ⟨[(303, rowObj kwSorted)], nx4⟩
noncomputable def S6 : St := ⟨[(303, rowObj (kwWords ++ List.replicate (kwSorted.length - kwWords.length) []))], nx4⟩
noncomputable def tm13 : List Value := putD tm4 (some 38) (nth tm4 1)
noncomputable def tm13e : List Value := putD tm13 (some 39) (.tuple #[])
noncomputable def tm14 : List Value := putD tm13e (some 40) (nth tm4 1)
noncomputable def v14 : Value := .slice (some ⟨303, 0, none⟩) 62 0
noncomputable def tmF : List Value := putD (putD tm14 (some 41) v14) (some 0) v14
theorem i13 (k : Nat → ByteArray) : evOps CF Tryz.prog ops13.toList (ops13.toList.take 1) tm4 (S4 k) = some (tm13, S4 k) := by kernel_rfl
theorem j13 : evOps CF Tryz.prog ops13.toList [] (putD tm13 o13.dst (.tuple #[])) S5 = some (tm13e, S5) := by kernel_rfl
theorem i14 : evOps CF Tryz.prog ops14.toList (ops14.toList.take 1) tm13e S5 = some (tm14, S5) := by kernel_rfl
theorem j14 : evOps CF Tryz.prog ops14.toList (ops14.toList.drop 2) (putD tm14 o14.dst v14) S6 = some (tmF, S6) := by kernel_rfl
theorem a13 : c13.args.toList.map (aeval tm13) = [.slice (some ⟨303, 0, none⟩) 63 0] := by kernel_rfl
theorem a14 : c14.args.toList.map (aeval tm14) = [.slice (some ⟨303, 0, none⟩) 63 0] := by kernel_rfl
theorem resF : aresults Tryz.prog S6.heap tmF Tryz.f4.results.toList = some [v14] := by kernel_rfl
theorem len_sorted : kwSorted.length = 63 := by kernel_rfl
theorem len_words : kwWords.length = 62 := by kernel_rfl
theorem compact_eq : Lib.compact kwSorted = kwWords := by kernel_rfl
theorem pairwise_sorted : kwSorted.Pairwise (fun x y => decide (x ≤ y) = true) := of_decide_eq_true (by kernel_rfl)

theorem sort_eq {zs : List (List UInt8)} (h : zs.Perm kwSorted) : (zs.mergeSort fun x y => decide (x ≤ y)) = kwSorted := by
  have tr : ∀ a b c : List UInt8, decide (a ≤ b) = true → decide (b ≤ c) = true → decide (a ≤ c) = true := fun a b c h1 h2 => by simp only [decide_eq_true_eq] at *; exact List.le_trans h1 h2
  have to : ∀ a b : List UInt8, (decide (a ≤ b) || decide (b ≤ a)) = true := fun a b => by simp only [Bool.or_eq_true, decide_eq_true_eq]; exact List.le_total a b
  refine List.Perm.eq_of_pairwise (le := fun a b => decide (a ≤ b) = true) (fun a b _ _ h1 h2 => ?_) (List.pairwise_mergeSort tr to zs) pairwise_sorted ((List.mergeSort_perm zs _).trans h)
  simp only [decide_eq_true_eq] at h1 h2
  exact List.le_antisymm h1 h2

def kb (e : MapEntry) : List UInt8 := (keyOf e).data.toList
noncomputable def kK (y1 y2 y3 : List MapEntry) : Nat → ByteArray := updK 9 (updK 6 (updK 0 k0 y1) y2) y3
noncomputable def base4 : List (List UInt8) := (zs4 k0).take 25
noncomputable def att4 : List (List UInt8) := (zs4 k0).drop 41
theorem zs_shape (k : Nat → ByteArray) : zs4 k = base4 ++ ([(k 0).data.toList, (k 1).data.toList, (k 2).data.toList, (k 3).data.toList, (k 4).data.toList, (k 5).data.toList] ++ ([(k 6).data.toList, (k 7).data.toList, (k 8).data.toList] ++ ([(k 9).data.toList, (k 10).data.toList, (k 11).data.toList, (k 12).data.toList, (k 13).data.toList, (k 14).data.toList, (k 15).data.toList] ++ att4))) := by kernel_rfl
theorem part1 (y2 y3 : List MapEntry) (y1 : List MapEntry) (h : y1.Perm R0.es.toList) : [(kK y1 y2 y3 0).data.toList, (kK y1 y2 y3 1).data.toList, (kK y1 y2 y3 2).data.toList, (kK y1 y2 y3 3).data.toList, (kK y1 y2 y3 4).data.toList, (kK y1 y2 y3 5).data.toList] = y1.map kb :=
  R0.full (p := fun y1 => [(kK y1 y2 y3 0).data.toList, (kK y1 y2 y3 1).data.toList, (kK y1 y2 y3 2).data.toList, (kK y1 y2 y3 3).data.toList, (kK y1 y2 y3 4).data.toList, (kK y1 y2 y3 5).data.toList] = y1.map kb) (fun a b c d e f => by kernel_rfl) y1 h
theorem part2 (y1 y3 : List MapEntry) (y2 : List MapEntry) (h : y2.Perm R1.es.toList) : [(kK y1 y2 y3 6).data.toList, (kK y1 y2 y3 7).data.toList, (kK y1 y2 y3 8).data.toList] = y2.map kb :=
  R1.full (p := fun y2 => [(kK y1 y2 y3 6).data.toList, (kK y1 y2 y3 7).data.toList, (kK y1 y2 y3 8).data.toList] = y2.map kb) (fun a b c => by kernel_rfl) y2 h
theorem part3 (y1 y2 : List MapEntry) (y3 : List MapEntry) (h : y3.Perm R2.es.toList) : [(kK y1 y2 y3 9).data.toList, (kK y1 y2 y3 10).data.toList, (kK y1 y2 y3 11).data.toList, (kK y1 y2 y3 12).data.toList, (kK y1 y2 y3 13).data.toList, (kK y1 y2 y3 14).data.toList, (kK y1 y2 y3 15).data.toList] = y3.map kb :=
  R2.full (p := fun y3 => [(kK y1 y2 y3 9).data.toList, (kK y1 y2 y3 10).data.toList, (kK y1 y2 y3 11).data.toList, (kK y1 y2 y3 12).data.toList, (kK y1 y2 y3 13).data.toList, (kK y1 y2 y3 14).data.toList, (kK y1 y2 y3 15).data.toList] = y3.map kb) (fun a b c d e f g => by kernel_rfl) y3 h
theorem canon : (base4 ++ (R0.es.toList.map kb ++ (R1.es.toList.map kb ++ (R2.es.toList.map kb ++ att4)))).isPerm kwSorted = true := by kernel_rfl

theorem zs_perm {y1 y2 y3 : List MapEntry} (h1 : y1.Perm R0.es.toList) (h2 : y2.Perm R1.es.toList) (h3 : y3.Perm R2.es.toList) : (zs4 (kK y1 y2 y3)).Perm kwSorted := by
  rw [zs_shape, part1 y2 y3 y1 h1, part2 y1 y3 y2 h2, part3 y1 y2 y3 h3]
  refine List.Perm.trans ?_ (List.isPerm_iff.1 canon)
  exact List.Perm.append_left _ ((h1.map kb).append ((h2.map kb).append ((h3.map kb).append_right _)))

theorem sc_enc (A : Nat → Prop) (l : List UInt8) : Sc A (encStr l) := Sc_string _ _
theorem ren_enc (E : Env) (l : List UInt8) : ren E (encStr l) = encStr l := ren_string _ _

theorem S4_heap (k : Nat → ByteArray) : (S4 k).heap = [(303, .cells (cells4 k) 9 (0, 0))] := rfl
theorem S4_next (k : Nat → ByteArray) : (S4 k).next = nx4 := nx4_eq k
theorem S5_heap : S5.heap = [(303, rowObj kwSorted)] := rfl
theorem S5_next : S5.next = nx4 := rfl
theorem S6_heap : S6.heap = [(303, rowObj (kwWords ++ List.replicate (kwSorted.length - kwWords.length) []))] := rfl
theorem S6_next : S6.next = nx4 := rfl
theorem nx4_lt : Nat.blt 303 nx4 = true := by kernel_rfl
theorem row303 : isRow 303 = true := rfl

theorem grow_nil (w : World) : Go.Sort.grow w #[] = w := by
  cases w
  simp [Go.Sort.grow]

theorem sort_call {k : Nat → ByteArray} (hp : (zs4 k).Perm kwSorted) {E : Env} {A : Nat → Prop} {w : World} (H : Holds Tryz.prog E A (S4 k).heap w) :
    Calls Tryz.prog 18 #[.slice (some (E.addr ⟨303, 0, none⟩)) 63 (E.κ 303 - 0)] w fun e w' => e = .returned (.tuple #[]) ∧ Post Tryz.prog E A (S4 k).heap (S4 k).next w E S5.heap S5.next w' := by
  rw [S4_heap] at H
  have hg : getB [(303, Obj.cells (cells4 k) 9 (0, 0))] 303 = some (.cells (cells4 k) 9 (0, 0)) := rfl
  obtain ⟨h1, h2⟩ := H.row hg row303 size9 (cells4_eq k) (fun z _ => ren_enc E z)
  have hs := Tryz.slices_Sort_string (E.β 303) (E.σ 303) (E.κ 303) (zs4 k) w h1 h2 (by rw [zs4_len]; decide)
  rw [zs4_len] at hs
  have ha : E.addr ⟨303, 0, none⟩ = ⟨E.β 303, E.σ 303, none⟩ := rfl
  rw [ha, Nat.sub_zero]
  refine hs.mono ?_
  rintro e w' ⟨rfl, q, os, rfl⟩
  refine ⟨rfl, ?_⟩
  rw [sort_eq hp, S4_heap, S5_heap, S4_next, S5_next]
  have hput := Post.putRow (enc := encStr) (zs := kwSorted) (nx := nx4) H hg row303 (by rw [len_sorted, cells4_size]; exact Nat.le_refl _) (fun z _ => ren_enc E z) (fun z _ => sc_enc A z) (fun n hn hx => by omega) q os
  have he : setB [(303, Obj.cells (cells4 k) 9 (0, 0))] 303 (.cells (kwSorted.map encStr ++ (cells4 k).toList.drop kwSorted.length).toArray 9 (0, 0)) = [(303, rowObj kwSorted)] := by
    have hd : (cells4 k).toList.drop kwSorted.length = [] := List.drop_eq_nil_of_le (by rw [len_sorted]; have := cells4_size k; simp; omega)
    rw [hd, List.append_nil]
    rfl
  rw [he] at hput
  exact hput

theorem compact_call {E : Env} {A : Nat → Prop} {w : World} (H : Holds Tryz.prog E A S5.heap w) :
    Calls Tryz.prog 19 #[.slice (some (E.addr ⟨303, 0, none⟩)) 63 (E.κ 303 - 0)] w fun e w' => e = .returned (.slice (some (E.addr ⟨303, 0, none⟩)) 62 (E.κ 303 - 0)) ∧ Post Tryz.prog E A S5.heap S5.next w E S6.heap S6.next w' := by
  rw [S5_heap] at H
  have hg : getB [(303, rowObj kwSorted)] 303 = some (.cells (kwSorted.map encStr).toArray 9 (0, 0)) := rfl
  obtain ⟨h1, h2⟩ := H.row (zs := kwSorted) (rest := []) hg row303 size9 (by simp) (fun z _ => ren_enc E z)
  have hcap : kwSorted.length ≤ E.κ 303 := by
    obtain ⟨_, _, oc, _, hr⟩ := H.blk 303 _ hg
    simp only [BlkRel, row303, if_true] at hr
    obtain ⟨cc, fzc, s, _, e2, _, _, e5, _, _⟩ := hr
    rw [size9] at e2
    obtain rfl := Option.some.inj e2
    simpa using e5
  have hs := Tryz.slices_Compact_string (E.β 303) (E.σ 303) (E.κ 303) kwSorted w h1 (by rw [len_sorted]; decide) hcap
  have ha : E.addr ⟨303, 0, none⟩ = ⟨E.β 303, E.σ 303, none⟩ := rfl
  rw [ha, Nat.sub_zero]
  rw [compact_eq, len_words] at hs
  have hs2 := hs
  rw [show kwSorted.length = 63 from len_sorted] at hs2
  refine hs2.mono ?_
  rintro e w' ⟨rfl, q, rfl⟩
  refine ⟨rfl, ?_⟩
  rw [S5_heap, S6_heap, S5_next, S6_next]
  have hput := Post.putRow (enc := encStr) (zs := kwWords ++ List.replicate (63 - 62) []) (nx := nx4) H hg row303 (by simp [len_sorted, len_words]) (fun z _ => ren_enc E z) (fun z _ => sc_enc A z) (fun n hn hx => by omega) q #[]
  rw [grow_nil] at hput
  have he : setB [(303, rowObj kwSorted)] 303 (.cells ((kwWords ++ List.replicate (63 - 62) []).map encStr ++ (kwSorted.map encStr).toArray.toList.drop (kwWords ++ List.replicate (63 - 62) []).length).toArray 9 (0, 0)) = [(303, rowObj (kwWords ++ List.replicate (kwSorted.length - kwWords.length) []))] := by
    have hd : (kwSorted.map encStr).toArray.toList.drop (kwWords ++ List.replicate (63 - 62) []).length = [] := List.drop_eq_nil_of_le (by simp [len_sorted, len_words])
    rw [hd, List.append_nil, len_sorted, len_words]
    rfl
  rw [he] at hput
  exact hput

theorem okopsK {l : List Oper} (h : okOps Tryz.prog l = true) : ∀ o ∈ l, ∀ x ∈ o.op.operands, okOpd Tryz.prog x = true := by
  intro o ho x hx
  obtain ⟨j, hj⟩ := List.mem_iff_getElem?.1 ho
  exact okOps_spec h j o x hj hx

theorem even4 : nx4 % 2 = 0 := by kernel_rfl
theorem le34 (k : Nat → ByteArray) : Nat.ble (kwM3 k).next nx4 = true := by kernel_rfl
theorem nexts : (kwM0 k0).next = 212 := by kernel_rfl
theorem next1 (k : Nat → ByteArray) : (kwM1 k).next = 244 := by kernel_rfl
theorem next2 (k : Nat → ByteArray) : (kwM2 k).next = 264 := by kernel_rfl
theorem next3 (k : Nat → ByteArray) : (kwM3 k).next = 300 := by kernel_rfl
theorem nexts4 : nx4 = 304 := by kernel_rfl
theorem p0n : (stP P0).next = 204 := by kernel_rfl

set_option maxHeartbeats 1000000 in
/-- What follows the loop over the maps. -/
theorem tail_walk {y1 y2 y3 : List MapEntry} (h1 : y1.Perm R0.es.toList) (h2 : y2.Perm R1.es.toList) (h3 : y3.Perm R2.es.toList) {E : Env} {A : Nat → Prop} {a : Act} {w : World} {Q : Exit → Act → World → Prop} (ht : Tm E A (tmX (E0 (kK y1 y2 y3))) a) (hg : Glb Tryz.prog E A) (H : Holds Tryz.prog E A (stX (E0 (kK y1 y2 y3))).heap w) (hA : ∀ n, A n → n < (stX (E0 (kK y1 y2 y3))).next)
    (hQ : After Tryz.prog none E A (stX (E0 (kK y1 y2 y3))) w a tmF S6 (Q .ret)) : rest4.wpIn (rd none) 0 Tryz.prog Q a w := by
  obtain ⟨k, hk⟩ : ∃ k, kK y1 y2 y3 = k := ⟨_, rfl⟩
  have hp := zs_perm h1 h2 h3
  rw [hk] at ht H hA hQ hp
  have n3 : (stX (E0 k)).next = 300 := by rw [e0n, next3]
  have n4 : (S4 k).next = 304 := by rw [S4_next, nexts4]
  have n5 : S5.next = 304 := by rw [S5_next, nexts4]
  have n6 : S6.next = 304 := by rw [S6_next, nexts4]
  have nE : (stX (E1 k)).next = 304 := by rw [e1n, nx4_eq, nexts4]
  rw [shapeR]
  refine wpIn_seq ((evC_sound mixed_ok cf_any (namesOk_of names_ok) 394).1 r12c _ _ .normal _ _ (exN (r := E1 k) (e1 k)) okr12 none (fun hx => by cases hx) E A a w _ ht hg (by rw [n3]) H (fun n hn hx => by have := hA n hn; omega) ?_)
  refine After.sub (h := (S4 k).heap) (getB_sub (by intro x hx; rw [S4_heap] at hx; obtain rfl := List.mem_singleton.1 hx; exact e1h k)) ?_
  rw [e1t, tm4_eq, nE]
  intro E1' a1 w1 p1' ht1 hd1
  have hA1 : ∀ n, (A n ∨ ((stX (E0 k)).next ≤ n ∧ n < 304)) → n < (S4 k).next := by
    rw [n4]
    rintro n (hn | hn)
    · have := hA n hn; omega
    · omega
  have hg1 := hg.next (p1'.agreeA fun n hn hx => by have := hA n hn; omega) (B := fun n => A n ∨ ((stX (E0 k)).next ≤ n ∧ n < 304)) fun n hn => .inl hn
  refine wpIn_seq (region_nd cf_any (namesOk_of names_ok) (C := Unit) (S := S4 k) (S1 := S4 k) (v := fun _ => .tuple #[]) (SR := fun _ => S5) (tmR := fun _ => tm13e) (SE := fun _ => S5) shape13 (okopsK ok13) o13_op o13_guard c13_callee c13_body (i13 k) (fun _ => j13) ?_ ht1 hg1 (by rw [n4]) p1'.holds hA1 ?_)
  · intro E' A' w' hg' _ _ H' _
    rw [a13]
    simp only [List.map_cons, List.map_nil, ren_slice, row303, if_true]
    refine (sort_call hp H').mono ?_
    rintro e w2 ⟨rfl, q⟩
    exact ⟨(), E', by rw [ren_tuple]; simp, q, by rw [Sc_tuple]; simp⟩
  · intro _ E2 a2 w2 p2 ht2 hd2
    rw [n4, n5] at ht2
    have hA2 : ∀ n, ((A n ∨ ((stX (E0 k)).next ≤ n ∧ n < 304)) ∨ (304 ≤ n ∧ n < 304)) → n < S5.next := by
      rw [n5]
      rintro n (hn | hn)
      · have := hA1 n hn; rw [n4] at this; exact this
      · omega
    have hg2 := hg1.next (p2.agreeA fun n hn hx => by have := hA1 n hn; omega) (B := fun n => (A n ∨ ((stX (E0 k)).next ≤ n ∧ n < 304)) ∨ (304 ≤ n ∧ n < 304)) fun n hn => .inl hn
    have hH2 := p2.holds
    rw [n4, n5] at hH2
    show Code.wpIn _ _ _ _ _ a2 w2
    refine wpIn_seq (region_nd cf_any (namesOk_of names_ok) (C := Unit) (S := S5) (S1 := S5) (v := fun _ => v14) (SR := fun _ => S6) (tmR := fun _ => tmF) (SE := fun _ => S6) shape14 (okopsK ok14) o14_op o14_guard c14_callee c14_body i14 (fun _ => j14) ?_ ht2 hg2 (by rw [n5]) hH2 hA2 ?_)
    · intro E' A' w' hg' _ hsc H' _
      rw [a14] at hsc ⊢
      simp only [List.map_cons, List.map_nil, ren_slice, row303, if_true]
      refine (compact_call H').mono ?_
      rintro e w2 ⟨rfl, q⟩
      refine ⟨(), E', ?_, q, ?_⟩
      · unfold v14
        simp only [ren_slice, row303, if_true]
      · have := hsc _ (List.mem_singleton.2 rfl)
        rw [Sc_slice] at this
        unfold v14
        rw [Sc_slice]
        exact .inl this
    · intro _ E3 a3 w3 p3 ht3 hd3
      show Code.wpIn _ _ _ .ret _ a3 w3
      refine wpIn_ret ?_
      rw [n5, n6] at p3 ht3
      rw [n4, n5] at p2
      refine ((hQ.trans (S₁ := S4 k) (by rw [n4]; exact p1') hd1 (by omega)).trans (S₁ := S5) (by rw [n4, n5]; exact p2) hd2 (by omega)) E3 a3 w3 (by rw [n5, n6]; exact p3) ?_ hd3
      rw [n4, n5, n6]
      exact ht3

set_option maxHeartbeats 1000000 in
/-- Keywords: its words, sorted, each once, whatever the order in which its maps come. -/
theorem keywords_walk (E : Env) (A : Nat → Prop) (w : World) (hg : Glb Tryz.prog E A) (hA : ∀ n, A n → n < 100) :
    Calls Tryz.prog 4 (([] : List Value).map (ren E)).toArray w fun e w' => ∃ (_ : Unit) (E' : Env), e = .returned (ren E' (oneOf [v14])) ∧ Post Tryz.prog E A [] 100 w E' S6.heap S6.next w' ∧ Sc (fun n => A n ∨ (100 ≤ n ∧ n < S6.next)) (oneOf [v14]) := by
  have hH : Holds Tryz.prog E A [] w := ⟨fun n o hn => (by cases hn), fun n m o o' hn => (by cases hn)⟩
  have n6 : S6.next = 304 := by rw [S6_next, nexts4]
  refine calls_nd (C := Unit) (E := E) (w := w) (S := ⟨[], 100⟩) (tmR := fun _ => tmF) (SR := fun _ => S6) (vs := fun _ => [v14]) Tryz.func4 body4 (by intro x hx; cases hx) (fun _ => resF) ?_
  intro a ht _ Q hQ
  refine evPre_sound mixed_ok cf_any (namesOk_of names_ok) (exP (r := P0) p0) ok4 ht hg rfl hH hA ?_
  have hcd := evPre_tail _ _ _ _ _ _ _ (exP (r := P0) p0)
  rw [hcd, shape4]
  intro E1 a1 w1 p1' ht1 hd1
  have q0 := p0n
  have b1 : ∀ n, (A n ∨ (100 ≤ n ∧ n < (stP P0).next)) → n < (stP P0).next := by
    rintro n (hn | hn)
    · have := hA n hn; omega
    · omega
  have hg1 := hg.next (p1'.agreeA fun n hn hx => by have := hA n hn; simp only at hx; omega) (B := fun n => A n ∨ (100 ≤ n ∧ n < (stP P0).next)) fun n hn => .inl hn
  refine wpIn_seq (wpIn_seq ((evC_sound mixed_ok cf_any (namesOk_of names_ok) 394).1 r7c _ _ .normal _ _ (exN (r := P1) p1) okr7 none (fun hx => by cases hx) E1 _ a1 w1 _ ht1 hg1 (by rw [q0]) p1'.holds (fun n hn hx => by have := b1 n hn; omega) ?_))
  have m0 : (kwM0 k0).st.next = 212 := nexts
  refine After.sub (h := (kwM0 k0).heap) (getB_subD p1hl fun i hi => by
    have : i = 0 ∨ i = 1 ∨ i = 2 ∨ i = 3 ∨ i = 4 := by omega
    rcases this with rfl | rfl | rfl | rfl | rfl
    · exact p1h0
    · exact p1h1
    · exact p1h2
    · exact p1h3
    · exact p1h4) ?_
  rw [p1t, p1n]
  intro E2 a2 w2 p2 ht2 hd2
  have b2 : ∀ n, ((A n ∨ (100 ≤ n ∧ n < (stP P0).next)) ∨ ((stP P0).next ≤ n ∧ n < (kwM0 k0).next)) → n < (kwM0 k0).st.next := by
    rintro n (hn | hn)
    · have := b1 n hn; omega
    · exact hn.2
  have hg2 := hg1.next (p2.agreeA fun n hn hx => by have := b1 n hn; omega) (B := fun n => (A n ∨ (100 ≤ n ∧ n < (stP P0).next)) ∨ ((stP P0).next ≤ n ∧ n < (kwM0 k0).next)) fun n hn => .inl hn
  show Code.wpIn _ _ _ (.block 2 (.loop lb4)) _ a2 w2
  refine wpIn_block (wpIn_loop_rounds (((394 + 1) + 1) + 1) ?_)
  refine R0.round k0 ht2 hg2 p2.holds b2 ?_
  intro y1 E3 a3 w3 p3 ht3 hd3
  have m1 : (kwM1 (updK 0 k0 y1.1)).st.next = 244 := next1 (updK 0 k0 y1.1)
  have b3 : ∀ n, (((A n ∨ (100 ≤ n ∧ n < (stP P0).next)) ∨ ((stP P0).next ≤ n ∧ n < (kwM0 k0).next)) ∨ ((kwM0 k0).st.next ≤ n ∧ n < (kwM1 (updK 0 k0 y1.1)).st.next)) → n < (kwM1 (updK 0 k0 y1.1)).st.next := by
    rintro n (hn | hn)
    · have := b2 n hn; omega
    · exact hn.2
  have hg3 := hg2.next (p3.agreeA fun n hn hx => by have := b2 n hn; omega) (B := fun n => ((A n ∨ (100 ≤ n ∧ n < (stP P0).next)) ∨ ((stP P0).next ≤ n ∧ n < (kwM0 k0).next)) ∨ ((kwM0 k0).st.next ≤ n ∧ n < (kwM1 (updK 0 k0 y1.1)).st.next)) fun n hn => .inl hn
  refine R1.round (updK 0 k0 y1.1) ht3 hg3 p3.holds b3 ?_
  intro y2 E4 a4 w4 p4 ht4 hd4
  have m2 : (kwM2 (updK 6 (updK 0 k0 y1.1) y2.1)).st.next = 264 := next2 (updK 6 (updK 0 k0 y1.1) y2.1)
  obtain ⟨B3, hB3⟩ : ∃ B : Nat → Prop, B = fun n => ((A n ∨ (100 ≤ n ∧ n < (stP P0).next)) ∨ ((stP P0).next ≤ n ∧ n < (kwM0 k0).next)) ∨ ((kwM0 k0).st.next ≤ n ∧ n < (kwM1 (updK 0 k0 y1.1)).st.next) := ⟨_, rfl⟩
  have b3' : ∀ n, B3 n → n < (kwM1 (updK 0 k0 y1.1)).st.next := by rw [hB3]; exact b3
  rw [← hB3] at p4 ht4 hg3
  have b4 : ∀ n, (B3 n ∨ ((kwM1 (updK 0 k0 y1.1)).st.next ≤ n ∧ n < (kwM2 (updK 6 (updK 0 k0 y1.1) y2.1)).st.next)) → n < (kwM2 (updK 6 (updK 0 k0 y1.1) y2.1)).st.next := by
    rintro n (hn | hn)
    · have := b3' n hn; omega
    · exact hn.2
  have hg4 := hg3.next (p4.agreeA fun n hn hx => by have := b3' n hn; omega) (B := fun n => B3 n ∨ ((kwM1 (updK 0 k0 y1.1)).st.next ≤ n ∧ n < (kwM2 (updK 6 (updK 0 k0 y1.1) y2.1)).st.next)) fun n hn => .inl hn
  refine R2.round (updK 6 (updK 0 k0 y1.1) y2.1) ht4 hg4 p4.holds b4 ?_
  intro y3 E5 a5 w5 p5 ht5 hd5
  have hkK : updK 9 (updK 6 (updK 0 k0 y1.1) y2.1) y3.1 = kK y1.1 y2.1 y3.1 := rfl
  rw [hkK] at p5 ht5
  have m3 : (kwM3 (kK y1.1 y2.1 y3.1)).st.next = 300 := next3 (kK y1.1 y2.1 y3.1)
  have mE : (stX (E0 (kK y1.1 y2.1 y3.1))).next = 300 := by rw [e0n, next3]
  obtain ⟨B4, hB4⟩ : ∃ B : Nat → Prop, B = fun n => B3 n ∨ ((kwM1 (updK 0 k0 y1.1)).st.next ≤ n ∧ n < (kwM2 (updK 6 (updK 0 k0 y1.1) y2.1)).st.next) := ⟨_, rfl⟩
  have b4' : ∀ n, B4 n → n < (kwM2 (updK 6 (updK 0 k0 y1.1) y2.1)).st.next := by rw [hB4]; exact b4
  rw [← hB4] at p5 ht5 hg4
  have b5 : ∀ n, (B4 n ∨ ((kwM2 (updK 6 (updK 0 k0 y1.1) y2.1)).st.next ≤ n ∧ n < (kwM3 (kK y1.1 y2.1 y3.1)).st.next)) → n < (kwM3 (kK y1.1 y2.1 y3.1)).st.next := by
    rintro n (hn | hn)
    · have := b4' n hn; omega
    · exact hn.2
  have hg5 := hg4.next (p5.agreeA fun n hn hx => by have := b4' n hn; omega) (B := fun n => B4 n ∨ ((kwM2 (updK 6 (updK 0 k0 y1.1) y2.1)).st.next ≤ n ∧ n < (kwM3 (kK y1.1 y2.1 y3.1)).st.next)) fun n hn => .inl hn
  refine (evC_sound mixed_ok cf_any (namesOk_of names_ok) 394).2 lb4 _ _ (.exit 2) _ _ (exE (r := E0 (kK y1.1 y2.1 y3.1)) (n := 2) (e0 _)) ok_lb4 none (fun hx => by cases hx) E5 _ a5 w5 _ ht5 hg5 (by rw [m3]) p5.holds (fun n hn hx => by have := b5 n hn; omega) ?_
  intro E6 a6 w6 p6 ht6 hd6
  simp only [Exit.inBlock, if_true]
  have b6 : ∀ n, ((B4 n ∨ ((kwM2 (updK 6 (updK 0 k0 y1.1) y2.1)).st.next ≤ n ∧ n < (kwM3 (kK y1.1 y2.1 y3.1)).st.next)) ∨ ((kwM3 (kK y1.1 y2.1 y3.1)).st.next ≤ n ∧ n < (stX (E0 (kK y1.1 y2.1 y3.1))).next)) → n < (stX (E0 (kK y1.1 y2.1 y3.1))).next := by
    rintro n (hn | hn)
    · have := b5 n hn; omega
    · exact hn.2
  have hg6 := hg5.next (p6.agreeA fun n hn hx => by have := b5 n hn; omega) (B := fun n => (B4 n ∨ ((kwM2 (updK 6 (updK 0 k0 y1.1) y2.1)).st.next ≤ n ∧ n < (kwM3 (kK y1.1 y2.1 y3.1)).st.next)) ∨ ((kwM3 (kK y1.1 y2.1 y3.1)).st.next ≤ n ∧ n < (stX (E0 (kK y1.1 y2.1 y3.1))).next)) fun n hn => .inl hn
  refine tail_walk y1.2 y2.2 y3.2 ht6 hg6 p6.holds b6 ?_
  have f1 := (hQ ()).trans p1' hd1 (by rw [q0, n6]; decide)
  have f2 := f1.trans (S₁ := (kwM0 k0).st) p2 hd2 (by rw [m0, n6]; decide)
  have f3 := f2.trans p3 hd3 (by rw [m1, n6]; decide)
  have f3' : After Tryz.prog none E3 B3 (kwM1 (updK 0 k0 y1.1)).st w3 a3 tmF S6 (fun a' w' => Q .normal a' w' ∧ Q .ret a' w') := by rw [hB3]; exact f3
  have f4 := f3'.trans p4 hd4 (by rw [m2, n6]; decide)
  have f4' : After Tryz.prog none E4 B4 (kwM2 (updK 6 (updK 0 k0 y1.1) y2.1)).st w4 a4 tmF S6 (fun a' w' => Q .normal a' w' ∧ Q .ret a' w') := by rw [hB4]; exact f4
  have f5 := f4'.trans p5 hd5 (by rw [m3, n6]; decide)
  have f6 := f5.trans p6 hd6 (by rw [mE, n6]; decide)
  intro E7 a7 w7 p7 ht7 hd7
  exact (f6 E7 a7 w7 p7 ht7 hd7).2

end Go.Proofs.YtonojcpjdhbhoaaGreatDoor
