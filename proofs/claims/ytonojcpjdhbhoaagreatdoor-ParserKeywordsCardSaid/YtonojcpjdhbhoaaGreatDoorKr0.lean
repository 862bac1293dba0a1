/-
  A part of the proof that the law ParserKeywords (chapter 19) returns true for every index: runs of the program's functions in the kernel, by the own evaluator, and walks.
-/
import Derived.Test.YtonojcpjdhbhoaaGreatDoorKwl
import Derived.Test.YtonojcpjdhbhoaaGreatDoorOkf
namespace Go.Proofs.YtonojcpjdhbhoaaGreatDoor.R0
open Go.RowKit Go.Dam

noncomputable def es : Array MapEntry := match getB (kwM0 (fun _ => .empty)).heap 204 with
  | some (.map es _) => es
  | _ => #[]
noncomputable def Q0 (k : Nat → ByteArray) := evPre CF Tryz.prog 394 2 (.seq r8c (.seq cnd4 (.seq (.block 3 (.seq r9c (.region 10 opsK false))) r11c))) (kwM0 k).tm (kwM0 k).st
noncomputable def Q1 (k : Nat → ByteArray) := evC CF Tryz.prog 394 r9c (tmP (Q0 k)) (stP (Q0 k))
noncomputable def Q2 (k : Nat → ByteArray) := evOps CF Tryz.prog opsK.toList l1K (tmX (Q1 k)) (stX (Q1 k))
noncomputable def args (k : Nat → ByteArray) : List Value := cK.args.toList.map (aeval (oT (Q2 k)))
noncomputable def Q3 (k : Nat → ByteArray) := evC CF Tryz.prog 394 A0c (args k ++ List.replicate (Tryz.f15.ntmps - (args k).length) undef) (oF (Q2 k))
noncomputable def Q4 (k : Nat → ByteArray) := evC CF Tryz.prog 394 A1c (tmX (Q3 k)) (stX (Q3 k))
noncomputable def tmB (k : Nat → ByteArray) : List Value := tmX (Q4 k)
noncomputable def SB (k : Nat → ByteArray) : St := stX (Q4 k)
noncomputable def cap (k : Nat → ByteArray) : Array Value := match aeval (tmB k) rfG with
  | .func _ _ c => c
  | _ => #[]
noncomputable def Q5 (k : Nat → ByteArray) := evC CF Tryz.prog 394 R0c ((.func (.yield (SB k).next) #[] #[] :: (cap k).toList) ++ List.replicate (Tryz.f39.ntmps - (Value.func (.yield (SB k).next) #[] #[] :: (cap k).toList).length) undef) ⟨((SB k).next, .loop ⟨.ready, none, 0, (tmB k).toArray, rfP, rfA, rfB, 0⟩) :: (SB k).heap, (SB k).next + 2⟩
noncomputable def M (k : Nat → ByteArray) (xs : List MapEntry) := mfold CF Tryz.prog 390 218 6 7 8 5 oec oxc oac rest2c (some (tmX (Q5 k), stX (Q5 k))) xs
noncomputable def Q6 (k : Nat → ByteArray) (ys : List MapEntry) := evOps CF Tryz.prog [o1c, o2c] [o2c] (putD (oT (M k ys)) (some 6) (.tuple #[.bool false])) (oF (M k ys))
noncomputable def Q7 (k : Nat → ByteArray) (ys : List MapEntry) := evC CF Tryz.prog 394 rest39 (oT (Q6 k ys)) (oF (Q6 k ys))
noncomputable def Q8 (k : Nat → ByteArray) (ys : List MapEntry) := evC CF Tryz.prog 394 A2c (tmB k) ⟨delB (stX (Q7 k ys)).heap (SB k).next, (stX (Q7 k ys)).next⟩
noncomputable def v : Value := .slice (some ⟨243, 0, none⟩) 31 0
noncomputable def Q9 (k : Nat → ByteArray) (ys : List MapEntry) := evOps CF Tryz.prog opsK.toList l2K (putD (oT (Q2 k)) oK.dst v) (stX (Q8 k ys))
noncomputable def Q10 (k : Nat → ByteArray) (ys : List MapEntry) := evC CF Tryz.prog 394 r11c (oT (Q9 k ys)) (oF (Q9 k ys))
noncomputable def lp (k : Nat → ByteArray) (ys : List MapEntry) : Loop := match getB (stX (Q7 k ys)).heap (SB k).next with
  | some (.loop r) => r
  | _ => ⟨.busy, none, 0, #[], #[], .skip, .skip, 0⟩

theorem es_all : es.toList.all isE = true := by kernel_rfl
theorem es_len : es.toList.length = 6 := by kernel_rfl
set_option maxRecDepth 1000000
theorem q0 (k : Nat → ByteArray) : (Q0 k).isSome = true := by kernel_rfl
theorem q1 (k : Nat → ByteArray) : exX (Q1 k) = 1 := by kernel_rfl
theorem q2 (k : Nat → ByteArray) : (Q2 k).isSome = true := by kernel_rfl
theorem q3 (k : Nat → ByteArray) : exX (Q3 k) = 1 := by kernel_rfl
theorem q4 (k : Nat → ByteArray) : exX (Q4 k) = 1 := by kernel_rfl
theorem sb (k : Nat → ByteArray) : (SB k).next = 216 := by kernel_rfl
theorem fv (k : Nat → ByteArray) : aeval (tmB k) rfG = .func (.func 39) #[] (cap k) := by kernel_rfl
theorem q5 (k : Nat → ByteArray) : exX (Q5 k) = 1 := by kernel_rfl
theorem s1e (k : Nat → ByteArray) : (oF (Q2 k)).next = 214 := by kernel_rfl
theorem x6 (k : Nat → ByteArray) (a : ByteArray × Int × Nat) (b : ByteArray × Int × Nat) (c : ByteArray × Int × Nat) (d : ByteArray × Int × Nat) (e : ByteArray × Int × Nat) (f : ByteArray × Int × Nat) : (Q6 k [mkE a, mkE b, mkE c, mkE d, mkE e, mkE f]).isSome = true := by kernel_rfl
theorem x7 (k : Nat → ByteArray) (a : ByteArray × Int × Nat) (b : ByteArray × Int × Nat) (c : ByteArray × Int × Nat) (d : ByteArray × Int × Nat) (e : ByteArray × Int × Nat) (f : ByteArray × Int × Nat) : exX (Q7 k [mkE a, mkE b, mkE c, mkE d, mkE e, mkE f]) = 3 := by kernel_rfl
theorem x7n (k : Nat → ByteArray) (a : ByteArray × Int × Nat) (b : ByteArray × Int × Nat) (c : ByteArray × Int × Nat) (d : ByteArray × Int × Nat) (e : ByteArray × Int × Nat) (f : ByteArray × Int × Nat) : (stX (Q7 k [mkE a, mkE b, mkE c, mkE d, mkE e, mkE f])).next = 244 := by kernel_rfl
theorem x8 (k : Nat → ByteArray) (a : ByteArray × Int × Nat) (b : ByteArray × Int × Nat) (c : ByteArray × Int × Nat) (d : ByteArray × Int × Nat) (e : ByteArray × Int × Nat) (f : ByteArray × Int × Nat) : exX (Q8 k [mkE a, mkE b, mkE c, mkE d, mkE e, mkE f]) = 2 := by kernel_rfl
theorem x8n (k : Nat → ByteArray) (a : ByteArray × Int × Nat) (b : ByteArray × Int × Nat) (c : ByteArray × Int × Nat) (d : ByteArray × Int × Nat) (e : ByteArray × Int × Nat) (f : ByteArray × Int × Nat) : (stX (Q8 k [mkE a, mkE b, mkE c, mkE d, mkE e, mkE f])).next = 244 := by kernel_rfl
theorem x9 (k : Nat → ByteArray) (a : ByteArray × Int × Nat) (b : ByteArray × Int × Nat) (c : ByteArray × Int × Nat) (d : ByteArray × Int × Nat) (e : ByteArray × Int × Nat) (f : ByteArray × Int × Nat) : (Q9 k [mkE a, mkE b, mkE c, mkE d, mkE e, mkE f]).isSome = true := by kernel_rfl
theorem x10 (k : Nat → ByteArray) (a : ByteArray × Int × Nat) (b : ByteArray × Int × Nat) (c : ByteArray × Int × Nat) (d : ByteArray × Int × Nat) (e : ByteArray × Int × Nat) (f : ByteArray × Int × Nat) : exX (Q10 k [mkE a, mkE b, mkE c, mkE d, mkE e, mkE f]) = 1 := by kernel_rfl
theorem xl (k : Nat → ByteArray) (a : ByteArray × Int × Nat) (b : ByteArray × Int × Nat) (c : ByteArray × Int × Nat) (d : ByteArray × Int × Nat) (e : ByteArray × Int × Nat) (f : ByteArray × Int × Nat) : getB (stX (Q7 k [mkE a, mkE b, mkE c, mkE d, mkE e, mkE f])).heap (SB k).next = some (.loop (lp k [mkE a, mkE b, mkE c, mkE d, mkE e, mkE f])) := by kernel_rfl
theorem xb (k : Nat → ByteArray) (a : ByteArray × Int × Nat) (b : ByteArray × Int × Nat) (c : ByteArray × Int × Nat) (d : ByteArray × Int × Nat) (e : ByteArray × Int × Nat) (f : ByteArray × Int × Nat) : isBusy (lp k [mkE a, mkE b, mkE c, mkE d, mkE e, mkE f]).state = false := by kernel_rfl
theorem xv (k : Nat → ByteArray) (a : ByteArray × Int × Nat) (b : ByteArray × Int × Nat) (c : ByteArray × Int × Nat) (d : ByteArray × Int × Nat) (e : ByteArray × Int × Nat) (f : ByteArray × Int × Nat) : leaveOf (lp k [mkE a, mkE b, mkE c, mkE d, mkE e, mkE f]).pending = some .normal := by kernel_rfl
theorem xr (k : Nat → ByteArray) (a : ByteArray × Int × Nat) (b : ByteArray × Int × Nat) (c : ByteArray × Int × Nat) (d : ByteArray × Int × Nat) (e : ByteArray × Int × Nat) (f : ByteArray × Int × Nat) : aresults Tryz.prog (stX (Q8 k [mkE a, mkE b, mkE c, mkE d, mkE e, mkE f])).heap (tmX (Q8 k [mkE a, mkE b, mkE c, mkE d, mkE e, mkE f])) Tryz.f15.results.toList = some [v] := by kernel_rfl
theorem xM (k : Nat → ByteArray) (a : ByteArray × Int × Nat) (b : ByteArray × Int × Nat) (c : ByteArray × Int × Nat) (d : ByteArray × Int × Nat) (e : ByteArray × Int × Nat) (f : ByteArray × Int × Nat) : (M k [mkE a, mkE b, mkE c, mkE d, mkE e, mkE f]).isSome = true := by kernel_rfl
theorem xt (k : Nat → ByteArray) (a : ByteArray × Int × Nat) (b : ByteArray × Int × Nat) (c : ByteArray × Int × Nat) (d : ByteArray × Int × Nat) (e : ByteArray × Int × Nat) (f : ByteArray × Int × Nat) : tmX (Q10 k [mkE a, mkE b, mkE c, mkE d, mkE e, mkE f]) = (kwM1 (updK 0 k [mkE a, mkE b, mkE c, mkE d, mkE e, mkE f])).tm := by kernel_rfl
theorem xn (k : Nat → ByteArray) (a : ByteArray × Int × Nat) (b : ByteArray × Int × Nat) (c : ByteArray × Int × Nat) (d : ByteArray × Int × Nat) (e : ByteArray × Int × Nat) (f : ByteArray × Int × Nat) : (stX (Q10 k [mkE a, mkE b, mkE c, mkE d, mkE e, mkE f])).next = (kwM1 (updK 0 k [mkE a, mkE b, mkE c, mkE d, mkE e, mkE f])).next := by kernel_rfl
theorem xh0 (k : Nat → ByteArray) (a : ByteArray × Int × Nat) (b : ByteArray × Int × Nat) (c : ByteArray × Int × Nat) (d : ByteArray × Int × Nat) (e : ByteArray × Int × Nat) (f : ByteArray × Int × Nat) : getB (stX (Q10 k [mkE a, mkE b, mkE c, mkE d, mkE e, mkE f])).heap ((kwM1 (updK 0 k [mkE a, mkE b, mkE c, mkE d, mkE e, mkE f])).heap.getD 0 default).1 = some ((kwM1 (updK 0 k [mkE a, mkE b, mkE c, mkE d, mkE e, mkE f])).heap.getD 0 default).2 := by kernel_rfl
theorem xh1 (k : Nat → ByteArray) (a : ByteArray × Int × Nat) (b : ByteArray × Int × Nat) (c : ByteArray × Int × Nat) (d : ByteArray × Int × Nat) (e : ByteArray × Int × Nat) (f : ByteArray × Int × Nat) : getB (stX (Q10 k [mkE a, mkE b, mkE c, mkE d, mkE e, mkE f])).heap ((kwM1 (updK 0 k [mkE a, mkE b, mkE c, mkE d, mkE e, mkE f])).heap.getD 1 default).1 = some ((kwM1 (updK 0 k [mkE a, mkE b, mkE c, mkE d, mkE e, mkE f])).heap.getD 1 default).2 := by kernel_rfl
theorem xh2 (k : Nat → ByteArray) (a : ByteArray × Int × Nat) (b : ByteArray × Int × Nat) (c : ByteArray × Int × Nat) (d : ByteArray × Int × Nat) (e : ByteArray × Int × Nat) (f : ByteArray × Int × Nat) : getB (stX (Q10 k [mkE a, mkE b, mkE c, mkE d, mkE e, mkE f])).heap ((kwM1 (updK 0 k [mkE a, mkE b, mkE c, mkE d, mkE e, mkE f])).heap.getD 2 default).1 = some ((kwM1 (updK 0 k [mkE a, mkE b, mkE c, mkE d, mkE e, mkE f])).heap.getD 2 default).2 := by kernel_rfl
theorem xh3 (k : Nat → ByteArray) (a : ByteArray × Int × Nat) (b : ByteArray × Int × Nat) (c : ByteArray × Int × Nat) (d : ByteArray × Int × Nat) (e : ByteArray × Int × Nat) (f : ByteArray × Int × Nat) : getB (stX (Q10 k [mkE a, mkE b, mkE c, mkE d, mkE e, mkE f])).heap ((kwM1 (updK 0 k [mkE a, mkE b, mkE c, mkE d, mkE e, mkE f])).heap.getD 3 default).1 = some ((kwM1 (updK 0 k [mkE a, mkE b, mkE c, mkE d, mkE e, mkE f])).heap.getD 3 default).2 := by kernel_rfl
theorem xh4 (k : Nat → ByteArray) (a : ByteArray × Int × Nat) (b : ByteArray × Int × Nat) (c : ByteArray × Int × Nat) (d : ByteArray × Int × Nat) (e : ByteArray × Int × Nat) (f : ByteArray × Int × Nat) : getB (stX (Q10 k [mkE a, mkE b, mkE c, mkE d, mkE e, mkE f])).heap ((kwM1 (updK 0 k [mkE a, mkE b, mkE c, mkE d, mkE e, mkE f])).heap.getD 4 default).1 = some ((kwM1 (updK 0 k [mkE a, mkE b, mkE c, mkE d, mkE e, mkE f])).heap.getD 4 default).2 := by kernel_rfl
theorem xhl (k : Nat → ByteArray) : (kwM1 k).heap.length = 5 := by kernel_rfl
theorem h0 (k : Nat → ByteArray)  : getB (oF (M k [])).heap 218 = some (.mapIter (some 204) 6 ([].map fun x : MapEntry => x.born).toArray 6) ∧ getB (oF (M k [])).heap 204 = some (.map es 6) ∧ nth (oT (M k [])) 5 = .pointer (some ⟨218, 0, none⟩) ∧ (oF (M k [])).next % 2 = 0 ∧ Nat.ble (oF (M k [])).next 244 = true := ⟨by kernel_rfl, by kernel_rfl, by kernel_rfl, by kernel_rfl, by kernel_rfl⟩
theorem h1 (k : Nat → ByteArray) (a : ByteArray × Int × Nat) : getB (oF (M k [mkE a])).heap 218 = some (.mapIter (some 204) 6 ([mkE a].map fun x : MapEntry => x.born).toArray 6) ∧ getB (oF (M k [mkE a])).heap 204 = some (.map es 6) ∧ nth (oT (M k [mkE a])) 5 = .pointer (some ⟨218, 0, none⟩) ∧ (oF (M k [mkE a])).next % 2 = 0 ∧ Nat.ble (oF (M k [mkE a])).next 244 = true := ⟨by kernel_rfl, by kernel_rfl, by kernel_rfl, by kernel_rfl, by kernel_rfl⟩
theorem h2 (k : Nat → ByteArray) (a : ByteArray × Int × Nat) (b : ByteArray × Int × Nat) : getB (oF (M k [mkE a, mkE b])).heap 218 = some (.mapIter (some 204) 6 ([mkE a, mkE b].map fun x : MapEntry => x.born).toArray 6) ∧ getB (oF (M k [mkE a, mkE b])).heap 204 = some (.map es 6) ∧ nth (oT (M k [mkE a, mkE b])) 5 = .pointer (some ⟨218, 0, none⟩) ∧ (oF (M k [mkE a, mkE b])).next % 2 = 0 ∧ Nat.ble (oF (M k [mkE a, mkE b])).next 244 = true := ⟨by kernel_rfl, by kernel_rfl, by kernel_rfl, by kernel_rfl, by kernel_rfl⟩
theorem h3 (k : Nat → ByteArray) (a : ByteArray × Int × Nat) (b : ByteArray × Int × Nat) (c : ByteArray × Int × Nat) : getB (oF (M k [mkE a, mkE b, mkE c])).heap 218 = some (.mapIter (some 204) 6 ([mkE a, mkE b, mkE c].map fun x : MapEntry => x.born).toArray 6) ∧ getB (oF (M k [mkE a, mkE b, mkE c])).heap 204 = some (.map es 6) ∧ nth (oT (M k [mkE a, mkE b, mkE c])) 5 = .pointer (some ⟨218, 0, none⟩) ∧ (oF (M k [mkE a, mkE b, mkE c])).next % 2 = 0 ∧ Nat.ble (oF (M k [mkE a, mkE b, mkE c])).next 244 = true := ⟨by kernel_rfl, by kernel_rfl, by kernel_rfl, by kernel_rfl, by kernel_rfl⟩
theorem h4 (k : Nat → ByteArray) (a : ByteArray × Int × Nat) (b : ByteArray × Int × Nat) (c : ByteArray × Int × Nat) (d : ByteArray × Int × Nat) : getB (oF (M k [mkE a, mkE b, mkE c, mkE d])).heap 218 = some (.mapIter (some 204) 6 ([mkE a, mkE b, mkE c, mkE d].map fun x : MapEntry => x.born).toArray 6) ∧ getB (oF (M k [mkE a, mkE b, mkE c, mkE d])).heap 204 = some (.map es 6) ∧ nth (oT (M k [mkE a, mkE b, mkE c, mkE d])) 5 = .pointer (some ⟨218, 0, none⟩) ∧ (oF (M k [mkE a, mkE b, mkE c, mkE d])).next % 2 = 0 ∧ Nat.ble (oF (M k [mkE a, mkE b, mkE c, mkE d])).next 244 = true := ⟨by kernel_rfl, by kernel_rfl, by kernel_rfl, by kernel_rfl, by kernel_rfl⟩
theorem h5 (k : Nat → ByteArray) (a : ByteArray × Int × Nat) (b : ByteArray × Int × Nat) (c : ByteArray × Int × Nat) (d : ByteArray × Int × Nat) (e : ByteArray × Int × Nat) : getB (oF (M k [mkE a, mkE b, mkE c, mkE d, mkE e])).heap 218 = some (.mapIter (some 204) 6 ([mkE a, mkE b, mkE c, mkE d, mkE e].map fun x : MapEntry => x.born).toArray 6) ∧ getB (oF (M k [mkE a, mkE b, mkE c, mkE d, mkE e])).heap 204 = some (.map es 6) ∧ nth (oT (M k [mkE a, mkE b, mkE c, mkE d, mkE e])) 5 = .pointer (some ⟨218, 0, none⟩) ∧ (oF (M k [mkE a, mkE b, mkE c, mkE d, mkE e])).next % 2 = 0 ∧ Nat.ble (oF (M k [mkE a, mkE b, mkE c, mkE d, mkE e])).next 244 = true := ⟨by kernel_rfl, by kernel_rfl, by kernel_rfl, by kernel_rfl, by kernel_rfl⟩
theorem h6 (k : Nat → ByteArray) (a : ByteArray × Int × Nat) (b : ByteArray × Int × Nat) (c : ByteArray × Int × Nat) (d : ByteArray × Int × Nat) (e : ByteArray × Int × Nat) (f : ByteArray × Int × Nat) : getB (oF (M k [mkE a, mkE b, mkE c, mkE d, mkE e, mkE f])).heap 218 = some (.mapIter (some 204) 6 ([mkE a, mkE b, mkE c, mkE d, mkE e, mkE f].map fun x : MapEntry => x.born).toArray 6) ∧ getB (oF (M k [mkE a, mkE b, mkE c, mkE d, mkE e, mkE f])).heap 204 = some (.map es 6) ∧ nth (oT (M k [mkE a, mkE b, mkE c, mkE d, mkE e, mkE f])) 5 = .pointer (some ⟨218, 0, none⟩) ∧ (oF (M k [mkE a, mkE b, mkE c, mkE d, mkE e, mkE f])).next % 2 = 0 ∧ Nat.ble (oF (M k [mkE a, mkE b, mkE c, mkE d, mkE e, mkE f])).next 244 = true := ⟨by kernel_rfl, by kernel_rfl, by kernel_rfl, by kernel_rfl, by kernel_rfl⟩

theorem here (k : Nat → ByteArray) (xs ls : List MapEntry) (hp : (xs ++ ls).Perm es.toList) : getB (oF (M k xs)).heap 218 = some (.mapIter (some 204) 6 (xs.map fun x : MapEntry => x.born).toArray 6) ∧ getB (oF (M k xs)).heap 204 = some (.map es 6) ∧ nth (oT (M k xs)) 5 = .pointer (some ⟨218, 0, none⟩) ∧ (oF (M k xs)).next % 2 = 0 ∧ Nat.ble (oF (M k xs)).next 244 = true := by
  obtain ⟨t, rfl, hl⟩ := unEp es_all hp
  rw [es_len] at hl
  rcases t with _ | ⟨a, t⟩
  · exact h0 k 
  rcases t with _ | ⟨b, t⟩
  · exact h1 k a
  rcases t with _ | ⟨c, t⟩
  · exact h2 k a b
  rcases t with _ | ⟨d, t⟩
  · exact h3 k a b c
  rcases t with _ | ⟨e, t⟩
  · exact h4 k a b c d
  rcases t with _ | ⟨f, t⟩
  · exact h5 k a b c d e
  rcases t with _ | ⟨zz, t⟩
  · exact h6 k a b c d e f
  · simp only [List.length_cons] at hl; omega

theorem full {p : List MapEntry → Prop} (h : ∀ (a : ByteArray × Int × Nat) (b : ByteArray × Int × Nat) (c : ByteArray × Int × Nat) (d : ByteArray × Int × Nat) (e : ByteArray × Int × Nat) (f : ByteArray × Int × Nat), p [mkE a, mkE b, mkE c, mkE d, mkE e, mkE f]) (ys : List MapEntry) (hp : ys.Perm es.toList) : p ys := by
  obtain ⟨t, rfl, hl⟩ := unEf es_all hp
  rw [es_len] at hl
  rcases t with _ | ⟨a, t⟩
  · simp at hl
  rcases t with _ | ⟨b, t⟩
  · simp at hl
  rcases t with _ | ⟨c, t⟩
  · simp at hl
  rcases t with _ | ⟨d, t⟩
  · simp at hl
  rcases t with _ | ⟨e, t⟩
  · simp at hl
  rcases t with _ | ⟨f, t⟩
  · simp at hl
  rcases t with _ | ⟨zz, t⟩
  · exact h a b c d e f
  · simp only [List.length_cons] at hl; omega

theorem cf_ok' : CallOk Tryz.prog CF := evCall_sound mixed_ok (namesOk_of names_ok) noOrc_ok (ok_any fsAll) 400 12

theorem run (k : Nat → ByteArray) : MapRun CF Tryz.prog 394 218 204 6 6 5 o1c o2c rest39 es (fun xs => oT (M k xs)) (fun xs => oF (M k xs)) (fun ys => tmX (Q7 k ys)) (fun ys => stX (Q7 k ys)) (.exit 0) := by
  rw [shape_rest39]
  refine mapRun_of (f := 390) (init := (tmX (Q5 k), stX (Q5 k))) o1_op o1_guard o1_dst o2_op o2_guard o2_dst oe_op oe_guard oe_dst (by rw [← shape_rest39]; exact ok_rest39) ?_ ?_ (by simp) (full fun a b c d e f => xM k a b c d e f) ?_ ?_ ?_
  · have h : (es.toList.all fun x => Nat.blt x.born 6) = true := by kernel_rfl
    intro x hx
    exact Nat.le_of_ble_eq_true (List.all_eq_true.1 h x hx)
  · exact of_decide_eq_true (by kernel_rfl)
  · intro xs ls hp
    obtain ⟨h1, h2, h3, h4, _⟩ := here k xs ls hp
    exact ⟨h1, h2, h3, h4⟩
  · intro xs ls ys hp hys
    obtain ⟨_, _, _, _, h5⟩ := here k xs ls hp
    have := full (p := fun ys => (stX (Q7 k ys)).next = 244) (fun a b c d e f => x7n k a b c d e f) ys hys
    rw [this]
    exact Nat.le_of_ble_eq_true h5
  · intro ys hys
    refine ⟨oT (Q6 k ys), oF (Q6 k ys), oTF (full (p := fun ys => (Q6 k ys).isSome = true) (fun a b c d e f => x6 k a b c d e f) ys hys), ?_⟩
    have := exE (n := 0) (full (p := fun ys => exX (Q7 k ys) = 3) (fun a b c d e f => x7 k a b c d e f) ys hys)
    unfold Q7 at this ⊢
    rw [shape_rest39] at this ⊢
    exact this

theorem m0 (k : Nat → ByteArray) : M k [] = some (tmX (Q5 k), stX (Q5 k)) := by
  unfold M mfold
  rw [List.foldl_nil]
theorem q5' (k : Nat → ByteArray) : Q5 k = some (.normal, oT (M k []), oF (M k [])) := by
  rw [m0, oT_some, oF_some]
  exact exN (r := Q5 k) (q5 k)

theorem calls15 (k : Nat → ByteArray) (E : Env) (A : Nat → Prop) (w : World) (hg : Glb Tryz.prog E A) (hev : (oF (Q2 k)).next % 2 = 0) (hargs : ∀ x ∈ args k, Sc A x) (H : Holds Tryz.prog E A (oF (Q2 k)).heap w) (hA : ∀ n, A n → n < (oF (Q2 k)).next) :
    Calls Tryz.prog 15 ((args k).map (ren E)).toArray w fun e w' => ∃ (ys : { ys : List MapEntry // ys.Perm es.toList }) (E' : Env), e = .returned (ren E' v) ∧ Post Tryz.prog E A (oF (Q2 k)).heap (oF (Q2 k)).next w E' (stX (Q8 k ys.1)).heap (stX (Q8 k ys.1)).next w' ∧ Sc (fun n => A n ∨ ((oF (Q2 k)).next ≤ n ∧ n < (stX (Q8 k ys.1)).next)) v :=
  over_nd mixed_ok cf_ok' (namesOk_of names_ok) (f := 394) (tmR := fun ys => tmX (Q8 k ys)) (SR := fun ys => stX (Q8 k ys)) (v := fun _ => v) (tmA := tmX (Q3 k)) (SA := stX (Q3 k)) (tmB := tmB k) (SB := SB k) (cap := cap k) (rc := lp k) (run k) Tryz.func39 body39 ok_R0 res39 Tryz.func15 body15 ok_15
    (exN (r := Q3 k) (q3 k)) (exN (r := Q4 k) (q4 k)) (fv k) (q5' k)
    (fun ys hys => full (p := fun ys => getB (stX (Q7 k ys)).heap (SB k).next = some (.loop (lp k ys)) ∧ isBusy (lp k ys).state = false ∧ leaveOf (lp k ys).pending = some .normal) (fun a b c d e f => ⟨xl k a b c d e f, xb k a b c d e f, xv k a b c d e f⟩) ys hys)
    (fun ys hys => exR (r := Q8 k ys) (full (p := fun ys => exX (Q8 k ys) = 2) (fun a b c d e f => x8 k a b c d e f) ys hys))
    (fun ys hys => full (p := fun ys => aresults Tryz.prog (stX (Q8 k ys)).heap (tmX (Q8 k ys)) Tryz.f15.results.toList = some [v]) (fun a b c d e f => xr k a b c d e f) ys hys)
    hg hev hargs H hA

theorem sub (k : Nat → ByteArray) (ys : List MapEntry) (hys : ys.Perm es.toList) : ∀ n o, getB (kwM1 (updK 0 k ys)).heap n = some o → getB (stX (Q10 k ys)).heap n = some o :=
  full (p := fun ys => ∀ n o, getB (kwM1 (updK 0 k ys)).heap n = some o → getB (stX (Q10 k ys)).heap n = some o) (fun a b c d e f => getB_subD (xhl _) fun i hi => by
    have : i = 0 ∨ i = 1 ∨ i = 2 ∨ i = 3 ∨ i = 4 := by omega
    rcases this with rfl | rfl | rfl | rfl | rfl
    · exact xh0 k a b c d e f
    · exact xh1 k a b c d e f
    · exact xh2 k a b c d e f
    · exact xh3 k a b c d e f
    · exact xh4 k a b c d e f) ys hys

theorem s0_even (k : Nat → ByteArray) : (kwM0 k).st.next % 2 = 0 := by kernel_rfl

/-- One round of Keywords' loop over the maps. -/
theorem round (k : Nat → ByteArray) {E : Env} {A : Nat → Prop} {a : Act} {w : World} {Q : Exit → Act → World → Prop} {n : Nat} (ht : Tm E A (kwM0 k).tm a) (hg : Glb Tryz.prog E A) (H : Holds Tryz.prog E A (kwM0 k).st.heap w) (hA : ∀ n, A n → n < (kwM0 k).st.next)
    (hQ : ∀ ys : { ys : List MapEntry // ys.Perm es.toList }, After Tryz.prog none E A (kwM0 k).st w a (kwM1 (updK 0 k ys.1)).tm (kwM1 (updK 0 k ys.1)).st (Code.roundsIn (rd none) 0 Tryz.prog lb4 Q n)) :
    Code.roundsIn (rd none) 0 Tryz.prog lb4 Q (n + 1) a w := by
  rw [shape_lb4]
  rw [shape_lb4] at hQ
  refine round_nd mixed_ok cf_ok' (namesOk_of names_ok) (C := { ys : List MapEntry // ys.Perm es.toList }) (f := 394) (v := fun _ => v) (SR := fun ys => stX (Q8 k ys.1)) (tmR := fun ys => oT (Q9 k ys.1)) (SE := fun ys => oF (Q9 k ys.1)) (tmF := fun ys => tmX (Q10 k ys.1)) (SF := fun ys => stX (Q10 k ys.1)) (by rw [← shape_lb4]; exact ok_lb4) shape_opsK oK_op oK_guard cK_callee cK_body
    (tmQ := tmP (Q0 k)) (SQ := stP (Q0 k)) (tmA := tmX (Q1 k)) (SA := stX (Q1 k)) (tm1 := oT (Q2 k)) (S1 := oF (Q2 k)) (exP (r := Q0 k) (q0 k)) (exN (r := Q1 k) (q1 k)) (oTF (o := Q2 k) (q2 k)) (fun ys => oTF (o := Q9 k ys.1) (full (p := fun ys => (Q9 k ys).isSome = true) (fun a b c d e f => x9 k a b c d e f) ys.1 ys.2)) (fun ys => exN (r := Q10 k ys.1) (full (p := fun ys => exX (Q10 k ys) = 1) (fun a b c d e f => x10 k a b c d e f) ys.1 ys.2)) (fun ys => ?_) (fun E A w hg hev hargs H hA => calls15 k E A w hg hev hargs H hA) ht hg (s0_even k) H hA ?_
  · have := full (p := fun ys => (stX (Q8 k ys)).next = 244) (fun a b c d e f => x8n k a b c d e f) ys.1 ys.2
    have h2 := s1e k
    omega
  · intro ys
    refine After.sub (sub k ys.1 ys.2) ?_
    have e1 := full (p := fun ys => tmX (Q10 k ys) = (kwM1 (updK 0 k ys)).tm) (fun a b c d e f => xt k a b c d e f) ys.1 ys.2
    have e2 := full (p := fun ys => (stX (Q10 k ys)).next = (kwM1 (updK 0 k ys)).next) (fun a b c d e f => xn k a b c d e f) ys.1 ys.2
    rw [e1, e2]
    exact hQ ys

end Go.Proofs.YtonojcpjdhbhoaaGreatDoor.R0
