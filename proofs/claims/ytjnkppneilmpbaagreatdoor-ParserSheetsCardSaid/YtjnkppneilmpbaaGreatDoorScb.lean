/-
  A part of the proof that the law ParserSheets (chapter 19) returns true for every sheet: walks of the program's functions, and runs of them in the kernel by the own evaluator.
-/
import Derived.Test.YtjnkppneilmpbaaGreatDoorSca
import Derived.Test.YtjnkppneilmpbaaGreatDoorKnw
import Derived.Shelf.Strings.Builder1
import Derived.Shelf.Strings.Builder2
import Derived.Shelf.Strings.OnBuilder
import Derived.Shelf.Small.Strs
import Derived.Shelf.Strings.BuilderF
import Derived.Shelf.Strings.Builder2Cap
import Derived.Shelf.Strconv.Atoi
import Derived.Shelf.LaysM
import Derived.Shelf.Strconv.AtoiErrFast
import Derived.Shelf.Strconv.AtoiFail
import Derived.Shelf.Strings.Search1
import Derived.Shelf.Strings.Search2
import Derived.Shelf.Strings.Search3
import Derived.Shelf.Strings.Cut
import Derived.Shelf.Strings.Count
import Derived.Shelf.Strings.Shaped
import Derived.Shelf.Strings.Prefix
import Derived.Shelf.Strings.Split
import Derived.Shelf.Strings.SplitShaped
import Derived.Shelf.Strings.RuneCount
import Derived.Shelf.Strings.Explode
import Derived.Ground.Names2Prog
import Derived.Shelf.Slices.SearchI
import Derived.Test.YtjnkppneilmpbaaGreatDoorProg
import Derived.Lib.Builder
import Derived.Lib.BufferMore
import Derived.WalkKit
import Derived.WalkSmall
import Derived.Below
import Derived.Deep.LoopGhost
import Derived.Lib.Walk
namespace Go.Proofs.YtjnkppneilmpbaaGreatDoor
open Go.RowKit Go.Dam

noncomputable def tm62F : List Value := match evC CF Tryz.prog 400 rest62 tm62b scanE.st with
  | some (_, tm, _) => tm
  | none => []
noncomputable def lit62F : Go.Dam.Lit := ⟨tm62F, scanF.heap, scanF.next⟩
noncomputable def vs62 : List Value := match scanV with
  | .tuple vs => vs.toList
  | _ => []
set_option maxRecDepth 1000000 in
theorem end62 : endOk CF Tryz.prog 400 rest62 tm62b scanE.st lit62F = true := by kernel_rfl
set_option maxRecDepth 1000000 in
theorem res62 : aresults Tryz.prog scanF.heap tm62F Tryz.f24.results.toList = some vs62 := by kernel_rfl
theorem scanV_eq : scanV = oneOf vs62 := by kernel_rfl

theorem mem_of_getB {n : Nat} {o : Obj} : ∀ {h : List (Nat × Obj)}, getB h n = some o → ∃ x ∈ h, x.1 = n
  | [], h => by cases h
  | (m, y) :: r, h => by
    simp only [getB] at h
    split at h
    · rename_i he
      exact ⟨(m, y), by simp, Nat.eq_of_beq_eq_true he⟩
    · obtain ⟨x, hx, e⟩ := mem_of_getB h
      exact ⟨x, by simp [hx], e⟩

theorem names62 : (scanF.heap.all fun x => Nat.ble 106 x.1 && Nat.blt x.1 scanF.next) = true := by kernel_rfl
theorem globals62 : Nat.ble (2 * Tryz.prog.globals.size) 106 = true := by kernel_rfl
theorem start62 : Nat.ble 106 scanL.next = true := by kernel_rfl

theorem stL_next : scanL.st.next = scanL.next := rfl
theorem stE_next : scanE.st.next = scanE.next := rfl

set_option maxRecDepth 100000 in
set_option maxHeartbeats 1000000 in
theorem scan62 (E : Env) (A : Nat → Prop) (w : World) (hg : Glb Tryz.prog E A) (hA : ∀ n, A n → n < 106) :
    Calls Tryz.prog 24 ([Value.string scanText].map (ren E)).toArray w fun e w' => ∃ (_ : Unit) (E' : Env), e = .returned (ren E' (oneOf vs62)) ∧ Post Tryz.prog E A [] 106 w E' scanF.heap scanF.next w' ∧ Sc (fun n => A n ∨ (106 ≤ n ∧ n < scanF.next)) (oneOf vs62) := by
  obtain ⟨ev0, e0, _, _, _, _, _, _, hle, evE, hle0, hleF⟩ := evens'
  have hst := Nat.le_of_ble_eq_true start62
  have hH : Holds Tryz.prog E A [] w := ⟨fun n o hn => (by cases hn), fun n m o o' hn => (by cases hn)⟩
  refine calls_nd (C := Unit) (E := E) (w := w) (S := ⟨[], 106⟩) (tmR := fun _ => tm62F) (SR := fun _ => ⟨scanF.heap, scanF.next⟩) (vs := fun _ => vs62) Tryz.func24 body62 (by intro x hx; obtain rfl := List.mem_singleton.1 hx; exact Sc_string _ _) (fun _ => res62) ?_
  intro a ht _ Q hQ
  rw [ntmps62] at ht
  refine preOk_sound mixed_ok cf_ok (namesOk_of names_ok) pre62 ok62 ht hg rfl hH hA ?_
  intro E1 a1 w1 p1 ht1 hd1
  rw [shape62]
  have b1 : ∀ n, A n → ¬ (106 ≤ n ∧ n < scanL.st.next) := fun n hn hx => by have := hA n hn; omega
  have hg1 := hg.next (p1.agreeA b1) (B := fun n => A n ∨ (106 ≤ n ∧ n < scanL.st.next)) fun n hn => .inl hn
  have hA1 : ∀ n, (A n ∨ (106 ≤ n ∧ n < scanL.st.next)) → n < scanL.st.next := by
    rintro n (hn | hn)
    · have h1 := hA n hn
      rw [stL_next]
      omega
    · exact hn.2
  have h1 : ∀ o ∈ ops10.toList, ∀ x ∈ o.op.operands, okOpd Tryz.prog x = true := by
    intro o ho x hx
    obtain ⟨i, hi⟩ := List.mem_iff_getElem?.1 ho
    exact okOps_spec okops i o x hi hx
  refine wpIn_seq (region_nd cf_ok (namesOk_of names_ok) (C := Unit) (v := fun _ => oneOf []) (SR := fun _ => scanE.st) (tmR := fun _ => tm62b) (SE := fun _ => scanE.st) opsplit h1 callop callguard callcallee callbody first10 (fun _ => ?_) ?_ ht1 hg1 ev0 p1.holds hA1 ?_)
  · rw [calldst]; rfl
  · rw [args10]
    intro E2 A2 w2 hg2 hev2 hsc2 H2 hA2
    exact scan84 E2 A2 w2 hg2 hev2 hsc2 H2 hA2
  · intro _ E2 a2 w2 p2 ht2 hd2
    have hE : scanL.st.next ≤ scanE.st.next := p2.le
    have b2 : ∀ n, (A n ∨ (106 ≤ n ∧ n < scanL.st.next)) → ¬ (scanL.st.next ≤ n ∧ n < scanE.st.next) := fun n hn hx => by have := hA1 n hn; omega
    refine endOk_sound mixed_ok cf_ok (namesOk_of names_ok) end62 okr62 ht2 (hg1.next (p2.agreeA b2) fun n hn => .inl hn) evE p2.holds ?_ ?_
    · rintro n (hn | hn)
      · have := hA1 n hn; omega
      · exact hn.2
    · intro E3 a3 w3 p3 ht3 hd3
      have hF : scanE.st.next ≤ (lit62F.st).next := hleF
      exact (((hQ ()).trans p1 hd1 (Nat.le_trans hE hF)).trans p2 hd2 hF E3 a3 w3 p3 ht3 hd3).2

theorem scanT_ok : Told1 Tryz.prog scanT := by
  refine ⟨?_, ?_, ?_⟩
  · intro x hx
    obtain rfl := List.mem_singleton.1 hx
    rfl
  · intro n o hn
    obtain ⟨x, hx, rfl⟩ := mem_of_getB hn
    have := List.all_eq_true.1 names62 x hx
    simp only [Bool.and_eq_true] at this
    exact ⟨Nat.le_of_ble_eq_true this.1, Nat.le_of_ble_eq_true this.2⟩
  · intro E A w hg hev hA0
    have hgl := Nat.le_of_ble_eq_true globals62
    have hg' : Glb Tryz.prog E (fun n => A n ∧ n < 106) := by
      intro g hgs
      obtain ⟨h1, h2, h3⟩ := hg g hgs
      exact ⟨h1, h2, h3, by omega⟩
    have := scan62 E (fun n => A n ∧ n < 106) w hg' (fun n hn => hn.2)
    have he : ([Value.string scanText].map (ren E)).toArray = scanT.args.toArray := by
      simp only [List.map_cons, List.map_nil, ren_string]; rfl
    rw [he] at this
    refine Calls.mono this ?_
    rintro e w' ⟨_, E', rfl, p, hs⟩
    refine ⟨E', by rw [← scanV_eq]; rfl, ⟨p.le, p.even, p.agree, p.holds.mono ?_, p.os, p.tape, p.output, p.size, p.same, p.img⟩, ?_⟩
    · rintro n (hn | hn)
      · exact .inl hn.1
      · exact .inr hn
    · have hs' : Sc (fun n => A n ∨ (106 ≤ n ∧ n < scanF.next)) (oneOf vs62) := Sc_mono (by
        rintro n (hn | hn)
        · exact Or.inl hn.1
        · exact Or.inr hn) _ hs
      rw [← scanV_eq] at hs'
      exact hs'

theorem known_walk (w : World) : Calls Tryz.prog 8 #[] w fun e w' => e = .returned (.bool true) ∧ Below w.heap.size w w' := known_of scanT_ok w

end Go.Proofs.YtjnkppneilmpbaaGreatDoor

namespace Go.Proofs
open Go.Shelf
def Tryz.lays169_ren : Go.Shelf.Ren := ⟨fun | 169 => 42 | n => n, fun | 70 => 118 | 9 => 9 | 0 => 0 | 72 => 120 | 37 => 23 | 127 => 155 | 3 => 3 | 5 => 5 | n => n, fun | n => n⟩
theorem Tryz.lays169 : Go.Proofs.Lays.n169 Tryz.prog Tryz.lays169_ren := {
  mixed := by kernel_rfl
  f169 := Tryz.func42.trans (congrArg some (by kernel_rfl))
  t0 := Tryz.underlying0
  a0 := Tryz.isAgg0
  z0 := Tryz.sizeOf0
  v0 := Tryz.zeroValue0
  t3 := Tryz.underlying3
  a3 := Tryz.isAgg3
  z3 := Tryz.sizeOf3
  v3 := Tryz.zeroValue3
  t9 := Tryz.underlying9
  a9 := Tryz.isAgg9
  z9 := Tryz.sizeOf9
  v9 := Tryz.zeroValue9
  t37 := Tryz.underlying23
  a37 := Tryz.isAgg23
  z37 := Tryz.sizeOf23
  v37 := Tryz.zeroValue23
  t70 := Tryz.underlying118
  a70 := Tryz.isAgg118
  z70 := Tryz.sizeOf118
  v70 := Tryz.zeroValue118
  t72 := Tryz.underlying120
  a72 := Tryz.isAgg120
  z72 := Tryz.sizeOf120
  v72 := Tryz.zeroValue120
  t127 := Tryz.underlying155
  a127 := Tryz.isAgg155
  z127 := Tryz.sizeOf155
  v127 := Tryz.zeroValue155 }
theorem Tryz.Builder_Extra_169 : Builder.Extra Tryz.prog Tryz.lays169_ren := {
  sizeBuilder := by kernel_rfl
  liesBuilder := by kernel_rfl
  t5 := Tryz.underlying5
  a5 := Tryz.isAgg5
  z5 := Tryz.sizeOf5
  v5 := Tryz.zeroValue5
  infoByte := by kernel_rfl
  cellsByte := by kernel_rfl
  sizeByte := by kernel_rfl
  neB5 := by decide }
open Go.RowKit in
/-- (*strings.Builder).String: "String returns the accumulated string.": WHATEVER THE BUILDER HOLDS. (LAID: no walk: one application.) -/
theorem Tryz.Builder_String_any (B b : Nat) (l : List UInt8) (w : World) (h : Lib.IsBuilder 120 5 B b (Lib.byteCells l) w) (hBw : B ≤ w.heap.size) :
    Calls Tryz.prog 42 #[.pointer (some ⟨b, 0, none⟩)] w fun e w' => e = .returned (.string ⟨l.toArray⟩) ∧ Below B w w' := Any.Builder_String_any Tryz.lays169 Tryz.Builder_Extra_169 B b l w h hBw
end Go.Proofs

namespace Go.Proofs
open Go.Shelf
def Tryz.lays137_ren : Go.Shelf.Ren := ⟨fun | 137 => 39 | 217 => 59 | 266 => 95 | n => n, fun | 9 => 9 | 5 => 5 | 3 => 3 | n => n, fun | n => n⟩
theorem Tryz.lays137 : Go.Proofs.Lays.n137 Tryz.prog Tryz.lays137_ren := {
  mixed := by kernel_rfl
  f137 := Tryz.func39.trans (congrArg some (by kernel_rfl))
  f217 := Tryz.func59.trans (congrArg some (by kernel_rfl))
  f266 := Tryz.func95.trans (congrArg some (by kernel_rfl))
  t3 := Tryz.underlying3
  a3 := Tryz.isAgg3
  z3 := Tryz.sizeOf3
  v3 := Tryz.zeroValue3
  t5 := Tryz.underlying5
  a5 := Tryz.isAgg5
  z5 := Tryz.sizeOf5
  v5 := Tryz.zeroValue5
  t9 := Tryz.underlying9
  a9 := Tryz.isAgg9
  z9 := Tryz.sizeOf9
  v9 := Tryz.zeroValue9 }
open Go.RowKit in
/-- strings.IndexByte: "IndexByte returns the index of the first instance of c in s, or -1 if c is not present in s.": IT RETURNS 'Lib.indexByte s c'; the world is as it was. (LAID: no walk: one application.) -/
theorem Tryz.strings_IndexByte (s : ByteArray) (c : Int) (w : World) :
    Calls Tryz.prog 39 #[.string s, .int .u8 c] w fun e w' => e = .returned (.int .i64 (Lib.indexByte s.data.toList c.toNat.toUInt8)) ∧ w' = w := Any.strings_IndexByte Tryz.lays137 s c w
def Tryz.lays172_ren : Go.Shelf.Ren := ⟨fun | 172 => 103 | 244 => 130 | 245 => 131 | 247 => 156 | 279 => 157 | 280 => 158 | 281 => 159 | 282 => 160 | 287 => 178 | 316 => 179 | 171 => 165 | 205 => 180 | 321 => 193 | 322 => 194 | 243 => 186 | 246 => 201 | 283 => 211 | 284 => 212 | 285 => 213 | 286 => 214 | 129 => 127 | 317 => 220 | 318 => 221 | 319 => 222 | 320 => 223 | 337 => 228 | 338 => 229 | n => n, fun | 9 => 9 | 3 => 3 | 75 => 122 | 76 => 125 | 4 => 4 | 5 => 5 | 167 => 242 | 37 => 23 | 0 => 0 | 85 => 243 | 2 => 2 | 168 => 245 | 53 => 209 | 175 => 263 | 46 => 179 | 210 => 267 | 127 => 155 | 145 => 285 | 143 => 283 | 21 => 21 | 171 => 301 | 173 => 303 | 212 => 315 | 51 => 207 | 20 => 20 | 213 => 316 | 232 => 322 | 233 => 323 | 80 => 80 | n => n, fun | 15 => 1 | 16 => 2 | 17 => 5 | 18 => 6 | 19 => 7 | n => n⟩
theorem Tryz.lays172 : Go.Proofs.Lays.n172 Tryz.prog Tryz.lays172_ren := {
  mixed := by kernel_rfl
  f129 := Tryz.func127.trans (congrArg some (by kernel_rfl))
  f171 := Tryz.func165.trans (congrArg some (by kernel_rfl))
  f172 := Tryz.func103.trans (congrArg some (by kernel_rfl))
  f205 := Tryz.func180.trans (congrArg some (by kernel_rfl))
  f243 := Tryz.func186.trans (congrArg some (by kernel_rfl))
  f244 := Tryz.func130.trans (congrArg some (by kernel_rfl))
  f245 := Tryz.func131.trans (congrArg some (by kernel_rfl))
  f246 := Tryz.func201.trans (congrArg some (by kernel_rfl))
  f247 := Tryz.func156.trans (congrArg some (by kernel_rfl))
  f279 := Tryz.func157.trans (congrArg some (by kernel_rfl))
  f280 := Tryz.func158.trans (congrArg some (by kernel_rfl))
  f281 := Tryz.func159.trans (congrArg some (by kernel_rfl))
  f282 := Tryz.func160.trans (congrArg some (by kernel_rfl))
  f283 := Tryz.func211.trans (congrArg some (by kernel_rfl))
  f284 := Tryz.func212.trans (congrArg some (by kernel_rfl))
  f285 := Tryz.func213.trans (congrArg some (by kernel_rfl))
  f286 := Tryz.func214.trans (congrArg some (by kernel_rfl))
  f287 := Tryz.func178.trans (congrArg some (by kernel_rfl))
  f316 := Tryz.func179.trans (congrArg some (by kernel_rfl))
  f317 := Tryz.func220.trans (congrArg some (by kernel_rfl))
  f318 := Tryz.func221.trans (congrArg some (by kernel_rfl))
  f319 := Tryz.func222.trans (congrArg some (by kernel_rfl))
  f320 := Tryz.func223.trans (congrArg some (by kernel_rfl))
  f321 := Tryz.func193.trans (congrArg some (by kernel_rfl))
  f322 := Tryz.func194.trans (congrArg some (by kernel_rfl))
  f337 := Tryz.func228.trans (congrArg some (by kernel_rfl))
  f338 := Tryz.func229.trans (congrArg some (by kernel_rfl))
  t0 := Tryz.underlying0
  a0 := Tryz.isAgg0
  z0 := Tryz.sizeOf0
  v0 := Tryz.zeroValue0
  t2 := Tryz.underlying2
  a2 := Tryz.isAgg2
  z2 := Tryz.sizeOf2
  v2 := Tryz.zeroValue2
  t3 := Tryz.underlying3
  a3 := Tryz.isAgg3
  z3 := Tryz.sizeOf3
  v3 := Tryz.zeroValue3
  t4 := Tryz.underlying4
  a4 := Tryz.isAgg4
  z4 := Tryz.sizeOf4
  v4 := Tryz.zeroValue4
  t5 := Tryz.underlying5
  a5 := Tryz.isAgg5
  z5 := Tryz.sizeOf5
  v5 := Tryz.zeroValue5
  t9 := Tryz.underlying9
  a9 := Tryz.isAgg9
  z9 := Tryz.sizeOf9
  v9 := Tryz.zeroValue9
  t20 := Tryz.underlying20
  a20 := Tryz.isAgg20
  z20 := Tryz.sizeOf20
  v20 := Tryz.zeroValue20
  t21 := Tryz.underlying21
  a21 := Tryz.isAgg21
  z21 := Tryz.sizeOf21
  v21 := Tryz.zeroValue21
  t37 := Tryz.underlying23
  a37 := Tryz.isAgg23
  z37 := Tryz.sizeOf23
  v37 := Tryz.zeroValue23
  t46 := Tryz.underlying179
  a46 := Tryz.isAgg179
  z46 := Tryz.sizeOf179
  v46 := Tryz.zeroValue179
  t51 := Tryz.underlying207
  a51 := Tryz.isAgg207
  z51 := Tryz.sizeOf207
  v51 := Tryz.zeroValue207
  t53 := Tryz.underlying209
  a53 := Tryz.isAgg209
  z53 := Tryz.sizeOf209
  v53 := Tryz.zeroValue209
  t75 := Tryz.underlying122
  a75 := Tryz.isAgg122
  z75 := Tryz.sizeOf122
  v75 := Tryz.zeroValue122
  t76 := Tryz.underlying125
  a76 := Tryz.isAgg125
  z76 := Tryz.sizeOf125
  v76 := Tryz.zeroValue125
  t85 := Tryz.underlying243
  a85 := Tryz.isAgg243
  z85 := Tryz.sizeOf243
  v85 := Tryz.zeroValue243
  t127 := Tryz.underlying155
  a127 := Tryz.isAgg155
  z127 := Tryz.sizeOf155
  v127 := Tryz.zeroValue155
  t143 := Tryz.underlying283
  a143 := Tryz.isAgg283
  z143 := Tryz.sizeOf283
  v143 := Tryz.zeroValue283
  t145 := Tryz.underlying285
  a145 := Tryz.isAgg285
  z145 := Tryz.sizeOf285
  v145 := Tryz.zeroValue285
  t167 := Tryz.underlying242
  a167 := Tryz.isAgg242
  z167 := Tryz.sizeOf242
  v167 := Tryz.zeroValue242
  t168 := Tryz.underlying245
  a168 := Tryz.isAgg245
  z168 := Tryz.sizeOf245
  v168 := Tryz.zeroValue245
  t171 := Tryz.underlying301
  a171 := Tryz.isAgg301
  z171 := Tryz.sizeOf301
  v171 := Tryz.zeroValue301
  t173 := Tryz.underlying303
  a173 := Tryz.isAgg303
  z173 := Tryz.sizeOf303
  v173 := Tryz.zeroValue303
  t175 := Tryz.underlying263
  a175 := Tryz.isAgg263
  z175 := Tryz.sizeOf263
  v175 := Tryz.zeroValue263
  t210 := Tryz.underlying267
  a210 := Tryz.isAgg267
  z210 := Tryz.sizeOf267
  v210 := Tryz.zeroValue267
  t212 := Tryz.underlying315
  a212 := Tryz.isAgg315
  z212 := Tryz.sizeOf315
  v212 := Tryz.zeroValue315
  t213 := Tryz.underlying316
  a213 := Tryz.isAgg316
  z213 := Tryz.sizeOf316
  t232 := Tryz.underlying322
  a232 := Tryz.isAgg322
  z232 := Tryz.sizeOf322
  v232 := Tryz.zeroValue322
  t233 := Tryz.underlying323
  a233 := Tryz.isAgg323
  z233 := Tryz.sizeOf323
  v233 := Tryz.zeroValue323
  g15 := by kernel_rfl
  g16 := by kernel_rfl
  g17 := by kernel_rfl
  g18 := by kernel_rfl
  g19 := by kernel_rfl }
open Go.RowKit in
/-- strconv.Atoi: "Atoi is equivalent to ParseInt(s, 10, 0), converted to type int.": AT A DECIMAL NUMERAL OF AT MOST 18 BYTES: its value, and a nil error. The world behind the call: the one new row that the library's '[]byte(s)' lays. (LAID: no walk: one application.) -/
theorem Tryz.strconv_Atoi (s : ByteArray) (n : Int) (hl : s.size ≤ 18) (h : Lib.atoi s.data.toList = some n) (w : World) :
    Calls Tryz.prog 103 #[.string s] w fun e w' => e = .returned (.tuple #[.int .i64 n, .nilIface]) ∧ ∃ t, w' = Lib.bytesWorld w 5 t := Any.strconv_Atoi Tryz.lays172 s n hl h w
def Tryz.laysNm225_ren : Go.Shelf.Ren := ⟨fun | 25 => 72 | 31 => 109 | 32 => 110 | 37 => 133 | n => n, fun | 22 => 113 | 3 => 3 | 4 => 4 | 40 => 179 | 0 => 0 | n => n, fun | n => n⟩
theorem Tryz.laysNm225 : Go.Proofs.Lays2.n25 Tryz.prog Tryz.laysNm225_ren := {
  mixed := by kernel_rfl
  f25 := Tryz.func72.trans (congrArg some (by kernel_rfl))
  f31 := Tryz.func109.trans (congrArg some (by kernel_rfl))
  f32 := Tryz.func110.trans (congrArg some (by kernel_rfl))
  f37 := Tryz.func133.trans (congrArg some (by kernel_rfl))
  t0 := Tryz.underlying0
  a0 := Tryz.isAgg0
  z0 := Tryz.sizeOf0
  v0 := Tryz.zeroValue0
  t3 := Tryz.underlying3
  a3 := Tryz.isAgg3
  z3 := Tryz.sizeOf3
  v3 := Tryz.zeroValue3
  t4 := Tryz.underlying4
  a4 := Tryz.isAgg4
  z4 := Tryz.sizeOf4
  v4 := Tryz.zeroValue4
  t22 := Tryz.underlying113
  a22 := Tryz.isAgg113
  z22 := Tryz.sizeOf113
  v22 := Tryz.zeroValue113
  t40 := Tryz.underlying179
  a40 := Tryz.isAgg179
  z40 := Tryz.sizeOf179
  v40 := Tryz.zeroValue179 }
open Go.RowKit Go.Lib in
/-- slices.BinarySearch at []int: "BinarySearch searches for target in a sorted slice and returns the earliest position where target is found, or the position where target would appear in the sort order; it also returns a bool saying whether the target is really found in the slice. The slice must be sorted in increasing order.": OF A SORTED SLICE IT RETURNS how many elements are less than the target, and whether the target is among the elements; the world is as it was but for the count of draws. 'zs': what the cells behind the slice's address hold; 'zs.take n': its elements. (Of a slice that is not sorted: no contract here.) (LAID: no walk: one application.) -/
theorem Tryz.slices_BinarySearch_int (b off n c : Nat) (zs : List Int) (x : Int) (w : World) (hz : n ≤ zs.length) (hbig : n < 4611686018427387904) (hc : ∀ j, j < zs.length → w.cell? ⟨b, off + j, none⟩ = some (.int .i64 (zs.getD j 0))) (hs : (zs.take n).Pairwise (· ≤ ·)) :
    Calls Tryz.prog 72 #[.slice (some ⟨b, off, none⟩) n c, .int .i64 x] w fun e w' => e = .returned (.tuple #[.int .i64 ((zs.take n).countP (· < x) : Nat), .bool ((zs.take n).contains x)]) ∧ ∃ q, w' = w.drewN q := Any.slices_BinarySearch_int Tryz.laysNm225 b off n c zs x w hz hbig hc hs
end Go.Proofs

namespace Go.Proofs.YtjnkppneilmpbaaGreatDoor
open Go.RowKit

/-- The scanner at block X: it stands at 'pos' of 's', has the 'n' tokens whose cells are 'xs', and the error 'e' at 'wr'; the blocks 'ks' hold what they held; below B the world is w0's. -/
structure Scn (B X : Nat) (ks : List (Nat × Obj)) (s : ByteArray) (lines : Value) (pos : Int) (lv : Value) (n : Nat) (xs : List Value) (e wr : Int) (w0 w : World) : Prop where
  hX : B ≤ X
  hB : B ≤ w.heap.size
  blk : w.heap[X]? = some (.cells #[.string s, .int .i64 pos, lines, lv, .int .i64 e, .int .i64 wr] 139 (0, 0))
  own : w.ownsRow B 111 7 lv n xs
  keep : ∀ p ∈ ks, w.heap[p.1]? = some p.2 ∧ p.1 ≠ X ∧ B ≤ p.1 ∧ ∀ cs fr, p.2 ≠ .cells cs 111 fr
  below : Below B w0 w

theorem own_ne {w : World} {B : Nat} {e : TypeId} {size : Nat} {v : Value} {n : Nat} {xs : List Value} {b : Nat} {o : Obj} (hown : w.ownsRow B e size v n xs) (hb : w.heap[b]? = some o) (hTe : ∀ cs fr, o ≠ .cells cs e fr) : v.ownBlock ≠ some b := by
  rcases hown.2 with ⟨rfl, _⟩ | ⟨g, cap, cur, rfl, _, hg, _⟩
  · simp [Value.ownBlock]
  · intro h
    simp only [Value.ownBlock, Option.some.injEq] at h
    subst h
    rw [hg] at hb
    exact hTe _ _ (Option.some.inj hb).symm

theorem own_step {w w' : World} {B : Nat} {e : TypeId} {size : Nat} {v : Value} {n : Nat} {xs : List Value} (h : w.ownsRow B e size v n xs) (hb : ∀ k, v.ownBlock = some k → w'.heap[k]? = w.heap[k]?) : w'.ownsRow B e size v n xs := by
  refine ⟨h.1, ?_⟩
  rcases h.2 with hn | ⟨g, cap, cur, rfl, hg, hgg, rest⟩
  · exact .inl hn
  · exact .inr ⟨g, cap, cur, rfl, hg, (hb g rfl).trans hgg, rest⟩

section
variable {B X : Nat} {ks : List (Nat × Obj)} {s : ByteArray} {lines : Value} {pos : Int} {lv : Value} {n : Nat} {xs : List Value} {e wr : Int} {w0 w : World}

theorem Scn.lt (h : Scn B X ks s lines pos lv n xs e wr w0 w) : X < w.heap.size := (Array.getElem?_eq_some_iff.1 h.blk).1

/-- It lasts where nothing that was there is touched. -/
theorem Scn.step (h : Scn B X ks s lines pos lv n xs e wr w0 w) {w' : World} (hb : Below w.heap.size w w') : Scn B X ks s lines pos lv n xs e wr w0 w' := by
  have hB := h.hB
  refine ⟨h.hX, Nat.le_trans h.hB hb.size, (hb.block X h.lt).trans h.blk, own_step h.own fun k hk => hb.block k (h.own.lt k hk).2, fun p hp => ?_, h.below.trans (hb.mono h.hB)⟩
  obtain ⟨h1, h2, h3, h4⟩ := h.keep p hp
  exact ⟨(hb.block _ (Array.getElem?_eq_some_iff.1 h1).1).trans h1, h2, h3, h4⟩

/-- A store into the scanner's own cells. -/
theorem Scn.put (h : Scn B X ks s lines pos lv n xs e wr w0 w) (i : Nat) (u : Value) {pos' e' wr' : Int} (hu : (#[.string s, .int .i64 pos, lines, lv, .int .i64 e, .int .i64 wr] : Array Value).setIfInBounds i u = #[.string s, .int .i64 pos', lines, lv, .int .i64 e', .int .i64 wr']) :
    Scn B X ks s lines pos' lv n xs e' wr' w0 (w.setCell ⟨X, i, none⟩ u) := by
  have hne : lv.ownBlock ≠ some X := own_ne h.own h.blk (by intro cs fr hc; injection hc with _ h2 _; exact absurd h2 (by decide))
  refine ⟨h.hX, by simpa [World.setCell] using h.hB, ?_, own_step h.own fun k hk => Below.heap_setCell _ _ _ _ (fun e => hne (by rw [hk, e])), fun p hp => ?_, h.below.setCell (p := ⟨X, i, none⟩) h.hX _⟩
  · rw [Lib.heap_setCell_same h.blk, hu]
  · obtain ⟨h1, h2, h3, h4⟩ := h.keep p hp
    exact ⟨(Below.heap_setCell _ _ _ _ h2).trans h1, h2, h3, h4⟩

theorem Scn.at (h : Scn B X ks s lines pos lv n xs e wr w0 w) (q : Int) : Scn B X ks s lines q lv n xs e wr w0 (w.setCell ⟨X, 1, none⟩ (.int .i64 q)) := h.put 1 _ rfl
theorem Scn.fail (h : Scn B X ks s lines pos lv n xs e wr w0 w) (a b : Int) : Scn B X ks s lines pos lv n xs a b w0 ((w.setCell ⟨X, 5, none⟩ (.int .i64 b)).setCell ⟨X, 4, none⟩ (.int .i64 a)) := (h.put (e' := e) (wr' := b) (pos' := pos) 5 _ rfl).put 4 _ rfl

/-- A longer row of tokens. -/
theorem Scn.push (h : Scn B X ks s lines pos lv n xs e wr w0 w) {w' : World} {v' : Value} {n' : Nat} {xs' : List Value} (hg : w.grownBy w' lv.ownBlock) (hown : w'.ownsRow B 111 7 v' n' xs') :
    Scn B X ks s lines pos v' n' xs' e wr w0 (w'.setCell ⟨X, 3, none⟩ v') := by
  have hne : lv.ownBlock ≠ some X := own_ne h.own h.blk (by intro cs fr hc; injection hc with _ h2 _; exact absurd h2 (by decide))
  have hblk : w'.heap[X]? = some (.cells #[.string s, .int .i64 pos, lines, lv, .int .i64 e, .int .i64 wr] 139 (0, 0)) := (hg.block X h.lt (fun e => hne e.symm)).trans h.blk
  have hne' : v'.ownBlock ≠ some X := own_ne hown hblk (by intro cs fr hc; injection hc with _ h2 _; exact absurd h2 (by decide))
  refine ⟨h.hX, by simpa [World.setCell] using Nat.le_trans h.hB hg.size, ?_, own_step hown fun k hk => Below.heap_setCell _ _ _ _ (fun e => hne' (by rw [hk, e])), fun p hp => ?_, ?_⟩
  · rw [Lib.heap_setCell_same hblk]; rfl
  · obtain ⟨h1, h2, h3, h4⟩ := h.keep p hp
    have hnp : lv.ownBlock ≠ some p.1 := own_ne h.own h1 h4
    exact ⟨(Below.heap_setCell _ _ _ _ h2).trans ((hg.block _ (Array.getElem?_eq_some_iff.1 h1).1 (fun e => hnp e.symm)).trans h1), h2, h3, h4⟩
  · exact (h.below.grown hg h.hB (fun k hk => (h.own.lt k hk).1)).setCell (p := ⟨X, 3, none⟩) h.hX _

theorem Scn.c0 (h : Scn B X ks s lines pos lv n xs e wr w0 w) : w.cell? ⟨X, 0, none⟩ = some (.string s) := by rw [Lib.cell_of_heap h.blk]; rfl
theorem Scn.c1 (h : Scn B X ks s lines pos lv n xs e wr w0 w) : w.cell? ⟨X, 1, none⟩ = some (.int .i64 pos) := by rw [Lib.cell_of_heap h.blk]; rfl
theorem Scn.c2 (h : Scn B X ks s lines pos lv n xs e wr w0 w) : w.cell? ⟨X, 2, none⟩ = some lines := by rw [Lib.cell_of_heap h.blk]; rfl
theorem Scn.c3 (h : Scn B X ks s lines pos lv n xs e wr w0 w) : w.cell? ⟨X, 3, none⟩ = some lv := by rw [Lib.cell_of_heap h.blk]; rfl
theorem Scn.c4 (h : Scn B X ks s lines pos lv n xs e wr w0 w) : w.cell? ⟨X, 4, none⟩ = some (.int .i64 e) := by rw [Lib.cell_of_heap h.blk]; rfl
theorem Scn.c5 (h : Scn B X ks s lines pos lv n xs e wr w0 w) : w.cell? ⟨X, 5, none⟩ = some (.int .i64 wr) := by rw [Lib.cell_of_heap h.blk]; rfl
theorem Scn.fz (h : Scn B X ks s lines pos lv n xs e wr w0 w) (i : Nat) : w.frozen? ⟨X, i, none⟩ = false := Lib.frozen_of_heap h.blk i
theorem Scn.lvIs (h : Scn B X ks s lines pos lv n xs e wr w0 w) : ∃ ao c, lv = .slice ao n c := by
  rcases h.own.2 with ⟨hv, h0⟩ | ⟨g, cap, cur, hv, _⟩
  · exact ⟨none, 0, by rw [hv, h0]⟩
  · exact ⟨_, _, hv⟩
end

/-- A token. -/
structure Tok where
  kind : Int
  text : ByteArray
  value : Int
  bytes : ByteArray
  line : Int
  col : Int
  joined : Bool

def Tok.cells (t : Tok) : List Value := [.int .i64 t.kind, .string t.text, .int .i64 t.value, .string t.bytes, .int .i64 t.line, .int .i64 t.col, .bool t.joined]

def isLetter (c : Nat) : Bool := (decide (97 ≤ c) && decide (c ≤ 122)) || (decide (65 ≤ c) && decide (c ≤ 90))
def isDigit (c : Nat) : Bool := decide (48 ≤ c) && decide (c ≤ 57)
def isBlank (c : Nat) : Bool := decide (c = 32) || decide (c = 9) || decide (c = 10) || decide (c = 13)
def isInWord (c : Nat) : Bool := isLetter c || isDigit c || decide (c = 95)

end Go.Proofs.YtjnkppneilmpbaaGreatDoor

namespace Go.Proofs.YtjnkppneilmpbaaGreatDoor
open Go.RowKit

set_option maxHeartbeats 1000000 in
set_option maxRecDepth 100000 in
theorem letter_walk (c : Int) (w : World) : Calls Tryz.prog 99 #[.int .u8 c] w fun e w' => e = .returned (.bool ((decide (97 ≤ c) && decide (c ≤ 122)) || (decide (65 ≤ c) && decide (c ≤ 90)))) ∧ w' = w := by
  go_enter Tryz.func99, Tryz.ntmps99
  by_cases h1 : 97 ≤ c <;> by_cases h2 : c ≤ 122 <;> by_cases h3 : 65 ≤ c <;> by_cases h4 : c ≤ 90
  all_goals first | omega | skip
  all_goals go_wp2
  all_goals go_ret
  all_goals simp_all

set_option maxHeartbeats 1000000 in
set_option maxRecDepth 100000 in
theorem digit_walk (c : Int) (w : World) : Calls Tryz.prog 102 #[.int .u8 c] w fun e w' => e = .returned (.bool (decide (48 ≤ c) && decide (c ≤ 57))) ∧ w' = w := by
  go_enter Tryz.func102, Tryz.ntmps102
  by_cases h1 : 48 ≤ c <;> by_cases h2 : c ≤ 57
  all_goals first | omega | skip
  all_goals go_wp2
  all_goals go_ret
  all_goals simp_all

set_option maxHeartbeats 1000000 in
set_option maxRecDepth 100000 in
theorem blank_walk (c : Int) (w : World) : Calls Tryz.prog 107 #[.int .u8 c] w fun e w' => e = .returned (.bool (decide (c = 32) || decide (c = 9) || decide (c = 10) || decide (c = 13))) ∧ w' = w := by
  go_enter Tryz.func107, Tryz.ntmps107
  by_cases h1 : c = 32 <;> by_cases h2 : c = 9 <;> by_cases h3 : c = 10 <;> by_cases h4 : c = 13
  all_goals first | omega | skip
  all_goals (try subst h1); (try subst h2); (try subst h3); (try subst h4)
  all_goals go_wp2
  all_goals go_ret
  all_goals simp_all

theorem letter_is (c : Nat) (w : World) {b : Bool} (h : isLetter c = b) : Calls Tryz.prog 99 #[.int .u8 c] w fun e w' => e = .returned (.bool b) ∧ w' = w := by
  refine (letter_walk c w).mono ?_
  rintro e w' ⟨rfl, rfl⟩
  refine ⟨?_, rfl⟩
  rw [← h]; unfold isLetter
  congr 2
  congr 1 <;> congr 1 <;> exact decide_eq_decide.2 (by omega)

theorem digit_is (c : Nat) (w : World) {b : Bool} (h : isDigit c = b) : Calls Tryz.prog 102 #[.int .u8 c] w fun e w' => e = .returned (.bool b) ∧ w' = w := by
  refine (digit_walk c w).mono ?_
  rintro e w' ⟨rfl, rfl⟩
  refine ⟨?_, rfl⟩
  rw [← h]; unfold isDigit
  congr 2
  congr 1 <;> exact decide_eq_decide.2 (by omega)

theorem blank_is (c : Nat) (w : World) {b : Bool} (h : isBlank c = b) : Calls Tryz.prog 107 #[.int .u8 c] w fun e w' => e = .returned (.bool b) ∧ w' = w := by
  refine (blank_walk c w).mono ?_
  rintro e w' ⟨rfl, rfl⟩
  refine ⟨?_, rfl⟩
  rw [← h]; unfold isBlank
  congr 2
  congr 1
  · congr 1
    · congr 1 <;> exact decide_eq_decide.2 (by omega)
    · exact decide_eq_decide.2 (by omega)
  · exact decide_eq_decide.2 (by omega)

set_option maxHeartbeats 1000000 in
set_option maxRecDepth 100000 in
theorem inWord_l (c : Nat) (w : World) (hl : isLetter c = true) : Calls Tryz.prog 101 #[.int .u8 c] w fun e w' => e = .returned (.bool true) ∧ w' = w := by
  go_enter Tryz.func101, Tryz.ntmps101
  go_wp2_with (go_at_call 99; refine (letter_is _ _ hl).mono ?_; rintro e w2 ⟨rfl, rfl⟩)
  go_ret
  exact ⟨rfl, rfl⟩

set_option maxHeartbeats 1000000 in
set_option maxRecDepth 100000 in
theorem inWord_d (c : Nat) (w : World) (hl : isLetter c = false) (hd : isDigit c = true) : Calls Tryz.prog 101 #[.int .u8 c] w fun e w' => e = .returned (.bool true) ∧ w' = w := by
  go_enter Tryz.func101, Tryz.ntmps101
  go_wp2_with (first
    | (go_at_call 99; refine (letter_is _ _ hl).mono ?_; rintro e w2 ⟨rfl, rfl⟩)
    | (go_at_call 102; refine (digit_is _ _ hd).mono ?_; rintro e w2 ⟨rfl, rfl⟩))
  go_ret
  exact ⟨rfl, rfl⟩

set_option maxHeartbeats 1000000 in
set_option maxRecDepth 100000 in
theorem inWord_u (c : Nat) (w : World) (hl : isLetter c = false) (hd : isDigit c = false) : Calls Tryz.prog 101 #[.int .u8 c] w fun e w' => e = .returned (.bool (decide ((c : Int) = 95))) ∧ w' = w := by
  go_enter Tryz.func101, Tryz.ntmps101
  go_wp2_with (first
    | (go_at_call 99; refine (letter_is _ _ hl).mono ?_; rintro e w2 ⟨rfl, rfl⟩)
    | (go_at_call 102; refine (digit_is _ _ hd).mono ?_; rintro e w2 ⟨rfl, rfl⟩))
  all_goals go_ret
  all_goals first | exact ⟨rfl, rfl⟩ | simp_all

theorem inWord_is (c : Nat) (w : World) {b : Bool} (h : isInWord c = b) : Calls Tryz.prog 101 #[.int .u8 c] w fun e w' => e = .returned (.bool b) ∧ w' = w := by
  unfold isInWord at h
  cases hl : isLetter c
  · cases hd : isDigit c
    · have := inWord_u c w hl hd
      rw [hl, hd] at h
      have hc4 : decide (c = 95) = decide ((c : Int) = 95) := decide_eq_decide.2 (by omega)
      rw [← hc4] at this
      rw [← h]; simpa using this
    · rw [hl, hd] at h
      have := inWord_d c w hl hd
      rw [← h]; simpa using this
  · rw [hl] at h
    have := inWord_l c w hl
    rw [← h]; simpa using this

/-- A place 'b' up to which a class of bytes reaches from 'a' on. -/
structure Upto (p : Nat → Bool) (s : ByteArray) (a b : Nat) : Prop where
  ab : a ≤ b
  bs : b ≤ s.size
  ins : ∀ k (h : k < s.size), a ≤ k → k < b → p s[k].toNat = true
  out : ∀ h : b < s.size, p s[b].toNat = false

set_option maxHeartbeats 2000000 in
set_option maxRecDepth 100000 in
theorem run_digit (X : Nat) (s : ByteArray) (a b : Nat) (w : World) (c0 : w.cell? ⟨X, 0, none⟩ = some (.string s)) (hsz : s.size ≤ 1048576) (hu : Upto isDigit s a b) :
    Calls Tryz.prog 100 #[.pointer (some ⟨X, 0, none⟩), .int .i64 a, .func (.func 102) #[] #[]] w fun e w' => e = .returned (.int .i64 b) ∧ w' = w := by
  obtain ⟨hab, hbs, hin, hout⟩ := hu
  go_enter Tryz.func100, Tryz.ntmps100
  go_wp2
  go_loop [1] (fun v => ∃ k : Nat, a ≤ k ∧ k ≤ b ∧ v = .int .i64 k) (fun v => b - (intOf v).toNat)
  case atStart => exact ⟨a, Nat.le_refl _, hab, rfl⟩
  case round =>
    obtain ⟨k, hk1, hk2, rfl⟩ := hrel
    by_cases hlt : k < s.size
    · by_cases hkb : k < b
      · have hd := hin k hlt hk1 hkb
        go_wp2_with (go_at_call 102; refine (digit_is _ _ hd).mono ?_; rintro e w2 ⟨rfl, rfl⟩)
        go_round
        case rel => exact ⟨k + 1, by omega, hkb, by go_num⟩
        case measure => simp [intOf]; omega
      · obtain rfl : k = b := by omega
        have hd := hout hlt
        go_wp2_with (go_at_call 102; refine (digit_is _ _ hd).mono ?_; rintro e w2 ⟨rfl, rfl⟩)
        go_ret
        exact ⟨rfl, rfl⟩
    · obtain rfl : k = b := by omega
      go_wp2
      go_ret
      exact ⟨rfl, rfl⟩

set_option maxHeartbeats 2000000 in
set_option maxRecDepth 100000 in
theorem run_inWord (X : Nat) (s : ByteArray) (a b : Nat) (w : World) (c0 : w.cell? ⟨X, 0, none⟩ = some (.string s)) (hsz : s.size ≤ 1048576) (hu : Upto isInWord s a b) :
    Calls Tryz.prog 100 #[.pointer (some ⟨X, 0, none⟩), .int .i64 a, .func (.func 101) #[] #[]] w fun e w' => e = .returned (.int .i64 b) ∧ w' = w := by
  obtain ⟨hab, hbs, hin, hout⟩ := hu
  go_enter Tryz.func100, Tryz.ntmps100
  go_wp2
  go_loop [1] (fun v => ∃ k : Nat, a ≤ k ∧ k ≤ b ∧ v = .int .i64 k) (fun v => b - (intOf v).toNat)
  case atStart => exact ⟨a, Nat.le_refl _, hab, rfl⟩
  case round =>
    obtain ⟨k, hk1, hk2, rfl⟩ := hrel
    by_cases hlt : k < s.size
    · by_cases hkb : k < b
      · have hd := hin k hlt hk1 hkb
        go_wp2_with (go_at_call 101; refine (inWord_is _ _ hd).mono ?_; rintro e w2 ⟨rfl, rfl⟩)
        go_round
        case rel => exact ⟨k + 1, by omega, hkb, by go_num⟩
        case measure => simp [intOf]; omega
      · obtain rfl : k = b := by omega
        have hd := hout hlt
        go_wp2_with (go_at_call 101; refine (inWord_is _ _ hd).mono ?_; rintro e w2 ⟨rfl, rfl⟩)
        go_ret
        exact ⟨rfl, rfl⟩
    · obtain rfl : k = b := by omega
      go_wp2
      go_ret
      exact ⟨rfl, rfl⟩

section
variable {B X : Nat} {ks : List (Nat × Obj)} {s : ByteArray} {lines : Value} {pos : Int} {lv : Value} {n : Nat} {xs : List Value} {wr : Int} {w0 w : World}
set_option maxHeartbeats 2000000 in
set_option maxRecDepth 100000 in
theorem fail_walk (h : Scn B X ks s lines pos lv n xs 0 wr w0 w) (a e : Int) :
    Calls Tryz.prog 69 #[.pointer (some ⟨X, 0, none⟩), .int .i64 a, .int .i64 e] w fun r w' => r = .returned (.tuple #[]) ∧ Scn B X ks s lines pos lv n xs e a w0 w' := by
  have c4 := h.c4
  have f4 := h.fz 4
  have f5 := h.fz 5
  have c5 := h.c5
  have hfin := h.fail e a
  clear h
  go_enter Tryz.func69, Tryz.ntmps69
  go_wp2
  go_end0
  exact ⟨rfl, hfin⟩
end
end Go.Proofs.YtjnkppneilmpbaaGreatDoor
