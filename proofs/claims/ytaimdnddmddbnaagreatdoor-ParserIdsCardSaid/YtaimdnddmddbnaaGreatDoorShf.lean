/-
  A part of the proof that the law ParserIds (chapter 19) returns true for every site, number and count: walks of the program's functions, and runs of them in the kernel by the own evaluator.
-/
import Derived.Shelf.Small.Strs
import Derived.Shelf.Strconv.Atoi
import Derived.Shelf.LaysM
import Derived.Shelf.Strconv.AtoiErrFast
import Derived.Shelf.Strconv.AtoiFail
import Derived.Ground.Names2Prog
import Derived.Shelf.Slices.SearchI
import Derived.Test.YtaimdnddmddbnaaGreatDoorProg
namespace Go.Proofs
open Go.Shelf
def Tryz.lays137_ren : Go.Shelf.Ren := ⟨fun | 137 => 78 | 217 => 105 | 266 => 132 | n => n, fun | 9 => 9 | 5 => 5 | 3 => 3 | n => n, fun | n => n⟩
theorem Tryz.lays137 : Go.Proofs.Lays.n137 Tryz.prog Tryz.lays137_ren := {
  mixed := by kernel_rfl
  f137 := Tryz.func78.trans (congrArg some (by kernel_rfl))
  f217 := Tryz.func105.trans (congrArg some (by kernel_rfl))
  f266 := Tryz.func132.trans (congrArg some (by kernel_rfl))
  t3 := Tryz.underlying3
  a3 := Tryz.isAgg3
  z3 := Tryz.sizeOf3
  v3 := Tryz.zeroValue3
  t5 := Tryz.underlying5
  a5 := Tryz.isAgg5
  z5 := Tryz.sizeOf5
  v5 := Tryz.zeroValue5
  t9 := Tryz.underlying9
  a9 := Tryz.isAgg9
  z9 := Tryz.sizeOf9
  v9 := Tryz.zeroValue9 }
open Go.RowKit in
/-- strings.IndexByte: "IndexByte returns the index of the first instance of c in s, or -1 if c is not present in s.": IT RETURNS 'Lib.indexByte s c'; the world is as it was. (LAID: no walk: one application.) -/
theorem Tryz.strings_IndexByte (s : ByteArray) (c : Int) (w : World) :
    Calls Tryz.prog 78 #[.string s, .int .u8 c] w fun e w' => e = .returned (.int .i64 (Lib.indexByte s.data.toList c.toNat.toUInt8)) ∧ w' = w := Any.strings_IndexByte Tryz.lays137 s c w
def Tryz.lays172_ren : Go.Shelf.Ren := ⟨fun | 172 => 72 | 244 => 101 | 245 => 102 | 247 => 126 | 279 => 127 | 280 => 128 | 281 => 129 | 282 => 130 | 287 => 150 | 316 => 151 | 171 => 137 | 205 => 152 | 321 => 166 | 322 => 167 | 243 => 158 | 246 => 174 | 283 => 184 | 284 => 185 | 285 => 186 | 286 => 187 | 129 => 100 | 317 => 193 | 318 => 194 | 319 => 195 | 320 => 196 | 337 => 201 | 338 => 202 | n => n, fun | 9 => 9 | 3 => 3 | 75 => 147 | 76 => 148 | 4 => 4 | 5 => 5 | 167 => 208 | 37 => 44 | 0 => 0 | 85 => 209 | 2 => 2 | 168 => 211 | 53 => 178 | 175 => 233 | 46 => 143 | 210 => 237 | 127 => 180 | 145 => 256 | 143 => 254 | 21 => 21 | 171 => 272 | 173 => 274 | 212 => 286 | 51 => 176 | 20 => 20 | 213 => 287 | 232 => 293 | 233 => 294 | 80 => 49 | n => n, fun | 15 => 0 | 16 => 1 | 17 => 5 | 18 => 6 | 19 => 7 | n => n⟩
theorem Tryz.lays172 : Go.Proofs.Lays.n172 Tryz.prog Tryz.lays172_ren := {
  mixed := by kernel_rfl
  f129 := Tryz.func100.trans (congrArg some (by kernel_rfl))
  f171 := Tryz.func137.trans (congrArg some (by kernel_rfl))
  f172 := Tryz.func72.trans (congrArg some (by kernel_rfl))
  f205 := Tryz.func152.trans (congrArg some (by kernel_rfl))
  f243 := Tryz.func158.trans (congrArg some (by kernel_rfl))
  f244 := Tryz.func101.trans (congrArg some (by kernel_rfl))
  f245 := Tryz.func102.trans (congrArg some (by kernel_rfl))
  f246 := Tryz.func174.trans (congrArg some (by kernel_rfl))
  f247 := Tryz.func126.trans (congrArg some (by kernel_rfl))
  f279 := Tryz.func127.trans (congrArg some (by kernel_rfl))
  f280 := Tryz.func128.trans (congrArg some (by kernel_rfl))
  f281 := Tryz.func129.trans (congrArg some (by kernel_rfl))
  f282 := Tryz.func130.trans (congrArg some (by kernel_rfl))
  f283 := Tryz.func184.trans (congrArg some (by kernel_rfl))
  f284 := Tryz.func185.trans (congrArg some (by kernel_rfl))
  f285 := Tryz.func186.trans (congrArg some (by kernel_rfl))
  f286 := Tryz.func187.trans (congrArg some (by kernel_rfl))
  f287 := Tryz.func150.trans (congrArg some (by kernel_rfl))
  f316 := Tryz.func151.trans (congrArg some (by kernel_rfl))
  f317 := Tryz.func193.trans (congrArg some (by kernel_rfl))
  f318 := Tryz.func194.trans (congrArg some (by kernel_rfl))
  f319 := Tryz.func195.trans (congrArg some (by kernel_rfl))
  f320 := Tryz.func196.trans (congrArg some (by kernel_rfl))
  f321 := Tryz.func166.trans (congrArg some (by kernel_rfl))
  f322 := Tryz.func167.trans (congrArg some (by kernel_rfl))
  f337 := Tryz.func201.trans (congrArg some (by kernel_rfl))
  f338 := Tryz.func202.trans (congrArg some (by kernel_rfl))
  t0 := Tryz.underlying0
  a0 := Tryz.isAgg0
  z0 := Tryz.sizeOf0
  v0 := Tryz.zeroValue0
  t2 := Tryz.underlying2
  a2 := Tryz.isAgg2
  z2 := Tryz.sizeOf2
  v2 := Tryz.zeroValue2
  t3 := Tryz.underlying3
  a3 := Tryz.isAgg3
  z3 := Tryz.sizeOf3
  v3 := Tryz.zeroValue3
  t4 := Tryz.underlying4
  a4 := Tryz.isAgg4
  z4 := Tryz.sizeOf4
  v4 := Tryz.zeroValue4
  t5 := Tryz.underlying5
  a5 := Tryz.isAgg5
  z5 := Tryz.sizeOf5
  v5 := Tryz.zeroValue5
  t9 := Tryz.underlying9
  a9 := Tryz.isAgg9
  z9 := Tryz.sizeOf9
  v9 := Tryz.zeroValue9
  t20 := Tryz.underlying20
  a20 := Tryz.isAgg20
  z20 := Tryz.sizeOf20
  v20 := Tryz.zeroValue20
  t21 := Tryz.underlying21
  a21 := Tryz.isAgg21
  z21 := Tryz.sizeOf21
  v21 := Tryz.zeroValue21
  t37 := Tryz.underlying44
  a37 := Tryz.isAgg44
  z37 := Tryz.sizeOf44
  v37 := Tryz.zeroValue44
  t46 := Tryz.underlying143
  a46 := Tryz.isAgg143
  z46 := Tryz.sizeOf143
  v46 := Tryz.zeroValue143
  t51 := Tryz.underlying176
  a51 := Tryz.isAgg176
  z51 := Tryz.sizeOf176
  v51 := Tryz.zeroValue176
  t53 := Tryz.underlying178
  a53 := Tryz.isAgg178
  z53 := Tryz.sizeOf178
  v53 := Tryz.zeroValue178
  t75 := Tryz.underlying147
  a75 := Tryz.isAgg147
  z75 := Tryz.sizeOf147
  v75 := Tryz.zeroValue147
  t76 := Tryz.underlying148
  a76 := Tryz.isAgg148
  z76 := Tryz.sizeOf148
  v76 := Tryz.zeroValue148
  t85 := Tryz.underlying209
  a85 := Tryz.isAgg209
  z85 := Tryz.sizeOf209
  v85 := Tryz.zeroValue209
  t127 := Tryz.underlying180
  a127 := Tryz.isAgg180
  z127 := Tryz.sizeOf180
  v127 := Tryz.zeroValue180
  t143 := Tryz.underlying254
  a143 := Tryz.isAgg254
  z143 := Tryz.sizeOf254
  v143 := Tryz.zeroValue254
  t145 := Tryz.underlying256
  a145 := Tryz.isAgg256
  z145 := Tryz.sizeOf256
  v145 := Tryz.zeroValue256
  t167 := Tryz.underlying208
  a167 := Tryz.isAgg208
  z167 := Tryz.sizeOf208
  v167 := Tryz.zeroValue208
  t168 := Tryz.underlying211
  a168 := Tryz.isAgg211
  z168 := Tryz.sizeOf211
  v168 := Tryz.zeroValue211
  t171 := Tryz.underlying272
  a171 := Tryz.isAgg272
  z171 := Tryz.sizeOf272
  v171 := Tryz.zeroValue272
  t173 := Tryz.underlying274
  a173 := Tryz.isAgg274
  z173 := Tryz.sizeOf274
  v173 := Tryz.zeroValue274
  t175 := Tryz.underlying233
  a175 := Tryz.isAgg233
  z175 := Tryz.sizeOf233
  v175 := Tryz.zeroValue233
  t210 := Tryz.underlying237
  a210 := Tryz.isAgg237
  z210 := Tryz.sizeOf237
  v210 := Tryz.zeroValue237
  t212 := Tryz.underlying286
  a212 := Tryz.isAgg286
  z212 := Tryz.sizeOf286
  v212 := Tryz.zeroValue286
  t213 := Tryz.underlying287
  a213 := Tryz.isAgg287
  z213 := Tryz.sizeOf287
  t232 := Tryz.underlying293
  a232 := Tryz.isAgg293
  z232 := Tryz.sizeOf293
  v232 := Tryz.zeroValue293
  t233 := Tryz.underlying294
  a233 := Tryz.isAgg294
  z233 := Tryz.sizeOf294
  v233 := Tryz.zeroValue294
  g15 := by kernel_rfl
  g16 := by kernel_rfl
  g17 := by kernel_rfl
  g18 := by kernel_rfl
  g19 := by kernel_rfl }
open Go.RowKit in
/-- strconv.Atoi: "Atoi is equivalent to ParseInt(s, 10, 0), converted to type int.": AT A DECIMAL NUMERAL OF AT MOST 18 BYTES: its value, and a nil error. The world behind the call: the one new row that the library's '[]byte(s)' lays. (LAID: no walk: one application.) -/
theorem Tryz.strconv_Atoi (s : ByteArray) (n : Int) (hl : s.size ≤ 18) (h : Lib.atoi s.data.toList = some n) (w : World) :
    Calls Tryz.prog 72 #[.string s] w fun e w' => e = .returned (.tuple #[.int .i64 n, .nilIface]) ∧ ∃ t, w' = Lib.bytesWorld w 5 t := Any.strconv_Atoi Tryz.lays172 s n hl h w
def Tryz.laysNm225_ren : Go.Shelf.Ren := ⟨fun | 25 => 46 | 31 => 82 | 32 => 83 | 37 => 106 | n => n, fun | 22 => 99 | 3 => 3 | 4 => 4 | 40 => 143 | 0 => 0 | n => n, fun | n => n⟩
theorem Tryz.laysNm225 : Go.Proofs.Lays2.n25 Tryz.prog Tryz.laysNm225_ren := {
  mixed := by kernel_rfl
  f25 := Tryz.func46.trans (congrArg some (by kernel_rfl))
  f31 := Tryz.func82.trans (congrArg some (by kernel_rfl))
  f32 := Tryz.func83.trans (congrArg some (by kernel_rfl))
  f37 := Tryz.func106.trans (congrArg some (by kernel_rfl))
  t0 := Tryz.underlying0
  a0 := Tryz.isAgg0
  z0 := Tryz.sizeOf0
  v0 := Tryz.zeroValue0
  t3 := Tryz.underlying3
  a3 := Tryz.isAgg3
  z3 := Tryz.sizeOf3
  v3 := Tryz.zeroValue3
  t4 := Tryz.underlying4
  a4 := Tryz.isAgg4
  z4 := Tryz.sizeOf4
  v4 := Tryz.zeroValue4
  t22 := Tryz.underlying99
  a22 := Tryz.isAgg99
  z22 := Tryz.sizeOf99
  v22 := Tryz.zeroValue99
  t40 := Tryz.underlying143
  a40 := Tryz.isAgg143
  z40 := Tryz.sizeOf143
  v40 := Tryz.zeroValue143 }
open Go.RowKit Go.Lib in
/-- slices.BinarySearch at []int: "BinarySearch searches for target in a sorted slice and returns the earliest position where target is found, or the position where target would appear in the sort order; it also returns a bool saying whether the target is really found in the slice. The slice must be sorted in increasing order.": OF A SORTED SLICE IT RETURNS how many elements are less than the target, and whether the target is among the elements; the world is as it was but for the count of draws. 'zs': what the cells behind the slice's address hold; 'zs.take n': its elements. (Of a slice that is not sorted: no contract here.) (LAID: no walk: one application.) -/
theorem Tryz.slices_BinarySearch_int (b off n c : Nat) (zs : List Int) (x : Int) (w : World) (hz : n ≤ zs.length) (hbig : n < 4611686018427387904) (hc : ∀ j, j < zs.length → w.cell? ⟨b, off + j, none⟩ = some (.int .i64 (zs.getD j 0))) (hs : (zs.take n).Pairwise (· ≤ ·)) :
    Calls Tryz.prog 46 #[.slice (some ⟨b, off, none⟩) n c, .int .i64 x] w fun e w' => e = .returned (.tuple #[.int .i64 ((zs.take n).countP (· < x) : Nat), .bool ((zs.take n).contains x)]) ∧ ∃ q, w' = w.drewN q := Any.slices_BinarySearch_int Tryz.laysNm225 b off n c zs x w hz hbig hc hs
end Go.Proofs
