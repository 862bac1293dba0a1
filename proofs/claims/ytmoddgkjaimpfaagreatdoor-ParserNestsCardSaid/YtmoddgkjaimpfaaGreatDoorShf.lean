/-
  A part of the proof that the law ParserNests (chapter 19) returns true for every depth and every list of notes: walks of the program's functions, and runs of them in the kernel by the own evaluator.
-/
import Derived.Shelf.Small.Strs
import Derived.Shelf.Strconv.Atoi
import Derived.Shelf.Strconv.AtoiErrFast
import Derived.Shelf.Strconv.AtoiFail
import Derived.Ground.Names2Prog
import Derived.Shelf.Slices.SearchI
import Derived.Test.YtmoddgkjaimpfaaGreatDoorProg
namespace Go.Proofs
open Go.Shelf
def Tryz.lays137_ren : Go.Shelf.Ren := ⟨fun | 137 => 81 | 217 => 116 | 266 => 146 | n => n, fun | 9 => 9 | 5 => 5 | 3 => 3 | n => n, fun | n => n⟩
theorem Tryz.lays137 : Go.Proofs.Lays.n137 Tryz.prog Tryz.lays137_ren := {
  mixed := by kernel_rfl
  f137 := Tryz.func81.trans (congrArg some (by kernel_rfl))
  f217 := Tryz.func116.trans (congrArg some (by kernel_rfl))
  f266 := Tryz.func146.trans (congrArg some (by kernel_rfl))
  t3 := Tryz.underlying3
  a3 := Tryz.isAgg3
  z3 := Tryz.sizeOf3
  v3 := Tryz.zeroValue3
  t5 := Tryz.underlying5
  a5 := Tryz.isAgg5
  z5 := Tryz.sizeOf5
  v5 := Tryz.zeroValue5
  t9 := Tryz.underlying9
  a9 := Tryz.isAgg9
  z9 := Tryz.sizeOf9
  v9 := Tryz.zeroValue9 }
open Go.RowKit in
/-- strings.IndexByte: "IndexByte returns the index of the first instance of c in s, or -1 if c is not present in s.": IT RETURNS 'Lib.indexByte s c'; the world is as it was. (LAID: no walk: one application.) -/
theorem Tryz.strings_IndexByte (s : ByteArray) (c : Int) (w : World) :
    Calls Tryz.prog 81 #[.string s, .int .u8 c] w fun e w' => e = .returned (.int .i64 (Lib.indexByte s.data.toList c.toNat.toUInt8)) ∧ w' = w := Any.strings_IndexByte Tryz.lays137 s c w
def Tryz.lays172_ren : Go.Shelf.Ren := ⟨fun | 172 => 75 | 244 => 112 | 245 => 113 | 247 => 140 | 279 => 141 | 280 => 142 | 281 => 143 | 282 => 144 | 287 => 164 | 316 => 165 | 171 => 120 | 205 => 166 | 321 => 178 | 322 => 179 | 243 => 148 | 246 => 168 | 283 => 180 | 284 => 181 | 285 => 182 | 286 => 183 | 129 => 139 | 317 => 189 | 318 => 190 | 319 => 191 | 320 => 192 | 337 => 199 | 338 => 200 | n => n, fun | 9 => 9 | 3 => 3 | 75 => 164 | 76 => 165 | 4 => 4 | 5 => 5 | 167 => 230 | 37 => 22 | 0 => 0 | 85 => 231 | 2 => 2 | 168 => 233 | 53 => 229 | 175 => 256 | 46 => 174 | 210 => 260 | 127 => 198 | 145 => 277 | 143 => 275 | 21 => 21 | 171 => 278 | 173 => 280 | 212 => 286 | 51 => 227 | 20 => 20 | 213 => 287 | 232 => 292 | 233 => 293 | 80 => 47 | n => n, fun | 15 => 0 | 16 => 1 | 17 => 3 | 18 => 4 | 19 => 5 | n => n⟩
theorem Tryz.lays172 : Go.Proofs.Lays.n172 Tryz.prog Tryz.lays172_ren := {
  mixed := by kernel_rfl
  f129 := Tryz.func139.trans (congrArg some (by kernel_rfl))
  f171 := Tryz.func120.trans (congrArg some (by kernel_rfl))
  f172 := Tryz.func75.trans (congrArg some (by kernel_rfl))
  f205 := Tryz.func166.trans (congrArg some (by kernel_rfl))
  f243 := Tryz.func148.trans (congrArg some (by kernel_rfl))
  f244 := Tryz.func112.trans (congrArg some (by kernel_rfl))
  f245 := Tryz.func113.trans (congrArg some (by kernel_rfl))
  f246 := Tryz.func168.trans (congrArg some (by kernel_rfl))
  f247 := Tryz.func140.trans (congrArg some (by kernel_rfl))
  f279 := Tryz.func141.trans (congrArg some (by kernel_rfl))
  f280 := Tryz.func142.trans (congrArg some (by kernel_rfl))
  f281 := Tryz.func143.trans (congrArg some (by kernel_rfl))
  f282 := Tryz.func144.trans (congrArg some (by kernel_rfl))
  f283 := Tryz.func180.trans (congrArg some (by kernel_rfl))
  f284 := Tryz.func181.trans (congrArg some (by kernel_rfl))
  f285 := Tryz.func182.trans (congrArg some (by kernel_rfl))
  f286 := Tryz.func183.trans (congrArg some (by kernel_rfl))
  f287 := Tryz.func164.trans (congrArg some (by kernel_rfl))
  f316 := Tryz.func165.trans (congrArg some (by kernel_rfl))
  f317 := Tryz.func189.trans (congrArg some (by kernel_rfl))
  f318 := Tryz.func190.trans (congrArg some (by kernel_rfl))
  f319 := Tryz.func191.trans (congrArg some (by kernel_rfl))
  f320 := Tryz.func192.trans (congrArg some (by kernel_rfl))
  f321 := Tryz.func178.trans (congrArg some (by kernel_rfl))
  f322 := Tryz.func179.trans (congrArg some (by kernel_rfl))
  f337 := Tryz.func199.trans (congrArg some (by kernel_rfl))
  f338 := Tryz.func200.trans (congrArg some (by kernel_rfl))
  t0 := Tryz.underlying0
  a0 := Tryz.isAgg0
  z0 := Tryz.sizeOf0
  v0 := Tryz.zeroValue0
  t2 := Tryz.underlying2
  a2 := Tryz.isAgg2
  z2 := Tryz.sizeOf2
  v2 := Tryz.zeroValue2
  t3 := Tryz.underlying3
  a3 := Tryz.isAgg3
  z3 := Tryz.sizeOf3
  v3 := Tryz.zeroValue3
  t4 := Tryz.underlying4
  a4 := Tryz.isAgg4
  z4 := Tryz.sizeOf4
  v4 := Tryz.zeroValue4
  t5 := Tryz.underlying5
  a5 := Tryz.isAgg5
  z5 := Tryz.sizeOf5
  v5 := Tryz.zeroValue5
  t9 := Tryz.underlying9
  a9 := Tryz.isAgg9
  z9 := Tryz.sizeOf9
  v9 := Tryz.zeroValue9
  t20 := Tryz.underlying20
  a20 := Tryz.isAgg20
  z20 := Tryz.sizeOf20
  v20 := Tryz.zeroValue20
  t21 := Tryz.underlying21
  a21 := Tryz.isAgg21
  z21 := Tryz.sizeOf21
  v21 := Tryz.zeroValue21
  t37 := Tryz.underlying22
  a37 := Tryz.isAgg22
  z37 := Tryz.sizeOf22
  v37 := Tryz.zeroValue22
  t46 := Tryz.underlying174
  a46 := Tryz.isAgg174
  z46 := Tryz.sizeOf174
  v46 := Tryz.zeroValue174
  t51 := Tryz.underlying227
  a51 := Tryz.isAgg227
  z51 := Tryz.sizeOf227
  v51 := Tryz.zeroValue227
  t53 := Tryz.underlying229
  a53 := Tryz.isAgg229
  z53 := Tryz.sizeOf229
  v53 := Tryz.zeroValue229
  t75 := Tryz.underlying164
  a75 := Tryz.isAgg164
  z75 := Tryz.sizeOf164
  v75 := Tryz.zeroValue164
  t76 := Tryz.underlying165
  a76 := Tryz.isAgg165
  z76 := Tryz.sizeOf165
  v76 := Tryz.zeroValue165
  t85 := Tryz.underlying231
  a85 := Tryz.isAgg231
  z85 := Tryz.sizeOf231
  v85 := Tryz.zeroValue231
  t127 := Tryz.underlying198
  a127 := Tryz.isAgg198
  z127 := Tryz.sizeOf198
  v127 := Tryz.zeroValue198
  t143 := Tryz.underlying275
  a143 := Tryz.isAgg275
  z143 := Tryz.sizeOf275
  v143 := Tryz.zeroValue275
  t145 := Tryz.underlying277
  a145 := Tryz.isAgg277
  z145 := Tryz.sizeOf277
  v145 := Tryz.zeroValue277
  t167 := Tryz.underlying230
  a167 := Tryz.isAgg230
  z167 := Tryz.sizeOf230
  v167 := Tryz.zeroValue230
  t168 := Tryz.underlying233
  a168 := Tryz.isAgg233
  z168 := Tryz.sizeOf233
  v168 := Tryz.zeroValue233
  t171 := Tryz.underlying278
  a171 := Tryz.isAgg278
  z171 := Tryz.sizeOf278
  v171 := Tryz.zeroValue278
  t173 := Tryz.underlying280
  a173 := Tryz.isAgg280
  z173 := Tryz.sizeOf280
  v173 := Tryz.zeroValue280
  t175 := Tryz.underlying256
  a175 := Tryz.isAgg256
  z175 := Tryz.sizeOf256
  v175 := Tryz.zeroValue256
  t210 := Tryz.underlying260
  a210 := Tryz.isAgg260
  z210 := Tryz.sizeOf260
  v210 := Tryz.zeroValue260
  t212 := Tryz.underlying286
  a212 := Tryz.isAgg286
  z212 := Tryz.sizeOf286
  v212 := Tryz.zeroValue286
  t213 := Tryz.underlying287
  a213 := Tryz.isAgg287
  z213 := Tryz.sizeOf287
  t232 := Tryz.underlying292
  a232 := Tryz.isAgg292
  z232 := Tryz.sizeOf292
  v232 := Tryz.zeroValue292
  t233 := Tryz.underlying293
  a233 := Tryz.isAgg293
  z233 := Tryz.sizeOf293
  v233 := Tryz.zeroValue293
  g15 := by kernel_rfl
  g16 := by kernel_rfl
  g17 := by kernel_rfl
  g18 := by kernel_rfl
  g19 := by kernel_rfl }
open Go.RowKit in
/-- strconv.Atoi: "Atoi is equivalent to ParseInt(s, 10, 0), converted to type int.": AT A DECIMAL NUMERAL OF AT MOST 18 BYTES: its value, and a nil error. The world behind the call: the one new row that the library's '[]byte(s)' lays. (LAID: no walk: one application.) -/
theorem Tryz.strconv_Atoi (s : ByteArray) (n : Int) (hl : s.size ≤ 18) (h : Lib.atoi s.data.toList = some n) (w : World) :
    Calls Tryz.prog 75 #[.string s] w fun e w' => e = .returned (.tuple #[.int .i64 n, .nilIface]) ∧ ∃ t, w' = Lib.bytesWorld w 5 t := Any.strconv_Atoi Tryz.lays172 s n hl h w
def Tryz.laysNm225_ren : Go.Shelf.Ren := ⟨fun | 25 => 52 | 31 => 85 | 32 => 86 | 37 => 117 | n => n, fun | 22 => 90 | 3 => 3 | 4 => 4 | 40 => 174 | 0 => 0 | n => n, fun | n => n⟩
theorem Tryz.laysNm225 : Go.Proofs.Lays2.n25 Tryz.prog Tryz.laysNm225_ren := {
  mixed := by kernel_rfl
  f25 := Tryz.func52.trans (congrArg some (by kernel_rfl))
  f31 := Tryz.func85.trans (congrArg some (by kernel_rfl))
  f32 := Tryz.func86.trans (congrArg some (by kernel_rfl))
  f37 := Tryz.func117.trans (congrArg some (by kernel_rfl))
  t0 := Tryz.underlying0
  a0 := Tryz.isAgg0
  z0 := Tryz.sizeOf0
  v0 := Tryz.zeroValue0
  t3 := Tryz.underlying3
  a3 := Tryz.isAgg3
  z3 := Tryz.sizeOf3
  v3 := Tryz.zeroValue3
  t4 := Tryz.underlying4
  a4 := Tryz.isAgg4
  z4 := Tryz.sizeOf4
  v4 := Tryz.zeroValue4
  t22 := Tryz.underlying90
  a22 := Tryz.isAgg90
  z22 := Tryz.sizeOf90
  v22 := Tryz.zeroValue90
  t40 := Tryz.underlying174
  a40 := Tryz.isAgg174
  z40 := Tryz.sizeOf174
  v40 := Tryz.zeroValue174 }
open Go.RowKit Go.Lib in
/-- slices.BinarySearch at []int: "BinarySearch searches for target in a sorted slice and returns the earliest position where target is found, or the position where target would appear in the sort order; it also returns a bool saying whether the target is really found in the slice. The slice must be sorted in increasing order.": OF A SORTED SLICE IT RETURNS how many elements are less than the target, and whether the target is among the elements; the world is as it was but for the count of draws. 'zs': what the cells behind the slice's address hold; 'zs.take n': its elements. (Of a slice that is not sorted: no contract here.) (LAID: no walk: one application.) -/
theorem Tryz.slices_BinarySearch_int (b off n c : Nat) (zs : List Int) (x : Int) (w : World) (hz : n ≤ zs.length) (hbig : n < 4611686018427387904) (hc : ∀ j, j < zs.length → w.cell? ⟨b, off + j, none⟩ = some (.int .i64 (zs.getD j 0))) (hs : (zs.take n).Pairwise (· ≤ ·)) :
    Calls Tryz.prog 52 #[.slice (some ⟨b, off, none⟩) n c, .int .i64 x] w fun e w' => e = .returned (.tuple #[.int .i64 ((zs.take n).countP (· < x) : Nat), .bool ((zs.take n).contains x)]) ∧ ∃ q, w' = w.drewN q := Any.slices_BinarySearch_int Tryz.laysNm225 b off n c zs x w hz hbig hc hs
end Go.Proofs
