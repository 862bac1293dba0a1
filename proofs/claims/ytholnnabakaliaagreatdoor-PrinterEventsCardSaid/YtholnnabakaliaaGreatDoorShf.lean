/-
  A part of the proof that the law PrinterEvents (chapter 20) returns true for every event: walks of the program's functions, and runs of them in the kernel by the own evaluator.
-/
import Derived.Shelf.Strings.Builder1
import Derived.Shelf.Strings.Builder2
import Derived.Shelf.Strings.OnBuilder
import Derived.Shelf.Small.Strs
import Derived.Shelf.Strings.BuilderF
import Derived.Shelf.Strings.Builder2Cap
import Derived.Shelf.Strconv.Atoi
import Derived.Shelf.Strconv.Itoa0
import Derived.Shelf.Strconv.Itoa1
import Derived.Shelf.LaysM
import Derived.Shelf.Strconv.Itoa2
import Derived.Shelf.Strconv.Itoa3
import Derived.Shelf.Strconv.AtoiErrFast
import Derived.Shelf.Strconv.ParseIntEmpty
import Derived.Shelf.Strconv.AtoiFail
import Derived.Shelf.Strings.Search1
import Derived.Shelf.Strings.Prefix
import Derived.Shelf.Strings.Fields
import Derived.Shelf.Strings.SplitShaped
import Derived.Shelf.Unicode.Latin
import Derived.Shelf.Bits.Mul64
import Derived.Shelf.Unicode.Is16White
import Derived.Shelf.Unicode.IsSpaceAny
import Derived.Shelf.Unicode.Is16Any
import Derived.Shelf.Unicode.Is32Any
import Derived.Shelf.Unicode.ExclAny
import Derived.Ground.Names2Prog
import Derived.Shelf.Slices.SearchI
import Derived.Shelf.Slices.Empties
import Derived.Test.YtholnnabakaliaaGreatDoorProg
import Derived.Test.YtholnnabakaliaaGreatDoorPps
import Derived.Test.YtholnnabakaliaaGreatDoorEvn
import Derived.Test.YtholnnabakaliaaGreatDoorEvx
import Derived.Test.YtholnnabakaliaaGreatDoorFld
import Derived.Test.YtholnnabakaliaaGreatDoorLxs
import Derived.Deep.LoopGhost
import Derived.Deep.AppendLies
import Derived.Deep.RegionHeld3
namespace Go.Proofs
open Go.Shelf
def Tryz.lays169_ren : Go.Shelf.Ren := ⟨fun | 169 => 68 | n => n, fun | 70 => 111 | 9 => 9 | 0 => 0 | 72 => 113 | 37 => 106 | 127 => 148 | 3 => 3 | 5 => 5 | n => n, fun | n => n⟩
theorem Tryz.lays169 : Go.Proofs.Lays.n169 Tryz.prog Tryz.lays169_ren := {
  mixed := by kernel_rfl
  f169 := Tryz.func68.trans (congrArg some (by kernel_rfl))
  t0 := Tryz.underlying0
  a0 := Tryz.isAgg0
  z0 := Tryz.sizeOf0
  v0 := Tryz.zeroValue0
  t3 := Tryz.underlying3
  a3 := Tryz.isAgg3
  z3 := Tryz.sizeOf3
  v3 := Tryz.zeroValue3
  t9 := Tryz.underlying9
  a9 := Tryz.isAgg9
  z9 := Tryz.sizeOf9
  v9 := Tryz.zeroValue9
  t37 := Tryz.underlying106
  a37 := Tryz.isAgg106
  z37 := Tryz.sizeOf106
  v37 := Tryz.zeroValue106
  t70 := Tryz.underlying111
  a70 := Tryz.isAgg111
  z70 := Tryz.sizeOf111
  v70 := Tryz.zeroValue111
  t72 := Tryz.underlying113
  a72 := Tryz.isAgg113
  z72 := Tryz.sizeOf113
  v72 := Tryz.zeroValue113
  t127 := Tryz.underlying148
  a127 := Tryz.isAgg148
  z127 := Tryz.sizeOf148
  v127 := Tryz.zeroValue148 }
theorem Tryz.Builder_Extra_169 : Builder.Extra Tryz.prog Tryz.lays169_ren := {
  sizeBuilder := by kernel_rfl
  liesBuilder := by kernel_rfl
  t5 := Tryz.underlying5
  a5 := Tryz.isAgg5
  z5 := Tryz.sizeOf5
  v5 := Tryz.zeroValue5
  infoByte := by kernel_rfl
  cellsByte := by kernel_rfl
  sizeByte := by kernel_rfl
  neB5 := by decide }
open Go.RowKit in
/-- (*strings.Builder).String: "String returns the accumulated string.": WHATEVER THE BUILDER HOLDS. (LAID: no walk: one application.) -/
theorem Tryz.Builder_String_any (B b : Nat) (l : List UInt8) (w : World) (h : Lib.IsBuilder 113 5 B b (Lib.byteCells l) w) (hBw : B ≤ w.heap.size) :
    Calls Tryz.prog 68 #[.pointer (some ⟨b, 0, none⟩)] w fun e w' => e = .returned (.string ⟨l.toArray⟩) ∧ Below B w w' := Any.Builder_String_any Tryz.lays169 Tryz.Builder_Extra_169 B b l w h hBw
def Tryz.lays165_ren : Go.Shelf.Ren := ⟨fun | 165 => 66 | 240 => 93 | 241 => 94 | 276 => 122 | 277 => 123 | n => n, fun | 70 => 111 | 3 => 3 | 0 => 0 | 4 => 4 | 9 => 9 | 20 => 20 | 72 => 113 | 37 => 106 | 164 => 186 | 5 => 5 | n => n, fun | n => n⟩
theorem Tryz.lays165 : Go.Proofs.Lays.n165 Tryz.prog Tryz.lays165_ren := {
  mixed := by kernel_rfl
  f165 := Tryz.func66.trans (congrArg some (by kernel_rfl))
  f240 := Tryz.func93.trans (congrArg some (by kernel_rfl))
  f241 := Tryz.func94.trans (congrArg some (by kernel_rfl))
  f276 := Tryz.func122.trans (congrArg some (by kernel_rfl))
  f277 := Tryz.func123.trans (congrArg some (by kernel_rfl))
  t0 := Tryz.underlying0
  a0 := Tryz.isAgg0
  z0 := Tryz.sizeOf0
  v0 := Tryz.zeroValue0
  t3 := Tryz.underlying3
  a3 := Tryz.isAgg3
  z3 := Tryz.sizeOf3
  v3 := Tryz.zeroValue3
  t4 := Tryz.underlying4
  a4 := Tryz.isAgg4
  z4 := Tryz.sizeOf4
  v4 := Tryz.zeroValue4
  t9 := Tryz.underlying9
  a9 := Tryz.isAgg9
  z9 := Tryz.sizeOf9
  v9 := Tryz.zeroValue9
  t20 := Tryz.underlying20
  a20 := Tryz.isAgg20
  z20 := Tryz.sizeOf20
  v20 := Tryz.zeroValue20
  t37 := Tryz.underlying106
  a37 := Tryz.isAgg106
  z37 := Tryz.sizeOf106
  v37 := Tryz.zeroValue106
  t70 := Tryz.underlying111
  a70 := Tryz.isAgg111
  z70 := Tryz.sizeOf111
  v70 := Tryz.zeroValue111
  t72 := Tryz.underlying113
  a72 := Tryz.isAgg113
  z72 := Tryz.sizeOf113
  v72 := Tryz.zeroValue113
  t164 := Tryz.underlying186
  a164 := Tryz.isAgg186
  z164 := Tryz.sizeOf186
  v164 := Tryz.zeroValue186 }
theorem Tryz.Builder_Extra_165 : Builder.Extra Tryz.prog Tryz.lays165_ren := {
  sizeBuilder := by kernel_rfl
  liesBuilder := by kernel_rfl
  t5 := Tryz.underlying5
  a5 := Tryz.isAgg5
  z5 := Tryz.sizeOf5
  v5 := Tryz.zeroValue5
  infoByte := by kernel_rfl
  cellsByte := by kernel_rfl
  sizeByte := by kernel_rfl
  neB5 := by decide }
open Go.RowKit in
/-- (*strings.Builder).Grow AT A BUILDER THAT HAS NOT BEEN WRITTEN ('var b strings.Builder; b.Grow(n)'): "Grow grows b's capacity, if necessary, to guarantee space for another n bytes.": it holds no byte behind it as before it. (LAID: no walk: one application.) -/
theorem Tryz.Builder_Grow_fresh (B b n : Nat) (w : World) (hB : B ≤ b) (hbk : w.heap[b]? = some (.cells #[.pointer none, .slice none 0 0] 113 (0, 0))) (hBw : B ≤ w.heap.size) (hn : n ≤ 281474976710656) :
    Calls Tryz.prog 66 #[.pointer (some ⟨b, 0, none⟩), .int .i64 n] w fun e w' => e = .returned (.tuple #[]) ∧ (Lib.BuilderAt 113 5 B b (.pointer (some ⟨b, 0, none⟩)) [] w' ∧ Below B w w') := Any.Builder_Grow_fresh Tryz.lays165 Tryz.Builder_Extra_165 B b n w hB hbk hBw hn
def Tryz.lays156_ren : Go.Shelf.Ren := ⟨fun | 156 => 36 | 165 => 66 | 166 => 67 | 169 => 68 | 240 => 93 | 241 => 94 | 276 => 122 | 277 => 123 | n => n, fun | 31 => 65 | 9 => 9 | 3 => 3 | 4 => 4 | 0 => 0 | 20 => 20 | 72 => 113 | 76 => 117 | 70 => 111 | 37 => 106 | 75 => 116 | 127 => 148 | 164 => 186 | 5 => 5 | 80 => 119 | n => n, fun | n => n⟩
theorem Tryz.lays156 : Go.Proofs.Lays.n156 Tryz.prog Tryz.lays156_ren := {
  mixed := by kernel_rfl
  f156 := Tryz.func36.trans (congrArg some (by kernel_rfl))
  f165 := Tryz.func66.trans (congrArg some (by kernel_rfl))
  f166 := Tryz.func67.trans (congrArg some (by kernel_rfl))
  f169 := Tryz.func68.trans (congrArg some (by kernel_rfl))
  f240 := Tryz.func93.trans (congrArg some (by kernel_rfl))
  f241 := Tryz.func94.trans (congrArg some (by kernel_rfl))
  f276 := Tryz.func122.trans (congrArg some (by kernel_rfl))
  f277 := Tryz.func123.trans (congrArg some (by kernel_rfl))
  t0 := Tryz.underlying0
  a0 := Tryz.isAgg0
  z0 := Tryz.sizeOf0
  v0 := Tryz.zeroValue0
  t3 := Tryz.underlying3
  a3 := Tryz.isAgg3
  z3 := Tryz.sizeOf3
  v3 := Tryz.zeroValue3
  t4 := Tryz.underlying4
  a4 := Tryz.isAgg4
  z4 := Tryz.sizeOf4
  v4 := Tryz.zeroValue4
  t9 := Tryz.underlying9
  a9 := Tryz.isAgg9
  z9 := Tryz.sizeOf9
  v9 := Tryz.zeroValue9
  t20 := Tryz.underlying20
  a20 := Tryz.isAgg20
  z20 := Tryz.sizeOf20
  v20 := Tryz.zeroValue20
  t31 := Tryz.underlying65
  a31 := Tryz.isAgg65
  z31 := Tryz.sizeOf65
  v31 := Tryz.zeroValue65
  t37 := Tryz.underlying106
  a37 := Tryz.isAgg106
  z37 := Tryz.sizeOf106
  v37 := Tryz.zeroValue106
  t70 := Tryz.underlying111
  a70 := Tryz.isAgg111
  z70 := Tryz.sizeOf111
  v70 := Tryz.zeroValue111
  t72 := Tryz.underlying113
  a72 := Tryz.isAgg113
  z72 := Tryz.sizeOf113
  v72 := Tryz.zeroValue113
  t75 := Tryz.underlying116
  a75 := Tryz.isAgg116
  z75 := Tryz.sizeOf116
  v75 := Tryz.zeroValue116
  t76 := Tryz.underlying117
  a76 := Tryz.isAgg117
  z76 := Tryz.sizeOf117
  v76 := Tryz.zeroValue117
  t127 := Tryz.underlying148
  a127 := Tryz.isAgg148
  z127 := Tryz.sizeOf148
  v127 := Tryz.zeroValue148
  t164 := Tryz.underlying186
  a164 := Tryz.isAgg186
  z164 := Tryz.sizeOf186
  v164 := Tryz.zeroValue186 }
theorem Tryz.Builder_Extra_156 : Builder.Extra Tryz.prog Tryz.lays156_ren := {
  sizeBuilder := by kernel_rfl
  liesBuilder := by kernel_rfl
  t5 := Tryz.underlying5
  a5 := Tryz.isAgg5
  z5 := Tryz.sizeOf5
  v5 := Tryz.zeroValue5
  infoByte := by kernel_rfl
  cellsByte := by kernel_rfl
  sizeByte := by kernel_rfl
  neB5 := by decide }
open Go.RowKit in
/-- strings.Join: "Join concatenates the elements of its first argument to create a single string. The separator string sep is placed between elements in the resulting string.": HOWEVER MANY ELEMENTS. Below the heap's end the world is as it was. (LAID: no walk: one application.) -/
theorem Tryz.strings_Join (bk o c : Nat) (xs : List ByteArray) (sep : ByteArray) (w : World) (hcells : ∀ (j : Nat) x, xs[j]? = some x → w.cell? ⟨bk, o + j, none⟩ = some (.string x)) (hbk : bk < w.heap.size) (hN : xs.length ≤ 140737488355328) (hcap : xs.length ≤ c) (hlen : (Lib.join (xs.map (·.data.toList)) sep.data.toList).length ≤ 140737488355328) :
    Calls Tryz.prog 36 #[.slice (some ⟨bk, o, none⟩) xs.length c, .string sep] w fun e w' => e = .returned (.string ⟨(Lib.join (xs.map (·.data.toList)) sep.data.toList).toArray⟩) ∧ Below w.heap.size w w' := Any.strings_Join Tryz.lays156 Tryz.Builder_Extra_156 bk o c xs sep w hcells hbk hN hcap hlen
def Tryz.lays137_ren : Go.Shelf.Ren := ⟨fun | 137 => 88 | 217 => 116 | 266 => 141 | n => n, fun | 9 => 9 | 5 => 5 | 3 => 3 | n => n, fun | n => n⟩
theorem Tryz.lays137 : Go.Proofs.Lays.n137 Tryz.prog Tryz.lays137_ren := {
  mixed := by kernel_rfl
  f137 := Tryz.func88.trans (congrArg some (by kernel_rfl))
  f217 := Tryz.func116.trans (congrArg some (by kernel_rfl))
  f266 := Tryz.func141.trans (congrArg some (by kernel_rfl))
  t3 := Tryz.underlying3
  a3 := Tryz.isAgg3
  z3 := Tryz.sizeOf3
  v3 := Tryz.zeroValue3
  t5 := Tryz.underlying5
  a5 := Tryz.isAgg5
  z5 := Tryz.sizeOf5
  v5 := Tryz.zeroValue5
  t9 := Tryz.underlying9
  a9 := Tryz.isAgg9
  z9 := Tryz.sizeOf9
  v9 := Tryz.zeroValue9 }
open Go.RowKit in
/-- strings.IndexByte: "IndexByte returns the index of the first instance of c in s, or -1 if c is not present in s.": IT RETURNS 'Lib.indexByte s c'; the world is as it was. (LAID: no walk: one application.) -/
theorem Tryz.strings_IndexByte (s : ByteArray) (c : Int) (w : World) :
    Calls Tryz.prog 88 #[.string s, .int .u8 c] w fun e w' => e = .returned (.int .i64 (Lib.indexByte s.data.toList c.toNat.toUInt8)) ∧ w' = w := Any.strings_IndexByte Tryz.lays137 s c w
def Tryz.lays172_ren : Go.Shelf.Ren := ⟨fun | 172 => 128 | 244 => 149 | 245 => 150 | 247 => 157 | 279 => 158 | 280 => 159 | 281 => 160 | 282 => 161 | 287 => 162 | 316 => 163 | 171 => 31 | 205 => 164 | 321 => 165 | 322 => 166 | 243 => 64 | 246 => 90 | 283 => 117 | 284 => 118 | 285 => 119 | 286 => 120 | 129 => 143 | 317 => 142 | 318 => 144 | 319 => 145 | 320 => 146 | 337 => 155 | 338 => 156 | n => n, fun | 9 => 9 | 3 => 3 | 75 => 116 | 76 => 117 | 4 => 4 | 5 => 5 | 167 => 223 | 37 => 106 | 0 => 0 | 85 => 224 | 2 => 2 | 168 => 226 | 53 => 175 | 175 => 231 | 46 => 170 | 210 => 234 | 127 => 148 | 145 => 239 | 143 => 237 | 21 => 21 | 171 => 174 | 173 => 178 | 212 => 203 | 51 => 183 | 20 => 20 | 213 => 204 | 232 => 229 | 233 => 230 | 80 => 119 | n => n, fun | 15 => 6 | 16 => 7 | 17 => 2 | 18 => 4 | 19 => 5 | n => n⟩
theorem Tryz.lays172 : Go.Proofs.Lays.n172 Tryz.prog Tryz.lays172_ren := {
  mixed := by kernel_rfl
  f129 := Tryz.func143.trans (congrArg some (by kernel_rfl))
  f171 := Tryz.func31.trans (congrArg some (by kernel_rfl))
  f172 := Tryz.func128.trans (congrArg some (by kernel_rfl))
  f205 := Tryz.func164.trans (congrArg some (by kernel_rfl))
  f243 := Tryz.func64.trans (congrArg some (by kernel_rfl))
  f244 := Tryz.func149.trans (congrArg some (by kernel_rfl))
  f245 := Tryz.func150.trans (congrArg some (by kernel_rfl))
  f246 := Tryz.func90.trans (congrArg some (by kernel_rfl))
  f247 := Tryz.func157.trans (congrArg some (by kernel_rfl))
  f279 := Tryz.func158.trans (congrArg some (by kernel_rfl))
  f280 := Tryz.func159.trans (congrArg some (by kernel_rfl))
  f281 := Tryz.func160.trans (congrArg some (by kernel_rfl))
  f282 := Tryz.func161.trans (congrArg some (by kernel_rfl))
  f283 := Tryz.func117.trans (congrArg some (by kernel_rfl))
  f284 := Tryz.func118.trans (congrArg some (by kernel_rfl))
  f285 := Tryz.func119.trans (congrArg some (by kernel_rfl))
  f286 := Tryz.func120.trans (congrArg some (by kernel_rfl))
  f287 := Tryz.func162.trans (congrArg some (by kernel_rfl))
  f316 := Tryz.func163.trans (congrArg some (by kernel_rfl))
  f317 := Tryz.func142.trans (congrArg some (by kernel_rfl))
  f318 := Tryz.func144.trans (congrArg some (by kernel_rfl))
  f319 := Tryz.func145.trans (congrArg some (by kernel_rfl))
  f320 := Tryz.func146.trans (congrArg some (by kernel_rfl))
  f321 := Tryz.func165.trans (congrArg some (by kernel_rfl))
  f322 := Tryz.func166.trans (congrArg some (by kernel_rfl))
  f337 := Tryz.func155.trans (congrArg some (by kernel_rfl))
  f338 := Tryz.func156.trans (congrArg some (by kernel_rfl))
  t0 := Tryz.underlying0
  a0 := Tryz.isAgg0
  z0 := Tryz.sizeOf0
  v0 := Tryz.zeroValue0
  t2 := Tryz.underlying2
  a2 := Tryz.isAgg2
  z2 := Tryz.sizeOf2
  v2 := Tryz.zeroValue2
  t3 := Tryz.underlying3
  a3 := Tryz.isAgg3
  z3 := Tryz.sizeOf3
  v3 := Tryz.zeroValue3
  t4 := Tryz.underlying4
  a4 := Tryz.isAgg4
  z4 := Tryz.sizeOf4
  v4 := Tryz.zeroValue4
  t5 := Tryz.underlying5
  a5 := Tryz.isAgg5
  z5 := Tryz.sizeOf5
  v5 := Tryz.zeroValue5
  t9 := Tryz.underlying9
  a9 := Tryz.isAgg9
  z9 := Tryz.sizeOf9
  v9 := Tryz.zeroValue9
  t20 := Tryz.underlying20
  a20 := Tryz.isAgg20
  z20 := Tryz.sizeOf20
  v20 := Tryz.zeroValue20
  t21 := Tryz.underlying21
  a21 := Tryz.isAgg21
  z21 := Tryz.sizeOf21
  v21 := Tryz.zeroValue21
  t37 := Tryz.underlying106
  a37 := Tryz.isAgg106
  z37 := Tryz.sizeOf106
  v37 := Tryz.zeroValue106
  t46 := Tryz.underlying170
  a46 := Tryz.isAgg170
  z46 := Tryz.sizeOf170
  v46 := Tryz.zeroValue170
  t51 := Tryz.underlying183
  a51 := Tryz.isAgg183
  z51 := Tryz.sizeOf183
  v51 := Tryz.zeroValue183
  t53 := Tryz.underlying175
  a53 := Tryz.isAgg175
  z53 := Tryz.sizeOf175
  v53 := Tryz.zeroValue175
  t75 := Tryz.underlying116
  a75 := Tryz.isAgg116
  z75 := Tryz.sizeOf116
  v75 := Tryz.zeroValue116
  t76 := Tryz.underlying117
  a76 := Tryz.isAgg117
  z76 := Tryz.sizeOf117
  v76 := Tryz.zeroValue117
  t85 := Tryz.underlying224
  a85 := Tryz.isAgg224
  z85 := Tryz.sizeOf224
  v85 := Tryz.zeroValue224
  t127 := Tryz.underlying148
  a127 := Tryz.isAgg148
  z127 := Tryz.sizeOf148
  v127 := Tryz.zeroValue148
  t143 := Tryz.underlying237
  a143 := Tryz.isAgg237
  z143 := Tryz.sizeOf237
  v143 := Tryz.zeroValue237
  t145 := Tryz.underlying239
  a145 := Tryz.isAgg239
  z145 := Tryz.sizeOf239
  v145 := Tryz.zeroValue239
  t167 := Tryz.underlying223
  a167 := Tryz.isAgg223
  z167 := Tryz.sizeOf223
  v167 := Tryz.zeroValue223
  t168 := Tryz.underlying226
  a168 := Tryz.isAgg226
  z168 := Tryz.sizeOf226
  v168 := Tryz.zeroValue226
  t171 := Tryz.underlying174
  a171 := Tryz.isAgg174
  z171 := Tryz.sizeOf174
  v171 := Tryz.zeroValue174
  t173 := Tryz.underlying178
  a173 := Tryz.isAgg178
  z173 := Tryz.sizeOf178
  v173 := Tryz.zeroValue178
  t175 := Tryz.underlying231
  a175 := Tryz.isAgg231
  z175 := Tryz.sizeOf231
  v175 := Tryz.zeroValue231
  t210 := Tryz.underlying234
  a210 := Tryz.isAgg234
  z210 := Tryz.sizeOf234
  v210 := Tryz.zeroValue234
  t212 := Tryz.underlying203
  a212 := Tryz.isAgg203
  z212 := Tryz.sizeOf203
  v212 := Tryz.zeroValue203
  t213 := Tryz.underlying204
  a213 := Tryz.isAgg204
  z213 := Tryz.sizeOf204
  t232 := Tryz.underlying229
  a232 := Tryz.isAgg229
  z232 := Tryz.sizeOf229
  v232 := Tryz.zeroValue229
  t233 := Tryz.underlying230
  a233 := Tryz.isAgg230
  z233 := Tryz.sizeOf230
  v233 := Tryz.zeroValue230
  g15 := by kernel_rfl
  g16 := by kernel_rfl
  g17 := by kernel_rfl
  g18 := by kernel_rfl
  g19 := by kernel_rfl }
open Go.RowKit in
/-- strconv.Atoi: "Atoi is equivalent to ParseInt(s, 10, 0), converted to type int.": AT A DECIMAL NUMERAL OF AT MOST 18 BYTES: its value, and a nil error. The world behind the call: the one new row that the library's '[]byte(s)' lays. (LAID: no walk: one application.) -/
theorem Tryz.strconv_Atoi (s : ByteArray) (n : Int) (hl : s.size ≤ 18) (h : Lib.atoi s.data.toList = some n) (w : World) :
    Calls Tryz.prog 128 #[.string s] w fun e w' => e = .returned (.tuple #[.int .i64 n, .nilIface]) ∧ ∃ t, w' = Lib.bytesWorld w 5 t := Any.strconv_Atoi Tryz.lays172 s n hl h w
def Tryz.laysNm225_ren : Go.Shelf.Ren := ⟨fun | 25 => 104 | 31 => 133 | 32 => 134 | 37 => 152 | n => n, fun | 22 => 121 | 3 => 3 | 4 => 4 | 40 => 170 | 0 => 0 | n => n, fun | n => n⟩
theorem Tryz.laysNm225 : Go.Proofs.Lays2.n25 Tryz.prog Tryz.laysNm225_ren := {
  mixed := by kernel_rfl
  f25 := Tryz.func104.trans (congrArg some (by kernel_rfl))
  f31 := Tryz.func133.trans (congrArg some (by kernel_rfl))
  f32 := Tryz.func134.trans (congrArg some (by kernel_rfl))
  f37 := Tryz.func152.trans (congrArg some (by kernel_rfl))
  t0 := Tryz.underlying0
  a0 := Tryz.isAgg0
  z0 := Tryz.sizeOf0
  v0 := Tryz.zeroValue0
  t3 := Tryz.underlying3
  a3 := Tryz.isAgg3
  z3 := Tryz.sizeOf3
  v3 := Tryz.zeroValue3
  t4 := Tryz.underlying4
  a4 := Tryz.isAgg4
  z4 := Tryz.sizeOf4
  v4 := Tryz.zeroValue4
  t22 := Tryz.underlying121
  a22 := Tryz.isAgg121
  z22 := Tryz.sizeOf121
  v22 := Tryz.zeroValue121
  t40 := Tryz.underlying170
  a40 := Tryz.isAgg170
  z40 := Tryz.sizeOf170
  v40 := Tryz.zeroValue170 }
open Go.RowKit Go.Lib in
/-- slices.BinarySearch at []int: "BinarySearch searches for target in a sorted slice and returns the earliest position where target is found, or the position where target would appear in the sort order; it also returns a bool saying whether the target is really found in the slice. The slice must be sorted in increasing order.": OF A SORTED SLICE IT RETURNS how many elements are less than the target, and whether the target is among the elements; the world is as it was but for the count of draws. 'zs': what the cells behind the slice's address hold; 'zs.take n': its elements. (Of a slice that is not sorted: no contract here.) (LAID: no walk: one application.) -/
theorem Tryz.slices_BinarySearch_int (b off n c : Nat) (zs : List Int) (x : Int) (w : World) (hz : n ≤ zs.length) (hbig : n < 4611686018427387904) (hc : ∀ j, j < zs.length → w.cell? ⟨b, off + j, none⟩ = some (.int .i64 (zs.getD j 0))) (hs : (zs.take n).Pairwise (· ≤ ·)) :
    Calls Tryz.prog 104 #[.slice (some ⟨b, off, none⟩) n c, .int .i64 x] w fun e w' => e = .returned (.tuple #[.int .i64 ((zs.take n).countP (· < x) : Nat), .bool ((zs.take n).contains x)]) ∧ ∃ q, w' = w.drewN q := Any.slices_BinarySearch_int Tryz.laysNm225 b off n c zs x w hz hbig hc hs
end Go.Proofs

namespace Go.Proofs.YtholnnabakaliaaGreatDoor
open Go.RowKit

theorem toList_ne' {a b : ByteArray} (h : ¬ a = b) : ¬ a.toList = b.toList := by
  intro e
  rw [Go.ByteArray.toList_eq, Go.ByteArray.toList_eq] at e
  exact h (ByteArray.ext (Array.ext' e))

set_option maxHeartbeats 4000000 in
set_option maxRecDepth 100000 in
theorem hasPrefix_yes (s p : ByteArray) (h1 : p.size ≤ s.size) (h2 : s.extract 0 p.size = p) (w : World) : Calls Tryz.prog 140 #[.string s, .string p] w fun e w' => e = .returned (.bool true) ∧ w' = w := by
  have h1' : (p.size : Int) ≤ (s.size : Int) := by omega
  go_enter Tryz.func140, Tryz.ntmps140
  go_wp2
  go_ret
  exact ⟨by simp, rfl⟩
set_option maxHeartbeats 4000000 in
set_option maxRecDepth 100000 in
theorem hasPrefix_short (s p : ByteArray) (h1 : s.size < p.size) (w : World) : Calls Tryz.prog 140 #[.string s, .string p] w fun e w' => e = .returned (.bool false) ∧ w' = w := by
  have h1' : ¬ (p.size : Int) ≤ (s.size : Int) := by omega
  go_enter Tryz.func140, Tryz.ntmps140
  go_wp2
  go_ret
  exact ⟨by simp, rfl⟩
set_option maxHeartbeats 4000000 in
set_option maxRecDepth 100000 in
theorem hasPrefix_other (s p : ByteArray) (h1 : p.size ≤ s.size) (h2 : ¬ s.extract 0 p.size = p) (w : World) : Calls Tryz.prog 140 #[.string s, .string p] w fun e w' => e = .returned (.bool false) ∧ w' = w := by
  have h1' : (p.size : Int) ≤ (s.size : Int) := by omega
  have h2' := toList_ne' h2
  go_enter Tryz.func140, Tryz.ntmps140
  go_wp2
  go_ret
  exact ⟨by simp [h2'], rfl⟩

set_option maxHeartbeats 4000000 in
set_option maxRecDepth 100000 in
theorem cut153_yes (s p d : ByteArray) (h1 : p.size ≤ s.size) (h2 : s.extract 0 p.size = p) (h3 : s.extract p.size s.size = d) (w : World) :
    Calls Tryz.prog 153 #[.string s, .string p] w fun e w' => e = .returned (.tuple #[.string d, .bool true]) ∧ w' = w := by
  have hp := hasPrefix_yes s p h1 h2
  have h1' : (p.size : Int) ≤ (s.size : Int) := by omega
  clear h2
  go_enter Tryz.func153, Tryz.ntmps153
  go_wp2_with (go_at_call 140; refine (hp _).mono ?_; rintro e w' ⟨rfl, rfl⟩)
  go_ret2
  exact ⟨rfl, rfl⟩
set_option maxHeartbeats 4000000 in
set_option maxRecDepth 100000 in
theorem cut153_no (s p : ByteArray) (hp : ∀ w, Calls Tryz.prog 140 #[.string s, .string p] w fun e w' => e = .returned (.bool false) ∧ w' = w) (w : World) :
    Calls Tryz.prog 153 #[.string s, .string p] w fun e w' => e = .returned (.tuple #[.string s, .bool false]) ∧ w' = w := by
  go_enter Tryz.func153, Tryz.ntmps153
  go_wp2_with (go_at_call 140; refine (hp _).mono ?_; rintro e w' ⟨rfl, rfl⟩)
  go_ret2
  exact ⟨rfl, rfl⟩
set_option maxHeartbeats 4000000 in
set_option maxRecDepth 100000 in
theorem cut135_of {s p d : ByteArray} {bv : Bool} (hp : ∀ w, Calls Tryz.prog 153 #[.string s, .string p] w fun e w' => e = .returned (.tuple #[.string d, .bool bv]) ∧ w' = w) (w : World) :
    Calls Tryz.prog 135 #[.string s, .string p] w fun e w' => e = .returned (.tuple #[.string d, .bool bv]) ∧ Below w.heap.size w w' := by
  go_enter Tryz.func135, Tryz.ntmps135
  go_wp2_with (go_at_call 153; refine (hp _).mono ?_; rintro e w' ⟨rfl, rfl⟩)
  go_ret2
  exact ⟨rfl, Below.refl _ _⟩

theorem mkB_size (l : List UInt8) : (mkB l).size = l.length := by
  show l.toArray.size = l.length
  simp
theorem mkB_extract (u v : List UInt8) : (mkB (u ++ v)).extract 0 u.length = mkB u ∧ (mkB (u ++ v)).extract u.length (mkB (u ++ v)).size = mkB v := by
  constructor
  · apply ByteArray.ext
    apply Array.ext'
    rw [ByteArray.data_extract, Array.toList_extract]
    simp [mkB, List.extract_eq_take_drop]
  · apply ByteArray.ext
    apply Array.ext'
    rw [mkB_size, ByteArray.data_extract, Array.toList_extract]
    simp [mkB, List.extract_eq_take_drop]

theorem cut_yes (q d : List UInt8) (w : World) : Calls Tryz.prog 135 #[.string (mkB (q ++ d)), .string (mkB q)] w fun e w' => e = .returned (.tuple #[.string (mkB d), .bool true]) ∧ Below w.heap.size w w' := by
  obtain ⟨h1, h2⟩ := mkB_extract q d
  refine cut135_of (cut153_yes _ _ _ ?_ ?_ ?_) w
  · rw [mkB_size, mkB_size, List.length_append]; omega
  · rw [mkB_size]; exact h1
  · rw [mkB_size q]; exact h2
theorem cut_no (l q : List UInt8) (h : ¬ q <+: l) (w : World) : Calls Tryz.prog 135 #[.string (mkB l), .string (mkB q)] w fun e w' => e = .returned (.tuple #[.string (mkB l), .bool false]) ∧ Below w.heap.size w w' := by
  refine cut135_of (cut153_no _ _ fun w => ?_) w
  by_cases hl : q.length ≤ l.length
  · refine hasPrefix_other _ _ (by rw [mkB_size, mkB_size]; exact hl) (fun e => h ?_) w
    rw [mkB_size] at e
    have e2 := congrArg (fun b => b.data.toList) e
    simp only [ByteArray.data_extract, Array.toList_extract, mkB, List.extract_eq_take_drop] at e2
    simp at e2
    exact ⟨l.drop q.length, by rw [← e2, List.length_take, Nat.min_eq_left hl]; exact List.take_append_drop _ _⟩
  · exact hasPrefix_short _ _ (by rw [mkB_size, mkB_size]; omega) w

theorem octs_mem {o : Int} (h1 : -1 ≤ o) (h9 : o ≤ 9) : o ∈ octs := by
  have hc : o = -1 ∨ o = 0 ∨ o = 1 ∨ o = 2 ∨ o = 3 ∨ o = 4 ∨ o = 5 ∨ o = 6 ∨ o = 7 ∨ o = 8 ∨ o = 9 := by omega
  rcases hc with rfl | rfl | rfl | rfl | rfl | rfl | rfl | rfl | rfl | rfl | rfl <;> decide
theorem octL_head {o : Int} (h1 : -1 ≤ o) (h9 : o ≤ 9) : ∃ x t, octL o = x :: t ∧ x ≠ 98 ∧ x ≠ 35 := by
  have hc : o = -1 ∨ o = 0 ∨ o = 1 ∨ o = 2 ∨ o = 3 ∨ o = 4 ∨ o = 5 ∨ o = 6 ∨ o = 7 ∨ o = 8 ∨ o = 9 := by omega
  rcases hc with rfl | rfl | rfl | rfl | rfl | rfl | rfl | rfl | rfl | rfl | rfl <;> exact ⟨_, _, rfl, by decide, by decide⟩
theorem atoi_ok {o : Int} (h1 : -1 ≤ o) (h9 : o ≤ 9) (w : World) : Calls Tryz.prog 128 #[.string (mkB (octL o))] w fun e w' => e = .returned (.tuple #[.int .i64 o, .nilIface]) ∧ Below w.heap.size w w' :=
  runsV_says (args := [.string (mkB (octL o))]) rfl rfl (List.all_eq_true.1 atois o (octs_mem h1 h9)) w
theorem itoa_ok {o : Int} (h1 : -1 ≤ o) (h9 : o ≤ 9) {b : Nat} (w : World) (T : Tabs b w) : Calls Tryz.prog 31 #[.int .i64 o] w fun e w' => e = .returned (.string (mkB (octL o))) ∧ Below w.heap.size w w' := by
  have h := List.all_eq_true.1 itoao o (octs_mem h1 h9)
  unfold rowsFor at h
  by_cases ho : o = -1
  · rw [if_pos ho] at h
    exact runsN_says (args := [.int .i64 o]) rfl rfl h T
  · rw [if_neg ho] at h
    exact runs0_says (args := [.int .i64 o]) rfl rfl h T
/-- Atoi fails. -/
def BadAt (b : Nat) (s : ByteArray) : Prop := ∀ w, Tabs b w → Calls Tryz.prog 128 #[.string s] w fun e w' => (∃ (n : Int) (bd : Value), e = .returned (.tuple #[.int .i64 n, bd]) ∧ ∃ t v, bd = .iface t v) ∧ Below w.heap.size w w'
theorem bad_of {b : Nat} {s : ByteArray} (h : runsR [] 128 [.string s] errV = true) : BadAt b s := fun w T =>
  (runsR_gen (args := [.string s]) rfl rfl rfl h T.t6 (fun n o hn => by cases hn)).mono fun e w' ⟨⟨E', he⟩, hb⟩ => ⟨⟨0, .iface 226 (Dam.ren E' (.pointer (some ⟨206, 0, none⟩))), by rw [he]; simp [errV, Dam.ren], _, _, rfl⟩, hb⟩
theorem atoi_bad {o : Int} (h1 : -1 ≤ o) (h9 : o ≤ 9) (b : Nat) : BadAt b (mkB (98 :: octL o)) ∧ BadAt b (mkB (35 :: octL o)) ∧ BadAt b (mkB (35 :: 35 :: octL o)) := by
  have h := List.all_eq_true.1 bads o (octs_mem h1 h9)
  simp only [Bool.and_eq_true] at h
  exact ⟨bad_of h.1, bad_of h.2.1, bad_of h.2.2⟩
theorem notYet_no {l : List UInt8} {b k : Nat} (h : ¬ sgnL k <+: l) (hb : BadAt b (mkB l)) : NotYet (mkB l) b k :=
  ⟨mkB l, false, cut_no l _ h, fun w T => (hb w T).mono fun _ _ ⟨⟨n, bd, he, _⟩, hbel⟩ => ⟨⟨n, bd, he, .inl rfl⟩, hbel⟩⟩
theorem notYet_yes {q d : List UInt8} {b k : Nat} (hq : sgnL k = q) (hb : BadAt b (mkB d)) : NotYet (mkB (q ++ d)) b k := by
  subst hq
  exact ⟨mkB d, true, cut_yes _ d, fun w T => (hb w T).mono fun _ _ ⟨⟨n, bd, he, hi⟩, hbel⟩ => ⟨⟨n, bd, he, .inr hi⟩, hbel⟩⟩
theorem notYet_num {o : Int} (h1 : -1 ≤ o) (h9 : o ≤ 9) {b k : Nat} (h : ¬ sgnL k <+: octL o) : NotYet (mkB (octL o)) b k :=
  ⟨mkB (octL o), false, cut_no _ _ h, fun w _ => (atoi_ok h1 h9 w).mono fun _ _ ⟨he, hbel⟩ => ⟨⟨o, .nilIface, he, .inl rfl⟩, hbel⟩⟩

theorem no_prefix1 {x y : UInt8} {q t : List UInt8} (h : x ≠ y) : ¬ (y :: q) <+: (x :: t) := by
  rintro ⟨d, hd⟩
  simp at hd
  exact h hd.1.symm

theorem letter_at {st : Int} (h0 : 0 ≤ st) (h6 : st ≤ 6) : Lib.indexByte [67, 68, 69, 70, 71, 65, 66] (letterOf st) = st := by
  have hc : st = 0 ∨ st = 1 ∨ st = 2 ∨ st = 3 ∨ st = 4 ∨ st = 5 ∨ st = 6 := by omega
  rcases hc with rfl | rfl | rfl | rfl | rfl | rfl | rfl <;> decide

theorem pitch_parse {p : PitchV} (h : pitchE p = 0) {b : Nat} (w : World) (T : Tabs b w) :
    Calls Tryz.prog 109 #[.string (mkB (pitchL p))] w fun e w' => e = .returned (.tuple #[.agg #[.int .i64 p.st, .int .i64 p.al, .int .i64 p.oc], .int .i64 0, .int .i64 0]) ∧ Below w.heap.size w w' := by
  obtain ⟨st, al, oc⟩ := p
  rcases pitchE_cases ⟨st, al, oc⟩ with h' | ⟨_, ho, _, _⟩
  · rw [h] at h'; cases h'
  simp only [pitchOut] at ho
  have o1 : -1 ≤ oc := by omega
  have o9 : oc ≤ 9 := by omega
  obtain ⟨x, t, hx, n98, n35⟩ := octL_head o1 o9
  obtain ⟨bb, bs, bss⟩ := atoi_bad o1 o9 b
  have hsz : 0 < (mkB (pitchL ⟨st, al, oc⟩)).size := by rw [mkB_size]; simp [pitchL]
  have hrest : (mkB (pitchL ⟨st, al, oc⟩)).extract 1 (mkB (pitchL ⟨st, al, oc⟩)).size = mkB (signL al ++ octL oc) := (mkB_extract [letterOf st] (signL al ++ octL oc)).2
  have hidx : ∀ w, Calls Tryz.prog 88 #[.string ⟨#[67, 68, 69, 70, 71, 65, 66]⟩, .int .u8 (((mkB (pitchL ⟨st, al, oc⟩))[0]'hsz).toNat : Nat)] w fun e w' => e = .returned (.int .i64 st) ∧ w' = w := fun w => by
    have := Tryz.strings_IndexByte ⟨#[67, 68, 69, 70, 71, 65, 66]⟩ (((mkB (pitchL ⟨st, al, oc⟩))[0]'hsz).toNat : Nat) w
    have e0 : (mkB (pitchL ⟨st, al, oc⟩))[0]'hsz = letterOf st := rfl
    rw [e0] at this ⊢
    have e1 : ((letterOf st).toNat : Int).toNat.toUInt8 = letterOf st := by simp
    rw [e1, letter_at (by omega) (by omega)] at this
    exact this
  have key : ∀ r : Nat, r < 5 → (r : Int) - 2 = al → signL al = sgnL r → (∀ k, k < r → NotYet (mkB (signL al ++ octL oc)) b k) → _ := fun r h5 hr hs hf =>
    parse_walk (mkB (pitchL ⟨st, al, oc⟩)) (mkB (signL al ++ octL oc)) (mkB (octL oc)) st al oc r b hr h5 (by omega) hsz hrest hidx hf (by rw [hs]; exact cut_yes _ _) (atoi_ok o1 o9) (fun w T => itoa_ok o1 o9 w T) o1 o9 (by omega) h w T
  have hc : al = -2 ∨ al = -1 ∨ al = 0 ∨ al = 1 ∨ al = 2 := by omega
  rcases hc with rfl | rfl | rfl | rfl | rfl
  · exact key 0 (by omega) rfl rfl (fun k hk => by omega)
  · refine key 1 (by omega) rfl rfl (fun k hk => ?_)
    obtain rfl : k = 0 := by omega
    refine notYet_no (l := 98 :: octL oc) ?_ bb
    rw [hx]
    rintro ⟨d, hd⟩
    simp [sgnL] at hd
    exact n98 hd.1.symm
  · refine key 2 (by omega) rfl rfl (fun k hk => ?_)
    have hk2 : k = 0 ∨ k = 1 := by omega
    rcases hk2 with rfl | rfl
    · exact notYet_num o1 o9 (by rw [hx]; exact no_prefix1 n98)
    · exact notYet_num o1 o9 (by rw [hx]; exact no_prefix1 n98)
  · refine key 3 (by omega) rfl rfl (fun k hk => ?_)
    have hk3 : k = 0 ∨ k = 1 ∨ k = 2 := by omega
    rcases hk3 with rfl | rfl | rfl
    · exact notYet_no (l := 35 :: octL oc) (no_prefix1 (by decide)) bs
    · exact notYet_no (l := 35 :: octL oc) (no_prefix1 (by decide)) bs
    · exact notYet_yes (q := []) (d := 35 :: octL oc) rfl bs
  · refine key 4 (by omega) rfl rfl (fun k hk => ?_)
    have hk4 : k = 0 ∨ k = 1 ∨ k = 2 ∨ k = 3 := by omega
    rcases hk4 with rfl | rfl | rfl | rfl
    · exact notYet_no (l := 35 :: 35 :: octL oc) (no_prefix1 (by decide)) bss
    · exact notYet_no (l := 35 :: 35 :: octL oc) (no_prefix1 (by decide)) bss
    · exact notYet_yes (q := []) (d := 35 :: 35 :: octL oc) rfl bss
    · exact notYet_yes (q := [35]) (d := 35 :: octL oc) rfl bs

theorem results_cell1 {P : Program} {fn : Func} {p t : Tmp} {ty : TypeId} (h : fn.results = #[.cell p ty, .tmp t]) (tmps : Array Value) (w : World) (g : Nat) (T : TypeId) (cs : Array Value) (fr : Nat × Nat) (d : TypeDesc)
    (hp : tmps.getD p undef = .pointer (some ⟨g, 0, none⟩)) (hg : w.heap[g]? = some (.cells cs T fr))
    (hu : P.underlying ty = some d) (hd : (match d with | .struct _ | .array _ _ => true | _ => false) = true) (hi : (P.info? ty).map (·.size) = some cs.size) :
    (results fn tmps).run P w = .ok (.tuple #[.agg cs, tmps.getD t undef]) w := by
  have hp' : tmps[p]?.getD undef = .pointer (some ⟨g, 0, none⟩) := by simpa using hp
  simp [results, h, hp', asAddr, run_loadVar_row w g T ty cs fr d hg hu hd hi, Result.andThen]

set_option maxHeartbeats 4000000 in
set_option maxRecDepth 100000 in
/-- The parser's reader of pitches, at a pitch's name. -/
theorem pitch_reads {p : PitchV} (h : pitchE p = 0) {b : Nat} (w : World) (T : Tabs b w) :
    Calls Tryz.prog 108 #[.string (mkB (pitchL p))] w fun e w' => e = .returned (.tuple #[.agg #[.int .i64 p.st, .int .i64 p.al, .int .i64 p.oc], .bool true]) ∧ Below w.heap.size w w' := by
  have b0 := (Below.refl w.heap.size w).alloc (Nat.le_refl _) (.cells #[.int .i64 0, .int .i64 0, .int .i64 0] 44)
  have hp := fun w' (bw : Below w.heap.size w w') => pitch_parse h w' (T.step bw)
  generalize mkB (pitchL p) = s at hp ⊢
  go_enter Tryz.func108, Tryz.ntmps108
  go_wp2_with (go_at_call 109; refine (hp _ b0).mono ?_)
  intro e w1; first | (intro he b1; subst he) | rintro ⟨rfl, b1⟩
  have hR := (b1.block w.heap.size (by simp)).trans (heap_alloc_new w _)
  have bb := b0.trans (b1.mono (by first | omega | simp))
  have r0 : w1.cell? ⟨w.heap.size, 0, none⟩ = some (.int .i64 0) := by rw [Lib.cell_of_heap hR]; rfl
  have r1 : w1.cell? ⟨w.heap.size, 1, none⟩ = some (.int .i64 0) := by rw [Lib.cell_of_heap hR]; rfl
  have r2 : w1.cell? ⟨w.heap.size, 2, none⟩ = some (.int .i64 0) := by rw [Lib.cell_of_heap hR]; rfl
  have fr0 := Lib.frozen_of_heap hR 0
  have fr1 := Lib.frozen_of_heap hR 1
  have fr2 := Lib.frozen_of_heap hR 2
  have lR := (Array.getElem?_eq_some_iff.1 hR).1
  have hne : w.heap.size ≠ w1.heap.size := by omega
  clear hp b0 b1
  have hf := Lib.heap_setCell_same (i := 2) (Lib.heap_setCell_same (i := 1) (Lib.heap_setCell_same (i := 0) hR (.int .i64 p.st)) (.int .i64 p.al)) (.int .i64 p.oc)
  have bf := ((bb.setCell (p := ⟨w.heap.size, 0, none⟩) (Nat.le_refl _) (.int .i64 p.st)).setCell (p := ⟨w.heap.size, 1, none⟩) (Nat.le_refl _) (.int .i64 p.al)).setCell (p := ⟨w.heap.size, 2, none⟩) (Nat.le_refl _) (.int .i64 p.oc)
  go_wp2
  refine bodyPost_ret (results_cell1 rfl _ _ w.heap.size 44 _ (0, 0) _ rfl ((Lib.alloc_old _ _ _ (Array.getElem?_eq_some_iff.1 hf).1).trans hf) Tryz.underlying44 rfl Tryz.sizePitch3) rfl ?_
  exact ⟨rfl, bf.alloc bf.size _⟩

/-- pitch.Name of a pitch. -/
theorem pitch_name {p : PitchV} (h : pitchE p = 0) {b : Nat} (w : World) (T : Tabs b w) :
    Calls Tryz.prog 25 #[.agg #[.int .i64 p.st, .int .i64 p.al, .int .i64 p.oc]] w fun e w' => e = .returned (.tuple #[.string (mkB (pitchL p)), .int .i64 0]) ∧ Below w.heap.size w w' := by
  obtain ⟨st, al, oc⟩ := p
  rcases pitchE_cases ⟨st, al, oc⟩ with h' | ⟨_, ho, _, _⟩
  · rw [h] at h'; cases h'
  simp only [pitchOut] at ho
  obtain ⟨i, hi, hp⟩ : ∃ i, i < 55 ∧ (⟨st, al, oc⟩ : PitchV) = pitchAt st i := by
    refine ⟨(al + 2).toNat * 11 + (oc + 1).toNat, by omega, ?_⟩
    unfold pitchAt
    have e1 : ((((al + 2).toNat * 11 + (oc + 1).toNat) / 11 : Nat) : Int) - 2 = al := by omega
    have e2 : ((((al + 2).toNat * 11 + (oc + 1).toNat) % 11 : Nat) : Int) - 1 = oc := by omega
    rw [e1, e2]
  have hr : nameRuns st i = true := by
    have hm := List.mem_range.2 hi
    have hc : st = 0 ∨ st = 1 ∨ st = 2 ∨ st = 3 ∨ st = 4 ∨ st = 5 ∨ st = 6 := by omega
    rcases hc with rfl | rfl | rfl | rfl | rfl | rfl | rfl
    · exact List.all_eq_true.1 names0 i hm
    · exact List.all_eq_true.1 names1 i hm
    · exact List.all_eq_true.1 names2 i hm
    · exact List.all_eq_true.1 names3 i hm
    · exact List.all_eq_true.1 names4 i hm
    · exact List.all_eq_true.1 names5 i hm
    · exact List.all_eq_true.1 names6 i hm
  unfold nameRuns at hr
  rw [← hp, h] at hr
  simp only [decide_true, Bool.not_true, Bool.false_or, rowsFor] at hr
  by_cases ho1 : oc = -1
  · rw [if_pos ho1] at hr
    exact runsN_says (args := [.agg (PitchV.mk st al oc).cells]) (by simp [PitchV.cells, Dam.plain, Dam.plain2, Dam.plainAll, Dam.plain1]) rfl hr T
  · rw [if_neg ho1] at hr
    exact runs0_says (args := [.agg (PitchV.mk st al oc).cells]) (by simp [PitchV.cells, Dam.plain, Dam.plain2, Dam.plainAll, Dam.plain1]) rfl hr T
end Go.Proofs.YtholnnabakaliaaGreatDoor

namespace Go.Proofs.YtholnnabakaliaaGreatDoor
open Go.RowKit

theorem vals_mem {lg dt : Int} (h : valueE lg dt = 0) : (lg, dt) ∈ vals6 ∨ (lg, dt) ∈ vals8 := by
  have h' : ¬ (lg < -1 ∨ 8 < lg ∨ dt < 0 ∨ 3 < dt) := fun e => by unfold valueE at h; rw [if_pos e] at h; cases h
  have h1 : lg = -1 ∨ lg = 0 ∨ lg = 1 ∨ lg = 2 ∨ lg = 3 ∨ lg = 4 ∨ lg = 5 ∨ lg = 6 ∨ lg = 7 ∨ lg = 8 := by omega
  have h2 : dt = 0 ∨ dt = 1 ∨ dt = 2 ∨ dt = 3 := by omega
  rcases h1 with rfl | rfl | rfl | rfl | rfl | rfl | rfl | rfl | rfl | rfl <;> rcases h2 with rfl | rfl | rfl | rfl <;> first | (left; decide) | (right; decide)

theorem value_text {lg dt : Int} (h : valueE lg dt = 0) {b : Nat} (w : World) (T : Tabs b w) :
    Calls Tryz.prog 61 #[.agg #[.int .i64 lg, .int .i64 dt]] w fun e w' => e = .returned (.tuple #[.string (mkB (valueL lg dt)), .int .i64 0]) ∧ Below w.heap.size w w' := by
  rcases vals_mem h with hm | hm
  · exact runsV_says (args := [aggV (lg, dt)]) rfl rfl (List.all_eq_true.1 text6 _ hm) w
  · exact runsNum_says (args := [aggV (lg, dt)]) rfl rfl (List.all_eq_true.1 text8n _ hm) T.t2 T.t5

theorem value_reads {lg dt : Int} (h : valueE lg dt = 0) {b : Nat} (w : World) (T : Tabs b w) :
    Calls Tryz.prog 76 #[.string (mkB (valueL lg dt))] w fun e w' => e = .returned (.tuple #[.agg #[.int .i64 lg, .int .i64 dt], .bool true]) ∧ Below w.heap.size w w' := by
  rcases vals_mem h with hm | hm
  · have hr : readRun (lg, dt) = true := by
      by_cases ha : (lg, dt) ∈ vals6.take 16
      · exact List.all_eq_true.1 read6a _ ha
      · have hs := List.take_append_drop 16 vals6
        rw [← hs] at hm
        rcases List.mem_append.1 hm with h1 | h1
        · exact absurd h1 ha
        · exact List.all_eq_true.1 read6b _ h1
    exact readRun_says hr w
  · exact readRun8_says (List.all_eq_true.1 read8 _ hm) T.t2 T.t5

theorem itoa_pow {k : Int} (h1 : 1 ≤ k) (h6 : k ≤ 6) (w : World) : Calls Tryz.prog 31 #[.int .i64 (2 ^ k.toNat)] w fun e w' => e = .returned (.string (mkB (powL k))) ∧ Below w.heap.size w w' := by
  have hm : k ∈ ([1, 2, 3, 4, 5, 6] : List Int) := by
    have hc : k = 1 ∨ k = 2 ∨ k = 3 ∨ k = 4 ∨ k = 5 ∨ k = 6 := by omega
    rcases hc with rfl | rfl | rfl | rfl | rfl | rfl <;> decide
  exact runsV_says (args := [.int .i64 (2 ^ k.toNat)]) rfl rfl (List.all_eq_true.1 itoas k hm) w
end Go.Proofs.YtholnnabakaliaaGreatDoor

namespace Go.Proofs.YtholnnabakaliaaGreatDoor
open Go.RowKit

def wordAt (l : List ByteArray) (n : Int) : ByteArray := if n = 0 then ⟨#[]⟩ else l.getD (n.toNat - 1) ⟨#[]⟩
theorem strRow_cell {G : Nat} {l : List ByteArray} {w : World} (h : w.heap[G]? = some (strRow l)) {i : Nat} (hi : i < l.length) : w.cell? ⟨G, i, none⟩ = some (.string l[i]) := by
  unfold strRow at h
  rw [Lib.cell_of_heap h]
  simp [hi]

set_option maxHeartbeats 4000000 in
set_option maxRecDepth 100000 in
theorem word_walk {s : ByteArray} {l : List ByteArray} (hr : fieldsRun s l = true) (hl : l.length ≤ 20) (n : Int) (h0 : 0 ≤ n) (hn : n ≤ l.length) {b : Nat} (w : World) (T : Tabs b w) :
    Calls Tryz.prog 35 #[.int .i64 n, .string s] w fun e w' => e = .returned (.string (wordAt l n)) ∧ Below w.heap.size w w' := by
  have hf := fun w' (bw : Below w.heap.size w w') => fieldsRun_says hr (T.step bw)
  clear hr T
  by_cases hz : n = 0
  · subst hz
    have e0 : wordAt l 0 = ⟨#[]⟩ := rfl
    rw [e0]
    go_enter Tryz.func35, Tryz.ntmps35
    go_wp2_with (go_at_call 65; refine (hf _ (Below.refl _ _)).mono ?_)
    rintro e w1 ⟨⟨G, rfl, hG⟩, b1⟩
    go_wp2
    go_ret
    exact ⟨rfl, b1⟩
  · obtain ⟨i, hi⟩ : ∃ i : Nat, n = (i : Int) + 1 := ⟨n.toNat - 1, by omega⟩
    subst hi
    have hil : i < l.length := by omega
    have e0 : wordAt l ((i : Int) + 1) = l[i] := by
      unfold wordAt
      rw [if_neg hz]
      have : ((i : Int) + 1).toNat - 1 = i := by omega
      rw [this, List.getD_eq_getElem?_getD, List.getElem?_eq_getElem hil]; rfl
    rw [e0]
    obtain ⟨x, hx⟩ : ∃ x, x = l[i] := ⟨_, rfl⟩
    rw [← hx]
    have c1 : ¬ ((i : Int) + 1) < 1 := by omega
    have c2 : ¬ (l.length : Int) < (i : Int) + 1 := by omega
    have c3 : IntKind.i64.wrap ((i : Int) + 1 - 1) = (i : Int) := by rw [show (i : Int) + 1 - 1 = i by omega]; exact IntWalk.i64_in _ (by omega)
    have c4 : (i : Int) < (l.length : Int) := by omega
    have c5 : (0 : Int) ≤ (i : Int) := by omega
    clear h0 hn hz e0
    go_enter Tryz.func35, Tryz.ntmps35
    go_wp2_with (go_at_call 65; refine (hf _ (Below.refl _ _)).mono ?_)
    intro e w1 G he hG b1
    subst he
    have q := strRow_cell hG hil
    rw [← hx] at q
    clear hf hx
    go_wp2
    go_ret
    exact ⟨rfl, b1⟩

theorem ownLower {w : World} {B B' : Nat} {e : TypeId} {size : Nat} {v : Value} {n : Nat} {xs : List Value} (h : w.ownsRow B' e size v n xs) (hB : B ≤ B') : w.ownsRow B e size v n xs := by
  refine ⟨h.1, ?_⟩
  rcases h.2 with hn | ⟨g, cap, cur, rfl, hg, rest⟩
  · exact .inl hn
  · exact .inr ⟨g, cap, cur, rfl, Nat.le_trans hB hg, rest⟩
/-- The bit i of a, as the program looks at it. -/
def bitB (a : Int) (i : Nat) : Bool := bits BinOp.and IntKind.i64 (a / 2 ^ i) 1 == 1
theorem own_is {w : World} {B : Nat} {e : TypeId} {size : Nat} {v : Value} {n : Nat} {xs : List Value} (h : w.ownsRow B e size v n xs) : ∃ ao c, v = .slice ao n c := by
  rcases h.2 with ⟨hv, h0⟩ | ⟨g, cap, cur, hv, _⟩
  · exact ⟨none, 0, by rw [hv, h0]⟩
  · exact ⟨_, _, hv⟩
/-- The words of the bits among the first k. -/
def bitsW (a : Int) (l : List ByteArray) : Nat → List ByteArray
  | 0 => []
  | k + 1 => bitsW a l k ++ (if bitB a k = true then [l.getD k ⟨#[]⟩] else [])
theorem bitsW_len (a : Int) (l : List ByteArray) : ∀ k, (bitsW a l k).length ≤ k
  | 0 => Nat.le_refl _
  | k + 1 => by
    have := bitsW_len a l k
    rw [bitsW, List.length_append]
    split <;> simp <;> omega
theorem Tryz.infoStr : (Tryz.prog.info? 9).map (fun i => (i.zero, i.size, i.bytes)) = some (some (.string ⟨#[]⟩), 1, 16) := by kernel_rfl

set_option maxHeartbeats 4000000 in
set_option maxRecDepth 100000 in
theorem bitsOf_walk {s : ByteArray} {l : List ByteArray} (hr : fieldsRun s l = true) (hl : l.length ≤ 20) (a : Int) (_h0 : 0 ≤ a) (_h31 : a ≤ 31) {b : Nat} (w : World) (T : Tabs b w) :
    Calls Tryz.prog 34 #[.int .i64 a, .string s] w fun e w' => (∃ v, e = .returned v ∧ w'.ownsRow w.heap.size 9 1 v (bitsW a l l.length).length ((bitsW a l l.length).map Value.string)) ∧ Below w.heap.size w w' := by
  have hf := fun w' (bw : Below w.heap.size w w') => fieldsRun_says hr (T.step bw)
  clear hr T
  obtain ⟨i0, hi0, hz0, hz1, hz2⟩ := info_parts Tryz.infoStr
  go_enter Tryz.func34, Tryz.ntmps34
  go_wp2_with (go_at_call 65; refine (hf _ (Below.refl _ _)).mono ?_)
  rintro e w1 ⟨⟨G, rfl, hG⟩, b1⟩
  clear hf
  have lG := (Array.getElem?_eq_some_iff.1 hG).1
  go_wp2
  go_loopg [5, 11] l.length (fun g s5 s11 wr => ∃ k : Nat, k ≤ l.length ∧ g = l.length - k ∧ s11 = .int .i64 (k : Nat) ∧ Below w1.heap.size w1 wr ∧ wr.ownsRow w1.heap.size 9 1 s5 (bitsW a l k).length ((bitsW a l k).map Value.string))
  case atStart => exact ⟨0, Nat.zero_le _, rfl, rfl, Below.refl _ _, World.ownsRow_nil _ _ _ _⟩
  case round =>
    obtain ⟨k, hk, hg, rfl, hb, hown⟩ := hrel
    by_cases hlt : k < l.length
    · have hlt' : (k : Int) < (l.length : Int) := by omega
      have hk0 : (0 : Int) ≤ (k : Int) := by omega
      have q := strRow_cell ((hb.block G lG).trans hG) hlt
      have m1 : IntKind.i64.wrap ((k : Int) + 1) = (k : Int) + 1 := IntWalk.i64_in _ (by omega)
      have hs : bitsW a l (k + 1) = bitsW a l k ++ (if bitB a k = true then [l[k]] else []) := by
        rw [bitsW, List.getD_eq_getElem?_getD, List.getElem?_eq_getElem hlt]; rfl
      generalize l[k] = x at q hs
      obtain ⟨bb, hbb⟩ : ∃ c, bitB a k = c := ⟨_, rfl⟩
      rw [hbb] at hs
      have hbb' : (bits BinOp.and IntKind.i64 (a / 2 ^ k) 1 == 1) = bb := hbb
      have hBw := hb.size
      clear hbb
      cases bb with
      | false =>
        have HS := shut (show bitsW a l (k + 1) = bitsW a l k by rw [hs]; simp)
        clear hs
        go_wp2
        go_roundg (l.length - (k + 1))
        case measure => omega
        case rel => exact ⟨k + 1, by omega, rfl, by simp, hb, by rw [HS.out]; exact hown⟩
      | true =>
        have HS := shut (show bitsW a l (k + 1) = bitsW a l k ++ [x] by rw [hs]; simp)
        clear hs
        obtain ⟨ao, cp, rfl⟩ := own_is hown
        have hle : (bitsW a l k).length ≤ 20 := Nat.le_trans (bitsW_len a l k) (by omega)
        have hge : ∀ j, (Value.slice ao (bitsW a l k).length cp).ownBlock = some j → w1.heap.size ≤ j := fun j hj => (hown.lt j hj).1
        go_wp2_with (at_builtin; refine wpList_append_lies _ rfl _ _ 65 rfl w1.heap.size 9 i0 _ 1 16 Tryz.underlying65 hi0 hz0 hz1 hz2 rfl (by omega) _ (bitsW a l k).length _ rfl (hown.alloc _) ⟨wr.heap.size, 0, none⟩ 1 1 [.string x] rfl rfl (World.news_of_block (cs := #[.string x]) (t := 9) (fr := (0, 0)) (heap_alloc_new _ _)) (by simp [Value.oneCell']) (by omega) (by unfold maxLen; omega) (by omega) (by simp; omega) (wr.heap.size + 1) (by simp) ?_; intro gg wcap w2 hown1 hgrow hat hgl)
        go_roundg (l.length - (k + 1))
        case measure => omega
        case rel =>
          refine ⟨k + 1, by omega, rfl, by simp, ?_, ?_⟩
          · exact (hb.alloc hb.size (.cells #[.string x] 9)).grown hgrow (by simp; omega) hge
          · rw [HS.out, List.length_append, List.map_append]; exact hown1
    · have hkl : k = l.length := by omega
      subst hkl
      clear hG
      go_wp2
      go_ret
      exact ⟨⟨_, rfl, ownLower hown b1.size⟩, b1.trans (hb.mono b1.size)⟩
end Go.Proofs.YtholnnabakaliaaGreatDoor
